/- The second form of pages: a list of Booleans. Its contracts. -/
/- The second form of pages: Runs, Back, Alloc. -/
/- The second form of pages: Back. -/
/- The second form of pages: Alloc. -/
import Derived.Test.YtcnchgbngcnijaaGreatDoorMPc
import Derived.Test.YtcnchgbngcnijaaGreatDoorMPb
namespace Go.Proofs.YtcnchgbngcnijaaGreatDoor
open Go.RowKit

/-- The pages' second form at g: n of them, F says which are free. -/
structure RfI (w : World) (g n : Nat) (F : Nat → Bool) : Prop where
  ex : ∃ A c, Blk w g 99 #[.slice (some ⟨A, 0, none⟩) n c] ∧ Blk w A 4 ((List.range n).map fun i => Value.bool (F i)).toArray
theorem RfI.chg {w w' : World} {g n : Nat} {F : Nat → Bool} (h : RfI w g n F) (c : Chg [] w w') : RfI w' g n F := by
  obtain ⟨A, k, h1, h2⟩ := h.ex
  exact ⟨A, k, c.blk h1 (by simp), c.blk h2 (by simp)⟩
theorem bools_at {w : World} {A n i : Nat} {F : Nat → Bool} (h : Blk w A 4 ((List.range n).map fun i => Value.bool (F i)).toArray) (hi : i < n) : w.cell? ⟨A, i, none⟩ = some (.bool (F i)) := h.cellv i (by simp [hi])
theorem bools_set {w : World} {A n i : Nat} {F : Nat → Bool} (h : Blk w A 4 ((List.range n).map fun i => Value.bool (F i)).toArray) (hi : i < n) (b : Bool) :
    Blk (w.setCell ⟨A, i, none⟩ (.bool b)) A 4 ((List.range n).map fun j => Value.bool (if j = i then b else F j)).toArray := by
  refine h.setv i _ ?_
  apply Array.ext'
  simp only [Array.toList_setIfInBounds]
  apply List.ext_getElem?
  intro j
  rw [List.getElem?_set]
  by_cases hj : j < n
  · by_cases e : i = j
    · subst e; simp [hj]
    · simp [e, hj, Ne.symm e]
  · by_cases e : i = j
    · omega
    · simp [e, hj]
/-! NewPages -/
def RnF (k i : Nat) : Bool := decide (1 ≤ i ∧ i < k)
def RnPost (n : Nat) (w : World) (e : Ending) (w' : World) : Prop := ∃ g, e = .returned (.pointer (some ⟨g, 0, none⟩)) ∧ (∃ A c, Blk w' g 99 #[.slice (some ⟨A, 0, none⟩) n c] ∧ Blk w' A 4 ((List.range n).map fun i => Value.bool (RnF n i)).toArray ∧ w.heap.size ≤ A) ∧ Chg [] w w' ∧ w.heap.size ≤ g
def RnRel (w0 : World) (A g n c : Nat) (gk : Nat) (idx : Value) (w : World) : Prop :=
  ∃ i, gk + i = n + 2 ∧ 1 ≤ i ∧ i ≤ n ∧ idx = .int .i64 (i : Nat) ∧ Blk w g 99 #[.slice (some ⟨A, 0, none⟩) n c] ∧ Blk w A 4 ((List.range n).map fun j => Value.bool (RnF i j)).toArray ∧ Chg [] w0 w ∧ w0.heap.size ≤ A
theorem RnF_succ (i j : Nat) (hi : 1 ≤ i) : (if j = i then true else RnF i j) = RnF (i + 1) j := by
  unfold RnF
  by_cases e : j = i
  · rw [if_pos e]; symm; exact decide_eq_true (by omega)
  · rw [if_neg e]; congr 1; apply propext; omega
theorem rn_zero (n : Nat) : List.replicate n (Value.bool false) = (List.range n).map fun j => Value.bool (RnF 1 j) := by
  apply List.ext_getElem?
  intro i
  by_cases h : i < n
  · simp [h, RnF]; omega
  · simp [h]
set_option maxHeartbeats 1600000 in
set_option maxRecDepth 100000 in
theorem rnew_ok (w : World) (N : Nat) (h0 : 2 ≤ N) (h2 : N ≤ 200) : Calls Tryz.prog 44 #[.int .i64 N] w (RnPost N w) := by
  have hmk := fun W => run_make_z (P := Tryz.prog) 94 4 (.bool false) 1 Tryz.underlying94 (by kernel_rfl) rfl .i64 .i64 N (by omega) (by omega) W
  have h1 : 1 ≤ N := by omega
  have n8 : ¬ (N : Int) ≤ 1 := by omega
  have n9 : ¬ N ≤ 1 := by omega
  have n10 : (1 : Int) < N := by omega
  have n11 : 1 < N := by omega
  have n1 : ¬ (N : Int) < 1 := by omega
  have n2 : ¬ 262144 < (N : Int) := by omega
  have n3 : (N : Int) ≤ 262144 := by omega
  have n4 : 1 ≤ (N : Int) := by omega
  have n5 : N ≤ 262144 := by omega
  have n6 : min (N : Int) 262144 = N := by omega
  have n7 : max 1 (N : Int) = N := by omega
  go_enter Tryz.func44, Tryz.ntmps44
  go_wp2_with fail
  have B1 : Blk ((w.alloc (.cells (zcells (.bool false) N) 4)).alloc (.cells #[.slice (some ⟨w.heap.size, 0, none⟩) N N] 99)) (w.heap.size + 1) 99 #[.slice (some ⟨w.heap.size, 0, none⟩) N N] := by
    have := Blk.new (w.alloc (.cells (zcells (.bool false) N) 4)) 99 #[.slice (some ⟨w.heap.size, 0, none⟩) N N]
    rwa [World.size_alloc] at this
  have B2 : Blk ((w.alloc (.cells (zcells (.bool false) N) 4)).alloc (.cells #[.slice (some ⟨w.heap.size, 0, none⟩) N N] 99)) w.heap.size 4 ((List.range N).map fun j => Value.bool (RnF 1 j)).toArray := by
    have := (Blk.new w 4 (zcells (.bool false) N)).alloc (.cells #[.slice (some ⟨w.heap.size, 0, none⟩) N N] 99)
    have hz : ((List.range N).map fun j => Value.bool (RnF 1 j)).toArray = zcells (.bool false) N := by rw [zcells_list, rn_zero]
    rw [hz]
    exact this
  have C := ((Chg.refl [] w).alloc (.cells (zcells (.bool false) N) 4)).alloc (.cells #[.slice (some ⟨w.heap.size, 0, none⟩) N N] 99)
  have HB := Lib.hid (And.intro B1 (And.intro B2 C)); clear B1 B2 C
  obtain ⟨A, hA⟩ : ∃ A, A = w.heap.size := ⟨_, rfl⟩
  obtain ⟨g, hg⟩ : ∃ g, g = w.heap.size + 1 := ⟨_, rfl⟩
  rw [← hg, ← hA] at HB ⊢
  have hfr := Lib.hid (And.intro hA hg)
  clear hA hg hmk
  go_loopg [4] (N + 1) (fun gk idx wr => RnRel w A g N N gk idx wr)
  case atStart => exact ⟨1, by omega, by omega, by omega, rfl, HB.out.1, HB.out.2.1, HB.out.2.2, by have := hfr.out; omega⟩
  case round =>
    obtain ⟨i, hgk, h1i, hin, rfl, B1, B2, C, hAw⟩ := hrel
    have b0 := B1.cellv 0 rfl
    have hne : A ≠ g := by have := hfr.out; omega
    by_cases e : i < N
    · have hi' : (i : Int) < (N : Int) := by omega
      have i0 := bools_at B2 e
      have f0 := B2.frozen i
      have B3 := bools_set B2 e true
      have E3 : ((List.range N).map fun j => Value.bool (if j = i then true else RnF i j)) = ((List.range N).map fun j => Value.bool (RnF (i + 1) j)) := List.map_congr_left fun j _ => by rw [RnF_succ i j h1i]
      rw [E3] at B3
      have HX := Lib.hid (And.intro (B1.far (p := ⟨A, i, none⟩) hne.symm (.bool true)) (And.intro B3 (C.setCell (p := ⟨A, i, none⟩) (.inr hAw) (.bool true)))); clear B1 B2 B3 E3 C
      go_wp2_with fail
      go_roundg (N + 1 - i)
      case measure => omega
      case rel => exact ⟨i + 1, by omega, by omega, by omega, by go_num, HX.out.1, HX.out.2.1, HX.out.2.2, hAw⟩
    · have e2 : i = N := by omega
      subst e2
      have hi' : ¬ (i : Int) < (i : Int) := by omega
      have HX := Lib.hid (And.intro B1 (And.intro B2 C)); clear B1 B2 C hgk
      go_wp2_with fail
      go_ret
      exact ⟨g, rfl, ⟨A, _, HX.out.1, HX.out.2.1, by have := hfr.out; omega⟩, HX.out.2.2, by have := hfr.out; omega⟩
/-! Left -/
def RlPost (n : Nat) (F : Nat → Bool) (w : World) (e : Ending) (w' : World) : Prop := e = .returned (.int .i64 (((List.range n).filter F).length : Nat)) ∧ Chg [] w w'
def RlRel (w0 : World) (n : Nat) (F : Nat → Bool) (gk : Nat) (s idx : Value) (w : World) : Prop :=
  ∃ i, gk + i = n + 1 ∧ i ≤ n ∧ s = .int .i64 (((List.range i).filter F).length : Nat) ∧ idx = .int .i64 (i : Nat) ∧ Chg [] w0 w
set_option maxHeartbeats 1600000 in
set_option maxRecDepth 100000 in
theorem rleft_ok (w : World) (g n : Nat) (F : Nat → Bool) (I : RfI w g n F) (hn : n ≤ 262144) : Calls Tryz.prog 21 #[.pointer (some ⟨g, 0, none⟩)] w (RlPost n F w) := by
  have HI := Lib.hid I; clear I
  go_enter Tryz.func21, Tryz.ntmps21
  go_wp2_with fail
  go_loopg [3, 4] (n + 1) (fun gk s idx wr => RlRel w n F gk s idx wr)
  case atStart => exact ⟨0, by omega, by omega, by simp, rfl, Chg.refl [] _⟩
  case round =>
    obtain ⟨i, hgk, hin, rfl, rfl, C⟩ := hrel
    obtain ⟨A, c, B1, B2⟩ := (HI.out.chg C).ex
    have b0 := B1.cellv 0 rfl
    have hle : ((List.range i).filter F).length ≤ i := by have := List.length_filter_le F (List.range i); simpa using this
    by_cases e : i < n
    · have hi' : (i : Int) < (n : Int) := by omega
      have i0 := bools_at B2 e
      have hs : ((List.range (i + 1)).filter F).length = ((List.range i).filter F).length + if F i = true then 1 else 0 := by
        rw [List.range_succ, List.filter_append, List.length_append]
        cases hF : F i <;> simp [hF]
      obtain ⟨q, hq⟩ : ∃ q, q = ((List.range i).filter F).length := ⟨_, rfl⟩
      rw [← hq] at hs hle ⊢
      have HX := Lib.hid (And.intro C hs); clear C hs hq B1 B2
      cases hF : F i with
      | true =>
        have HF := Lib.hid hF
        rw [hF] at i0
        clear hF
        go_wp2_with fail
        go_roundg (n - i)
        case measure => omega
        case rel => exact ⟨i + 1, by omega, by omega, by rw [HX.out.2, if_pos HF.out]; go_num, by go_num, HX.out.1⟩
      | false =>
        have HF := Lib.hid hF
        rw [hF] at i0
        clear hF
        go_wp2_with fail
        go_roundg (n - i)
        case measure => omega
        case rel => exact ⟨i + 1, by omega, by omega, by rw [HX.out.2, if_neg (by rw [HF.out]; decide)]; rfl, by go_num, HX.out.1⟩
    · have e2 : n = i := by omega
      subst e2
      have hi' : ¬ (n : Int) < (n : Int) := by omega
      have HX := Lib.hid C; clear C hgk hin e hle B1 B2
      go_wp2_with fail
      go_ret
      exact ⟨rfl, HX.out⟩
end Go.Proofs.YtcnchgbngcnijaaGreatDoor
namespace Go.Proofs.YtcnchgbngcnijaaGreatDoor
open Go.RowKit

/-- The second form, its blocks named. -/
structure RfA (w : World) (g A c n : Nat) (F : Nat → Bool) : Prop where
  b1 : Blk w g 99 #[.slice (some ⟨A, 0, none⟩) n c]
  b2 : Blk w A 4 ((List.range n).map fun i => Value.bool (F i)).toArray
section
variable {w w' : World} {g A c n : Nat} {F : Nat → Bool}
theorem RfA.chg {S : List Nat} (h : RfA w g A c n F) (k : Chg S w w') (h1 : g ∉ S) (h2 : A ∉ S) : RfA w' g A c n F := ⟨k.blk h.b1 h1, k.blk h.b2 h2⟩
theorem RfA.chg0 (h : RfA w g A c n F) (k : Chg [] w w') : RfA w' g A c n F := h.chg k (by simp) (by simp)
theorem RfA.ne (h : RfA w g A c n F) : g ≠ A := h.b1.ne_ h.b2 (by decide)
theorem RfA.set_ (h : RfA w g A c n F) {i : Nat} (hi : i < n) (b : Bool) {F' : Nat → Bool} (e : ∀ j, (if j = i then b else F j) = F' j) : RfA (w.setCell ⟨A, i, none⟩ (.bool b)) g A c n F' :=
  ⟨h.b1.far h.ne (.bool b), by have := bools_set h.b2 hi b; rwa [show (fun j => Value.bool (if j = i then b else F j)) = fun j => Value.bool (F' j) from funext fun j => by rw [e j]] at this⟩
end
def RrPost (l : List R) (w : World) (e : Ending) (w' : World) : Prop := ∃ v, e = .returned v ∧ OwnR w' v l ∧ Chg [] w w' ∧ ∀ k ∈ fpv v, w.heap.size ≤ k
def RrRel (w0 : World) (n : Nat) (F : Nat → Bool) (gk : Nat) (v idx : Value) (w : World) : Prop :=
  ∃ i, gk + i = n + 1 ∧ i ≤ n ∧ idx = .int .i64 (i : Nat) ∧ OwnR w v (runsTo F i) ∧ Chg [] w0 w ∧ ∀ k ∈ fpv v, w0.heap.size ≤ k
theorem wr_of (j : Nat) (h : j ≤ 1000) : wrap64 ((j : Int) + 1 - 1) = (j : Int) ∧ wrap64 (j : Int) = (j : Int) := by unfold wrap64; constructor <;> omega
theorem wr_succ (j : Nat) (h : j ≤ 1000) : wrap64 ((j : Int) + 1) = ((j + 1 : Nat) : Int) := by unfold wrap64; omega
theorem wr_add (a b : Nat) (h : a + b ≤ 1000) : wrap64 ((a : Int) + (b : Int)) = ((a + b : Nat) : Int) ∧ IntKind.i64.wrap ((a : Int) + (b : Int)) = ((a + b : Nat) : Int) := by
  rw [IntKind.wrap_i64]; unfold wrap64; constructor <;> omega
theorem set_last {α : Type} (a : List α) (x y : α) : (a ++ [x]).set a.length y = a ++ [y] := by rw [List.set_append_right _ _ (Nat.le_refl _)]; simp
set_option maxHeartbeats 3200000 in
set_option maxRecDepth 100000 in
theorem rruns_ok (w : World) (g A c n : Nat) (F : Nat → Bool) (I : RfA w g A c n F) (hn : n ≤ 200) : Calls Tryz.prog 147 #[.pointer (some ⟨g, 0, none⟩)] w (RrPost (runsTo F n) w) := by
  have HI := Lib.hid I; clear I
  go_enter Tryz.func147, Tryz.ntmps147
  go_wp2_with fail
  go_loopg [3, 4] (n + 1) (fun gk v idx wr => RrRel w n F gk v idx wr)
  case atStart => exact ⟨0, by omega, by omega, rfl, OwnR.nil _, Chg.refl [] _, by simp [fpv, Value.ownBlock]⟩
  case round =>
    obtain ⟨i, hgk, hin, rfl, O, C, Fv⟩ := hrel
    have J := HI.out.chg0 C
    have b0 := J.b1.cellv 0 rfl
    have hlen := (runsTo_ok F i).ln
    by_cases e : i < n
    · have hi' : (i : Int) < (n : Int) := by omega
      have i0 := bools_at J.b2 e
      cases hF : F i with
      | false =>
        rw [hF] at i0
        have HX := Lib.hid (And.intro O (And.intro C (And.intro Fv (runsTo_no hF)))); clear O C Fv J hF
        obtain ⟨Ao, co, rfl⟩ := HX.out.1.slice
        go_wp2_with fail
        go_roundg (n - i)
        case measure => omega
        case rel => exact ⟨i + 1, by omega, by omega, by go_num, by rw [HX.out.2.2.2]; exact HX.out.1, HX.out.2.1, HX.out.2.2.1⟩
      | true =>
        rw [hF] at i0
        by_cases h2 : 1 ≤ i ∧ F (i - 1) = true
        · obtain ⟨a, r, el, hr⟩ := (runsTo_ok F i).la h2
          have hrp : r.p ≤ i := by have h5 := (runsTo_ok F i).ok.bd r (by rw [el]; simp); have h6 := (runsTo_ok F i).nx; omega
          have er := runsTo_more hF h2
          rw [el, bump_snoc] at er
          obtain ⟨j, rfl⟩ : ∃ j, i = j + 1 := ⟨i - 1, by omega⟩
          have p0 := bools_at (i := j) J.b2 (by omega)
          rw [show F j = true from by simpa using h2.2] at p0
          rw [el] at O hlen
          obtain ⟨Ao, co, rfl⟩ := O.slice
          obtain ⟨go, rfl, q0, q1, -, f1, hgo, -⟩ := O.cell (i := a.length) (r := r) (by simp)
          have hql : (a ++ [r]).length = a.length + 1 := by simp
          rw [hql] at O hlen ⊢
          have hge := Fv go (by simp [fpv, Value.ownBlock])
          have HX := Lib.hid (And.intro O (And.intro C (And.intro Fv er))); clear O C Fv J hF h2 el er hql hr
          obtain ⟨q, hq⟩ : ∃ q, q = a.length := ⟨_, rfl⟩
          rw [← hq] at q0 q1 f1 HX hlen ⊢
          have HQ := Lib.hid hq; clear hq
          have hj0 : (0 : Int) ≤ (j : Int) := by omega
          have hq0 : (0 : Int) ≤ (q : Int) := by omega
          have hjn : (j : Int) < (n : Int) := by omega
          have hqq : (q : Int) < (q : Int) + 1 := by omega
          have hj1 : (0 : Int) < (j : Int) + 1 := by omega
          have hrp2 : r.p ≤ 1000 := by omega
          have hq2 : q ≤ 1000 := by omega
          have hj2 : j ≤ 1000 := by omega
          obtain ⟨ew1, ew3⟩ := wr_of j hj2
          go_upto_region 7 with fail
          clear ew1 ew3 hrp2 hj2
          have ew2 : Value.int .i64 (wrap64 ((q : Int) + 1 - 1)) = Value.int .i64 (q : Int) := congrArg _ (wr_of q hq2).1
          have ew4 : Value.int .i64 (wrap64 (q : Int)) = Value.int .i64 (q : Int) := congrArg _ (wr_of q hq2).2
          have ew5 : Value.int .i64 (wrap64 ((r.p : Int) + 1)) = Value.int .i64 ((r.p + 1 : Nat) : Int) := congrArg _ (wr_succ r.p (by omega))
          go_wp2_with fail
          clear ew2 ew4 ew5
          go_roundg (n - (j + 1))
          case measure => omega
          case rel => exact ⟨j + 1 + 1, by omega, by omega, by go_num, by
            have h3 := OwnR.setP (i := q) (r := r) (p := r.p + 1) HX.out.1 (by rw [HQ.out]; simp)
            rw [HX.out.2.2.2]
            rw [show (a ++ [r]).set q ⟨r.f, r.p + 1⟩ = a ++ [⟨r.f, r.p + 1⟩] by rw [HQ.out]; exact set_last a r _] at h3
            exact h3, HX.out.2.1.setCell (.inr hge) _, HX.out.2.2.1⟩
        · have er := runsTo_new hF h2
          obtain ⟨Ao, co, rfl⟩ := O.slice
          have HX := Lib.hid (And.intro O (And.intro C (And.intro Fv er))); clear O C Fv er hF
          have hll : (runsTo F i).length ≤ 1000000 := by omega
          cases i with
          | zero =>
            clear h2
            go_wp2_with (at_builtin; refine wpList_push_run rfl _ _ rfl Tryz.underlying115 rfl HX.out.1 ⟨0, 1⟩ rfl hll ?_)
            intro A' c' w2 O2 S2
            have H2 := Lib.hid (And.intro O2 (And.intro (HX.out.2.1.newP S2.c HX.out.2.2.1) (fun k hk => by
              rcases S2.f k hk with h | h
              · exact HX.out.2.2.1 k h
              · exact Nat.le_trans HX.out.2.1.size h : ∀ k ∈ fpv _, w.heap.size ≤ k))); clear O2 S2
            go_wp2_with fail
            go_roundg (n - 0)
            case measure => omega
            case rel => exact ⟨0 + 1, by omega, by omega, by go_num, by rw [HX.out.2.2.2]; exact H2.out.1, H2.out.2.1, H2.out.2.2⟩
          | succ j =>
            have p0 := bools_at (i := j) J.b2 (by omega)
            rw [show F j = false from by
              cases h : F j with
              | false => rfl
              | true => exact absurd ⟨by omega, by simpa using h⟩ h2] at p0
            clear h2 J
            have ew1 : wrap64 ((j : Int) + 1 - 1) = (j : Int) := by unfold wrap64; omega
            have ew3 : wrap64 (j : Int) = (j : Int) := by unfold wrap64; omega
            have hj0 : (0 : Int) ≤ (j : Int) := by omega
            have hjn : (j : Int) < (n : Int) := by omega
            have hj1 : (0 : Int) < (j : Int) + 1 := by omega
            go_wp2_with (at_builtin; refine wpList_push_run rfl _ _ rfl Tryz.underlying115 rfl HX.out.1 ⟨j + 1, 1⟩ rfl hll ?_)
            intro A' c' w2 O2 S2
            clear ew1 ew3
            have H2 := Lib.hid (And.intro O2 (And.intro (HX.out.2.1.newP S2.c HX.out.2.2.1) (fun k hk => by
              rcases S2.f k hk with h | h
              · exact HX.out.2.2.1 k h
              · exact Nat.le_trans HX.out.2.1.size h : ∀ k ∈ fpv _, w.heap.size ≤ k))); clear O2 S2
            go_wp2_with fail
            go_roundg (n - (j + 1))
            case measure => omega
            case rel => exact ⟨j + 1 + 1, by omega, by omega, by go_num, by rw [HX.out.2.2.2]; exact H2.out.1, H2.out.2.1, H2.out.2.2⟩
    · have e2 : i = n := by omega
      subst e2
      have hi' : ¬ (i : Int) < (i : Int) := by omega
      obtain ⟨Ao, co, rfl⟩ := O.slice
      have HX := Lib.hid (And.intro O (And.intro C Fv)); clear O C Fv hgk hin e J
      go_wp2_with fail
      go_ret
      exact ⟨_, rfl, HX.out⟩
end Go.Proofs.YtcnchgbngcnijaaGreatDoor
namespace Go.Proofs.YtcnchgbngcnijaaGreatDoor
open Go.RowKit

/-! Back -/
def RbPost (g A c n : Nat) (l : List R) (first k : Int) (w : World) (e : Ending) (w' : World) : Prop := ∃ cc l' F', e = .returned (.int .i64 cc) ∧ FreeSays n l first k cc l' ∧ SayF n l' F' ∧ RfA w' g A c n F' ∧ Chg [A] w w'
def Rb1Rel (w0 : World) (K : Nat) (F : Nat → Bool) (f : Nat) (gk : Nat) (idx : Value) (w : World) : Prop := ∃ i, gk + i = K + 1 ∧ i ≤ K ∧ idx = .int .i64 (i : Nat) ∧ (∀ j, j < i → F (f + j) = false) ∧ w = w0
def Rb2Rel (w0 : World) (g A c n K : Nat) (F : Nat → Bool) (f : Nat) (gk : Nat) (idx : Value) (w : World) : Prop := ∃ i, gk + i = K + 1 ∧ i ≤ K ∧ idx = .int .i64 (i : Nat) ∧ RfA w g A c n (giveF F f i) ∧ Chg [A] w0 w
theorem giveF_zero (F : Nat → Bool) (f x : Nat) : giveF F f 0 x = F x := by unfold giveF; rw [decide_eq_false (by omega), Bool.or_false]
theorem giveF_succ (F : Nat → Bool) (f i x : Nat) : (if x = f + i then true else giveF F f i x) = giveF F f (i + 1) x := by
  unfold giveF
  by_cases e : x = f + i
  · rw [if_pos e, decide_eq_true (show f ≤ x ∧ x < f + (i + 1) by omega), Bool.or_true]
  · rw [if_neg e]; congr 1; apply decide_eq_decide.2; omega
set_option maxHeartbeats 3200000 in
set_option maxRecDepth 100000 in
theorem rback_ok (w : World) (g A c n : Nat) (F : Nat → Bool) (l : List R) (I : RfA w g A c n F) (hok : Okn n l) (hs : SayF n l F) (hn : n ≤ 400) (first k : Int) : Calls Tryz.prog 106 #[.pointer (some ⟨g, 0, none⟩), .int .i64 first, .int .i64 k] w (RbPost g A c n l first k w) := by
  have HI := Lib.hid (And.intro I (And.intro hok hs))
  have b0 := I.b1.cellv 0 rfl
  clear I hok hs
  go_enter Tryz.func106, Tryz.ntmps106
  by_cases h1 : k < 1
  · go_wp2_with fail
    go_ret
    exact ⟨1, l, F, rfl, .inl ⟨.inl h1, rfl, rfl⟩, HI.out.2.2, HI.out.1, Chg.refl _ _⟩
  have d1 : decide (k < 1) = false := decide_eq_false h1
  by_cases h2 : first < 1
  · go_wp2_with fail
    go_ret
    exact ⟨1, l, F, rfl, .inl ⟨.inr (.inl h2), rfl, rfl⟩, HI.out.2.2, HI.out.1, Chg.refl _ _⟩
  have d2 : decide (first < 1) = false := decide_eq_false h2
  obtain ⟨f, rfl⟩ : ∃ f : Nat, first = f := ⟨first.toNat, by omega⟩
  obtain ⟨K, rfl⟩ : ∃ K : Nat, k = K := ⟨k.toNat, by omega⟩
  by_cases h3 : n ≤ f
  · have h3' : (n : Int) ≤ (f : Int) := by omega
    go_wp2_with fail
    go_ret
    exact ⟨1, l, F, rfl, .inl ⟨.inr (.inr (.inl (by omega))), rfl, rfl⟩, HI.out.2.2, HI.out.1, Chg.refl _ _⟩
  have d3 : decide ((n : Int) ≤ (f : Int)) = false := decide_eq_false (by omega)
  have d3' : decide (n ≤ f) = false := decide_eq_false h3
  have ew : Value.int .i64 (wrap64 ((n : Int) - (f : Int))) = Value.int .i64 ((n : Int) - (f : Int)) := congrArg _ (by unfold wrap64; omega)
  by_cases h4 : (n : Int) - f < K
  · go_wp2_with fail
    go_ret
    exact ⟨1, l, F, rfl, .inl ⟨.inr (.inr (.inr h4)), rfl, rfl⟩, HI.out.2.2, HI.out.1, Chg.refl _ _⟩
  have d4 : decide ((n : Int) - (f : Int) < (K : Int)) = false := decide_eq_false h4
  have hf1 : 1 ≤ f := by omega
  have hK1 : 1 ≤ K := by omega
  have hfk : f + K ≤ n := by omega
  go_wp2_with fail
  clear d1 d2 d3 d3' d4 ew
  go_loopg [7] (K + 1) (fun gk idx wr => Rb1Rel w K F f gk idx wr)
  case atStart => exact ⟨0, by omega, by omega, rfl, fun j hj => by omega, rfl⟩
  case round =>
    obtain ⟨i, hgk, hin, rfl, hno, rfl⟩ := hrel
    by_cases e : i < K
    · have hi' : (i : Int) < (K : Int) := by omega
      have i0 := bools_at (i := f + i) HI.out.1.b2 (by omega)
      have ew : Value.int .i64 (wrap64 ((f : Int) + (i : Int))) = Value.int .i64 ((f + i : Nat) : Int) := congrArg _ (wr_add f i (by omega)).1
      have hb1 : (f : Int) + (i : Int) < (n : Int) := by omega
      have hb2 : (0 : Int) ≤ (f : Int) + (i : Int) := by omega
      have hb3 : ((f + i : Nat) : Int) < (n : Int) := by omega
      have ht : ((f : Int) + (i : Int)).toNat = f + i := by omega
      cases hF : F (f + i) with
      | true =>
        rw [hF] at i0
        have HX := Lib.hid hF; clear hF
        go_wp2_with fail
        go_ret
        exact ⟨5, l, F, rfl, .inr ⟨by omega, .inl ⟨(some_F HI.out.2.1 HI.out.2.2 (by simpa using hK1) (by simpa using hfk)).2 ⟨i, by simpa using e, by simpa using HX.out⟩, rfl, rfl⟩⟩, HI.out.2.2, HI.out.1, Chg.refl _ _⟩
      | false =>
        rw [hF] at i0
        have hno2 : ∀ j, j < i + 1 → F (f + j) = false := fun j hj => by
          by_cases h : j = i
          · rw [h]; exact hF
          · exact hno j (by omega)
        have HX := Lib.hid hno2; clear hF hno hno2
        go_wp2_with fail
        clear ew
        go_roundg (K - i)
        case measure => omega
        case rel => exact ⟨i + 1, by omega, by omega, by go_num, HX.out, rfl⟩
    · have e2 : i = K := by omega
      subst e2
      have hi' : ¬ (i : Int) < (i : Int) := by omega
      have HX := Lib.hid hno; clear hno hgk hin e
      go_wp2_with fail
      obtain ⟨wq, rfl⟩ : ∃ wq : World, wq = wr := ⟨_, rfl⟩
      go_loopg [8] (i + 1) (fun gk idx wr => Rb2Rel wq g A c n i F f gk idx wr)
      case atStart => exact ⟨0, by omega, by omega, rfl, by rw [show giveF F f 0 = F from funext (giveF_zero F f)]; exact HI.out.1, Chg.refl _ _⟩
      case round =>
        clear b0
        obtain ⟨j, hgk, hjn, rfl, J, C⟩ := hrel
        have b0 := J.b1.cellv 0 rfl
        by_cases e : j < i
        · have hj' : (j : Int) < (i : Int) := by omega
          have i0 := bools_at (i := f + j) J.b2 (by omega)
          have f0 := J.b2.frozen (f + j)
          have ew : Value.int .i64 (wrap64 ((f : Int) + (j : Int))) = Value.int .i64 ((f + j : Nat) : Int) := congrArg _ (wr_add f j (by omega)).1
          have hb1 : (f : Int) + (j : Int) < (n : Int) := by omega
          have hb2 : (0 : Int) ≤ (f : Int) + (j : Int) := by omega
          have hb3 : ((f + j : Nat) : Int) < (n : Int) := by omega
          have ht : ((f : Int) + (j : Int)).toNat = f + j := by omega
          have HY := Lib.hid (And.intro (J.set_ (i := f + j) (by omega) true (giveF_succ F f j)) (C.setCell (p := ⟨A, f + j, none⟩) (.inl (by simp)) (.bool true))); clear J C
          go_wp2_with fail
          clear ew
          go_roundg (i - j)
          case measure => omega
          case rel => exact ⟨j + 1, by omega, by omega, by go_num, HY.out.1, HY.out.2⟩
        · have e2 : i = j := by omega
          subst e2
          have HY := Lib.hid (And.intro J C); clear J C
          go_wp2_with fail
          go_ret
          have hns : ¬ someR l f i := fun h => by
            obtain ⟨m, h1, h2⟩ := (some_F HI.out.2.1 HI.out.2.2 hK1 hfk).1 h
            rw [HX.out m h1] at h2; cases h2
          exact ⟨0, backR l f i, giveF F f i, rfl, .inr ⟨by omega, .inr ⟨by simpa using hns, rfl, by simp⟩⟩, sayF_back HI.out.2.1 HI.out.2.2 hK1 hf1 hfk hns, HY.out.1, HY.out.2⟩
end Go.Proofs.YtcnchgbngcnijaaGreatDoor
namespace Go.Proofs.YtcnchgbngcnijaaGreatDoor
open Go.RowKit

def RaPost (g A c n : Nat) (l : List R) (k : Int) (w : World) (e : Ending) (w' : World) : Prop := ∃ a cc l' F', e = .returned (.tuple #[.int .i64 a, .int .i64 cc]) ∧ AllocSays l k a cc l' ∧ SayF n l' F' ∧ RfA w' g A c n F' ∧ Chg [A] w w'
def optI (b : Option Nat) : Int := match b with | none => -1 | some j => (j : Int)
def Ra1Rel (w0 : World) (l : List R) (K : Nat) (gk : Nat) (v7 idx : Value) (w : World) : Prop := ∃ i b, gk + i = l.length + 1 ∧ i ≤ l.length ∧ idx = .int .i64 (i : Nat) ∧ v7 = .int .i64 (optI b) ∧ BestTo l K i b ∧ Chg [] w0 w
def Ra2Rel (w0 : World) (g A c n K : Nat) (F : Nat → Bool) (f : Nat) (v6 : Value) (l : List R) (gk : Nat) (idx : Value) (w : World) : Prop := ∃ i, gk + i = K + 1 ∧ i ≤ K ∧ idx = .int .i64 (i : Nat) ∧ RfA w g A c n (takeF F f i) ∧ OwnR w v6 l ∧ Chg [A] w0 w
theorem takeF_zero (F : Nat → Bool) (f x : Nat) : takeF F f 0 x = F x := by unfold takeF; rw [decide_eq_false (by omega)]; simp
theorem takeF_succ (F : Nat → Bool) (f i x : Nat) : (if x = f + i then false else takeF F f i x) = takeF F f (i + 1) x := by
  unfold takeF
  by_cases e : x = f + i
  · rw [if_pos e, decide_eq_true (show f ≤ x ∧ x < f + (i + 1) by omega)]; simp
  · rw [if_neg e]; congr 2; apply decide_eq_decide.2; omega
set_option maxHeartbeats 6400000 in
set_option maxRecDepth 100000 in
theorem ralloc_ok (w : World) (g A c n : Nat) (F : Nat → Bool) (l : List R) (I : RfA w g A c n F) (hok : Okn n l) (hs : SayF n l F) (hn : n ≤ 200) (k : Int) : Calls Tryz.prog 100 #[.pointer (some ⟨g, 0, none⟩), .int .i64 k] w (RaPost g A c n l k w) := by
  have HI := Lib.hid (And.intro I (And.intro hok hs))
  have el := runs_eq hok hs
  have hll := (runsTo_ok F n).ln
  rw [el] at hll
  have KR := rruns_ok w g A c n F I hn
  rw [el] at KR
  clear I hok hs el
  go_enter Tryz.func100, Tryz.ntmps100
  by_cases h1 : k < 1
  · go_wp2_with fail
    go_ret2
    exact ⟨0, 1, l, F, rfl, .inl ⟨h1, rfl, rfl, rfl⟩, HI.out.2.2, HI.out.1, Chg.refl _ _⟩
  have d1 : decide (k < 1) = false := decide_eq_false h1
  obtain ⟨K, rfl⟩ : ∃ K : Nat, k = K := ⟨k.toNat, by omega⟩
  have hK1 : 1 ≤ K := by omega
  go_wp2_with fail
  clear d1
  refine KR.mono ?_
  rintro e w1 ⟨v6, rfl, O, C, Fv⟩
  obtain ⟨A6, c6, rfl⟩ := O.slice
  have HO := Lib.hid (And.intro O (And.intro C Fv)); clear O C Fv KR
  go_wp2_with fail
  go_loopg [7, 8] (l.length + 1) (fun gk v7 idx wr => Ra1Rel w1 l K gk v7 idx wr)
  case atStart => exact ⟨0, none, by omega, by omega, rfl, rfl, BestTo.start _ _, Chg.refl _ _⟩
  case round =>
    obtain ⟨i, b, hgk, hin, rfl, rfl, hB, C⟩ := hrel
    by_cases e : i < l.length
    · obtain ⟨r, hr⟩ : ∃ r, l[i]? = some r := ⟨_, List.getElem?_eq_getElem e⟩
      obtain ⟨g6, rfl, q0, q1, -, -, hg6, -⟩ := (HO.out.1.chg0 C).cell hr
      have hi' : (i : Int) < (l.length : Int) := by omega
      have hi0 : (0 : Int) ≤ (i : Int) := by omega
      have HX := Lib.hid (And.intro hB (And.intro C hr)); clear hB C hr
      by_cases hp : r.p < K
      · have hd : decide ((K : Int) ≤ (r.p : Int)) = false := decide_eq_false (by omega)
        have hd' : decide (K ≤ r.p) = false := decide_eq_false (by omega)
        have HP := Lib.hid hp; clear hp
        go_upto_region 8 with fail
        go_quiet (fail)
        go_wp2_with fail
        go_roundg (l.length - i)
        case measure => omega
        case rel => exact ⟨i + 1, b, by omega, by omega, by go_num, rfl, HX.out.1.skip HX.out.2.2 HP.out, HX.out.2.1.drewN _⟩
      · have hd : decide ((K : Int) ≤ (r.p : Int)) = true := decide_eq_true (by omega)
        have hd' : decide (K ≤ r.p) = true := decide_eq_true (by omega)
        have HP := Lib.hid hp; clear hp
        cases b with
        | none =>
          have hb : optI none = -1 := rfl
          rw [hb]
          go_upto_region 8 with fail
          go_quiet (fail)
          go_wp2_with fail
          go_roundg (l.length - i)
          case measure => omega
          case rel => exact ⟨i + 1, some i, by omega, by omega, by go_num, rfl, HX.out.1.first HX.out.2.2 (by have := HP.out; omega), HX.out.2.1.drewN _⟩
        | some j =>
          have hb : optI (some j) = (j : Int) := rfl
          rw [hb]
          obtain ⟨hji, s, hs, -, -⟩ := HX.out.1
          obtain ⟨g6', e6, p0, p1, -⟩ := (HO.out.1.chg0 HX.out.2.1).cell hs
          injection e6 with e6
          injection e6 with e6
          subst e6
          have hj0 : decide ((j : Int) < 0) = false := decide_eq_false (by omega)
          have hj1 : (0 : Int) ≤ (j : Int) := by omega
          have hj2 : (j : Int) < (l.length : Int) := by omega
          have HS := Lib.hid hs; clear hs p0
          by_cases hrs : r.p < s.p
          · have hd2 : decide ((r.p : Int) < (s.p : Int)) = true := decide_eq_true (by omega)
            have hd3 : decide (r.p < s.p) = true := decide_eq_true hrs
            have HR := Lib.hid hrs; clear hrs
            go_upto_region 8 with fail
            go_quiet (fail)
            go_wp2_with fail
            go_roundg (l.length - i)
            case measure => omega
            case rel => exact ⟨i + 1, some i, by omega, by omega, by go_num, rfl, HX.out.1.turn HX.out.2.2 HS.out (by have := HP.out; omega) HR.out, HX.out.2.1.drewN _⟩
          · have hd2 : decide ((r.p : Int) < (s.p : Int)) = false := decide_eq_false (by omega)
            have hd3 : decide (r.p < s.p) = false := decide_eq_false hrs
            have HR := Lib.hid hrs; clear hrs
            go_upto_region 8 with fail
            go_quiet (fail)
            go_wp2_with fail
            go_roundg (l.length - i)
            case measure => omega
            case rel => exact ⟨i + 1, some j, by omega, by omega, by go_num, rfl, HX.out.1.keep HX.out.2.2 HS.out (by have := HR.out; omega), HX.out.2.1.drewN _⟩
    · have e2 : i = l.length := by omega
      rw [e2] at hB
      have hi' : ¬ (i : Int) < (l.length : Int) := by omega
      have J := (HI.out.1.chg0 HO.out.2.1).chg0 C
      have O6 := HO.out.1.chg0 C
      have CC := HO.out.2.1.trans C
      cases b with
      | none =>
        have hb : optI none = -1 := rfl
        rw [hb]
        have HX := Lib.hid (And.intro hB.nobody (And.intro J CC)); clear hB J O6 CC C e2 hgk hin e
        go_wp2_with fail
        go_ret2
        exact ⟨0, 3, l, F, rfl, .inr (.inl ⟨by omega, fun r hr => by have := HX.out.1 r hr; omega, rfl, rfl, rfl⟩), HI.out.2.2, HX.out.2.1, HX.out.2.2.mono (by simp)⟩
      | some j =>
        have hb : optI (some j) = (j : Int) := rfl
        rw [hb]
        obtain ⟨r, hr, hbest⟩ := hB.best HI.out.2.1
        have hbd := HI.out.2.1.bd r hbest.1
        have hjl := (List.getElem?_eq_some_iff.1 hr).1
        have hj0 : decide ((j : Int) < 0) = false := decide_eq_false (by omega)
        have hj1 : (0 : Int) ≤ (j : Int) := by omega
        have hj2 : (j : Int) < (l.length : Int) := by omega
        have hkp := hbest.2.1
        have HX := Lib.hid (And.intro hr (And.intro hbest (And.intro J (And.intro O6 CC)))); clear hB J O6 CC C e2 hgk hin e hr hbest
        go_wp2_with fail
        obtain ⟨wq, rfl⟩ : ∃ wq : World, wq = wr := ⟨_, rfl⟩
        go_loopg [9] (K + 1) (fun gk idx wr => Ra2Rel wq g A c n K F r.f (.slice A6 l.length c6) l gk idx wr)
        case atStart => exact ⟨0, by omega, by omega, rfl, by rw [show takeF F r.f 0 = F from funext (takeF_zero F r.f)]; exact HX.out.2.2.1, HX.out.2.2.2.1, Chg.refl _ _⟩
        case round =>
          obtain ⟨i, hgk, hin, rfl, J, O, C⟩ := hrel
          obtain ⟨g6, rfl, q0, q1, -, -, hg6, -⟩ := O.cell HX.out.1
          by_cases e : i < K
          · have hi' : (i : Int) < (K : Int) := by omega
            have b0 : wr.cell? ⟨g, 0, none⟩ = some (.slice (some ⟨A, 0, none⟩) n c) := J.b1.cellv 0 rfl
            have i0 := bools_at (i := r.f + i) J.b2 (by omega)
            have f0 := J.b2.frozen (r.f + i)
            have ew : Value.int .i64 (wrap64 ((r.f : Int) + (i : Int))) = Value.int .i64 ((r.f + i : Nat) : Int) := congrArg _ (wr_add r.f i (by omega)).1
            have ew2 : Value.int .i64 (IntKind.i64.wrap ((r.f : Int) + (i : Int))) = Value.int .i64 ((r.f + i : Nat) : Int) := congrArg _ (wr_add r.f i (by omega)).2
            have hb1 : (r.f : Int) + (i : Int) < (n : Int) := by omega
            have hb2 : (0 : Int) ≤ (r.f : Int) + (i : Int) := by omega
            have hb3 : ((r.f + i : Nat) : Int) < (n : Int) := by omega
            have ht : ((r.f : Int) + (i : Int)).toNat = r.f + i := by omega
            have HY := Lib.hid (And.intro (J.set_ (i := r.f + i) (by omega) false (takeF_succ F r.f i)) (And.intro (O.chg ((Chg.refl [A] wr).setCell (p := ⟨A, r.f + i, none⟩) (.inl (by simp)) (.bool false)) (fun k hk hm => O.ne_blk J.b2 (by decide) ((show k = A by simpa using hm) ▸ hk))) (C.setCell (p := ⟨A, r.f + i, none⟩) (.inl (by simp)) (.bool false)))); clear J C O
            go_upto_region 15 with fail
            go_region
            go_wp2_with fail
            clear ew ew2
            go_roundg (K - i)
            case measure => omega
            case rel => exact ⟨i + 1, by omega, by omega, by go_num, HY.out.1.chg0 ((Chg.refl _ _).drew), HY.out.2.1.chg0 ((Chg.refl _ _).drew), HY.out.2.2.drew⟩
          · have e2 : i = K := by omega
            subst e2
            have hi' : ¬ (i : Int) < (i : Int) := by omega
            have HY := Lib.hid (And.intro J (And.intro O C)); clear J O C
            go_wp2_with fail
            go_ret2
            exact ⟨r.f, 0, cutR l r i, takeF F r.f i, rfl, .inr (.inr ⟨by omega, r, by simpa using HX.out.2.1, rfl, rfl, by simp⟩), sayF_cut HI.out.2.1 HI.out.2.2 HX.out.2.1.1 HX.out.2.1.2.1, HY.out.1, (HX.out.2.2.2.2.mono (by simp)).trans HY.out.2.2⟩
end Go.Proofs.YtcnchgbngcnijaaGreatDoor
