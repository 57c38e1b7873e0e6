/- The second form of pages: Runs, Back, Alloc. -/
import Derived.Test.YtcmligooekbodaaPgRef
import Derived.Test.YtcmligooekbodaaPgOwnR
import Derived.Test.YtcmligooekbodaaPgCmp
namespace Go.Proofs.Ytcmligooekbodaa
open Go.RowKit

/-- The second form, its blocks named. -/
structure RfA (w : World) (g A c n : Nat) (F : Nat → Bool) : Prop where
  b1 : Blk w g 58 #[.slice (some ⟨A, 0, none⟩) n c]
  b2 : Blk w A 4 ((List.range n).map fun i => Value.bool (F i)).toArray
section
variable {w w' : World} {g A c n : Nat} {F : Nat → Bool}
theorem RfA.chg {S : List Nat} (h : RfA w g A c n F) (k : Chg S w w') (h1 : g ∉ S) (h2 : A ∉ S) : RfA w' g A c n F := ⟨k.blk h.b1 h1, k.blk h.b2 h2⟩
theorem RfA.chg0 (h : RfA w g A c n F) (k : Chg [] w w') : RfA w' g A c n F := h.chg k (by simp) (by simp)
theorem RfA.ne (h : RfA w g A c n F) : g ≠ A := h.b1.ne_ h.b2 (by decide)
theorem RfA.set_ (h : RfA w g A c n F) {i : Nat} (hi : i < n) (b : Bool) {F' : Nat → Bool} (e : ∀ j, (if j = i then b else F j) = F' j) : RfA (w.setCell ⟨A, i, none⟩ (.bool b)) g A c n F' :=
  ⟨h.b1.far h.ne (.bool b), by have := bools_set h.b2 hi b; rwa [show (fun j => Value.bool (if j = i then b else F j)) = fun j => Value.bool (F' j) from funext fun j => by rw [e j]] at this⟩
end
def RrPost (l : List R) (w : World) (e : Ending) (w' : World) : Prop := ∃ v, e = .returned v ∧ OwnR w' v l ∧ Chg [] w w' ∧ ∀ k ∈ fpv v, w.heap.size ≤ k
def RrRel (w0 : World) (n : Nat) (F : Nat → Bool) (gk : Nat) (v idx : Value) (w : World) : Prop :=
  ∃ i, gk + i = n + 1 ∧ i ≤ n ∧ idx = .int .i64 (i : Nat) ∧ OwnR w v (runsTo F i) ∧ Chg [] w0 w ∧ ∀ k ∈ fpv v, w0.heap.size ≤ k
theorem wr_of (j : Nat) (h : j ≤ 1000) : wrap64 ((j : Int) + 1 - 1) = (j : Int) ∧ wrap64 (j : Int) = (j : Int) := by unfold wrap64; constructor <;> omega
theorem wr_succ (j : Nat) (h : j ≤ 1000) : wrap64 ((j : Int) + 1) = ((j + 1 : Nat) : Int) := by unfold wrap64; omega
theorem wr_add (a b : Nat) (h : a + b ≤ 1000) : wrap64 ((a : Int) + (b : Int)) = ((a + b : Nat) : Int) ∧ IntKind.i64.wrap ((a : Int) + (b : Int)) = ((a + b : Nat) : Int) := by
  rw [IntKind.wrap_i64]; unfold wrap64; constructor <;> omega
theorem set_last {α : Type} (a : List α) (x y : α) : (a ++ [x]).set a.length y = a ++ [y] := by rw [List.set_append_right _ _ (Nat.le_refl _)]; simp
theorem fp_one {k g n c : Nat} (h : k ∈ fpv (.slice (some ⟨g, 0, none⟩) n c)) : k = g := by simpa [fpv, Value.ownBlock, eq_comm] using h
set_option maxHeartbeats 3200000 in
set_option maxRecDepth 100000 in
theorem rruns_ok (w : World) (g A c n : Nat) (F : Nat → Bool) (I : RfA w g A c n F) (hn : n ≤ 200) : Calls Try.prog 19 #[.pointer (some ⟨g, 0, none⟩)] w (RrPost (runsTo F n) w) := by
  have HI := Lib.hid I; clear I
  go_enter Try.func19, Try.ntmps19
  go_wp2_with fail
  go_loopg [3, 4] (n + 1) (fun gk v idx wr => RrRel w n F gk v idx wr)
  case atStart => exact ⟨0, by omega, by omega, rfl, OwnR.nil _, Chg.refl [] _, by simp [fpv, Value.ownBlock]⟩
  case round =>
    obtain ⟨i, hgk, hin, rfl, O, C, Fv⟩ := hrel
    have J := HI.out.chg0 C
    have b0 := J.b1.cellv 0 rfl
    have hlen := (runsTo_ok F i).ln
    by_cases e : i < n
    · have hi' : (i : Int) < (n : Int) := by omega
      have i0 := bools_at J.b2 e
      cases hF : F i with
      | false =>
        rw [hF] at i0
        have HX := Lib.hid (And.intro O (And.intro C (And.intro Fv (runsTo_no hF)))); clear O C Fv J hF
        obtain ⟨Ao, co, rfl⟩ := HX.out.1.slice
        go_wp2_with fail
        go_roundg (n - i)
        case measure => omega
        case rel => exact ⟨i + 1, by omega, by omega, by go_num, by rw [HX.out.2.2.2]; exact HX.out.1, HX.out.2.1, HX.out.2.2.1⟩
      | true =>
        rw [hF] at i0
        by_cases h2 : 1 ≤ i ∧ F (i - 1) = true
        · obtain ⟨a, r, el, hr⟩ := (runsTo_ok F i).la h2
          have hrp : r.p ≤ i := by have h5 := (runsTo_ok F i).ok.bd r (by rw [el]; simp); have h6 := (runsTo_ok F i).nx; omega
          have er := runsTo_more hF h2
          rw [el, bump_snoc] at er
          obtain ⟨j, rfl⟩ : ∃ j, i = j + 1 := ⟨i - 1, by omega⟩
          have p0 := bools_at (i := j) J.b2 (by omega)
          rw [show F j = true from by simpa using h2.2] at p0
          rw [el] at O hlen
          obtain ⟨Ao, co, rfl⟩ := O.slice
          obtain ⟨go, rfl, q0, q1, -, f1, hgo, -⟩ := O.cell (i := a.length) (r := r) (by simp)
          have hql : (a ++ [r]).length = a.length + 1 := by simp
          rw [hql] at O hlen ⊢
          have hge := Fv go (by simp [fpv, Value.ownBlock])
          have HX := Lib.hid (And.intro O (And.intro C (And.intro Fv er))); clear O C Fv J hF h2 el er hql hr
          obtain ⟨q, hq⟩ : ∃ q, q = a.length := ⟨_, rfl⟩
          rw [← hq] at q0 q1 f1 HX hlen ⊢
          have HQ := Lib.hid hq; clear hq
          have hj0 : (0 : Int) ≤ (j : Int) := by omega
          have hq0 : (0 : Int) ≤ (q : Int) := by omega
          have hjn : (j : Int) < (n : Int) := by omega
          have hqq : (q : Int) < (q : Int) + 1 := by omega
          have hj1 : (0 : Int) < (j : Int) + 1 := by omega
          have hrp2 : r.p ≤ 1000 := by omega
          have hq2 : q ≤ 1000 := by omega
          have hj2 : j ≤ 1000 := by omega
          obtain ⟨ew1, ew3⟩ := wr_of j hj2
          go_upto_region 7 with fail
          clear ew1 ew3 hrp2 hj2
          have ew2 : Value.int .i64 (wrap64 ((q : Int) + 1 - 1)) = Value.int .i64 (q : Int) := congrArg _ (wr_of q hq2).1
          have ew4 : Value.int .i64 (wrap64 (q : Int)) = Value.int .i64 (q : Int) := congrArg _ (wr_of q hq2).2
          have ew5 : Value.int .i64 (wrap64 ((r.p : Int) + 1)) = Value.int .i64 ((r.p + 1 : Nat) : Int) := congrArg _ (wr_succ r.p (by omega))
          go_wp2_with fail
          clear ew2 ew4 ew5
          go_roundg (n - (j + 1))
          case measure => omega
          case rel => exact ⟨j + 1 + 1, by omega, by omega, by go_num, by
            have h3 := OwnR.setP (i := q) (r := r) (p := r.p + 1) HX.out.1 (by rw [HQ.out]; simp)
            rw [HX.out.2.2.2]
            rw [show (a ++ [r]).set q ⟨r.f, r.p + 1⟩ = a ++ [⟨r.f, r.p + 1⟩] by rw [HQ.out]; exact set_last a r _] at h3
            exact h3, HX.out.2.1.setCell (.inr hge) _, HX.out.2.2.1⟩
        · have er := runsTo_new hF h2
          obtain ⟨Ao, co, rfl⟩ := O.slice
          have HX := Lib.hid (And.intro O (And.intro C (And.intro Fv er))); clear O C Fv er hF
          have hll : (runsTo F i).length ≤ 1000000 := by omega
          cases i with
          | zero =>
            clear h2
            go_wp2_with (at_builtin; refine wpList_push_run rfl _ _ rfl Try.underlying29 rfl HX.out.1 ⟨0, 1⟩ rfl hll ?_)
            intro A' c' w2 O2 S2
            have H2 := Lib.hid (And.intro O2 (And.intro (HX.out.2.1.newP S2.c HX.out.2.2.1) (fun k hk => by
              rcases S2.f k hk with h | h
              · exact HX.out.2.2.1 k h
              · exact Nat.le_trans HX.out.2.1.size h : ∀ k ∈ fpv _, w.heap.size ≤ k))); clear O2 S2
            go_wp2_with fail
            go_roundg (n - 0)
            case measure => omega
            case rel => exact ⟨0 + 1, by omega, by omega, by go_num, by rw [HX.out.2.2.2]; exact H2.out.1, H2.out.2.1, H2.out.2.2⟩
          | succ j =>
            have p0 := bools_at (i := j) J.b2 (by omega)
            rw [show F j = false from by
              cases h : F j with
              | false => rfl
              | true => exact absurd ⟨by omega, by simpa using h⟩ h2] at p0
            clear h2 J
            have ew1 : wrap64 ((j : Int) + 1 - 1) = (j : Int) := by unfold wrap64; omega
            have ew3 : wrap64 (j : Int) = (j : Int) := by unfold wrap64; omega
            have hj0 : (0 : Int) ≤ (j : Int) := by omega
            have hjn : (j : Int) < (n : Int) := by omega
            have hj1 : (0 : Int) < (j : Int) + 1 := by omega
            go_wp2_with (at_builtin; refine wpList_push_run rfl _ _ rfl Try.underlying29 rfl HX.out.1 ⟨j + 1, 1⟩ rfl hll ?_)
            intro A' c' w2 O2 S2
            clear ew1 ew3
            have H2 := Lib.hid (And.intro O2 (And.intro (HX.out.2.1.newP S2.c HX.out.2.2.1) (fun k hk => by
              rcases S2.f k hk with h | h
              · exact HX.out.2.2.1 k h
              · exact Nat.le_trans HX.out.2.1.size h : ∀ k ∈ fpv _, w.heap.size ≤ k))); clear O2 S2
            go_wp2_with fail
            go_roundg (n - (j + 1))
            case measure => omega
            case rel => exact ⟨j + 1 + 1, by omega, by omega, by go_num, by rw [HX.out.2.2.2]; exact H2.out.1, H2.out.2.1, H2.out.2.2⟩
    · have e2 : i = n := by omega
      subst e2
      have hi' : ¬ (i : Int) < (i : Int) := by omega
      obtain ⟨Ao, co, rfl⟩ := O.slice
      have HX := Lib.hid (And.intro O (And.intro C Fv)); clear O C Fv hgk hin e J
      go_wp2_with fail
      go_ret
      exact ⟨_, rfl, HX.out⟩
end Go.Proofs.Ytcmligooekbodaa
