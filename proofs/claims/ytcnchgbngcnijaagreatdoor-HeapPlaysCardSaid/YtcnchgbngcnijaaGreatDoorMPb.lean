/- The walks of package page: Free. -/
/- The walks of package page: Free, the other arms; all joined. -/
/- The walks of package page: Alloc. -/
/- The walks of package page: New, Runs, Left. -/
/- Package page's contracts for a walk that owns a page beside other blocks; told of layer 5. -/
/- Runs of free pages: what Free gives back. Plain. -/
import Derived.Test.YtcnchgbngcnijaaGreatDoorMPa
namespace Go.Proofs.YtcnchgbngcnijaaGreatDoor
open Go.RowKit

theorem free_bad1 (w : World) (g n : Nat) (v : Value) (l : List R) (I : IsPg w g n v l) (first k : Int) (hk : k < 1) :
    Calls Tryz.prog 105 #[.pointer (some ⟨g, 0, none⟩), .int .i64 first, .int .i64 k] w (PgPost g n v (.int .i64 1) l w) := by
  have H := Lib.hid I; clear I
  go_enter Tryz.func105, Tryz.ntmps105
  go_wp2_with fail
  go_ret
  exact PgPost.same0 H.out
theorem free_bad2 (w : World) (g n : Nat) (v : Value) (l : List R) (I : IsPg w g n v l) (first k : Int) (hk : ¬ k < 1) (hf : first < 1) :
    Calls Tryz.prog 105 #[.pointer (some ⟨g, 0, none⟩), .int .i64 first, .int .i64 k] w (PgPost g n v (.int .i64 1) l w) := by
  have H := Lib.hid I; clear I
  go_enter Tryz.func105, Tryz.ntmps105
  go_wp2_with fail
  go_ret
  exact PgPost.same0 H.out
theorem free_bad3 (w : World) (g n : Nat) (v : Value) (l : List R) (I : IsPg w g n v l) (first k : Int) (hn : n ≤ 1000000) (hk : ¬ k < 1) (hf : ¬ first < 1) (h3 : (n : Int) - 1 < first) :
    Calls Tryz.prog 105 #[.pointer (some ⟨g, 0, none⟩), .int .i64 first, .int .i64 k] w (PgPost g n v (.int .i64 1) l w) := by
  have c0 := I.b.cellv 0 rfl
  have h4 : IntKind.i64.wrap ((n : Int) - 1) = (n : Int) - 1 := by rw [IntKind.wrap_i64]; omega
  have H := Lib.hid I; clear I
  go_enter Tryz.func105, Tryz.ntmps105
  go_wp2_with fail
  go_ret
  exact PgPost.same0 H.out
theorem free_bad4 (w : World) (g n : Nat) (v : Value) (l : List R) (I : IsPg w g n v l) (first k : Int) (hn : n ≤ 1000000) (hk : ¬ k < 1) (hf : ¬ first < 1) (h3 : ¬ (n : Int) - 1 < first) (h5 : (n : Int) - first < k) :
    Calls Tryz.prog 105 #[.pointer (some ⟨g, 0, none⟩), .int .i64 first, .int .i64 k] w (PgPost g n v (.int .i64 1) l w) := by
  have c0 := I.b.cellv 0 rfl
  have h4 : IntKind.i64.wrap ((n : Int) - 1) = (n : Int) - 1 := by rw [IntKind.wrap_i64]; omega
  have h6 : IntKind.i64.wrap ((n : Int) - first) = (n : Int) - first := by rw [IntKind.wrap_i64]; omega
  have H := Lib.hid I; clear I
  go_enter Tryz.func105, Tryz.ntmps105
  go_wp2_with fail
  go_ret
  exact PgPost.same0 H.out
def FrRel (w0 : World) (m : Nat) (gk : Nat) (v : Value) (w : World) : Prop := ∃ i : Nat, gk + i = m + 1 ∧ i ≤ m ∧ v = .int .i64 i ∧ w = w0

theorem front_eq (a b : List R) (first k : Nat) : joinR (a ++ ⟨first, k⟩ :: b) a.length = a ++ frontR first k b := by
  rw [joinR_at]
  cases b with
  | nil => rfl
  | cons s b => unfold frontR; simp only; split <;> rfl


theorem store_pg {W w1 : World} {g n : Nat} {v v1 : Value} {l l' : List R} (I : IsPg W g n v l) (o1 : w1.ownsRow 0 119 2 v1 l'.length (rc l')) (c : Chg (fpv v) W w1) (h : v1.ownBlock = v.ownBlock ∨ ∃ k, v1.ownBlock = some k ∧ W.heap.size ≤ k) :
    Blk w1 g 117 #[.int .i64 n, v] ∧ IsPg (w1.setCell ⟨g, 1, none⟩ v1) g n v1 l' ∧ Stp (g :: fpv v) (g :: fpv v1) W (w1.setCell ⟨g, 1, none⟩ v1) := by
  have B1 := c.blk I.b (fun hm => I.ne (mem_fpv.1 hm))
  refine ⟨B1, ⟨B1.setv 1 _ rfl, own_chg o1 ((Chg.refl [g] _).setCell (.inl (List.mem_cons_self ..)) _) (fun k hk hg => ?_)⟩, ⟨(c.mono fun k hk => .inl (List.mem_cons_of_mem _ hk)).setCell (p := ⟨g, 1, none⟩) (.inl (List.mem_cons_self ..)) _, fun k hk => ?_⟩⟩
  · have : k = g := by simpa using hg
    subst this
    exact own_ne o1 B1 (by decide) hk
  · rcases List.mem_cons.1 hk with rfl | hk
    · exact .inl (List.mem_cons_self ..)
    · have hk := mem_fpv.1 hk
      rcases h with h | ⟨k', h, h2⟩
      · rw [h] at hk; exact .inl (List.mem_cons_of_mem _ (mem_fpv.2 hk))
      · rw [h] at hk; injection hk with hk; subst hk; exact .inr h2

/-- What Free finds ahead of its stores: the place is M, the pages are nobody's. -/
structure FrOk (L : List R) (M first k : Nat) : Prop where
  lt : ∀ i, i < M → ∃ s, L[i]? = some s ∧ s.f < first
  X : M = 0 ∨ ∃ m q, M = m + 1 ∧ L[m]? = some q ∧ q.f + q.p ≤ first
  Y : M = L.length ∨ ∃ c, L[M]? = some c ∧ first + k ≤ c.f

theorem ins_call {w : World} {g n : Nat} {v : Value} {L : List R} (I : IsPg w g n v L) {a b : List R} (hLab : L = a ++ b) (first k : Nat) (hl : L.length ≤ 999999) (nq : Nat) (x : Int) (hx : x = (a.length : Int)) :
    Calls Tryz.prog 149 #[v, .int .i64 x, .slice (some ⟨w.heap.size, 0, none⟩) 1 1] ((w.drewN nq).alloc (.cells #[.int .i64 first, .int .i64 k] 119)) (InsPost v (a ++ ⟨first, k⟩ :: b) ((w.drewN nq).alloc (.cells #[.int .i64 first, .int .i64 k] 119))) := by
  subst hLab
  refine insert_ok _ v a b ⟨first, k⟩ _ ((I.drewN nq).o.alloc _) (by omega) (Blk.new _ _ _) (fun h => ?_) x hx
  have h2 := own_lt I.o h
  exact Nat.lt_irrefl _ h2
theorem ins_store {w : World} {g n : Nat} {v : Value} {L : List R} (I : IsPg w g n v L) {l' : List R} {nq : Nat} {o : Obj} {e : Ending} {w1 : World} (hp : InsPost v l' ((w.drewN nq).alloc o) e w1) :
    ∃ A1 N k1, e = .returned (.slice A1 N k1) ∧ Blk w1 g 117 #[.int .i64 n, v] ∧ IsPg (w1.setCell ⟨g, 1, none⟩ (.slice A1 N k1)) g n (.slice A1 N k1) l' ∧ Stp (g :: fpv v) (g :: fpv (.slice A1 N k1)) w (w1.setCell ⟨g, 1, none⟩ (.slice A1 N k1)) := by
  obtain ⟨v', rfl, o1, c1, hv⟩ := hp
  obtain ⟨A1, k1, rfl⟩ := own_slice o1
  have C : Chg (fpv v) w w1 := (((Chg.refl (fpv v) w).drewN nq).alloc o).trans c1
  refine ⟨A1, _, k1, rfl, store_pg I o1 C (hv.imp id ?_)⟩
  rintro ⟨k, h1, h2⟩
  refine ⟨k, h1, Nat.le_trans ?_ h2⟩
  have := (((Chg.refl (fpv v) w).drewN nq).alloc o).size
  exact this
theorem join2_call {w : World} {g n : Nat} {v : Value} {a c : List R} (I : IsPg w g n v (a ++ c)) (m : Nat) (ha : a.length = m + 1) (hl : (a ++ c).length ≤ 1000000) (hb : ∀ s ∈ a ++ c, s.f + s.p ≤ 1000000) (x : Int) (hx : x = m) :
    Calls Tryz.prog 150 #[.pointer (some ⟨g, 0, none⟩), .int .i64 x] w (PgPost g n v (.tuple #[]) (joinR (a ++ c) m) w) := by
  have hne : a ≠ [] := by rintro rfl; simp at ha
  have e : a = a.dropLast ++ [a.getLast hne] := (List.dropLast_concat_getLast hne).symm
  have el : a.dropLast.length = m := by simp [ha]
  rw [e, List.append_assoc, List.singleton_append] at I hl hb ⊢
  rw [← el]
  exact join_ok w g n v _ _ _ I hl hb x (by rw [hx, el])
theorem front_bd {L a b : List R} {first k : Nat} (hLab : L = a ++ b) (hb : ∀ s ∈ L, s.f + s.p ≤ 1000000) (h : first + k ≤ 1000000) : (∀ s ∈ a ++ ⟨first, k⟩ :: b, s.f + s.p ≤ 1000000) ∧ ∀ s ∈ a ++ frontR first k b, s.f + s.p ≤ 1000000 := by
  subst hLab
  constructor
  · intro s hs
    rcases List.mem_append.1 hs with hs | hs
    · exact hb s (List.mem_append_left _ hs)
    · rcases List.mem_cons.1 hs with rfl | hs
      · exact h
      · exact hb s (List.mem_append_right _ hs)
  · intro s hs
    rcases List.mem_append.1 hs with hs | hs
    · exact hb s (List.mem_append_left _ hs)
    · cases b with
      | nil =>
        have : s = ⟨first, k⟩ := by simpa [frontR] using hs
        subst this; exact h
      | cons c t =>
        have hc := hb c (by simp)
        simp only [frontR] at hs
        split at hs
        · next he =>
          rcases List.mem_cons.1 hs with rfl | hs
          · show first + (k + c.p) ≤ 1000000; omega
          · exact hb s (by simp [hs])
        · rcases List.mem_cons.1 hs with rfl | hs
          · exact h
          · exact hb s (List.mem_append_right _ hs)
theorem front_len {L a b : List R} {first k : Nat} (hLab : L = a ++ b) (hl : L.length ≤ 999999) : (a ++ (⟨first, k⟩ : R) :: b).length ≤ 1000000 ∧ (a ++ frontR first k b).length ≤ 1000000 := by
  subst hLab
  simp only [List.length_append, List.length_cons] at hl ⊢
  refine ⟨by omega, ?_⟩
  cases b with
  | nil => simp [frontR] at hl ⊢; omega
  | cons c t => simp only [frontR]; split <;> simp only [List.length_cons] at hl ⊢ <;> omega

set_option maxHeartbeats 3200000 in
set_option maxRecDepth 100000 in
theorem free_some (w : World) (g n : Nat) (v : Value) (L : List R) (I : IsPg w g n v L) (M first k : Nat) (hl : L.length ≤ 999999) (hb : ∀ s ∈ L, s.f + s.p ≤ 1000000) (hn : n ≤ 1000000) (hk : 1 ≤ k) (hf : 1 ≤ first) (hnk : first + k ≤ n) (F : FrOk L M first k) (hL : 0 < L.length) (a b : List R) (hLab : L = a ++ b) (hMa : M = a.length) (hpl : a.length = plc (a ++ b) first) :
    Calls Tryz.prog 105 #[.pointer (some ⟨g, 0, none⟩), .int .i64 first, .int .i64 k] w (PgPost g n v (.int .i64 0) (backR L first k) w) := by
  have c0 := I.b.cellv 0 rfl
  obtain ⟨g', cap, rest, rfl, hbb, hll, hc, hm, _⟩ := own_open I.o hL
  have c1 := I.b.cellv 1 rfl
  have h1 : ¬ (k : Int) < 1 := by omega
  have h2 : ¬ (first : Int) < 1 := by omega
  have h3 : ¬ (n : Int) - 1 < (first : Int) := by omega
  have h4 : IntKind.i64.wrap ((n : Int) - 1) = (n : Int) - 1 := by rw [IntKind.wrap_i64]; omega
  have h5 : ¬ (n : Int) - (first : Int) < (k : Int) := by omega
  have h6 : IntKind.i64.wrap ((n : Int) - (first : Int)) = (n : Int) - (first : Int) := by rw [IntKind.wrap_i64]; omega
  have H := Lib.hid (And.intro I (And.intro F (And.intro hbb (And.intro hb (And.intro hLab (And.intro hMa hpl)))))); clear I F hbb hll hc hb hLab hMa hpl
  go_enter Tryz.func105, Tryz.ntmps105
  go_wp2_with fail
  go_loopg [7] (M + 1) (fun gk v wr => FrRel w M gk v wr)
  case atStart => exact ⟨0, by omega, by omega, rfl, rfl⟩
  case round =>
    obtain ⟨i, hgk, hin, rfl, rfl⟩ := hrel
    by_cases e : i < M
    · obtain ⟨s, hs, hsf⟩ := H.out.2.1.lt i e
      have hiL := (List.getElem?_eq_some_iff.1 hs).1
      have i0 := H.out.2.2.1.cellv (i * 2) (by simpa using (rc_at hs rest).1)
      have hi' : (i : Int) < (L.length : Int) := by omega
      have hi2 : (s.f : Int) < (first : Int) := by omega
      clear hs
      go_wp2_with fail
      go_roundg (M - i)
      case measure => omega
      case rel => exact ⟨i + 1, by omega, by omega, by go_num, rfl⟩
    · obtain rfl : i = M := by omega
      clear hgk hin e
      rcases H.out.2.1.X with rfl | ⟨m, q, rfl, hq, hqe⟩ <;> rcases H.out.2.1.Y with hY | ⟨c, hcc, hce⟩
      · omega
      · have hcL := (List.getElem?_eq_some_iff.1 hcc).1
        have i0 := H.out.2.2.1.cellv (0 * 2) (by simpa using (rc_at hcc rest).1)
        have hi' : (0 : Int) < (L.length : Int) := by omega
        have hi2 : ¬ (c.f : Int) < (first : Int) := by omega
        have hi2' : ¬ c.f < first := by omega
        have hi3 : decide ((0 : Int) < (L.length : Int)) = true := by simpa using hi'
        have hi3' : decide (0 < L.length) = true := by simp; omega
        have hi4 : decide ((c.f : Int) < (first : Int) + (k : Int)) = false := by simp; omega
        have hi4' : decide (c.f < first + k) = false := by simp; omega
        have hi5 : IntKind.i64.wrap ((first : Int) + (k : Int)) = (first : Int) + (k : Int) := by rw [IntKind.wrap_i64]; omega
        clear hcc hce
        go_wp2_with fail
        go_quiet (fail)
        go_wp2_with fail
        refine (ins_call H.out.1 H.out.2.2.2.2.1 first k hl nq _ (by have := H.out.2.2.2.2.2.1; omega)).mono ?_
        rintro e w1 hp
        obtain ⟨A1, N, k1, rfl, B1, I2, S2⟩ := ins_store H.out.1 hp
        have b1 := B1.cellv 1 rfl
        have b2 := B1.frozen 1
        have HI := Lib.hid (And.intro I2 S2); clear B1 I2 S2 hp
        go_wp2_with fail
        refine (join_ok _ g n _ a b ⟨first, k⟩ HI.out.1 (front_len H.out.2.2.2.2.1 hl).1 (front_bd H.out.2.2.2.2.1 H.out.2.2.2.1 (by omega)).1 _ (by have := H.out.2.2.2.2.2.1; omega)).mono ?_
        rintro e w2 ⟨rfl, v2, I3, S3⟩
        rw [front_eq] at I3
        have HJ := Lib.hid (And.intro I3 S3); clear I3 S3
        go_wp2_with fail
        refine (join_neg _ g n _ _ HJ.out.1).mono ?_
        rintro e w3 ⟨rfl, v3, I4, S4⟩
        have HK := Lib.hid (And.intro I4 S4); clear I4 S4
        go_wp2_with fail
        go_ret
        refine ⟨rfl, v3, ?_, (HI.out.2.trans HJ.out.2).trans HK.out.2⟩
        have ha : a = [] := List.eq_nil_of_length_eq_zero H.out.2.2.2.2.2.1.symm
        rw [H.out.2.2.2.2.1, backR_split H.out.2.2.2.2.2.2, if_pos ha]
        have := HK.out.1
        rw [ha] at this
        exact this
      · have hmL := (List.getElem?_eq_some_iff.1 hq).1
        have i0 := H.out.2.2.1.cellv (m * 2) (by simpa using (rc_at hq rest).1)
        have i1 := H.out.2.2.1.cellv (m * 2 + 1) (by simpa using (rc_at hq rest).2)
        have hi' : (m : Int) < (L.length : Int) := by omega
        have hi2 : ¬ ((m : Int) + 1 < (L.length : Int)) := by omega
        have hi2' : ¬ (m + 1 < L.length) := by omega
        have hi3 : decide ((0 : Int) < (m : Int) + 1) = true := decide_eq_true (by omega)
        have hi4 : decide ((first : Int) < (q.f : Int) + (q.p : Int)) = false := by simp; omega
        have hi4' : decide (first < q.f + q.p) = false := by simp; omega
        have hi5 : IntKind.i64.wrap ((q.f : Int) + (q.p : Int)) = (q.f : Int) + (q.p : Int) := by rw [IntKind.wrap_i64]; omega
        have hi6 : IntKind.i64.wrap (m : Int) = (m : Int) := by rw [IntKind.wrap_i64]; omega
        have hi7 : decide ((m : Int) + 1 < (L.length : Int)) = false := by simp; omega
        have hi7' : decide (m + 1 < L.length) = false := by simp; omega
        clear hq hqe hY
        go_wp2_with fail
        go_quiet (fail)
        go_wp2_with fail
        refine (ins_call H.out.1 H.out.2.2.2.2.1 first k hl nq _ (by have := H.out.2.2.2.2.2.1; omega)).mono ?_
        rintro e w1 hp
        obtain ⟨A1, N, k1, rfl, B1, I2, S2⟩ := ins_store H.out.1 hp
        have b1 := B1.cellv 1 rfl
        have b2 := B1.frozen 1
        have HI := Lib.hid (And.intro I2 S2); clear B1 I2 S2 hp
        go_wp2_with fail
        refine (join_ok _ g n _ a b ⟨first, k⟩ HI.out.1 (front_len H.out.2.2.2.2.1 hl).1 (front_bd H.out.2.2.2.2.1 H.out.2.2.2.1 (by omega)).1 _ (by have := H.out.2.2.2.2.2.1; omega)).mono ?_
        rintro e w2 ⟨rfl, v2, I3, S3⟩
        rw [front_eq] at I3
        have HJ := Lib.hid (And.intro I3 S3); clear I3 S3
        go_wp2_with fail
        refine (join2_call HJ.out.1 m H.out.2.2.2.2.2.1.symm (front_len H.out.2.2.2.2.1 hl).2 (front_bd H.out.2.2.2.2.1 H.out.2.2.2.1 (by omega)).2 _ (by omega)).mono ?_
        rintro e w3 ⟨rfl, v3, I4, S4⟩
        have HK := Lib.hid (And.intro I4 S4); clear I4 S4
        go_wp2_with fail
        go_ret
        refine ⟨rfl, v3, ?_, (HI.out.2.trans HJ.out.2).trans HK.out.2⟩
        have ha := H.out.2.2.2.2.2.1
        have hne : a ≠ [] := by rintro rfl; simp at ha
        rw [H.out.2.2.2.2.1, backR_split H.out.2.2.2.2.2.2, if_neg hne, ← ha]
        exact HK.out.1
      · have hmL := (List.getElem?_eq_some_iff.1 hq).1
        have hcL := (List.getElem?_eq_some_iff.1 hcc).1
        have i0 := H.out.2.2.1.cellv (m * 2) (by simpa using (rc_at hq rest).1)
        have i1 := H.out.2.2.1.cellv (m * 2 + 1) (by simpa using (rc_at hq rest).2)
        have j0 := H.out.2.2.1.cellv ((m + 1) * 2) (by simpa using (rc_at hcc rest).1)
        have hi' : (m : Int) < (L.length : Int) := by omega
        have hj' : (m : Int) + 1 < (L.length : Int) := by omega
        have hj1 : (0 : Int) ≤ (m : Int) + 1 := by omega
        have hj2 : ((m : Int) + 1).toNat = m + 1 := by omega
        have hi2 : ¬ (c.f : Int) < (first : Int) := by omega
        have hi2' : ¬ c.f < first := by omega
        have hi3 : decide ((0 : Int) < (m : Int) + 1) = true := decide_eq_true (by omega)
        have hi4 : decide ((first : Int) < (q.f : Int) + (q.p : Int)) = false := by simp; omega
        have hi4' : decide (first < q.f + q.p) = false := by simp; omega
        have hi5 : IntKind.i64.wrap ((q.f : Int) + (q.p : Int)) = (q.f : Int) + (q.p : Int) := by rw [IntKind.wrap_i64]; omega
        have hi6 : IntKind.i64.wrap (m : Int) = (m : Int) := by rw [IntKind.wrap_i64]; omega
        have hi7 : decide ((m : Int) + 1 < (L.length : Int)) = true := by simp; omega
        have hi7' : decide (m + 1 < L.length) = true := by simp; omega
        have hi8 : decide ((c.f : Int) < (first : Int) + (k : Int)) = false := by simp; omega
        have hi8' : decide (c.f < first + k) = false := by simp; omega
        have hi9 : IntKind.i64.wrap ((first : Int) + (k : Int)) = (first : Int) + (k : Int) := by rw [IntKind.wrap_i64]; omega
        clear hq hqe hcc hce
        go_wp2_with fail
        go_quiet (fail)
        go_wp2_with fail
        refine (ins_call H.out.1 H.out.2.2.2.2.1 first k hl nq _ (by have := H.out.2.2.2.2.2.1; omega)).mono ?_
        rintro e w1 hp
        obtain ⟨A1, N, k1, rfl, B1, I2, S2⟩ := ins_store H.out.1 hp
        have b1 := B1.cellv 1 rfl
        have b2 := B1.frozen 1
        have HI := Lib.hid (And.intro I2 S2); clear B1 I2 S2 hp
        go_wp2_with fail
        refine (join_ok _ g n _ a b ⟨first, k⟩ HI.out.1 (front_len H.out.2.2.2.2.1 hl).1 (front_bd H.out.2.2.2.2.1 H.out.2.2.2.1 (by omega)).1 _ (by have := H.out.2.2.2.2.2.1; omega)).mono ?_
        rintro e w2 ⟨rfl, v2, I3, S3⟩
        rw [front_eq] at I3
        have HJ := Lib.hid (And.intro I3 S3); clear I3 S3
        go_wp2_with fail
        refine (join2_call HJ.out.1 m H.out.2.2.2.2.2.1.symm (front_len H.out.2.2.2.2.1 hl).2 (front_bd H.out.2.2.2.2.1 H.out.2.2.2.1 (by omega)).2 _ (by omega)).mono ?_
        rintro e w3 ⟨rfl, v3, I4, S4⟩
        have HK := Lib.hid (And.intro I4 S4); clear I4 S4
        go_wp2_with fail
        go_ret
        refine ⟨rfl, v3, ?_, (HI.out.2.trans HJ.out.2).trans HK.out.2⟩
        have ha := H.out.2.2.2.2.2.1
        have hne : a ≠ [] := by rintro rfl; simp at ha
        rw [H.out.2.2.2.2.1, backR_split H.out.2.2.2.2.2.2, if_neg hne, ← ha]
        exact HK.out.1
end Go.Proofs.YtcnchgbngcnijaaGreatDoor
namespace Go.Proofs.YtcnchgbngcnijaaGreatDoor
open Go.RowKit

set_option maxHeartbeats 3200000 in
set_option maxRecDepth 100000 in
theorem free_empty (w : World) (g n : Nat) (v : Value) (I : IsPg w g n v []) (first k : Nat) (hn : n ≤ 1000000) (hk : 1 ≤ k) (hf : 1 ≤ first) (hnk : first + k ≤ n) (a b : List R) (hLab : ([] : List R) = a ++ b) (hMa : 0 = a.length) (hpl : a.length = plc (a ++ b) first) :
    Calls Tryz.prog 105 #[.pointer (some ⟨g, 0, none⟩), .int .i64 first, .int .i64 k] w (PgPost g n v (.int .i64 0) (backR [] first k) w) := by
  have c0 := I.b.cellv 0 rfl
  obtain ⟨A, c, rfl⟩ := own_slice I.o
  have c1 := I.b.cellv 1 rfl
  have hl : ([] : List R).length ≤ 999999 := by simp
  have hb : ∀ s ∈ ([] : List R), s.f + s.p ≤ 1000000 := by simp
  have h1 : ¬ (k : Int) < 1 := by omega
  have h2 : ¬ (first : Int) < 1 := by omega
  have h3 : ¬ (n : Int) - 1 < (first : Int) := by omega
  have h4 : IntKind.i64.wrap ((n : Int) - 1) = (n : Int) - 1 := by rw [IntKind.wrap_i64]; omega
  have h5 : ¬ (n : Int) - (first : Int) < (k : Int) := by omega
  have h6 : IntKind.i64.wrap ((n : Int) - (first : Int)) = (n : Int) - (first : Int) := by rw [IntKind.wrap_i64]; omega
  have H := Lib.hid (And.intro I (And.intro trivial (And.intro trivial (And.intro hb (And.intro hLab (And.intro hMa hpl)))))); clear I hb hLab hMa hpl
  have hq1 : decide ((0 : Int) < 0) = false := by simp
  go_enter Tryz.func105, Tryz.ntmps105
  go_wp2_with fail
  go_loopg [7] 1 (fun gk v wr => FrRel w 0 gk v wr)
  case atStart => exact ⟨0, by omega, by omega, rfl, rfl⟩
  case round =>
    obtain ⟨i, hgk, hin, rfl, rfl⟩ := hrel
    obtain rfl : i = 0 := by omega
    clear hgk hin
    go_wp2_with fail
    go_quiet (fail)
    go_wp2_with fail
    refine (ins_call H.out.1 H.out.2.2.2.2.1 first k hl nq _ (by have := H.out.2.2.2.2.2.1; omega)).mono ?_
    rintro e w1 hp
    obtain ⟨A1, N, k1, rfl, B1, I2, S2⟩ := ins_store H.out.1 hp
    have b1 := B1.cellv 1 rfl
    have b2 := B1.frozen 1
    have HI := Lib.hid (And.intro I2 S2); clear B1 I2 S2 hp
    go_wp2_with fail
    refine (join_ok _ g n _ a b ⟨first, k⟩ HI.out.1 (front_len H.out.2.2.2.2.1 hl).1 (front_bd H.out.2.2.2.2.1 H.out.2.2.2.1 (by omega)).1 _ (by have := H.out.2.2.2.2.2.1; omega)).mono ?_
    rintro e w2 ⟨rfl, v2, I3, S3⟩
    rw [front_eq] at I3
    have HJ := Lib.hid (And.intro I3 S3); clear I3 S3
    go_wp2_with fail
    refine (join_neg _ g n _ _ HJ.out.1).mono ?_
    rintro e w3 ⟨rfl, v3, I4, S4⟩
    have HK := Lib.hid (And.intro I4 S4); clear I4 S4
    go_wp2_with fail
    go_ret
    refine ⟨rfl, v3, ?_, (HI.out.2.trans HJ.out.2).trans HK.out.2⟩
    have ha : a = [] := List.eq_nil_of_length_eq_zero H.out.2.2.2.2.2.1.symm
    rw [H.out.2.2.2.2.1, backR_split H.out.2.2.2.2.2.2, if_pos ha]
    have := HK.out.1
    rw [ha] at this
    exact this

/-- What Free finds where something is free already. -/
structure FrNo (L : List R) (M first k : Nat) : Prop where
  lt : ∀ i, i < M → ∃ s, L[i]? = some s ∧ s.f < first
  E : M = L.length ∨ ∃ c, L[M]? = some c ∧ first ≤ c.f
  S : (∃ m q, M = m + 1 ∧ L[m]? = some q ∧ first < q.f + q.p) ∨ ((M = 0 ∨ ∃ m q, M = m + 1 ∧ L[m]? = some q ∧ q.f + q.p ≤ first) ∧ ∃ c, L[M]? = some c ∧ first ≤ c.f ∧ c.f < first + k)

set_option maxHeartbeats 3200000 in
set_option maxRecDepth 100000 in
theorem free_state (w : World) (g n : Nat) (v : Value) (L : List R) (I : IsPg w g n v L) (M first k : Nat) (hl : L.length ≤ 999999) (hb : ∀ s ∈ L, s.f + s.p ≤ 1000000) (hn : n ≤ 1000000) (hk : 1 ≤ k) (hf : 1 ≤ first) (hnk : first + k ≤ n) (F : FrNo L M first k) (hL : 0 < L.length) :
    Calls Tryz.prog 105 #[.pointer (some ⟨g, 0, none⟩), .int .i64 first, .int .i64 k] w (PgPost g n v (.int .i64 5) L w) := by
  have c0 := I.b.cellv 0 rfl
  obtain ⟨g', cap, rest, rfl, hbb, hll, hc, hm, _⟩ := own_open I.o hL
  have c1 := I.b.cellv 1 rfl
  have h1 : ¬ (k : Int) < 1 := by omega
  have h2 : ¬ (first : Int) < 1 := by omega
  have h3 : ¬ (n : Int) - 1 < (first : Int) := by omega
  have h4 : IntKind.i64.wrap ((n : Int) - 1) = (n : Int) - 1 := by rw [IntKind.wrap_i64]; omega
  have h5 : ¬ (n : Int) - (first : Int) < (k : Int) := by omega
  have h6 : IntKind.i64.wrap ((n : Int) - (first : Int)) = (n : Int) - (first : Int) := by rw [IntKind.wrap_i64]; omega
  have H := Lib.hid (And.intro I (And.intro F (And.intro hbb hb))); clear I F hbb hll hc hb
  go_enter Tryz.func105, Tryz.ntmps105
  go_wp2_with fail
  go_loopg [7] (M + 1) (fun gk v wr => FrRel w M gk v wr)
  case atStart => exact ⟨0, by omega, by omega, rfl, rfl⟩
  case round =>
    obtain ⟨i, hgk, hin, rfl, rfl⟩ := hrel
    by_cases e : i < M
    · obtain ⟨s, hs, hsf⟩ := H.out.2.1.lt i e
      have hiL := (List.getElem?_eq_some_iff.1 hs).1
      have i0 := H.out.2.2.1.cellv (i * 2) (by simpa using (rc_at hs rest).1)
      have hi' : (i : Int) < (L.length : Int) := by omega
      have hi2 : (s.f : Int) < (first : Int) := by omega
      clear hs
      go_wp2_with fail
      go_roundg (M - i)
      case measure => omega
      case rel => exact ⟨i + 1, by omega, by omega, by go_num, rfl⟩
    · obtain rfl : i = M := by omega
      clear hgk hin e
      have HS := H.out.2.1.S
      have HE := H.out.2.1.E
      have hbd := H.out.2.2.2
      rcases HS with ⟨m, q, rfl, hq, hqe⟩ | ⟨rfl | ⟨m, q, rfl, hq, hqe⟩, c, hcc, hc1, hce⟩
      · have hmL := (List.getElem?_eq_some_iff.1 hq).1
        have hqb := hbd q (List.mem_of_getElem? hq)
        have i0 := H.out.2.2.1.cellv (m * 2) (by simpa using (rc_at hq rest).1)
        have i1 := H.out.2.2.1.cellv (m * 2 + 1) (by simpa using (rc_at hq rest).2)
        have hi' : (m : Int) < (L.length : Int) := by omega
        have hi3 : decide ((0 : Int) < (m : Int) + 1) = true := decide_eq_true (by omega)
        have hi4 : decide ((first : Int) < (q.f : Int) + (q.p : Int)) = true := decide_eq_true (by omega)
        have hi4' : decide (first < q.f + q.p) = true := decide_eq_true (by omega)
        have hi5 : IntKind.i64.wrap ((q.f : Int) + (q.p : Int)) = (q.f : Int) + (q.p : Int) := by rw [IntKind.wrap_i64]; omega
        have hi6 : IntKind.i64.wrap (m : Int) = (m : Int) := by rw [IntKind.wrap_i64]; omega
        clear hq hqe hbd hqb
        rcases HE with hE | ⟨c, hcc, hc1⟩
        · have hi2 : ¬ ((m : Int) + 1 < (L.length : Int)) := by omega
          have hi2' : ¬ (m + 1 < L.length) := by omega
          clear hE
          go_wp2_with fail
          go_quiet (fail)
          go_wp2_with fail
          go_ret
          exact PgPost.same H.out.1 _
        · have hcL := (List.getElem?_eq_some_iff.1 hcc).1
          have j0 := H.out.2.2.1.cellv ((m + 1) * 2) (by simpa using (rc_at hcc rest).1)
          have hj' : (m : Int) + 1 < (L.length : Int) := by omega
          have hj1 : (0 : Int) ≤ (m : Int) + 1 := by omega
          have hj2 : ((m : Int) + 1).toNat = m + 1 := by omega
          have hi2 : ¬ (c.f : Int) < (first : Int) := by omega
          have hi2' : ¬ c.f < first := by omega
          clear hcc
          go_wp2_with fail
          go_quiet (fail)
          go_wp2_with fail
          go_ret
          exact PgPost.same H.out.1 _
      · have hcL := (List.getElem?_eq_some_iff.1 hcc).1
        have i0 := H.out.2.2.1.cellv (0 * 2) (by simpa using (rc_at hcc rest).1)
        have hi' : (0 : Int) < (L.length : Int) := by omega
        have hi2 : ¬ (c.f : Int) < (first : Int) := by omega
        have hi2' : ¬ c.f < first := by omega
        have hi3 : decide ((0 : Int) < (L.length : Int)) = true := decide_eq_true (by omega)
        have hi3' : decide (0 < L.length) = true := decide_eq_true (by omega)
        have hi4 : decide ((c.f : Int) < (first : Int) + (k : Int)) = true := decide_eq_true (by omega)
        have hi4' : decide (c.f < first + k) = true := decide_eq_true (by omega)
        have hi5 : IntKind.i64.wrap ((first : Int) + (k : Int)) = (first : Int) + (k : Int) := by rw [IntKind.wrap_i64]; omega
        clear hcc hce HE hbd
        go_wp2_with fail
        go_quiet (fail)
        go_wp2_with fail
        go_ret
        exact PgPost.same H.out.1 _
      · have hmL := (List.getElem?_eq_some_iff.1 hq).1
        have hcL := (List.getElem?_eq_some_iff.1 hcc).1
        have i0 := H.out.2.2.1.cellv (m * 2) (by simpa using (rc_at hq rest).1)
        have i1 := H.out.2.2.1.cellv (m * 2 + 1) (by simpa using (rc_at hq rest).2)
        have j0 := H.out.2.2.1.cellv ((m + 1) * 2) (by simpa using (rc_at hcc rest).1)
        have hi' : (m : Int) < (L.length : Int) := by omega
        have hj' : (m : Int) + 1 < (L.length : Int) := by omega
        have hj1 : (0 : Int) ≤ (m : Int) + 1 := by omega
        have hj2 : ((m : Int) + 1).toNat = m + 1 := by omega
        have hi2 : ¬ (c.f : Int) < (first : Int) := by omega
        have hi2' : ¬ c.f < first := by omega
        have hi3 : decide ((0 : Int) < (m : Int) + 1) = true := decide_eq_true (by omega)
        have hi4 : decide ((first : Int) < (q.f : Int) + (q.p : Int)) = false := by simp; omega
        have hi4' : decide (first < q.f + q.p) = false := by simp; omega
        have hi5 : IntKind.i64.wrap ((q.f : Int) + (q.p : Int)) = (q.f : Int) + (q.p : Int) := by rw [IntKind.wrap_i64]; omega
        have hi6 : IntKind.i64.wrap (m : Int) = (m : Int) := by rw [IntKind.wrap_i64]; omega
        have hi7 : decide ((m : Int) + 1 < (L.length : Int)) = true := by simp; omega
        have hi7' : decide (m + 1 < L.length) = true := by simp; omega
        have hi8 : decide ((c.f : Int) < (first : Int) + (k : Int)) = true := decide_eq_true (by omega)
        have hi8' : decide (c.f < first + k) = true := decide_eq_true (by omega)
        have hi9 : IntKind.i64.wrap ((first : Int) + (k : Int)) = (first : Int) + (k : Int) := by rw [IntKind.wrap_i64]; omega
        clear hq hqe hcc hce HE hbd
        go_wp2_with fail
        go_quiet (fail)
        go_wp2_with fail
        go_ret
        exact PgPost.same H.out.1 _

theorem OkF.len : ∀ {l : List R} {lo : Nat}, OkF lo l → l.length + lo ≤ nxt1 lo l
  | [], lo, _ => by simp [nxt1]
  | r :: t, lo, h => by
    have h1 := OkF.len h.2.2
    have h2 := h.1
    have h3 := h.2.1
    show t.length + 1 + lo ≤ nxt1 (r.f + r.p + 1) t
    omega
theorem Okn.len {n : Nat} {l : List R} (h : Okn n l) : l.length ≤ n := by
  have h1 := h.1.len
  have h2 := h.2
  omega
theorem Okn.bd {n : Nat} {l : List R} (h : Okn n l) : ∀ r ∈ l, 1 ≤ r.f ∧ 1 ≤ r.p ∧ r.f + r.p ≤ n := fun r hr => by
  have h1 := h.1.bd r hr
  have h2 := h.2
  omega

/-- What Free answers, and the runs after it. -/
def FreeSays (n : Nat) (l : List R) (first k : Int) (c : Int) (l' : List R) : Prop :=
  ((k < 1 ∨ first < 1 ∨ (n : Int) - 1 < first ∨ (n : Int) - first < k) ∧ c = 1 ∧ l' = l) ∨
  (¬ (k < 1 ∨ first < 1 ∨ (n : Int) - 1 < first ∨ (n : Int) - first < k) ∧ ((someR l first.toNat k.toNat ∧ c = 5 ∧ l' = l) ∨ (¬ someR l first.toNat k.toNat ∧ c = 0 ∧ l' = backR l first.toNat k.toNat)))
def FreePost (g n : Nat) (v : Value) (l : List R) (first k : Int) (w : World) (e : Ending) (w' : World) : Prop :=
  ∃ c l', FreeSays n l first k c l' ∧ PgPost g n v (.int .i64 c) l' w e w'

theorem at_last {a b : List R} {m : Nat} (h : a.length = m + 1) : ∃ q, (a ++ b)[m]? = some q ∧ q ∈ a := by
  have hm : m < a.length := by omega
  exact ⟨a[m], by rw [List.getElem?_append_left hm]; simp, List.getElem_mem hm⟩
theorem at_head {a b : List R} : (a ++ b)[a.length]? = b.head? := by
  rw [List.getElem?_append_right (Nat.le_refl _), Nat.sub_self, List.head?_eq_getElem?]

theorem free_ok (w : World) (g n : Nat) (v : Value) (l : List R) (I : IsPg w g n v l) (h : Okn n l) (hn : n ≤ 262144) (first k : Int) :
    Calls Tryz.prog 105 #[.pointer (some ⟨g, 0, none⟩), .int .i64 first, .int .i64 k] w (FreePost g n v l first k w) := by
  by_cases h1 : k < 1
  · exact (free_bad1 w g n v l I first k h1).mono fun e w' hp => ⟨1, l, .inl ⟨.inl h1, rfl, rfl⟩, hp⟩
  by_cases h2 : first < 1
  · exact (free_bad2 w g n v l I first k h1 h2).mono fun e w' hp => ⟨1, l, .inl ⟨.inr (.inl h2), rfl, rfl⟩, hp⟩
  by_cases h3 : (n : Int) - 1 < first
  · exact (free_bad3 w g n v l I first k (by omega) h1 h2 h3).mono fun e w' hp => ⟨1, l, .inl ⟨.inr (.inr (.inl h3)), rfl, rfl⟩, hp⟩
  by_cases h4 : (n : Int) - first < k
  · exact (free_bad4 w g n v l I first k (by omega) h1 h2 h3 h4).mono fun e w' hp => ⟨1, l, .inl ⟨.inr (.inr (.inr h4)), rfl, rfl⟩, hp⟩
  have hng : ¬ (k < 1 ∨ first < 1 ∨ (n : Int) - 1 < first ∨ (n : Int) - first < k) := by omega
  obtain ⟨f, rfl⟩ : ∃ f : Nat, first = f := ⟨first.toNat, by omega⟩
  obtain ⟨K, rfl⟩ : ∃ K : Nat, k = K := ⟨k.toNat, by omega⟩
  have hbd := h.bd
  have hlen := h.len
  obtain ⟨a, b, hab, hla, ha, hb⟩ := plc_split l f
  have hlt : ∀ i, i < a.length → ∃ s, l[i]? = some s ∧ s.f < f := fun i hi => ⟨a[i], by rw [hab, List.getElem?_append_left hi]; simp, ha _ (List.getElem_mem hi)⟩
  have hE : a.length = l.length ∨ ∃ c, l[a.length]? = some c ∧ f ≤ c.f := by
    rw [hab]
    cases b with
    | nil => left; simp
    | cons c t => right; exact ⟨c, by simp, hb c rfl⟩
  have hbs : ∀ s ∈ l, s.f + s.p ≤ 1000000 := fun s hs => by have := (hbd s hs).2.2; omega
  by_cases hs : someR l f K
  · have F : FrNo l a.length f K := ⟨hlt, hE, by
      rw [hla]
      by_cases hX : ∃ r, 0 < plc l f ∧ l[plc l f - 1]? = some r ∧ f < r.f + r.p
      · obtain ⟨r, q1, q2, q3⟩ := hX
        exact .inl ⟨plc l f - 1, r, by omega, q2, q3⟩
      · rcases hs with hs | ⟨c, q1, q2⟩
        · exact absurd hs hX
        · refine .inr ⟨?_, c, q1, ?_, q2⟩
          · rcases Nat.eq_zero_or_pos (plc l f) with q3 | q3
            · exact .inl q3
            · right
              obtain ⟨q, q4, _⟩ := at_last (b := b) (m := plc l f - 1) (by omega : a.length = plc l f - 1 + 1)
              rw [← hab] at q4
              refine ⟨plc l f - 1, q, by omega, q4, ?_⟩
              rcases Nat.lt_or_ge f (q.f + q.p) with q5 | q5
              · exact absurd ⟨q, q3, q4, q5⟩ hX
              · exact q5
          · rw [← hla, hab, at_head] at q1
            exact hb c q1⟩
    have hL : 0 < l.length := by
      rcases hs with ⟨r, _, q, _⟩ | ⟨r, q, _⟩ <;> have := (List.getElem?_eq_some_iff.1 q).1 <;> omega
    exact (free_state w g n v l I a.length f K (by omega) hbs (by omega) (by omega) (by omega) (by omega) F hL).mono fun e w' hp => ⟨5, l, .inr ⟨hng, .inl ⟨by simpa using hs, rfl, rfl⟩⟩, hp⟩
  · have hmono : ∀ e w', PgPost g n v (.int .i64 0) (backR l f K) w e w' → FreePost g n v l f K w e w' := fun e w' hp => ⟨0, backR l f K, .inr ⟨hng, .inr ⟨by simpa using hs, rfl, by simp⟩⟩, hp⟩
    rcases Nat.eq_zero_or_pos l.length with hL | hL
    · have e : l = [] := List.eq_nil_of_length_eq_zero hL
      subst e
      have h0 : a.length = 0 := by have := congrArg List.length hab; simp at this; omega
      exact (free_empty w g n v I f K (by omega) (by omega) (by omega) (by omega) a b hab h0.symm (by rw [← hab]; exact hla)).mono hmono
    · have F : FrOk l a.length f K := ⟨hlt, by
          rcases Nat.eq_zero_or_pos a.length with q3 | q3
          · exact .inl q3
          · right
            obtain ⟨q, q4, _⟩ := at_last (b := b) (m := a.length - 1) (by omega : a.length = a.length - 1 + 1)
            rw [← hab] at q4
            refine ⟨a.length - 1, q, by omega, q4, ?_⟩
            rcases Nat.lt_or_ge f (q.f + q.p) with q5 | q5
            · exact absurd (Or.inl ⟨q, by omega, by rw [← hla]; exact q4, q5⟩) hs
            · exact q5, by
          rcases hE with q | ⟨c, q1, q2⟩
          · exact .inl q
          · right
            refine ⟨c, q1, ?_⟩
            rcases Nat.lt_or_ge c.f (f + K) with q5 | q5
            · exact absurd (Or.inr ⟨c, by rw [← hla]; exact q1, q5⟩) hs
            · exact q5⟩
      exact (free_some w g n v l I a.length f K (by omega) hbs (by omega) (by omega) (by omega) (by omega) F hL a b hab rfl (by rw [← hab]; exact hla)).mono hmono
end Go.Proofs.YtcnchgbngcnijaaGreatDoor
namespace Go.Proofs.YtcnchgbngcnijaaGreatDoor
open Go.RowKit

/-- The runs that are great enough. -/
def fl (k : Nat) (l : List R) : List R := l.filter fun r => decide (k ≤ r.p)
theorem fl_take {l : List R} {i k : Nat} {s : R} (h : l[i]? = some s) : fl k (l.take (i + 1)) = if k ≤ s.p then fl k (l.take i) ++ [s] else fl k (l.take i) := by
  obtain ⟨hi, rfl⟩ := List.getElem?_eq_some_iff.1 h
  unfold fl
  rw [List.take_succ_eq_append_getElem hi, List.filter_append]
  by_cases e : k ≤ l[i].p
  · rw [if_pos e]; simp [e]
  · rw [if_neg e]; simp [e]
theorem fl_len (l : List R) (k : Nat) : (fl k l).length ≤ l.length := List.length_filter_le _ _
theorem IsPg.chg0 {w w' : World} {g n : Nat} {v : Value} {l : List R} (I : IsPg w g n v l) (c : Chg [] w w') : IsPg w' g n v l :=
  ⟨c.blk I.b (by simp), own_chg I.o c (fun _ _ => by simp)⟩
theorem IsBy.alloc {w : World} {h : Nat} {v : Value} {L : List R} (I : IsBy w h v L) (o : Obj) : IsBy (w.alloc o) h v L := ⟨I.b.alloc o, I.o.alloc o⟩

structure AlInv (w0 : World) (h : Nat) (v : Value) (l L : List R) (w : World) : Prop where
  I : IsBy w h v L
  T : Top l L
  c : Chg [] w0 w
  n : ∀ j ∈ h :: fpv v, w0.heap.size ≤ j
def AlRel (w0 : World) (h k : Nat) (l : List R) (gk : Nat) (idx : Value) (w : World) : Prop :=
  ∃ i hv L, gk + i = l.length + 1 ∧ i ≤ l.length ∧ idx = .int .i64 (i : Nat) ∧ AlInv w0 h hv (fl k (l.take i)) L w

theorem AlInv.push {w0 w w1 : World} {h : Nat} {v : Value} {l L : List R} {s : R} {o : Obj} (A : AlInv w0 h v l L w) (hp : HpPost h v (l ++ [s]) (w.alloc o) (.returned (.tuple #[])) w1) : ∃ v1 L1, AlInv w0 h v1 (l ++ [s]) L1 w1 := by
  obtain ⟨_, v1, L1, T1, I1, S1⟩ := hp
  have S : Stp [] (h :: fpv v1) w0 w1 := Stp.trans ⟨A.c.alloc o, fun j hj => .inr (A.n j hj)⟩ S1
  exact ⟨v1, L1, I1, T1, S.c, fun j hj => (S.f j hj).resolve_left (by simp)⟩

theorem AlInv.pop {w0 w w1 : World} {h : Nat} {v : Value} {l L : List R} (A : AlInv w0 h v l L w) (c : Chg (h :: fpv v) w w1) : Chg [] w0 w1 :=
  (Stp.trans ⟨A.c, fun j hj => .inr (A.n j hj)⟩ (Stp.of_chg (fp := h :: fpv v) c (fun k hk => .inl hk)) : Stp [] (h :: fpv v) w0 w1).c
theorem best_of {w0 w : World} {h k : Nat} {v : Value} {l L : List R} {x : R} (A : AlInv w0 h v (fl k l) L w) (hx : L[0]? = some x) : Best l k x := by
  have h1 := (A.T.mem x).1 (List.mem_of_getElem? hx)
  have h2 := A.T.top x hx
  simp only [fl, List.mem_filter, decide_eq_true_eq] at h1 h2
  exact ⟨h1.1, h1.2, fun s hs hk => h2 s ⟨hs, hk⟩⟩
/-- What Alloc answers, and the runs after it. -/
def AllocSays (l : List R) (k : Int) (a c : Int) (l' : List R) : Prop :=
  (k < 1 ∧ a = 0 ∧ c = 1 ∧ l' = l) ∨ (1 ≤ k ∧ (∀ r ∈ l, (r.p : Int) < k) ∧ a = 0 ∧ c = 3 ∧ l' = l) ∨ (1 ≤ k ∧ ∃ r, Best l k.toNat r ∧ a = r.f ∧ c = 0 ∧ l' = cutR l r k.toNat)
def AllocPost (g n : Nat) (v : Value) (l : List R) (k : Int) (w : World) (e : Ending) (w' : World) : Prop :=
  ∃ a c l', AllocSays l k a c l' ∧ PgPost g n v (.tuple #[.int .i64 a, .int .i64 c]) l' w e w'
theorem index_call {W : World} {g n : Nat} {v : Value} {l a b : List R} {x : R} (I : IsPg W g n v l) (e : l = a ++ x :: b) (h : Okn n l) (hn : n ≤ 262144) :
    Calls Tryz.prog 142 #[v, .agg #[.int .i64 x.f, .int .i64 x.p]] W (IxPost a.length W) := by
  subst e
  have := h.len
  exact index_ok W v a b x I.o (by omega) h.1.notin.1
theorem del_call {W : World} {g n : Nat} {v : Value} {l a b : List R} {x : R} (I : IsPg W g n v l) (e : l = a ++ x :: b) (h : Okn n l) (hn : n ≤ 262144) (y z : Int) (hy : y = (a.length : Int)) (hz : z = (a.length : Int) + 1) :
    Calls Tryz.prog 143 #[v, .int .i64 y, .int .i64 z] W (DelPost v (a ++ b) W) := by
  subst e
  have := h.len
  exact delete_ok W v a b x I.o (by omega) y z hy hz
theorem del_store {w : World} {g n : Nat} {v : Value} {L : List R} (I : IsPg w g n v L) {l' : List R} {e : Ending} {w1 : World} (hp : DelPost v l' w e w1) :
    ∃ A1 N k1, e = .returned (.slice A1 N k1) ∧ Blk w1 g 117 #[.int .i64 n, v] ∧ IsPg (w1.setCell ⟨g, 1, none⟩ (.slice A1 N k1)) g n (.slice A1 N k1) l' ∧ Stp (g :: fpv v) (g :: fpv (.slice A1 N k1)) w (w1.setCell ⟨g, 1, none⟩ (.slice A1 N k1)) ∧ Chg (fpv v) w w1 := by
  obtain ⟨v', rfl, o1, c1, hv⟩ := hp
  obtain ⟨A1, k1, rfl⟩ := own_slice o1
  have h := store_pg I o1 c1 (.inl hv)
  exact ⟨A1, _, k1, rfl, h.1, h.2.1, h.2.2, c1⟩
theorem cut_store {w : World} {g n g' cap : Nat} {l a b : List R} {x : R} {k : Nat} (I : IsPg w g n (.slice (some ⟨g', 0, none⟩) l.length cap) l) (e : l = a ++ x :: b) (hk : k ≤ x.p) :
    IsPg ((w.drew.setCell ⟨g', a.length * 2, none⟩ (.int .i64 ((x.f : Int) + (k : Int)))).setCell ⟨g', a.length * 2 + 1, none⟩ (.int .i64 ((x.p : Int) - (k : Int)))) g n (.slice (some ⟨g', 0, none⟩) l.length cap) (a ++ ⟨x.f + k, x.p - k⟩ :: b) := by
  have hgg : g ≠ g' := fun e => I.ne (by simp [Value.ownBlock, e])
  have hla : a.length < l.length := by rw [e]; simp
  obtain ⟨g2, cap2, rest, hv, hb, hll, hc, hm, _⟩ := own_open I.o (by omega)
  injection hv with q1 q2 q3
  injection q1 with q1
  injection q1 with q1
  subst q1 q3
  have hs : l.set a.length ⟨x.f + k, x.p - k⟩ = a ++ ⟨x.f + k, x.p - k⟩ :: b := by rw [e, List.set_append_right _ _ (Nat.le_refl _)]; simp
  have h1 := blk_setR hb.drew a.length ⟨x.f + k, x.p - k⟩ hla
  have e1 : (((⟨x.f + k, x.p - k⟩ : R).f : Nat) : Int) = (x.f : Int) + (k : Int) := by simp
  have e2 : (((⟨x.f + k, x.p - k⟩ : R).p : Nat) : Int) = (x.p : Int) - (k : Int) := by simp only; omega
  rw [e1, e2, hs] at h1
  have hlen : (a ++ (⟨x.f + k, x.p - k⟩ : R) :: b).length = l.length := by rw [e]; simp
  refine ⟨(I.b.drew.far hgg _).far hgg _, ?_⟩
  rw [hlen]
  exact own_mk h1 (by rw [rc_len, hlen]; rw [rc_len] at hll; exact hll) hc hm (by rw [rc_len, hlen])

theorem IsPg.alloc {w : World} {g n : Nat} {v : Value} {l : List R} (I : IsPg w g n v l) (o : Obj) : IsPg (w.alloc o) g n v l := ⟨I.b.alloc o, I.o.alloc o⟩

theorem wrap64_small {x : Int} (h1 : -9223372036854775808 ≤ x) (h2 : x ≤ 9223372036854775807) : wrap64 x = x := by unfold wrap64; omega
theorem alloc_bad (w : World) (g n : Nat) (v : Value) (l : List R) (I : IsPg w g n v l) (k : Int) (hk : k < 1) :
    Calls Tryz.prog 92 #[.pointer (some ⟨g, 0, none⟩), .int .i64 k] w (PgPost g n v (.tuple #[.int .i64 0, .int .i64 1]) l w) := by
  have H := Lib.hid I; clear I
  go_enter Tryz.func92, Tryz.ntmps92
  go_wp2_with fail
  go_ret2
  exact PgPost.same0 H.out

set_option maxHeartbeats 3200000 in
set_option maxRecDepth 100000 in
theorem alloc_some (w : World) (g n : Nat) (v : Value) (l : List R) (I : IsPg w g n v l) (h : Okn n l) (hn : n ≤ 262144) (k : Nat) (hk : 1 ≤ k) :
    Calls Tryz.prog 92 #[.pointer (some ⟨g, 0, none⟩), .int .i64 k] w (AllocPost g n v l k w) := by
  obtain ⟨A, c, rfl⟩ := own_slice I.o
  have c1 := I.b.cellv 1 rfl
  have h1 : ¬ (k : Int) < 1 := by omega
  have hlen := h.len
  have hgl := I.b.lt
  have H := Lib.hid (And.intro I h); clear I h
  go_enter Tryz.func92, Tryz.ntmps92
  go_wp2_with fail
  go_loopg [22] (l.length + 1) (fun gk idx wr => AlRel w w.heap.size k l gk idx wr)
  case atStart =>
    refine ⟨0, .slice none 0 0, [], by omega, by omega, rfl, ⟨Blk.new _ _ _, ⟨rfl, .inl ⟨rfl, rfl⟩⟩⟩, ⟨rfl, fun s => by simp [fl], fun s0 h0 => by simp at h0⟩, (Chg.refl _ _).alloc _, fun j hj => ?_⟩
    have : j = w.heap.size := by simpa [fpv, Value.ownBlock] using hj
    omega
  case round =>
    obtain ⟨i, hv, L, hgk, hin, rfl, AI⟩ := hrel
    by_cases e : i < l.length
    · obtain ⟨s, hs⟩ : ∃ s, l[i]? = some s := ⟨l[i], List.getElem?_eq_getElem e⟩
      have I := H.out.1.chg0 AI.c
      obtain ⟨g', cap, rest, hvv, hbb, hll, hc, hm, _⟩ := own_open I.o (by omega)
      injection hvv with q1 q2 q3
      subst q1 q3
      have i0 := hbb.cellv (i * 2) (by simpa using (rc_at hs rest).1)
      have i1 := hbb.cellv (i * 2 + 1) (by simpa using (rc_at hs rest).2)
      have hi' : (i : Int) < (l.length : Int) := by omega
      have hft := fl_take (k := k) hs
      have HA := Lib.hid (And.intro AI hft); clear AI hft I hbb hll hc hm hs
      by_cases hks : k ≤ s.p
      · have hk2 : (k : Int) ≤ (s.p : Int) := by omega
        go_wp2_with fail
        refine (hpush_ok _ _ hv (fl k (l.take i)) L s (HA.out.1.I.alloc _) HA.out.1.T (by have := fl_len (l.take i) k; rw [List.length_take] at this; omega)).mono ?_
        rintro e w1 hp
        obtain rfl := hp.1
        obtain ⟨v1, L1, A1⟩ := HA.out.1.push hp
        have HB := Lib.hid A1; clear A1 hp
        go_wp2_with fail
        go_roundg (l.length - i)
        case measure => omega
        case rel => exact ⟨i + 1, v1, L1, by omega, by omega, by go_num, by rw [HA.out.2, if_pos hks]; exact HB.out⟩
      · have hk2 : ¬ (k : Int) ≤ (s.p : Int) := by omega
        go_wp2_with fail
        go_roundg (l.length - i)
        case measure => omega
        case rel => exact ⟨i + 1, hv, L, by omega, by omega, by go_num, by rw [HA.out.2, if_neg hks]; exact ⟨HA.out.1.I.alloc _, HA.out.1.T, HA.out.1.c.alloc _, HA.out.1.n⟩⟩
    · obtain rfl : i = l.length := by omega
      rw [List.take_length] at AI
      clear hgk hin e
      obtain ⟨A', c', rfl⟩ := own_slice AI.I.o
      have x0 := AI.I.b.cellv 0 rfl
      have HL := Lib.hid (And.intro AI.T.len (fl_len l k))
      rcases Nat.eq_zero_or_pos L.length with hL0 | hLp
      · have e0 : L = [] := List.eq_nil_of_length_eq_zero hL0
        subst e0
        have HA := Lib.hid AI; clear AI
        go_wp2_with fail
        go_ret2
        refine ⟨0, 3, l, .inr (.inl ⟨by omega, fun r hr => ?_, rfl, rfl, rfl⟩), rfl, _, H.out.1.chg0 HA.out.c, ⟨HA.out.c.mono (fun k hk => by cases hk), fun _ h => .inl h⟩⟩
        rcases Int.lt_or_le (r.p : Int) k with q | q
        · exact q
        · have := (HA.out.T.mem r).2 (by simp [fl]; exact ⟨hr, by omega⟩)
          simp at this
      · obtain ⟨m, hm⟩ : ∃ m, L.length = m + 1 := ⟨L.length - 1, by omega⟩
        obtain ⟨x, hx⟩ : ∃ x, L[0]? = some x := ⟨L[0], List.getElem?_eq_getElem hLp⟩
        have hta := fun v W => run_assert_struct (P := Tryz.prog) (xT := 20) Tryz.underlying119 v W
        have hm2 : ¬ L.length = 0 := by omega
        have HA := Lib.hid (And.intro AI (And.intro hm hx)); clear AI hm hx
        go_wp2_with fail
        refine (hpop_ok wr _ _ L m x HA.out.1.I HA.out.2.1 HA.out.2.2 (by have := HA.out.2.1; have := HL.out; omega)).mono ?_
        rintro e w1 ⟨rfl, cp⟩
        have C1 := HA.out.1.pop cp
        have hX0 : w.heap.size ≤ w1.heap.size := C1.size
        have HB := best_of HA.out.1 HA.out.2.2
        obtain ⟨a, b, hab⟩ := List.append_of_mem HB.1
        have hI1 := (H.out.1.chg0 C1).alloc (.cells #[.int .i64 x.f, .int .i64 x.p] 119)
        have hX1 := Blk.new w1 119 #[Value.int .i64 x.f, Value.int .i64 x.p]
        have hC1 := C1.alloc (.cells #[.int .i64 x.f, .int .i64 x.p] 119)
        have HX := Lib.hid (And.intro hI1 (And.intro hX1 (And.intro hC1 (And.intro HB hab)))); clear hI1 hX1 hC1 HB hab C1 cp HA
        go_wp2_with fail
        generalize w1.alloc (.cells #[.int .i64 x.f, .int .i64 x.p] 119) = W at HX ⊢
        generalize w1.heap.size = X at HX hX0 ⊢
        have d1 := HX.out.1.b.cellv 1 rfl
        have x0 := HX.out.2.1.cellv 0 rfl
        have x1 := HX.out.2.1.cellv 1 rfl
        go_still_tail 5, (by kernel_rfl)
        change wpList _ _ _ _ _ W.drew
        go_wp2_with fail
        refine (index_call (HX.out.1.drewN 1) HX.out.2.2.2.2 H.out.2 hn).mono ?_
        rintro e w2 ⟨rfl, c2⟩
        have C2 : Chg [] W w2 := ((Chg.refl [] W).drew).trans c2
        have I2 := HX.out.1.chg0 C2
        have X2 := C2.blk HX.out.2.1 (by simp)
        have C3 := HX.out.2.2.1.trans C2
        have hab := HX.out.2.2.2.2
        have HB := HX.out.2.2.2.1
        clear d1 x0 x1
        have y0 := X2.cellv 0 rfl
        have y1 := X2.cellv 1 rfl
        have d1 := I2.b.cellv 1 rfl
        have fd := I2.b.frozen 1
        have HY := Lib.hid (And.intro I2 (And.intro C3 (And.intro HB (And.intro hab X2)))); clear I2 X2 C2 C3 HB hab c2 HX
        by_cases hxk : x.p = k
        · have hxk1 : ((x.p : Int) == (k : Int)) = true := by rw [beq_iff_eq]; omega
          have hxk2 : (x.p == k) = true := by rw [beq_iff_eq]; omega
          have hkk := Lib.hid hxk; clear hxk
          go_wp2_with fail
          refine (del_call HY.out.1 HY.out.2.2.2.1 H.out.2 hn _ _ rfl (wrap64_small (by omega) (by have h9 := congrArg List.length HY.out.2.2.2.1; simp only [List.length_append, List.length_cons] at h9; omega))).mono ?_
          rintro e w3 hp
          obtain ⟨A1, N, k1, rfl, B1, I3, S3, c3⟩ := del_store HY.out.1 hp
          have b1 := B1.cellv 1 rfl
          have b2 := B1.frozen 1
          have X3 := c3.blk HY.out.2.2.2.2 (fun hm => by have := own_lt H.out.1.o (mem_fpv.1 hm); omega)
          have z0 := X3.cellv 0 rfl
          have hXg : X ≠ g := by omega
          have HZ := Lib.hid (And.intro I3 S3); clear I3 S3 B1 X3 c3 hp y0 y1 d1 fd
          go_wp2_with fail
          go_ret2
          have hkk := hkk.out
          refine ⟨x.f, 0, cutR l x k, .inr (.inr ⟨by omega, x, by simpa using HY.out.2.2.1, rfl, rfl, by simp⟩), rfl, _, ?_, (Stp.of_chg (HY.out.2.1.mono (fun k hk => by cases hk)) (fun k hk => .inl hk)).trans HZ.out.2⟩
          have h1 := HZ.out.1
          have h2 := H.out.2.1
          rw [HY.out.2.2.2.1] at h2 ⊢
          rw [cutR_split h2, if_pos hkk]
          exact h1
        · have hxk1 : ((x.p : Int) == (k : Int)) = false := by rw [beq_eq_false_iff_ne]; omega
          have hxk2 : (x.p == k) = false := by rw [beq_eq_false_iff_ne]; omega
          have hbx := H.out.2.bd x HY.out.2.2.1.1
          have hkx := HY.out.2.2.1.2.1
          have hal : a.length < l.length := by rw [HY.out.2.2.2.1]; simp
          obtain ⟨g', cap, rest, hvv, hbb, hll, hc, hm, _⟩ := own_open HY.out.1.o (by omega)
          injection hvv with q1 q2 q3
          subst q1 q3
          have hsz : (rc l ++ rest).toArray.size = c * 2 := by simp only [List.size_toArray, List.length_append]; exact hll
          obtain ⟨u0, i0⟩ := Option.isSome_iff_exists.1 (hbb.some (a.length * 2) (by rw [hsz]; omega))
          obtain ⟨u1, i1⟩ := Option.isSome_iff_exists.1 (hbb.some (a.length * 2 + 1) (by rw [hsz]; omega))
          have f0 := hbb.frozen (a.length * 2)
          have f1 := hbb.frozen (a.length * 2 + 1)
          have hi' : (a.length : Int) < (l.length : Int) := by omega
          have e1 : IntKind.i64.wrap ((x.f : Int) + (k : Int)) = (x.f : Int) + (k : Int) := by rw [IntKind.wrap_i64]; omega
          have e2 : IntKind.i64.wrap ((x.p : Int) - (k : Int)) = (x.p : Int) - (k : Int) := by rw [IntKind.wrap_i64]; omega
          have hXg : X ≠ g' := by have := own_lt H.out.1.o (k := g') rfl; omega
          have hkk := Lib.hid hxk; clear hxk hbb hll hsz hc hm hkx hbx
          go_wp2_with fail
          go_still_tail 15, (by kernel_rfl)
          change wpList _ _ _ _ _ w2.drew
          have j0 : w2.drew.cell? ⟨g', a.length * 2, none⟩ = _ := i0
          have j1 : w2.drew.cell? ⟨g', a.length * 2 + 1, none⟩ = _ := i1
          have k0 : w2.drew.frozen? ⟨g', a.length * 2, none⟩ = _ := f0
          have k1 : w2.drew.frozen? ⟨g', a.length * 2 + 1, none⟩ = _ := f1
          have z0 : w2.drew.cell? ⟨X, 0, none⟩ = _ := y0
          go_wp2_with fail
          go_ret2
          have hkk := hkk.out
          refine ⟨x.f, 0, cutR l x k, .inr (.inr ⟨by omega, x, by simpa using HY.out.2.2.1, rfl, rfl, by simp⟩), rfl, _, ?_, (Stp.of_chg (HY.out.2.1.mono (fun k hk => by cases hk)) (fun k hk => .inl hk)).trans (Stp.of_chg (S := [g']) (((Chg.refl [g'] w2).drew.setCell (.inl (List.mem_cons_self ..)) _).setCell (.inl (List.mem_cons_self ..)) _) (fun k hk => .inl ?_))⟩
          · have h1 := cut_store HY.out.1 HY.out.2.2.2.1 (k := k) HY.out.2.2.1.2.1
            have h2 := H.out.2.1
            have h3 : cutR l x k = a ++ ⟨x.f + k, x.p - k⟩ :: b := by
              rw [HY.out.2.2.2.1] at h2 ⊢
              rw [cutR_split h2, if_neg hkk]
            rw [h3]
            exact h1
          · simp [fpv, Value.ownBlock] at hk ⊢; exact .inr hk

theorem alloc_ok (w : World) (g n : Nat) (v : Value) (l : List R) (I : IsPg w g n v l) (h : Okn n l) (hn : n ≤ 262144) (k : Int) :
    Calls Tryz.prog 92 #[.pointer (some ⟨g, 0, none⟩), .int .i64 k] w (AllocPost g n v l k w) := by
  by_cases hk : k < 1
  · exact (alloc_bad w g n v l I k hk).mono fun e w' hp => ⟨0, 1, l, .inl ⟨hk, rfl, rfl, rfl⟩, hp⟩
  · obtain ⟨K, rfl⟩ : ∃ K : Nat, k = K := ⟨k.toNat, by omega⟩
    exact alloc_some w g n v l I h hn K (by omega)
end Go.Proofs.YtcnchgbngcnijaaGreatDoor
namespace Go.Proofs.YtcnchgbngcnijaaGreatDoor
open Go.RowKit

def newN (n : Int) : Nat := (min (max n 1) 262144).toNat
def newL (N : Nat) : List R := if 1 < N then [⟨1, N - 1⟩] else []
def NewPost (N : Nat) (w : World) (e : Ending) (w' : World) : Prop :=
  ∃ g v, e = .returned (.pointer (some ⟨g, 0, none⟩)) ∧ IsPg w' g N v (newL N) ∧ Chg [] w w' ∧ ∀ k ∈ g :: fpv v, w.heap.size ≤ k
theorem newL_ok (N : Nat) (h : 1 ≤ N) : Okn N (newL N) := by
  unfold newL
  split
  · refine ⟨⟨Nat.le_refl _, by show 1 ≤ N - 1; omega, trivial⟩, ?_⟩
    show 1 + (N - 1) + 1 ≤ N + 1
    omega
  · exact ⟨trivial, by show 1 ≤ N + 1; omega⟩

theorem new_one (w : World) : NewPost 1 w (.returned (.pointer (some ⟨w.heap.size, 0, none⟩))) (w.alloc (.cells #[.int .i64 1, .slice none 0 0] 117)) :=
  ⟨_, _, rfl, ⟨Blk.new _ _ _, rfl, .inl ⟨rfl, rfl⟩⟩, (Chg.refl _ w).alloc _, fun k hk => by
    have : k = w.heap.size := by simpa [fpv, Value.ownBlock] using hk
    omega⟩
theorem new_many (w : World) (N : Nat) (h : 1 < N) (x y : Int) (hx : x = N) (hy : y = (N : Int) - 1) : NewPost N w (.returned (.pointer (some ⟨w.heap.size, 0, none⟩)))
    ((w.alloc (.cells #[.int .i64 x, .slice (some ⟨w.heap.size + 1, 0, none⟩) 1 1] 117)).alloc (.cells #[.int .i64 1, .int .i64 y] 119)) := by
  subst hx hy
  have hsz : (w.alloc (.cells #[.int .i64 (N : Int), .slice (some ⟨w.heap.size + 1, 0, none⟩) 1 1] 117)).heap.size = w.heap.size + 1 := World.size_alloc ..
  have B0 := (Blk.new w 117 #[Value.int .i64 (N : Int), .slice (some ⟨w.heap.size + 1, 0, none⟩) 1 1]).alloc (.cells #[.int .i64 1, .int .i64 ((N : Int) - 1)] 119)
  have B1 := Blk.new (w.alloc (.cells #[.int .i64 (N : Int), .slice (some ⟨w.heap.size + 1, 0, none⟩) 1 1] 117)) 119 #[Value.int .i64 1, Value.int .i64 ((N : Int) - 1)]
  rw [hsz] at B1
  have e : newL N = [⟨1, N - 1⟩] := by unfold newL; rw [if_pos h]
  have e2 : ((N - 1 : Nat) : Int) = (N : Int) - 1 := by omega
  refine ⟨w.heap.size, .slice (some ⟨w.heap.size + 1, 0, none⟩) 1 1, rfl, ⟨B0, ?_⟩, ((Chg.refl [] w).alloc _).alloc _, fun k hk => ?_⟩
  · rw [e]
    refine own_mk (rest := []) ?_ rfl (Nat.le_refl _) (by decide) rfl
    have e3 : (rc [(⟨1, N - 1⟩ : R)] ++ []).toArray = #[Value.int .i64 1, Value.int .i64 ((N : Int) - 1)] := by rw [← e2]; rfl
    rw [e3]; exact B1
  · have : k = w.heap.size ∨ k = w.heap.size + 1 := by simpa [fpv, Value.ownBlock, eq_comm] using hk
    omega
theorem sum_take {l : List R} {i : Nat} {r : R} (h : l[i]? = some r) : sumR (l.take (i + 1)) = sumR (l.take i) + r.p := by
  obtain ⟨h1, rfl⟩ := List.getElem?_eq_some_iff.1 h
  unfold sumR
  rw [List.take_succ_eq_append_getElem h1, List.map_append, List.sum_append]
  simp only [List.map_cons, List.map_nil, List.sum_cons, List.sum_nil, Nat.add_zero]
theorem sum_le (l : List R) (i : Nat) : sumR (l.take i) ≤ sumR l := by
  have h : sumR l = sumR (l.take i) + sumR (l.drop i) := by
    unfold sumR
    rw [← List.sum_append, ← List.map_append, List.take_append_drop]
  omega

set_option maxRecDepth 100000 in
set_option maxHeartbeats 1600000 in
theorem new_ok (w : World) (n : Int) : Calls Tryz.prog 43 #[.int .i64 n] w (NewPost (newN n) w) := by
  rcases Int.lt_or_le n 1 with h1 | h1
  · have e : newN n = 1 := by unfold newN; omega
    rw [e]
    clear e
    go_enter Tryz.func43, Tryz.ntmps43
    go_wp2_with fail
    go_ret
    exact new_one w
  · rcases Int.lt_or_le 262144 n with h2 | h2
    · have e : newN n = 262144 := by unfold newN; omega
      rw [e]
      have h3 : ¬ n < 1 := by omega
      clear e h1
      go_enter Tryz.func43, Tryz.ntmps43
      go_wp2_with fail
      go_ret
      exact new_many w 262144 (by omega) _ _ rfl rfl
    · have h3 : ¬ n < 1 := by omega
      have h4 : ¬ 262144 < n := by omega
      obtain ⟨N, rfl⟩ : ∃ N : Nat, n = N := ⟨n.toNat, by omega⟩
      have e : newN N = N := by unfold newN; omega
      rw [e]
      clear e
      rcases Nat.lt_or_ge 1 N with h5 | h5
      · have h6 : (1 : Int) < (N : Int) := by omega
        have h7 : IntKind.i64.wrap ((N : Int) - 1) = (N : Int) - 1 := by rw [IntKind.wrap_i64]; omega
        go_enter Tryz.func43, Tryz.ntmps43
        go_wp2_with fail
        all_goals
          go_ret
          exact new_many w N h5 _ _ rfl rfl
      · obtain rfl : N = 1 := by omega
        go_enter Tryz.func43, Tryz.ntmps43
        go_wp2_with fail
        all_goals
          go_ret
          exact new_one w

theorem runs_ok (w : World) (g n : Nat) (v : Value) (l : List R) (I : IsPg w g n v l) (hl : l.length ≤ 1000000) :
    Calls Tryz.prog 118 #[.pointer (some ⟨g, 0, none⟩)] w (ClPost l w) := by
  have c1 := I.b.cellv 1 rfl
  have HC := Lib.hid (clone_ok w v l I.o hl)
  obtain ⟨A, c, rfl⟩ := own_slice I.o
  clear I
  go_enter Tryz.func118, Tryz.ntmps118
  go_wp2_with fail
  refine HC.out.mono ?_
  rintro e w1 ⟨v', rfl, hp⟩
  have HP := Lib.hid hp; clear hp
  obtain ⟨A', c', rfl⟩ := own_slice HP.out.1
  go_wp2_with fail
  go_ret
  exact ⟨_, rfl, HP.out⟩

def LfPost (s : Nat) (w : World) (e : Ending) (w' : World) : Prop := e = .returned (.int .i64 s) ∧ Chg [] w w'
def LfRel (w0 : World) (v : Value) (l : List R) (gk : Nat) (s idx : Value) (w : World) : Prop :=
  ∃ i, gk + i = l.length + 1 ∧ i ≤ l.length ∧ s = .int .i64 (sumR (l.take i) : Nat) ∧ idx = .int .i64 (i : Nat) ∧ Chg [] w0 w ∧ w.ownsRow 0 119 2 v l.length (rc l)
set_option maxRecDepth 100000 in
set_option maxHeartbeats 1600000 in
theorem left_ok (w : World) (g n : Nat) (v : Value) (l : List R) (I : IsPg w g n v l) (hl : l.length ≤ 1000000) (hs : sumR l ≤ 1000000) :
    Calls Tryz.prog 71 #[.pointer (some ⟨g, 0, none⟩)] w (LfPost (sumR l) w) := by
  have HR := Lib.hid (runs_ok w g n v l I hl); clear I
  go_enter Tryz.func71, Tryz.ntmps71
  go_wp2_with fail
  refine HR.out.mono ?_
  rintro e w1 ⟨v', rfl, hp⟩
  have HP := Lib.hid hp; clear hp
  obtain ⟨A', c', rfl⟩ := own_slice HP.out.1
  go_wp2_with fail
  go_loopg [3, 9] (l.length + 1) (fun gk s idx wr => LfRel w (.slice A' l.length c') l gk s idx wr)
  case atStart => exact ⟨0, by omega, by omega, rfl, rfl, HP.out.2.1, HP.out.1⟩
  case round =>
    obtain ⟨i, hgk, hin, rfl, rfl, hc, ho⟩ := hrel
    by_cases e : i < l.length
    · obtain ⟨r, hr⟩ : ∃ r, l[i]? = some r := ⟨l[i], List.getElem?_eq_getElem e⟩
      obtain ⟨g', cap, rest, hvv, hbb, hll, hcc, hm, _⟩ := own_open ho (by omega)
      injection hvv with q1 q2 q3
      subst q1 q3
      have i0 := hbb.cellv (i * 2) (by simpa using (rc_at hr rest).1)
      have i1 := hbb.cellv (i * 2 + 1) (by simpa using (rc_at hr rest).2)
      have hi' : (i : Int) < (l.length : Int) := by omega
      have hsum := sum_take hr
      have hle := sum_le l (i + 1)
      have HA := Lib.hid (And.intro hc (And.intro ho hsum)); clear hc ho hbb hll hcc hm
      have hw : IntKind.i64.wrap ((sumR (l.take i) : Int) + (r.p : Int)) = ((sumR (l.take i) + r.p : Nat) : Int) := by rw [IntKind.wrap_i64]; omega
      clear hr hsum
      go_wp2_with fail
      go_roundg (l.length - i)
      case measure => omega
      case rel => exact ⟨i + 1, by omega, by omega, by rw [HA.out.2.2]; go_num, by go_num, HA.out.1.alloc _, HA.out.2.1.alloc _⟩
    · obtain rfl : i = l.length := by omega
      rw [List.take_length]
      have HA := Lib.hid (And.intro hc ho); clear hc ho hin e hgk
      go_wp2_with fail
      go_ret
      exact ⟨rfl, HA.out.1⟩
end Go.Proofs.YtcnchgbngcnijaaGreatDoor
namespace Go.Proofs.YtcnchgbngcnijaaGreatDoor
open Go.RowKit

/-- Blocks of S are as they were. -/
def Keep (S : List Nat) (w w' : World) : Prop := ∀ k ∈ S, w'.heap[k]? = w.heap[k]?
/-- A page in block g, made since w0; the walk's other blocks are S. -/
structure PgI (w0 : World) (S : List Nat) (w : World) (g n : Nat) (l : List R) (v : Value) : Prop where
  I : IsPg w g n v l
  c : Chg [] w0 w
  n : ∀ k ∈ g :: fpv v, w0.heap.size ≤ k ∧ k ∉ S
  s : ∀ k ∈ S, k < w.heap.size
def AllocI (w0 : World) (S : List Nat) (g n : Nat) (l : List R) (k : Int) (w : World) (e : Ending) (w' : World) : Prop :=
  ∃ a c l' v', e = .returned (.tuple #[.int .i64 a, .int .i64 c]) ∧ AllocSays l k a c l' ∧ PgI w0 S w' g n l' v' ∧ Keep S w w'
def FreeI (w0 : World) (S : List Nat) (g n : Nat) (l : List R) (first k : Int) (w : World) (e : Ending) (w' : World) : Prop :=
  ∃ c l' v', e = .returned (.int .i64 c) ∧ FreeSays n l first k c l' ∧ PgI w0 S w' g n l' v' ∧ Keep S w w'
theorem okn_len6 {n : Nat} {l : List R} (h : Okn n l) (hn : n ≤ 262144) : l.length ≤ 1000000 := by have := h.len; omega
theorem sum_bd : ∀ {l : List R} {lo : Nat}, OkF lo l → sumR l + lo ≤ nxt1 lo l
  | [], lo, _ => by simp [sumR, nxt1]
  | r :: t, lo, h => by
    have h1 := sum_bd h.2.2
    have h2 := h.1
    show (r.p + sumR t) + lo ≤ nxt1 (r.f + r.p + 1) t
    omega
theorem okn_sum {n : Nat} {l : List R} (h : Okn n l) (hn : n ≤ 262144) : sumR l ≤ 1000000 := by have := sum_bd h.1; have := h.2; omega
end Go.Proofs.YtcnchgbngcnijaaGreatDoor
namespace Go.Proofs.YtcnchgbngcnijaaGreatDoor

theorem joinR_sum (l : List R) (i : Nat) : sumR (joinR l i) = sumR l := by
  by_cases h : i < l.length
  · obtain ⟨a, r, b, rfl, rfl⟩ : ∃ a r b, l = a ++ r :: b ∧ a.length = i := ⟨l.take i, l[i], l.drop (i + 1), by rw [List.getElem_cons_drop]; exact (List.take_append_drop i l).symm, by rw [List.length_take]; omega⟩
    rw [joinR_at]
    cases b with
    | nil => rfl
    | cons s b' =>
      simp only
      split
      · simp [sumR]; omega
      · rfl
  · unfold joinR
    rw [List.getElem?_eq_none (by omega)]
theorem backR_sum (l : List R) (f k : Nat) : sumR (backR l f k) = sumR l + k := by
  obtain ⟨a, b, e, hl, _, _⟩ := plc_split l f
  have h1 : sumR (l.insertIdx (plc l f) ⟨f, k⟩) = sumR l + k := by
    rw [← hl]
    conv => lhs; rw [e, ins_at]
    rw [e]; simp [sumR]; omega
  unfold backR
  simp only
  split <;> simp [joinR_sum, h1]

/-- Free, where it serves. -/
theorem free_serves {n : Nat} {l : List R} {f k : Nat} {c : Int} {l' : List R} (h : Okn n l) (hk : 1 ≤ k) (hf : 1 ≤ f) (hn : f + k ≤ n) (hno : ∀ x, f ≤ x → x < f + k → ¬ Fr l x) (hs : FreeSays n l f k c l') :
    c = 0 ∧ Okn n l' ∧ sumR l' = sumR l + k ∧ ∀ x, Fr l' x ↔ Fr l x ∨ (f ≤ x ∧ x < f + k) := by
  have hno' : ¬ ∃ x, f ≤ x ∧ x < f + k ∧ Fr l x := by rintro ⟨x, h3, h4, h5⟩; exact hno x h3 h4 h5
  rcases hs with ⟨h1, _⟩ | ⟨_, ⟨h1, _⟩ | ⟨_, hc, hl⟩⟩
  · omega
  · simp only [Int.toNat_natCast] at h1
    exact absurd ((someR_iff h hk).1 h1) hno'
  · simp only [Int.toNat_natCast] at hl
    have h3 := backR_ok h hk hf hn hno'
    rw [hl]
    exact ⟨hc, h3.1, backR_sum l f k, h3.2⟩
end Go.Proofs.YtcnchgbngcnijaaGreatDoor
