/- The walks of package page: Free. -/
import Derived.Test.YtkocikpoagfonaaDoorPgJoin
namespace Go.Proofs.YtkocikpoagfonaaDoor
open Go.RowKit

theorem free_bad1 (w : World) (g n : Nat) (v : Value) (l : List R) (I : IsPg w g n v l) (first k : Int) (hk : k < 1) :
    Calls Tryd.prog 41 #[.pointer (some ⟨g, 0, none⟩), .int .i64 first, .int .i64 k] w (PgPost g n v (.int .i64 1) l w) := by
  have H := Lib.hid I; clear I
  go_enter Tryd.func41, Tryd.ntmps41
  go_wp2_with fail
  go_ret
  exact PgPost.same0 H.out
theorem free_bad2 (w : World) (g n : Nat) (v : Value) (l : List R) (I : IsPg w g n v l) (first k : Int) (hk : ¬ k < 1) (hf : first < 1) :
    Calls Tryd.prog 41 #[.pointer (some ⟨g, 0, none⟩), .int .i64 first, .int .i64 k] w (PgPost g n v (.int .i64 1) l w) := by
  have H := Lib.hid I; clear I
  go_enter Tryd.func41, Tryd.ntmps41
  go_wp2_with fail
  go_ret
  exact PgPost.same0 H.out
theorem free_bad3 (w : World) (g n : Nat) (v : Value) (l : List R) (I : IsPg w g n v l) (first k : Int) (hn : n ≤ 1000000) (hk : ¬ k < 1) (hf : ¬ first < 1) (h3 : (n : Int) - 1 < first) :
    Calls Tryd.prog 41 #[.pointer (some ⟨g, 0, none⟩), .int .i64 first, .int .i64 k] w (PgPost g n v (.int .i64 1) l w) := by
  have c0 := I.b.cellv 0 rfl
  have h4 : IntKind.i64.wrap ((n : Int) - 1) = (n : Int) - 1 := by rw [IntKind.wrap_i64]; omega
  have H := Lib.hid I; clear I
  go_enter Tryd.func41, Tryd.ntmps41
  go_wp2_with fail
  go_ret
  exact PgPost.same0 H.out
theorem free_bad4 (w : World) (g n : Nat) (v : Value) (l : List R) (I : IsPg w g n v l) (first k : Int) (hn : n ≤ 1000000) (hk : ¬ k < 1) (hf : ¬ first < 1) (h3 : ¬ (n : Int) - 1 < first) (h5 : (n : Int) - first < k) :
    Calls Tryd.prog 41 #[.pointer (some ⟨g, 0, none⟩), .int .i64 first, .int .i64 k] w (PgPost g n v (.int .i64 1) l w) := by
  have c0 := I.b.cellv 0 rfl
  have h4 : IntKind.i64.wrap ((n : Int) - 1) = (n : Int) - 1 := by rw [IntKind.wrap_i64]; omega
  have h6 : IntKind.i64.wrap ((n : Int) - first) = (n : Int) - first := by rw [IntKind.wrap_i64]; omega
  have H := Lib.hid I; clear I
  go_enter Tryd.func41, Tryd.ntmps41
  go_wp2_with fail
  go_ret
  exact PgPost.same0 H.out
def FrRel (w0 : World) (m : Nat) (gk : Nat) (v : Value) (w : World) : Prop := ∃ i : Nat, gk + i = m + 1 ∧ i ≤ m ∧ v = .int .i64 i ∧ w = w0

theorem front_eq (a b : List R) (first k : Nat) : joinR (a ++ ⟨first, k⟩ :: b) a.length = a ++ frontR first k b := by
  rw [joinR_at]
  cases b with
  | nil => rfl
  | cons s b => unfold frontR; simp only; split <;> rfl


theorem store_pg {W w1 : World} {g n : Nat} {v v1 : Value} {l l' : List R} (I : IsPg W g n v l) (o1 : w1.ownsRow 0 73 2 v1 l'.length (rc l')) (c : Chg (fpv v) W w1) (h : v1.ownBlock = v.ownBlock ∨ ∃ k, v1.ownBlock = some k ∧ W.heap.size ≤ k) :
    Blk w1 g 71 #[.int .i64 n, v] ∧ IsPg (w1.setCell ⟨g, 1, none⟩ v1) g n v1 l' ∧ Stp (g :: fpv v) (g :: fpv v1) W (w1.setCell ⟨g, 1, none⟩ v1) := by
  have B1 := c.blk I.b (fun hm => I.ne (mem_fpv.1 hm))
  refine ⟨B1, ⟨B1.setv 1 _ rfl, own_chg o1 ((Chg.refl [g] _).setCell (.inl (List.mem_cons_self ..)) _) (fun k hk hg => ?_)⟩, ⟨(c.mono fun k hk => .inl (List.mem_cons_of_mem _ hk)).setCell (p := ⟨g, 1, none⟩) (.inl (List.mem_cons_self ..)) _, fun k hk => ?_⟩⟩
  · have : k = g := by simpa using hg
    subst this
    exact own_ne o1 B1 (by decide) hk
  · rcases List.mem_cons.1 hk with rfl | hk
    · exact .inl (List.mem_cons_self ..)
    · have hk := mem_fpv.1 hk
      rcases h with h | ⟨k', h, h2⟩
      · rw [h] at hk; exact .inl (List.mem_cons_of_mem _ (mem_fpv.2 hk))
      · rw [h] at hk; injection hk with hk; subst hk; exact .inr h2

/-- What Free finds ahead of its stores: the place is M, the pages are nobody's. -/
structure FrOk (L : List R) (M first k : Nat) : Prop where
  lt : ∀ i, i < M → ∃ s, L[i]? = some s ∧ s.f < first
  X : M = 0 ∨ ∃ m q, M = m + 1 ∧ L[m]? = some q ∧ q.f + q.p ≤ first
  Y : M = L.length ∨ ∃ c, L[M]? = some c ∧ first + k ≤ c.f

theorem ins_call {w : World} {g n : Nat} {v : Value} {L : List R} (I : IsPg w g n v L) {a b : List R} (hLab : L = a ++ b) (first k : Nat) (hl : L.length ≤ 999999) (nq : Nat) (x : Int) (hx : x = (a.length : Int)) :
    Calls Tryd.prog 65 #[v, .int .i64 x, .slice (some ⟨w.heap.size, 0, none⟩) 1 1] ((w.drewN nq).alloc (.cells #[.int .i64 first, .int .i64 k] 73)) (InsPost v (a ++ ⟨first, k⟩ :: b) ((w.drewN nq).alloc (.cells #[.int .i64 first, .int .i64 k] 73))) := by
  subst hLab
  refine insert_ok _ v a b ⟨first, k⟩ _ ((I.drewN nq).o.alloc _) (by omega) (Blk.new _ _ _) (fun h => ?_) x hx
  have h2 := own_lt I.o h
  exact Nat.lt_irrefl _ h2
theorem ins_store {w : World} {g n : Nat} {v : Value} {L : List R} (I : IsPg w g n v L) {l' : List R} {nq : Nat} {o : Obj} {e : Ending} {w1 : World} (hp : InsPost v l' ((w.drewN nq).alloc o) e w1) :
    ∃ A1 N k1, e = .returned (.slice A1 N k1) ∧ Blk w1 g 71 #[.int .i64 n, v] ∧ IsPg (w1.setCell ⟨g, 1, none⟩ (.slice A1 N k1)) g n (.slice A1 N k1) l' ∧ Stp (g :: fpv v) (g :: fpv (.slice A1 N k1)) w (w1.setCell ⟨g, 1, none⟩ (.slice A1 N k1)) := by
  obtain ⟨v', rfl, o1, c1, hv⟩ := hp
  obtain ⟨A1, k1, rfl⟩ := own_slice o1
  have C : Chg (fpv v) w w1 := (((Chg.refl (fpv v) w).drewN nq).alloc o).trans c1
  refine ⟨A1, _, k1, rfl, store_pg I o1 C (hv.imp id ?_)⟩
  rintro ⟨k, h1, h2⟩
  refine ⟨k, h1, Nat.le_trans ?_ h2⟩
  have := (((Chg.refl (fpv v) w).drewN nq).alloc o).size
  exact this
theorem join2_call {w : World} {g n : Nat} {v : Value} {a c : List R} (I : IsPg w g n v (a ++ c)) (m : Nat) (ha : a.length = m + 1) (hl : (a ++ c).length ≤ 1000000) (hb : ∀ s ∈ a ++ c, s.f + s.p ≤ 1000000) (x : Int) (hx : x = m) :
    Calls Tryd.prog 66 #[.pointer (some ⟨g, 0, none⟩), .int .i64 x] w (PgPost g n v (.tuple #[]) (joinR (a ++ c) m) w) := by
  have hne : a ≠ [] := by rintro rfl; simp at ha
  have e : a = a.dropLast ++ [a.getLast hne] := (List.dropLast_concat_getLast hne).symm
  have el : a.dropLast.length = m := by simp [ha]
  rw [e, List.append_assoc, List.singleton_append] at I hl hb ⊢
  rw [← el]
  exact join_ok w g n v _ _ _ I hl hb x (by rw [hx, el])
theorem front_bd {L a b : List R} {first k : Nat} (hLab : L = a ++ b) (hb : ∀ s ∈ L, s.f + s.p ≤ 1000000) (h : first + k ≤ 1000000) : (∀ s ∈ a ++ ⟨first, k⟩ :: b, s.f + s.p ≤ 1000000) ∧ ∀ s ∈ a ++ frontR first k b, s.f + s.p ≤ 1000000 := by
  subst hLab
  constructor
  · intro s hs
    rcases List.mem_append.1 hs with hs | hs
    · exact hb s (List.mem_append_left _ hs)
    · rcases List.mem_cons.1 hs with rfl | hs
      · exact h
      · exact hb s (List.mem_append_right _ hs)
  · intro s hs
    rcases List.mem_append.1 hs with hs | hs
    · exact hb s (List.mem_append_left _ hs)
    · cases b with
      | nil =>
        have : s = ⟨first, k⟩ := by simpa [frontR] using hs
        subst this; exact h
      | cons c t =>
        have hc := hb c (by simp)
        simp only [frontR] at hs
        split at hs
        · next he =>
          rcases List.mem_cons.1 hs with rfl | hs
          · show first + (k + c.p) ≤ 1000000; omega
          · exact hb s (by simp [hs])
        · rcases List.mem_cons.1 hs with rfl | hs
          · exact h
          · exact hb s (List.mem_append_right _ hs)
theorem front_len {L a b : List R} {first k : Nat} (hLab : L = a ++ b) (hl : L.length ≤ 999999) : (a ++ (⟨first, k⟩ : R) :: b).length ≤ 1000000 ∧ (a ++ frontR first k b).length ≤ 1000000 := by
  subst hLab
  simp only [List.length_append, List.length_cons] at hl ⊢
  refine ⟨by omega, ?_⟩
  cases b with
  | nil => simp [frontR] at hl ⊢; omega
  | cons c t => simp only [frontR]; split <;> simp only [List.length_cons] at hl ⊢ <;> omega

set_option maxHeartbeats 3200000 in
set_option maxRecDepth 100000 in
theorem free_some (w : World) (g n : Nat) (v : Value) (L : List R) (I : IsPg w g n v L) (M first k : Nat) (hl : L.length ≤ 999999) (hb : ∀ s ∈ L, s.f + s.p ≤ 1000000) (hn : n ≤ 1000000) (hk : 1 ≤ k) (hf : 1 ≤ first) (hnk : first + k ≤ n) (F : FrOk L M first k) (hL : 0 < L.length) (a b : List R) (hLab : L = a ++ b) (hMa : M = a.length) (hpl : a.length = plc (a ++ b) first) :
    Calls Tryd.prog 41 #[.pointer (some ⟨g, 0, none⟩), .int .i64 first, .int .i64 k] w (PgPost g n v (.int .i64 0) (backR L first k) w) := by
  have c0 := I.b.cellv 0 rfl
  obtain ⟨g', cap, rest, rfl, hbb, hll, hc, hm, _⟩ := own_open I.o hL
  have c1 := I.b.cellv 1 rfl
  have h1 : ¬ (k : Int) < 1 := by omega
  have h2 : ¬ (first : Int) < 1 := by omega
  have h3 : ¬ (n : Int) - 1 < (first : Int) := by omega
  have h4 : IntKind.i64.wrap ((n : Int) - 1) = (n : Int) - 1 := by rw [IntKind.wrap_i64]; omega
  have h5 : ¬ (n : Int) - (first : Int) < (k : Int) := by omega
  have h6 : IntKind.i64.wrap ((n : Int) - (first : Int)) = (n : Int) - (first : Int) := by rw [IntKind.wrap_i64]; omega
  have H := Lib.hid (And.intro I (And.intro F (And.intro hbb (And.intro hb (And.intro hLab (And.intro hMa hpl)))))); clear I F hbb hll hc hb hLab hMa hpl
  go_enter Tryd.func41, Tryd.ntmps41
  go_wp2_with fail
  go_loopg [7] (M + 1) (fun gk v wr => FrRel w M gk v wr)
  case atStart => exact ⟨0, by omega, by omega, rfl, rfl⟩
  case round =>
    obtain ⟨i, hgk, hin, rfl, rfl⟩ := hrel
    by_cases e : i < M
    · obtain ⟨s, hs, hsf⟩ := H.out.2.1.lt i e
      have hiL := (List.getElem?_eq_some_iff.1 hs).1
      have i0 := H.out.2.2.1.cellv (i * 2) (by simpa using (rc_at hs rest).1)
      have hi' : (i : Int) < (L.length : Int) := by omega
      have hi2 : (s.f : Int) < (first : Int) := by omega
      clear hs
      go_wp2_with fail
      go_roundg (M - i)
      case measure => omega
      case rel => exact ⟨i + 1, by omega, by omega, by go_num, rfl⟩
    · obtain rfl : i = M := by omega
      clear hgk hin e
      rcases H.out.2.1.X with rfl | ⟨m, q, rfl, hq, hqe⟩ <;> rcases H.out.2.1.Y with hY | ⟨c, hcc, hce⟩
      · omega
      · have hcL := (List.getElem?_eq_some_iff.1 hcc).1
        have i0 := H.out.2.2.1.cellv (0 * 2) (by simpa using (rc_at hcc rest).1)
        have hi' : (0 : Int) < (L.length : Int) := by omega
        have hi2 : ¬ (c.f : Int) < (first : Int) := by omega
        have hi2' : ¬ c.f < first := by omega
        have hi3 : decide ((0 : Int) < (L.length : Int)) = true := by simpa using hi'
        have hi3' : decide (0 < L.length) = true := by simp; omega
        have hi4 : decide ((c.f : Int) < (first : Int) + (k : Int)) = false := by simp; omega
        have hi4' : decide (c.f < first + k) = false := by simp; omega
        have hi5 : IntKind.i64.wrap ((first : Int) + (k : Int)) = (first : Int) + (k : Int) := by rw [IntKind.wrap_i64]; omega
        clear hcc hce
        go_wp2_with fail
        go_quiet (fail)
        go_wp2_with fail
        refine (ins_call H.out.1 H.out.2.2.2.2.1 first k hl nq _ (by have := H.out.2.2.2.2.2.1; omega)).mono ?_
        rintro e w1 hp
        obtain ⟨A1, N, k1, rfl, B1, I2, S2⟩ := ins_store H.out.1 hp
        have b1 := B1.cellv 1 rfl
        have b2 := B1.frozen 1
        have HI := Lib.hid (And.intro I2 S2); clear B1 I2 S2 hp
        go_wp2_with fail
        refine (join_ok _ g n _ a b ⟨first, k⟩ HI.out.1 (front_len H.out.2.2.2.2.1 hl).1 (front_bd H.out.2.2.2.2.1 H.out.2.2.2.1 (by omega)).1 _ (by have := H.out.2.2.2.2.2.1; omega)).mono ?_
        rintro e w2 ⟨rfl, v2, I3, S3⟩
        rw [front_eq] at I3
        have HJ := Lib.hid (And.intro I3 S3); clear I3 S3
        go_wp2_with fail
        refine (join_neg _ g n _ _ HJ.out.1).mono ?_
        rintro e w3 ⟨rfl, v3, I4, S4⟩
        have HK := Lib.hid (And.intro I4 S4); clear I4 S4
        go_wp2_with fail
        go_ret
        refine ⟨rfl, v3, ?_, (HI.out.2.trans HJ.out.2).trans HK.out.2⟩
        have ha : a = [] := List.eq_nil_of_length_eq_zero H.out.2.2.2.2.2.1.symm
        rw [H.out.2.2.2.2.1, backR_split H.out.2.2.2.2.2.2, if_pos ha]
        have := HK.out.1
        rw [ha] at this
        exact this
      · have hmL := (List.getElem?_eq_some_iff.1 hq).1
        have i0 := H.out.2.2.1.cellv (m * 2) (by simpa using (rc_at hq rest).1)
        have i1 := H.out.2.2.1.cellv (m * 2 + 1) (by simpa using (rc_at hq rest).2)
        have hi' : (m : Int) < (L.length : Int) := by omega
        have hi2 : ¬ ((m : Int) + 1 < (L.length : Int)) := by omega
        have hi2' : ¬ (m + 1 < L.length) := by omega
        have hi3 : decide ((0 : Int) < (m : Int) + 1) = true := decide_eq_true (by omega)
        have hi4 : decide ((first : Int) < (q.f : Int) + (q.p : Int)) = false := by simp; omega
        have hi4' : decide (first < q.f + q.p) = false := by simp; omega
        have hi5 : IntKind.i64.wrap ((q.f : Int) + (q.p : Int)) = (q.f : Int) + (q.p : Int) := by rw [IntKind.wrap_i64]; omega
        have hi6 : IntKind.i64.wrap (m : Int) = (m : Int) := by rw [IntKind.wrap_i64]; omega
        have hi7 : decide ((m : Int) + 1 < (L.length : Int)) = false := by simp; omega
        have hi7' : decide (m + 1 < L.length) = false := by simp; omega
        clear hq hqe hY
        go_wp2_with fail
        go_quiet (fail)
        go_wp2_with fail
        refine (ins_call H.out.1 H.out.2.2.2.2.1 first k hl nq _ (by have := H.out.2.2.2.2.2.1; omega)).mono ?_
        rintro e w1 hp
        obtain ⟨A1, N, k1, rfl, B1, I2, S2⟩ := ins_store H.out.1 hp
        have b1 := B1.cellv 1 rfl
        have b2 := B1.frozen 1
        have HI := Lib.hid (And.intro I2 S2); clear B1 I2 S2 hp
        go_wp2_with fail
        refine (join_ok _ g n _ a b ⟨first, k⟩ HI.out.1 (front_len H.out.2.2.2.2.1 hl).1 (front_bd H.out.2.2.2.2.1 H.out.2.2.2.1 (by omega)).1 _ (by have := H.out.2.2.2.2.2.1; omega)).mono ?_
        rintro e w2 ⟨rfl, v2, I3, S3⟩
        rw [front_eq] at I3
        have HJ := Lib.hid (And.intro I3 S3); clear I3 S3
        go_wp2_with fail
        refine (join2_call HJ.out.1 m H.out.2.2.2.2.2.1.symm (front_len H.out.2.2.2.2.1 hl).2 (front_bd H.out.2.2.2.2.1 H.out.2.2.2.1 (by omega)).2 _ (by omega)).mono ?_
        rintro e w3 ⟨rfl, v3, I4, S4⟩
        have HK := Lib.hid (And.intro I4 S4); clear I4 S4
        go_wp2_with fail
        go_ret
        refine ⟨rfl, v3, ?_, (HI.out.2.trans HJ.out.2).trans HK.out.2⟩
        have ha := H.out.2.2.2.2.2.1
        have hne : a ≠ [] := by rintro rfl; simp at ha
        rw [H.out.2.2.2.2.1, backR_split H.out.2.2.2.2.2.2, if_neg hne, ← ha]
        exact HK.out.1
      · have hmL := (List.getElem?_eq_some_iff.1 hq).1
        have hcL := (List.getElem?_eq_some_iff.1 hcc).1
        have i0 := H.out.2.2.1.cellv (m * 2) (by simpa using (rc_at hq rest).1)
        have i1 := H.out.2.2.1.cellv (m * 2 + 1) (by simpa using (rc_at hq rest).2)
        have j0 := H.out.2.2.1.cellv ((m + 1) * 2) (by simpa using (rc_at hcc rest).1)
        have hi' : (m : Int) < (L.length : Int) := by omega
        have hj' : (m : Int) + 1 < (L.length : Int) := by omega
        have hj1 : (0 : Int) ≤ (m : Int) + 1 := by omega
        have hj2 : ((m : Int) + 1).toNat = m + 1 := by omega
        have hi2 : ¬ (c.f : Int) < (first : Int) := by omega
        have hi2' : ¬ c.f < first := by omega
        have hi3 : decide ((0 : Int) < (m : Int) + 1) = true := decide_eq_true (by omega)
        have hi4 : decide ((first : Int) < (q.f : Int) + (q.p : Int)) = false := by simp; omega
        have hi4' : decide (first < q.f + q.p) = false := by simp; omega
        have hi5 : IntKind.i64.wrap ((q.f : Int) + (q.p : Int)) = (q.f : Int) + (q.p : Int) := by rw [IntKind.wrap_i64]; omega
        have hi6 : IntKind.i64.wrap (m : Int) = (m : Int) := by rw [IntKind.wrap_i64]; omega
        have hi7 : decide ((m : Int) + 1 < (L.length : Int)) = true := by simp; omega
        have hi7' : decide (m + 1 < L.length) = true := by simp; omega
        have hi8 : decide ((c.f : Int) < (first : Int) + (k : Int)) = false := by simp; omega
        have hi8' : decide (c.f < first + k) = false := by simp; omega
        have hi9 : IntKind.i64.wrap ((first : Int) + (k : Int)) = (first : Int) + (k : Int) := by rw [IntKind.wrap_i64]; omega
        clear hq hqe hcc hce
        go_wp2_with fail
        go_quiet (fail)
        go_wp2_with fail
        refine (ins_call H.out.1 H.out.2.2.2.2.1 first k hl nq _ (by have := H.out.2.2.2.2.2.1; omega)).mono ?_
        rintro e w1 hp
        obtain ⟨A1, N, k1, rfl, B1, I2, S2⟩ := ins_store H.out.1 hp
        have b1 := B1.cellv 1 rfl
        have b2 := B1.frozen 1
        have HI := Lib.hid (And.intro I2 S2); clear B1 I2 S2 hp
        go_wp2_with fail
        refine (join_ok _ g n _ a b ⟨first, k⟩ HI.out.1 (front_len H.out.2.2.2.2.1 hl).1 (front_bd H.out.2.2.2.2.1 H.out.2.2.2.1 (by omega)).1 _ (by have := H.out.2.2.2.2.2.1; omega)).mono ?_
        rintro e w2 ⟨rfl, v2, I3, S3⟩
        rw [front_eq] at I3
        have HJ := Lib.hid (And.intro I3 S3); clear I3 S3
        go_wp2_with fail
        refine (join2_call HJ.out.1 m H.out.2.2.2.2.2.1.symm (front_len H.out.2.2.2.2.1 hl).2 (front_bd H.out.2.2.2.2.1 H.out.2.2.2.1 (by omega)).2 _ (by omega)).mono ?_
        rintro e w3 ⟨rfl, v3, I4, S4⟩
        have HK := Lib.hid (And.intro I4 S4); clear I4 S4
        go_wp2_with fail
        go_ret
        refine ⟨rfl, v3, ?_, (HI.out.2.trans HJ.out.2).trans HK.out.2⟩
        have ha := H.out.2.2.2.2.2.1
        have hne : a ≠ [] := by rintro rfl; simp at ha
        rw [H.out.2.2.2.2.1, backR_split H.out.2.2.2.2.2.2, if_neg hne, ← ha]
        exact HK.out.1
end Go.Proofs.YtkocikpoagfonaaDoor
