/- The walks of view.Same: its parts. -/
import Derived.Test.YtfkgooliglcjkaaVwWords
import Derived.Test.YtfkgooliglcjkaaOwnI3
namespace Go.Proofs.Ytfkgooliglcjkaa
open Go.RowKit Go.Maps

theorem beq_list (xs ys : List Int) : (xs == ys) = decide (xs = ys) := by rw [Bool.eq_iff_iff]; simp
theorem ret_b {a b : Bool} (h : a = b) : Ending.returned (.bool a) = .returned (.bool b) := by rw [h]
theorem equal_sl {w : World} {B B' : Nat} {v u : Value} {xs ys : List Int} (h : SlI w B v xs) (h' : SlI w B' u ys) : Calls Try.prog 57 #[v, u] w (BoolD (decide (xs = ys)) w) := by
  obtain ⟨A, c, rfl⟩ := h.ex
  obtain ⟨A', c', rfl⟩ := h'.ex
  have hl := h.len
  have hl' := h'.len
  unfold maxLen at hl hl'
  cases xs with
  | nil =>
    refine (Try.slices_Equal_int_empty A A' c ys.length c' w (by omega)).mono fun e w' ⟨he, hw⟩ => ⟨?_, 0, hw⟩
    rw [he]
    cases ys with
    | nil => rfl
    | cons y t => simp
  | cons x s =>
    cases ys with
    | nil =>
      refine (Try.slices_Equal_int_lens A A' (x :: s).length c ([] : List Int).length c' w (by simp)).mono fun e w' ⟨he, hw⟩ => ⟨?_, 0, hw⟩
      rw [he]; simp
    | cons y t =>
      obtain ⟨b, off, rfl, _, _⟩ := h.at_ _ _ _ rfl 0 x rfl
      obtain ⟨b', off', rfl, _, _⟩ := h'.at_ _ _ _ rfl 0 y rfl
      refine (Try.slices_Equal_int b off (x :: s).length c b' off' (y :: t).length c' (x :: s) (y :: t) w (Nat.le_refl _) (Nat.le_refl _) (by omega) (by omega) (fun j hj => ?_) (fun j hj => ?_)).mono fun e w' ⟨he, hw⟩ => ⟨?_, hw⟩
      · obtain ⟨b1, o1, e, _, hc⟩ := h.at_ _ _ _ rfl j _ (List.getElem?_eq_getElem hj)
        injection e with e
        injection e with e1 e2
        subst e1 e2
        rw [hc]; simp [List.getD, List.getElem?_eq_getElem hj]
      · obtain ⟨b1, o1, e, _, hc⟩ := h'.at_ _ _ _ rfl j _ (List.getElem?_eq_getElem hj)
        injection e with e
        injection e with e1 e2
        subst e1 e2
        rw [hc]; simp [List.getD, List.getElem?_eq_getElem hj]
      · rw [he, List.take_length, List.take_length, beq_list]
theorem bq {a b : Bool} (h : ¬ a = b) : (a == b) = false := by cases a <;> cases b <;> simp_all
set_option maxHeartbeats 800000 in
theorem same1_ok (w : World) (B B' : Nat) (x y : Ob) (s t : Value) (hs : SlI w B s x.slots) (ht : SlI w B' t y.slots) (hB : B ≤ w.heap.size) (hB' : B' ≤ w.heap.size) :
    Calls Try.prog 56 #[.agg #[.int .i64 x.addr, s, .bool x.marked], .agg #[.int .i64 y.addr, t, .bool y.marked]] w (FdPost (decide (x = y)) w) := by
  obtain ⟨A, c, rfl⟩ := hs.ex
  obtain ⟨A', c', rfl⟩ := ht.ex
  have C := ((Chg.refl [] w).alloc (.cells #[.int .i64 x.addr, .slice A x.slots.length c, .bool x.marked] 30)).alloc (.cells #[.int .i64 y.addr, .slice A' y.slots.length c', .bool y.marked] 30)
  have HC := Lib.hid (And.intro C (And.intro (hs.chg C hB (by simp)) (ht.chg C hB' (by simp)))); clear C hs ht
  obtain ⟨xa, xs, xm⟩ := x
  obtain ⟨ya, ys, ym⟩ := y
  simp only at HC ⊢
  by_cases h1 : xa = ya
  · have q1 : (xa == ya) = true := by rw [beq_iff_eq]; exact h1
    by_cases h2 : xm = ym
    · have q2 : (xm == ym) = true := by rw [beq_iff_eq]; exact h2
      have HE := Lib.hid (And.intro h1 h2); clear h1 h2
      go_enter Try.func56, Try.ntmps56
      go_wp2_with fail
      refine (equal_sl HC.out.2.1 HC.out.2.2).mono ?_
      rintro e w1 ⟨rfl, n, rfl⟩
      go_wp2_with fail
      go_ret
      refine ⟨ret_b ?_, HC.out.1.drewN n⟩
      show decide (xs = ys) = _
      rw [decide_eq_decide, Ob.mk.injEq]
      exact ⟨fun h => ⟨HE.out.1, h, HE.out.2⟩, fun h => h.2.1⟩
    · have q2 := bq h2
      have HE := Lib.hid (show decide ((⟨xa, xs, xm⟩ : Ob) = ⟨ya, ys, ym⟩) = false from decide_eq_false (fun h => h2 (congrArg Ob.marked h))); clear h1 h2
      rw [HE.out]
      go_enter Try.func56, Try.ntmps56
      go_wp2_with fail
      go_ret
      exact ⟨rfl, HC.out.1⟩
  · have q1 : (xa == ya) = false := by rw [beq_eq_false_iff_ne]; exact h1
    have HE := Lib.hid (show decide ((⟨xa, xs, xm⟩ : Ob) = ⟨ya, ys, ym⟩) = false from decide_eq_false (fun h => h1 (congrArg Ob.addr h))); clear h1
    rw [HE.out]
    go_enter Try.func56, Try.ntmps56
    go_wp2_with fail
    go_ret
    exact ⟨rfl, HC.out.1⟩
set_option maxHeartbeats 800000 in
theorem same2_ok (w : World) (B B' : Nat) (x y : Gr) (s t : Value) (hs : SlI w B s x.stack) (ht : SlI w B' t y.stack) (hB : B ≤ w.heap.size) (hB' : B' ≤ w.heap.size) :
    Calls Try.prog 58 #[.agg #[.int .i64 x.state, .int .i64 x.p, s], .agg #[.int .i64 y.state, .int .i64 y.p, t]] w (FdPost (decide (x = y)) w) := by
  obtain ⟨A, c, rfl⟩ := hs.ex
  obtain ⟨A', c', rfl⟩ := ht.ex
  have C := ((Chg.refl [] w).alloc (.cells #[.int .i64 x.state, .int .i64 x.p, .slice A x.stack.length c] 41)).alloc (.cells #[.int .i64 y.state, .int .i64 y.p, .slice A' y.stack.length c'] 41)
  have HC := Lib.hid (And.intro C (And.intro (hs.chg C hB (by simp)) (ht.chg C hB' (by simp)))); clear C hs ht
  obtain ⟨xa, xm, xs⟩ := x
  obtain ⟨ya, ym, ys⟩ := y
  simp only at HC ⊢
  by_cases h1 : xa = ya
  · have q1 : (xa == ya) = true := by rw [beq_iff_eq]; exact h1
    by_cases h2 : xm = ym
    · have q2 : (xm == ym) = true := by rw [beq_iff_eq]; exact h2
      have HE := Lib.hid (And.intro h1 h2); clear h1 h2
      go_enter Try.func58, Try.ntmps58
      go_wp2_with fail
      refine (equal_sl HC.out.2.1 HC.out.2.2).mono ?_
      rintro e w1 ⟨rfl, n, rfl⟩
      go_wp2_with fail
      go_ret
      refine ⟨ret_b ?_, HC.out.1.drewN n⟩
      show decide (xs = ys) = _
      rw [decide_eq_decide, Gr.mk.injEq]
      exact ⟨fun h => ⟨HE.out.1, HE.out.2, h⟩, fun h => h.2.2⟩
    · have q2 : (xm == ym) = false := by rw [beq_eq_false_iff_ne]; exact h2
      have HE := Lib.hid (show decide ((⟨xa, xm, xs⟩ : Gr) = ⟨ya, ym, ys⟩) = false from decide_eq_false (fun h => h2 (congrArg Gr.p h))); clear h1 h2
      rw [HE.out]
      go_enter Try.func58, Try.ntmps58
      go_wp2_with fail
      go_ret
      exact ⟨rfl, HC.out.1⟩
  · have q1 : (xa == ya) = false := by rw [beq_eq_false_iff_ne]; exact h1
    have HE := Lib.hid (show decide ((⟨xa, xm, xs⟩ : Gr) = ⟨ya, ym, ys⟩) = false from decide_eq_false (fun h => h1 (congrArg Gr.state h))); clear h1
    rw [HE.out]
    go_enter Try.func58, Try.ntmps58
    go_wp2_with fail
    go_ret
    exact ⟨rfl, HC.out.1⟩
def EqRel {α : Type} (w0 : World) (xs ys : List α) (gk : Nat) (idx : Value) (w : World) : Prop := ∃ i, gk + i = xs.length + 1 ∧ i ≤ xs.length ∧ idx = .int .i64 (i : Nat) ∧ xs.take i = ys.take i ∧ Chg [] w0 w
theorem take_sn {α : Type} {L : List α} {i : Nat} {a : α} (h : L[i]? = some a) : L.take (i + 1) = L.take i ++ [a] := by
  obtain ⟨hi, rfl⟩ := List.getElem?_eq_some_iff.1 h
  exact List.take_succ_eq_append_getElem hi
theorem ne_at {α : Type} {xs ys : List α} {i : Nat} {x y : α} (hx : xs[i]? = some x) (hy : ys[i]? = some y) (h : x ≠ y) : xs ≠ ys := by
  rintro rfl
  rw [hx] at hy; injection hy with hy; exact h hy
set_option maxHeartbeats 1600000 in
set_option maxRecDepth 100000 in
theorem eqfO_ok (w : World) (B B' : Nat) (A A' : Option Addr) (c c' : Nat) (xs ys : List Ob) (h : ObsAt w B A xs) (h' : ObsAt w B' A' ys) (hB : B ≤ w.heap.size) (hB' : B' ≤ w.heap.size) (hl : xs.length ≤ 1000000) (hl' : ys.length ≤ 1000000) :
    Calls Try.prog 60 #[.slice A xs.length c, .slice A' ys.length c', .func (.func 56) #[] #[]] w (FdPost (decide (xs = ys)) w) := by
  have H := Lib.hid (And.intro h h'); clear h h'
  by_cases hq : xs.length = ys.length
  · have q1 : ((xs.length : Int) != (ys.length : Int)) = false := by simp [hq]
    have q2 : (xs.length != ys.length) = false := by simp [hq]
    have HQ := Lib.hid hq; clear hq
    go_enter Try.func60, Try.ntmps60
    go_wp2_with fail
    go_loopg [17] (xs.length + 1) (fun gk idx wr => EqRel w xs ys gk idx wr)
    case atStart => exact ⟨0, by omega, by omega, rfl, rfl, Chg.refl _ _⟩
    case round =>
      obtain ⟨i, hgk, hin, rfl, ht, C⟩ := hrel
      by_cases e : i < xs.length
      · obtain ⟨x, hx⟩ : ∃ x, xs[i]? = some x := ⟨_, List.getElem?_eq_getElem e⟩
        obtain ⟨y, hy⟩ : ∃ y, ys[i]? = some y := ⟨_, List.getElem?_eq_getElem (by have := HQ.out; omega)⟩
        obtain ⟨b1, o1, s1, rfl, hb1, i0, i1, i2, hs1, -⟩ := (H.out.1.chg C hB (by simp)).at_ i x hx
        obtain ⟨b2, o2, s2, rfl, hb2, j0, j1, j2, hs2, -⟩ := (H.out.2.chg C hB' (by simp)).at_ i y hy
        obtain ⟨As, cs, rfl⟩ := hs1.ex
        obtain ⟨At, ct, rfl⟩ := hs2.ex
        have hi' : (i : Int) < (xs.length : Int) := by omega
        have hi2 : (i : Int) < (ys.length : Int) := by have := HQ.out; omega
        have hi3 : i < ys.length := by have := HQ.out; omega
        have hlt1 : b1 < wr.heap.size := lt_of_cell' i0
        have hlt2 : b2 < wr.heap.size := lt_of_cell' j0
        have HX := Lib.hid (And.intro ht (And.intro C (And.intro hx (And.intro hy (And.intro hs1 hs2))))); clear ht C hx hy hs1 hs2 hb1 hb2
        have KC := Lib.hid (((Chg.refl [] wr).alloc (.cells #[.int .i64 x.addr, .slice As x.slots.length cs, .bool x.marked] 30)).alloc (.cells #[.int .i64 y.addr, .slice At y.slots.length ct, .bool y.marked] 30))
        go_wp2_with fail
        refine (same1_ok _ _ _ x y _ _ (HX.out.2.2.2.2.1.chg KC.out (Nat.le_trans hB HX.out.2.1.size) (by simp)) (HX.out.2.2.2.2.2.chg KC.out (Nat.le_trans hB' HX.out.2.1.size) (by simp)) (Nat.le_trans (Nat.le_trans hB HX.out.2.1.size) KC.out.size) (Nat.le_trans (Nat.le_trans hB' HX.out.2.1.size) KC.out.size)).mono ?_
        rintro e w2 ⟨rfl, C2⟩
        have HC := Lib.hid ((HX.out.2.1.trans KC.out).trans C2); clear C2 i0 i1 i2 j0 j1 j2 hlt1 hlt2
        by_cases hxy : x = y
        · have HE := Lib.hid hxy; clear hxy
          rw [decide_eq_true HE.out]
          go_wp2_with fail
          go_roundg (xs.length - i)
          case measure => omega
          case rel => exact ⟨i + 1, by omega, by omega, by go_num, by rw [take_sn HX.out.2.2.1, take_sn HX.out.2.2.2.1, HX.out.1, HE.out], HC.out⟩
        · have HE := Lib.hid hxy; clear hxy
          rw [decide_eq_false HE.out]
          go_wp2_with fail
          try rw [Exit.noGoto_ret]
          go_ret
          exact ⟨by rw [decide_eq_false (ne_at HX.out.2.2.1 HX.out.2.2.2.1 HE.out)]; rfl, HC.out⟩
      · have e2 : xs.length = i := by omega
        have hi' : ¬ (i : Int) < (xs.length : Int) := by omega
        have e3 : xs = ys := by
          rw [← e2, List.take_length, HQ.out, List.take_length] at ht; exact ht
        have HX := Lib.hid (And.intro e3 C); clear ht C e3 e2 hgk hin e
        go_wp2_with fail
        go_ret
        exact ⟨by rw [decide_eq_true HX.out.1]; rfl, HX.out.2⟩
  · have q1 : ((xs.length : Int) != (ys.length : Int)) = true := by rw [bne_iff_ne]; omega
    have q2 : (xs.length != ys.length) = true := by rw [bne_iff_ne]; exact hq
    have HE := Lib.hid (show decide (xs = ys) = false from decide_eq_false (fun h => hq (by rw [h]))); clear hq
    rw [HE.out]
    go_enter Try.func60, Try.ntmps60
    go_wp2_with fail
    go_ret
    exact ⟨rfl, Chg.refl _ _⟩
set_option maxHeartbeats 1600000 in
set_option maxRecDepth 100000 in
theorem eqfG_ok (w : World) (B B' : Nat) (A A' : Option Addr) (c c' : Nat) (xs ys : List Gr) (h : GrsAt w B A xs) (h' : GrsAt w B' A' ys) (hB : B ≤ w.heap.size) (hB' : B' ≤ w.heap.size) (hl : xs.length ≤ 1000000) (hl' : ys.length ≤ 1000000) :
    Calls Try.prog 59 #[.slice A xs.length c, .slice A' ys.length c', .func (.func 58) #[] #[]] w (FdPost (decide (xs = ys)) w) := by
  have H := Lib.hid (And.intro h h'); clear h h'
  by_cases hq : xs.length = ys.length
  · have q1 : ((xs.length : Int) != (ys.length : Int)) = false := by simp [hq]
    have q2 : (xs.length != ys.length) = false := by simp [hq]
    have HQ := Lib.hid hq; clear hq
    go_enter Try.func59, Try.ntmps59
    go_wp2_with fail
    go_loopg [17] (xs.length + 1) (fun gk idx wr => EqRel w xs ys gk idx wr)
    case atStart => exact ⟨0, by omega, by omega, rfl, rfl, Chg.refl _ _⟩
    case round =>
      obtain ⟨i, hgk, hin, rfl, ht, C⟩ := hrel
      by_cases e : i < xs.length
      · obtain ⟨x, hx⟩ : ∃ x, xs[i]? = some x := ⟨_, List.getElem?_eq_getElem e⟩
        obtain ⟨y, hy⟩ : ∃ y, ys[i]? = some y := ⟨_, List.getElem?_eq_getElem (by have := HQ.out; omega)⟩
        obtain ⟨b1, o1, s1, rfl, hb1, i0, i1, i2, hs1, -⟩ := (H.out.1.chg C hB (by simp)).at_ i x hx
        obtain ⟨b2, o2, s2, rfl, hb2, j0, j1, j2, hs2, -⟩ := (H.out.2.chg C hB' (by simp)).at_ i y hy
        obtain ⟨As, cs, rfl⟩ := hs1.ex
        obtain ⟨At, ct, rfl⟩ := hs2.ex
        have hi' : (i : Int) < (xs.length : Int) := by omega
        have hi2 : (i : Int) < (ys.length : Int) := by have := HQ.out; omega
        have hi3 : i < ys.length := by have := HQ.out; omega
        have hlt1 : b1 < wr.heap.size := lt_of_cell' i0
        have hlt2 : b2 < wr.heap.size := lt_of_cell' j0
        have HX := Lib.hid (And.intro ht (And.intro C (And.intro hx (And.intro hy (And.intro hs1 hs2))))); clear ht C hx hy hs1 hs2 hb1 hb2
        have KC := Lib.hid (((Chg.refl [] wr).alloc (.cells #[.int .i64 x.state, .int .i64 x.p, .slice As x.stack.length cs] 41)).alloc (.cells #[.int .i64 y.state, .int .i64 y.p, .slice At y.stack.length ct] 41))
        go_wp2_with fail
        refine (same2_ok _ _ _ x y _ _ (HX.out.2.2.2.2.1.chg KC.out (Nat.le_trans hB HX.out.2.1.size) (by simp)) (HX.out.2.2.2.2.2.chg KC.out (Nat.le_trans hB' HX.out.2.1.size) (by simp)) (Nat.le_trans (Nat.le_trans hB HX.out.2.1.size) KC.out.size) (Nat.le_trans (Nat.le_trans hB' HX.out.2.1.size) KC.out.size)).mono ?_
        rintro e w2 ⟨rfl, C2⟩
        have HC := Lib.hid ((HX.out.2.1.trans KC.out).trans C2); clear C2 i0 i1 i2 j0 j1 j2 hlt1 hlt2
        by_cases hxy : x = y
        · have HE := Lib.hid hxy; clear hxy
          rw [decide_eq_true HE.out]
          go_wp2_with fail
          go_roundg (xs.length - i)
          case measure => omega
          case rel => exact ⟨i + 1, by omega, by omega, by go_num, by rw [take_sn HX.out.2.2.1, take_sn HX.out.2.2.2.1, HX.out.1, HE.out], HC.out⟩
        · have HE := Lib.hid hxy; clear hxy
          rw [decide_eq_false HE.out]
          go_wp2_with fail
          try rw [Exit.noGoto_ret]
          go_ret
          exact ⟨by rw [decide_eq_false (ne_at HX.out.2.2.1 HX.out.2.2.2.1 HE.out)]; rfl, HC.out⟩
      · have e2 : xs.length = i := by omega
        have hi' : ¬ (i : Int) < (xs.length : Int) := by omega
        have e3 : xs = ys := by
          rw [← e2, List.take_length, HQ.out, List.take_length] at ht; exact ht
        have HX := Lib.hid (And.intro e3 C); clear ht C e3 e2 hgk hin e
        go_wp2_with fail
        go_ret
        exact ⟨by rw [decide_eq_true HX.out.1]; rfl, HX.out.2⟩
  · have q1 : ((xs.length : Int) != (ys.length : Int)) = true := by rw [bne_iff_ne]; omega
    have q2 : (xs.length != ys.length) = true := by rw [bne_iff_ne]; exact hq
    have HE := Lib.hid (show decide (xs = ys) = false from decide_eq_false (fun h => hq (by rw [h]))); clear hq
    rw [HE.out]
    go_enter Try.func59, Try.ntmps59
    go_wp2_with fail
    go_ret
    exact ⟨rfl, Chg.refl _ _⟩
end Go.Proofs.Ytfkgooliglcjkaa
