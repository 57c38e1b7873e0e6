/- The walk of package audit: objects. -/
import Derived.Test.YtfkgooliglcjkaaAu2
namespace Go.Proofs.Ytfkgooliglcjkaa
open Go.RowKit Go.Maps

/-- The object at i is no object, or reaches into the one before it. -/
def ObBad (os : List Ob) (i : Nat) : Prop := ∃ o, os[i]? = some o ∧ (o.addr < 64 ∨ owN o.slots.length = 0 ∨ ∃ j p, i = j + 1 ∧ os[j]? = some p ∧ (o.addr ≤ p.addr ∨ o.addr - p.addr < (owN p.slots.length : Int)))
open Classical in
noncomputable def brkOb (V : Vw) : Bool := decide (∃ i, ObBad V.objects i)
open Classical in
theorem brkOb_yes {V : Vw} {i : Nat} {x : Ob} (hx : V.objects[i]? = some x) (h : x.addr < 64 ∨ owN x.slots.length = 0 ∨ ∃ j p, i = j + 1 ∧ V.objects[j]? = some p ∧ (x.addr ≤ p.addr ∨ x.addr - p.addr < (owN p.slots.length : Int))) : brkOb V = true := by
  unfold brkOb; exact decide_eq_true ⟨i, x, hx, h⟩
open Classical in
theorem brkOb_no {V : Vw} (h : ∀ j, j < V.objects.length → ¬ ObBad V.objects j) : brkOb V = false := by
  unfold brkOb
  refine decide_eq_false ?_
  rintro ⟨i, x, hx, hb⟩
  exact h i (List.getElem?_eq_some_iff.1 hx).1 ⟨x, hx, hb⟩
theorem obOk_addr {os : List Ob} {j : Nat} {p : Ob} (h : ¬ ObBad os j) (hp : os[j]? = some p) : ¬ p.addr < 64 := fun ha => h ⟨p, hp, .inl ha⟩
theorem obRel_zero {os : List Ob} {x : Ob} (hx : os[0]? = some x) (ha : ¬ x.addr < 64) (h0 : ¬ owN x.slots.length = 0) : ∀ j, j < 1 → ¬ ObBad os j := by
  intro j hj
  have e : j = 0 := by omega
  subst e
  rintro ⟨o, ho, h⟩
  rw [hx] at ho; injection ho with ho; subst ho
  rcases h with h | h | ⟨j, p, h, _⟩
  · exact ha h
  · exact h0 h
  · omega
theorem obRel_succ {os : List Ob} {j : Nat} {x p : Ob} (ht : ∀ k, k < j + 1 → ¬ ObBad os k) (hx : os[j + 1]? = some x) (hp : os[j]? = some p) (ha : ¬ x.addr < 64) (h0 : ¬ owN x.slots.length = 0) (h1 : ¬ x.addr ≤ p.addr) (h2 : ¬ x.addr - p.addr < (owN p.slots.length : Int)) : ∀ k, k < j + 2 → ¬ ObBad os k := by
  intro k hk
  rcases Nat.lt_or_ge k (j + 1) with h | h
  · exact ht k h
  · have e : k = j + 1 := by omega
    subst e
    rintro ⟨o, ho, h⟩
    rw [hx] at ho; injection ho with ho; subst ho
    rcases h with h | h | ⟨j', p', h, hp', h3⟩
    · exact ha h
    · exact h0 h
    · have e : j' = j := by omega
      subst e
      rw [hp] at hp'; injection hp' with hp'; subst hp'
      rcases h3 with h3 | h3
      · exact h1 h3
      · exact h2 h3
theorem keepOb {w2 W : World} {a b c d e : Nat} {i j k l m : Nat} {v1 v2 v3 v4 v5 : Value} (h1 : w2.cell? ⟨a, i, none⟩ = some v1) (h2 : w2.cell? ⟨b, j, none⟩ = some v2) (h3 : w2.cell? ⟨c, k, none⟩ = some v3) (h4 : w2.cell? ⟨d, l, none⟩ = some v4) (h5 : w2.cell? ⟨e, m, none⟩ = some v5) (D : Chg [] w2 W) :
    W.cell? ⟨a, i, none⟩ = some v1 ∧ W.cell? ⟨b, j, none⟩ = some v2 ∧ W.cell? ⟨c, k, none⟩ = some v3 ∧ W.cell? ⟨d, l, none⟩ = some v4 ∧ W.cell? ⟨e, m, none⟩ = some v5 ∧ Chg [] w2 W :=
  ⟨D.cellv (lt_of_cell' h1) (by simp) h1, D.cellv (lt_of_cell' h2) (by simp) h2, D.cellv (lt_of_cell' h3) (by simp) h3, D.cellv (lt_of_cell' h4) (by simp) h4, D.cellv (lt_of_cell' h5) (by simp) h5, D⟩
def ObRel (w0 : World) (os : List Ob) (gk : Nat) (idx : Value) (w : World) : Prop :=
  ∃ i, gk + i = os.length + 1 ∧ i ≤ os.length ∧ idx = .int .i64 (i : Nat) ∧ (∀ j, j < i → ¬ ObBad os j) ∧ Chg [] w0 w
set_option maxHeartbeats 12800000 in
set_option maxRecDepth 100000 in
theorem aobjects_ok (w : World) (v : Value) (V : Vw) (ps : Int) (h : VwAt w w.heap.size v V) (hS : Small V) : Calls Try.prog 76 #[v, .int .i64 ps] w (FdPost (brkOb V) w) := by
  have HV := Lib.hid h
  obtain ⟨g, A1, c1, A2, c2, rfl, h1, h2, h3, h4, h5⟩ := h.ex
  obtain ⟨A0, c0, rfl⟩ := h1.ex
  have C1 := (Chg.refl [] w).alloc (.cells (vwBox V A0 c0 A1 c1 A2 c2) 26)
  have B1 := Blk.new w 26 (vwBox V A0 c0 A1 c1 A2 c2)
  have HB := Lib.hid (And.intro C1 B1)
  have HG := Lib.hid h2
  have HO := Lib.hid h3
  have hO := hS.o
  have hG := hS.g
  unfold vwBox at HB
  clear C1 B1 h h1 h2 h3 h4 h5
  go_enter Try.func76, Try.ntmps76
  go_upto_region 1 with fail
  generalize (w.alloc (.cells #[.int .i64 V.phase, .int .i64 V.cycle, .int .i64 V.clock, .slice A0 V.globals.length c0, .slice A1 V.gs.length c1, .slice A2 V.objects.length c2, .int .i64 V.grey, .int .i64 V.notes, .int .i64 V.roots] 26)) = X at HB ⊢
  obtain ⟨b0, b1, b2, b3, b4, b5, b6, b7, b8⟩ := boxC HB.out.2
  clear b0 b1 b2 b3 b4 b6 b7 b8
  go_wp2_with fail
  go_loopg [10] (V.objects.length + 1) (fun gk idx wr => ObRel X V.objects gk idx wr)
  case atStart => exact ⟨0, by omega, by omega, rfl, fun j hj => by omega, Chg.refl _ _⟩
  case round =>
    obtain ⟨i, hgk, hin, rfl, ht, C⟩ := hrel
    have CC := HB.out.1.trans C
    by_cases e : i < V.objects.length
    · obtain ⟨x, hx⟩ : ∃ x, V.objects[i]? = some x := ⟨_, List.getElem?_eq_getElem e⟩
      obtain ⟨b1, o1, s1, eA, hb1, i0, i1, i2, hs1, hwx⟩ := (HO.out.chg CC (Nat.le_refl _) (by simp)).at_ i x hx
      obtain ⟨As, cs, rfl⟩ := hs1.ex
      have hsl := hs1.len
      unfold maxLen at hsl
      have hi' : (i : Int) < (V.objects.length : Int) := by omega
      have CN := C.alloc (.cells #[.int .i64 x.addr, .slice As x.slots.length cs, .bool x.marked] 30)
      have K := Blk.new wr 30 #[.int .i64 x.addr, .slice As x.slots.length cs, .bool x.marked]
      have HX := Lib.hid (And.intro ht (And.intro CN (And.intro hx (And.intro hwx K)))); clear ht C CN hs1 hb1 CC hwx K
      subst eA
      go_upto_region 4 with fail
      generalize (wr.alloc (.cells #[.int .i64 x.addr, .slice As x.slots.length cs, .bool x.marked] 30)) = W1 at HX ⊢
      generalize wr.heap.size = gg at HX ⊢
      clear i0 i1 i2
      have z0 : W1.cell? ⟨gg, 0, none⟩ = some (.int .i64 x.addr) := HX.out.2.2.2.2.cellv 0 rfl
      have z1 : W1.cell? ⟨gg, 1, none⟩ = some (.slice As x.slots.length cs) := HX.out.2.2.2.2.cellv 1 rfl
      have z2 : W1.cell? ⟨gg, 2, none⟩ = some (.bool x.marked) := HX.out.2.2.2.2.cellv 2 rfl
      by_cases ha : x.addr < 64
      · have HQ := Lib.hid (brkOb_yes hx (.inl ha))
        clear hx
        go_wp2_with fail
        try rw [Exit.noGoto_ret]
        go_ret
        exact ⟨by rw [HQ.out]; rfl, HB.out.1.trans HX.out.2.1⟩
      · have HA := Lib.hid ha
        go_wp2_with fail
        refine (asize_ok _ _ _ _ _ _ hsl).mono ?_
        rintro e w2 ⟨rfl, C2⟩
        have HC := Lib.hid (And.intro (HX.out.2.1.trans C2) (C2.blk HX.out.2.2.2.2 (by simp))); clear C2 z0 z1 z2
        by_cases h0 : owN x.slots.length = 0
        · have HQ := Lib.hid (brkOb_yes hx (.inr (.inl h0)))
          rw [h0]
          clear hx h0
          go_wp2_with fail
          try rw [Exit.noGoto_ret]
          go_ret
          exact ⟨by rw [HQ.out]; rfl, HB.out.1.trans HC.out.1⟩
        · have hz : ((owN x.slots.length : Int) == 0) = false := by rw [beq_eq_false_iff_ne]; omega
          have hz2 : (owN x.slots.length == 0) = false := by rw [beq_eq_false_iff_ne]; exact h0
          have z0 : w2.cell? ⟨gg, 0, none⟩ = some (.int .i64 x.addr) := HC.out.2.cellv 0 rfl
          have z1 : w2.cell? ⟨gg, 1, none⟩ = some (.slice As x.slots.length cs) := HC.out.2.cellv 1 rfl
          have z2 : w2.cell? ⟨gg, 2, none⟩ = some (.bool x.marked) := HC.out.2.cellv 2 rfl
          have b5 : w2.cell? ⟨w.heap.size, 5, none⟩ = some (.slice (some ⟨b1, o1, none⟩) V.objects.length c2) := (HC.out.1.blk HB.out.2 (by simp)).cellv 5 rfl
          cases i with
          | zero =>
            have HQ := Lib.hid (obRel_zero hx (by have := HA.out; omega) h0); clear hx h0
            go_wp2_with fail
            go_quiet (fail)
            go_wp2_with fail
            go_roundg (V.objects.length - 0)
            case measure => omega
            case rel => exact ⟨1, by omega, by omega, by go_num, HQ.out, HC.out.1.drewN _⟩
          | succ j =>
            obtain ⟨p, hp⟩ : ∃ p, V.objects[j]? = some p := ⟨_, List.getElem?_eq_getElem (by omega)⟩
            obtain ⟨b2, o2, s2, eB, hb2, j0, j1, j2, hs2, hwp⟩ := (HO.out.chg (HB.out.1.trans HC.out.1) (Nat.le_refl _) (by simp)).at_ j p hp
            injection eB with eB
            injection eB with e1 e2
            subst e1 e2
            obtain ⟨At, ct, rfl⟩ := hs2.ex
            have hsl2 := hs2.len
            unfold maxLen at hsl2
            have hpa : ¬ p.addr < 64 := obOk_addr (HX.out.1 j (by omega)) hp
            have hj1 : (0 : Int) < (j : Int) + 1 := by omega
            have hj2 : decide ((0 : Int) < (j : Int) + 1) = true := decide_eq_true hj1
            have hj3 : (0 : Int) ≤ (j : Int) := by omega
            have hj4 : (j : Int) < (V.objects.length : Int) := by omega
            have hw1 : IntKind.i64.wrap (j : Int) = (j : Int) := by rw [IntKind.wrap_i64]; omega
            have hw2 : IntKind.i64.wrap ((j : Int) + 1 - 1) = (j : Int) := by rw [Int.add_sub_cancel]; exact hw1
            clear hs2 hb2
            by_cases hge : x.addr ≤ p.addr
            · have hd : decide (x.addr ≤ p.addr) = true := decide_eq_true hge
              have HQ := Lib.hid (brkOb_yes hx (.inr (.inr ⟨j, p, rfl, hp, .inl hge⟩))); clear hx hp hge h0
              go_wp2_with fail
              go_quiet (fail)
              go_wp2_with fail
              try rw [Exit.noGoto_ret]
              go_ret
              exact ⟨by rw [HQ.out]; rfl, (HB.out.1.trans HC.out.1).drewN _⟩
            · have hd : decide (x.addr ≤ p.addr) = false := decide_eq_false hge
              have hxw := HX.out.2.2.2.1
              have hw3 : IntKind.i64.wrap (x.addr - p.addr) = x.addr - p.addr := by have := hxw.2; rw [IntKind.wrap_i64]; omega
              have HH := Lib.hid (And.intro hx (And.intro hp (And.intro hge h0))); clear hx hp hge h0 hxw
              have KB := Lib.hid (HC.out.1.blk HB.out.2 (by simp))
              have HJ := Lib.hid (And.intro j0 (And.intro j1 j2))
              have k0 : Chg [] w2 w2 := Chg.refl _ _
              go_upto_region 6 with fail
              go_region_held3 (fun w' => w'.cell? ⟨w.heap.size, 5, none⟩ = some (.slice (some ⟨b1, o1, none⟩) V.objects.length c2) ∧ w'.cell? ⟨gg, 0, none⟩ = some (.int .i64 x.addr) ∧ w'.cell? ⟨b1, o1 + j * 3, none⟩ = some (.int .i64 p.addr) ∧ w'.cell? ⟨b1, o1 + j * 3 + 1, none⟩ = some (.slice At p.slots.length ct) ∧ w'.cell? ⟨b1, o1 + j * 3 + 2, none⟩ = some (.bool p.marked) ∧ Chg [] w2 w')
                ((refine keepOb b5 z0 j0 j1 j2 ?_; (first | assumption | exact Chg.refl _ _ | exact (Chg.refl _ _).drew)))
                (first | (go_at_call 87; refine (asize_ok _ _ _ _ _ _ hsl2).mono ?_; rintro e w3 ⟨rfl, C3⟩; have D : Chg [] w2 w3 := Chg.trans (by (first | assumption | exact Chg.refl _ _ | exact (Chg.refl _ _).drew)) C3))
              have HD := Lib.hid (HC.out.1.trans ‹Chg [] w2 w3›)
              clear b5 z0 z1 z2 j0 j1 j2 C3 D
              by_cases hlt : x.addr - p.addr < (owN p.slots.length : Int)
              · have hd2 : decide (x.addr - p.addr < (owN p.slots.length : Int)) = true := decide_eq_true hlt
                have HQ := Lib.hid (brkOb_yes HH.out.1 (.inr (.inr ⟨j, p, rfl, HH.out.2.1, .inr hlt⟩)))
                go_wp2_with fail
                try rw [Exit.noGoto_ret]
                go_ret
                exact ⟨by rw [HQ.out]; rfl, HB.out.1.trans HD.out⟩
              · have hd2 : decide (x.addr - p.addr < (owN p.slots.length : Int)) = false := decide_eq_false hlt
                have HQ := Lib.hid (obRel_succ HX.out.1 HH.out.1 HH.out.2.1 (by have := HA.out; omega) HH.out.2.2.2 (by have := HH.out.2.2.1; omega) hlt)
                go_wp2_with fail
                go_roundg (V.objects.length - (j + 1))
                case measure => omega
                case rel => exact ⟨j + 2, by omega, by omega, by go_num, HQ.out, HD.out⟩
    · have e2 : V.objects.length = i := by omega
      have hi' : ¬ (i : Int) < (V.objects.length : Int) := by omega
      have HE := Lib.hid (brkOb_no (by rw [e2]; exact ht))
      have HX := Lib.hid CC; clear ht C CC e2 hgk hin e
      go_wp2_with fail
      go_ret
      exact ⟨by rw [HE.out]; rfl, HX.out⟩
end Go.Proofs.Ytfkgooliglcjkaa
