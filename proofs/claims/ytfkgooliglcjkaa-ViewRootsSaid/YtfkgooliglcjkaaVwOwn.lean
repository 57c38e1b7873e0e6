/- The second Find; objects with addresses of their own; what is known. -/
import Derived.Test.YtfkgooliglcjkaaVwFew
import Derived.Test.YtfkgooliglcjkaaVwAsk2
import Derived.Deep.RegionHeld3
import Derived.BigQuiet
namespace Go.Proofs.Ytfkgooliglcjkaa
open Go.RowKit Go.Maps

set_option maxHeartbeats 1600000 in
set_option maxRecDepth 100000 in
theorem rfind_ok (w : World) (v : Value) (V : Vw) (a : Int) (h : VwAt w w.heap.size v V) (hS : Small V) : Calls Try.prog 26 #[v, .int .i64 a] w (IntPost (findI V a) w) := by
  obtain ⟨g, A1, c1, A2, c2, rfl, h1, h2, h3, h4, h5⟩ := h.ex
  obtain ⟨A0, c0, rfl⟩ := h1.ex
  have C1 := (Chg.refl [] w).alloc (.cells (vwBox V A0 c0 A1 c1 A2 c2) 26)
  have B1 := Blk.new w 26 (vwBox V A0 c0 A1 c1 A2 c2)
  have HB := Lib.hid (And.intro C1 (And.intro B1 h3)); clear C1 B1 h h1 h2 h3 h4 h5
  have hl := hS.o
  go_enter Try.func26, Try.ntmps26
  go_wp2_with fail
  go_loopg [5] (V.objects.length + 1) (fun gk idx wr => IxRelV (w.alloc (.cells (vwBox V A0 c0 A1 c1 A2 c2) 26)) V.objects a 0 gk idx wr)
  case atStart => exact ⟨0, by omega, by omega, rfl, by simp, Chg.refl [] _⟩
  case round =>
    obtain ⟨i, hgk, hin, rfl, hno, C⟩ := hrel
    have b5 : wr.cell? ⟨w.heap.size, 5, none⟩ = some (.slice A2 V.objects.length c2) := (C.blk HB.out.2.1 (by simp)).cellv 5 rfl
    by_cases e : i < V.objects.length
    · obtain ⟨o, ho⟩ : ∃ o, V.objects[i]? = some o := ⟨_, List.getElem?_eq_getElem e⟩
      obtain ⟨b, off, s, rfl, hbb, i0, i1, i2, hsl, -⟩ := (HB.out.2.2.chg (HB.out.1.trans C) (Nat.le_refl _) (by simp)).at_ i o ho
      clear hsl i1 i2
      have hi' : (i : Int) < (V.objects.length : Int) := by omega
      have hts : V.objects.take (i + 1) = V.objects.take i ++ [o] := by
        obtain ⟨hi, rfl⟩ := List.getElem?_eq_some_iff.1 ho
        exact List.take_succ_eq_append_getElem hi
      have hyes : (o.addr == a) = true → V.objects.findIdx? (fun o => o.addr == a) = some i := fun hq => by
        have h1 : (V.objects.take (i + 1)).findIdx? (fun o => o.addr == a) = some i := by
          rw [hts, List.findIdx?_append, hno]
          simp [List.findIdx?_singleton, hq]; omega
        have h2 : V.objects = V.objects.take (i + 1) ++ V.objects.drop (i + 1) := (List.take_append_drop _ _).symm
        rw [h2, List.findIdx?_append, h1]; rfl
      have hnot : (o.addr == a) = false → (V.objects.take (i + 1)).findIdx? (fun o => o.addr == a) = none := fun hq => by
        rw [hts, List.findIdx?_append, hno]; simp [List.findIdx?_singleton, hq]
      have HX := Lib.hid (And.intro hyes (And.intro hnot C)); clear hyes hnot C hts hno ho hbb
      cases hq : (o.addr == a) with
      | true =>
        have HE := Lib.hid (HX.out.1 hq)
        go_wp2_with fail
        try rw [Exit.noGoto_ret]
        go_ret
        exact ⟨by rw [findI, findOs_some HE.out]; rfl, HB.out.1.trans HX.out.2.2⟩
      | false =>
        have HE := Lib.hid (HX.out.2.1 hq)
        go_wp2_with fail
        go_roundg (V.objects.length - i)
        case measure => omega
        case rel => exact ⟨i + 1, by omega, by omega, by go_num, HE.out, HX.out.2.2⟩
    · have e2 : V.objects.length = i := by omega
      have e3 : V.objects.take i = V.objects := by rw [← e2, List.take_length]
      rw [e3] at hno
      have hi' : ¬ (i : Int) < (V.objects.length : Int) := by omega
      have HX := Lib.hid (And.intro hno C); clear hno C hgk hin e2 e3
      go_wp2_with fail
      go_ret
      exact ⟨by rw [findI, findOs_none HX.out.1]; rfl, HB.out.1.trans HX.out.2⟩
/-! Addresses of their own. -/
structure OwnV (V : Vw) : Prop where
  p : ∀ (i : Nat) (o : Ob), V.objects[i]? = some o → o.addr ≠ 0 ∧ V.at_ o.addr = some i
def OwnPost (V : Vw) (w : World) (e : Ending) (w' : World) : Prop := ∃ b, e = .returned (.bool b) ∧ (b = true → OwnV V) ∧ Chg [] w w'
def OwRel (w0 : World) (V : Vw) (gk : Nat) (idx : Value) (w : World) : Prop := ∃ i, gk + i = V.objects.length + 1 ∧ i ≤ V.objects.length ∧ idx = .int .i64 (i : Nat) ∧ (∀ j o, j < i → V.objects[j]? = some o → o.addr ≠ 0 ∧ V.at_ o.addr = some j) ∧ Chg [] w0 w
/-! What is known: 0, or reached, or lost. -/
set_option maxHeartbeats 1600000 in
set_option maxRecDepth 100000 in
theorem known_ok (w : World) (b1 b2 : Nat) (v1 v2 : Value) (l1 l2 : List Int) (x : Int) (h1 : RdI w v1 l1) (h2 : RdI w v2 l2) (c1 : w.cell? ⟨b1, 0, none⟩ = some v1) (c2 : w.cell? ⟨b2, 0, none⟩ = some v2) :
    Calls Try.prog 20 #[.int .i64 x, .pointer (some ⟨b1, 0, none⟩), .pointer (some ⟨b2, 0, none⟩)] w (BoolD (decide (x = 0 ∨ (x ∈ l1 ↔ x ∉ l2))) w) := by
  have H := Lib.hid (And.intro h1 h2); clear h1 h2
  go_enter Try.func20, Try.ntmps20
  by_cases h0 : x = 0
  · have hx : (x == 0) = true := by rw [beq_iff_eq]; exact h0
    have hd : decide (x = 0 ∨ (x ∈ l1 ↔ x ∉ l2)) = true := decide_eq_true (.inl h0)
    have HD := Lib.hid hd; clear hd
    go_upto_region 1 with fail
    go_quiet (fail)
    go_wp2_with fail
    go_ret
    exact ⟨by rw [HD.out]; rfl, _, rfl⟩
  · have hx : (x == 0) = false := by rw [beq_eq_false_iff_ne]; exact h0
    have HD := Lib.hid h0
    go_upto_region 1 with fail
    have k1 : ∀ n, Calls Try.prog 21 #[v1, .int .i64 x] (w.drewN n) fun e w'' => e = .returned (.bool (decide (x ∈ l1))) ∧ ∃ m, w'' = w.drewN m := fun n => (has_ok _ v1 l1 x (H.out.1.drewN n)).mono fun e w'' h => ⟨h.1, n, h.2⟩
    have k2 : ∀ n, Calls Try.prog 21 #[v2, .int .i64 x] (w.drewN n) fun e w'' => e = .returned (.bool (decide (x ∈ l2))) ∧ ∃ m, w'' = w.drewN m := fun n => (has_ok _ v2 l2 x (H.out.2.drewN n)).mono fun e w'' h => ⟨h.1, n, h.2⟩
    have K := Lib.hid (And.intro k1 k2); clear k1 k2
    go_quiet (first | (go_at_call 21; with_reducible exact K.out.1 _) | (go_at_call 21; with_reducible exact K.out.2 _))
    go_wp2_with fail
    go_ret
    have e : (!(decide (x ∈ l1) == decide (x ∈ l2))) = decide (x = 0 ∨ (x ∈ l1 ↔ x ∉ l2)) := by
      have h0 := HD.out
      by_cases h1 : x ∈ l1 <;> by_cases h2 : x ∈ l2 <;> simp [h0, h1, h2]
    refine ⟨?_, _, rfl⟩
    show Ending.returned (.bool (!(decide (x ∈ l1) == decide (x ∈ l2)))) = _
    rw [e]
end Go.Proofs.Ytfkgooliglcjkaa
