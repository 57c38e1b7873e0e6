/- Few: a view is small. -/
import Derived.Test.YtfkgooliglcjkaaVwTold
namespace Go.Proofs.Ytfkgooliglcjkaa
open Go.RowKit

structure FewV (V : Vw) : Prop where
  o : V.objects.length ≤ 40
  s : ∀ x ∈ V.objects, x.slots.length ≤ 300
  g : V.gs.length ≤ 40
  t : ∀ x ∈ V.gs, x.stack.length ≤ 40
  l : V.globals.length ≤ 40
theorem flat_le {α : Type} (f : α → List Int) (m : Nat) : ∀ {l : List α}, (∀ x ∈ l, (f x).length ≤ m) → (l.flatMap f).length ≤ l.length * m
  | [], _ => by simp
  | x :: l, h => by
    have h1 := h x (List.mem_cons_self ..)
    have h2 := flat_le f m (l := l) fun y hy => h y (List.mem_cons_of_mem _ hy)
    rw [List.flatMap_cons, List.length_append, List.length_cons, Nat.succ_mul]; omega
theorem FewV.small {V : Vw} (h : FewV V) : Small V := by
  have ho := h.o
  have hg := h.g
  have hl := h.l
  refine ⟨?_, by omega, by omega⟩
  unfold Vw.names Vw.said
  have h1 := flat_le (fun o : Ob => o.slots) 300 h.s
  have h2 : ((V.gs.filter fun g => g.state != 5).flatMap (·.stack)).length ≤ (V.gs.filter fun g => g.state != 5).length * 40 := flat_le (fun g : Gr => g.stack) 40 fun x hx => h.t x ((List.mem_filter.1 hx).1)
  have h3 := List.length_filter_le (fun g : Gr => g.state != 5) V.gs
  rw [List.length_append, List.length_append]
  have h4 : (V.gs.filter fun g => g.state != 5).length * 40 ≤ 40 * 40 := Nat.mul_le_mul_right _ (by omega)
  have h5 : V.objects.length * 300 ≤ 40 * 300 := Nat.mul_le_mul_right _ ho
  omega
def FewPost (V : Vw) (w : World) (e : Ending) (w' : World) : Prop := ∃ b, e = .returned (.bool b) ∧ (b = true → FewV V) ∧ Chg [] w w'
def Fw1Rel (w0 : World) (V : Vw) (gk : Nat) (idx : Value) (w : World) : Prop := ∃ i, gk + i = V.objects.length + 1 ∧ i ≤ V.objects.length ∧ idx = .int .i64 (i : Nat) ∧ (∀ x ∈ V.objects.take i, x.slots.length ≤ 300) ∧ Chg [] w0 w
def Fw2Rel (w0 : World) (V : Vw) (gk : Nat) (idx : Value) (w : World) : Prop := ∃ i, gk + i = V.gs.length + 1 ∧ i ≤ V.gs.length ∧ idx = .int .i64 (i : Nat) ∧ (∀ x ∈ V.gs.take i, x.stack.length ≤ 40) ∧ Chg [] w0 w
theorem take_all {α : Type} {l : List α} {p : α → Prop} {i : Nat} {o : α} (h : ∀ x ∈ l.take i, p x) (ho : l[i]? = some o) (hp : p o) : ∀ x ∈ l.take (i + 1), p x := by
  intro x hx
  rw [List.take_add_one, ho] at hx
  rcases List.mem_append.1 hx with h1 | h1
  · exact h x h1
  · have e : x = o := by simpa using h1
    rw [e]; exact hp
set_option maxHeartbeats 1600000 in
set_option maxRecDepth 100000 in
theorem few_ok (w : World) (v : Value) (V : Vw) (h : VwAt w w.heap.size v V) : Calls Try.prog 11 #[v] w (FewPost V w) := by
  have HV := Lib.hid h
  obtain ⟨g, A1, c1, A2, c2, rfl, h1, h2, h3, h4, h5⟩ := h.ex
  obtain ⟨A0, c0, rfl⟩ := h1.ex
  have hm : maxLen ≤ 9223372036854775807 := by decide
  have C1 := (Chg.refl [] w).alloc (.cells (vwBox V A0 c0 A1 c1 A2 c2) 26)
  have B1 := Blk.new w 26 (vwBox V A0 c0 A1 c1 A2 c2)
  have HB := Lib.hid (And.intro C1 (And.intro h2 (And.intro h3 B1)))
  have hb4 := Nat.le_trans h4 hm
  have hb5 := Nat.le_trans h5 hm
  clear C1 B1 h h1 h2 h3 h4 h5 hm
  go_enter Try.func11, Try.ntmps11
  go_wp2_with fail
  go_loopg [3] (V.objects.length + 1) (fun gk idx wr => Fw1Rel (w.alloc (.cells (vwBox V A0 c0 A1 c1 A2 c2) 26)) V gk idx wr)
  case atStart => exact ⟨0, by omega, by omega, rfl, by simp, Chg.refl [] _⟩
  case round =>
    obtain ⟨i, hgk, hin, rfl, hall, C⟩ := hrel
    have b5 : wr.cell? ⟨w.heap.size, 5, none⟩ = some (.slice A2 V.objects.length c2) := (C.blk HB.out.2.2.2 (by simp)).cellv 5 rfl
    have b4 : wr.cell? ⟨w.heap.size, 4, none⟩ = some (.slice A1 V.gs.length c1) := (C.blk HB.out.2.2.2 (by simp)).cellv 4 rfl
    have b3 : wr.cell? ⟨w.heap.size, 3, none⟩ = some (.slice A0 V.globals.length c0) := (C.blk HB.out.2.2.2 (by simp)).cellv 3 rfl
    have C2 := HB.out.1.trans C
    by_cases e : i < V.objects.length
    · obtain ⟨o, ho⟩ : ∃ o, V.objects[i]? = some o := ⟨_, List.getElem?_eq_getElem e⟩
      obtain ⟨b, off, s, rfl, hbb, i0, i1, i2, hsl, -⟩ := (HB.out.2.2.1.chg C2 (Nat.le_refl _) (by simp)).at_ i o ho
      obtain ⟨As, cs, rfl⟩ := hsl.ex
      have hi' : (i : Int) < (V.objects.length : Int) := by omega
      by_cases hs : 300 < o.slots.length
      · have hs' : (300 : Int) < (o.slots.length : Int) := by omega
        have HX := Lib.hid C2; clear C C2 hall ho hbb hsl
        go_wp2_with fail
        try rw [Exit.noGoto_ret]
        go_ret
        exact ⟨false, rfl, fun h => absurd h (by decide), HX.out⟩
      · have hs' : ¬ (300 : Int) < (o.slots.length : Int) := by omega
        have HX := Lib.hid (And.intro C (take_all hall ho (Nat.le_of_not_lt hs))); clear C C2 hall ho hbb hsl
        go_wp2_with fail
        go_roundg (V.objects.length - i)
        case measure => omega
        case rel => exact ⟨i + 1, by omega, by omega, by go_num, HX.out.2, HX.out.1⟩
    · have e2 : V.objects.length = i := by omega
      have e3 : V.objects.take i = V.objects := by rw [← e2, List.take_length]
      rw [e3] at hall
      have hi' : ¬ (i : Int) < (V.objects.length : Int) := by omega
      have HX := Lib.hid (And.intro C hall); clear C C2 hall hgk e2 e3
      go_wp2_with fail
      clear b3 b4 b5
      obtain ⟨wq, rfl⟩ : ∃ wq : World, wq = wr := ⟨_, rfl⟩
      go_loopg [4] (V.gs.length + 1) (fun gk idx wr => Fw2Rel (w.alloc (.cells (vwBox V A0 c0 A1 c1 A2 c2) 26)) V gk idx wr)
      case atStart => exact ⟨0, by omega, by omega, rfl, by simp, HX.out.1⟩
      case round =>
        obtain ⟨j, hgk, hjn, rfl, hall, C⟩ := hrel
        have b5 : wr.cell? ⟨w.heap.size, 5, none⟩ = some (.slice A2 V.objects.length c2) := (C.blk HB.out.2.2.2 (by simp)).cellv 5 rfl
        have b4 : wr.cell? ⟨w.heap.size, 4, none⟩ = some (.slice A1 V.gs.length c1) := (C.blk HB.out.2.2.2 (by simp)).cellv 4 rfl
        have b3 : wr.cell? ⟨w.heap.size, 3, none⟩ = some (.slice A0 V.globals.length c0) := (C.blk HB.out.2.2.2 (by simp)).cellv 3 rfl
        have C2 := HB.out.1.trans C
        by_cases ej : j < V.gs.length
        · obtain ⟨o, ho⟩ : ∃ o, V.gs[j]? = some o := ⟨_, List.getElem?_eq_getElem ej⟩
          obtain ⟨b, off, s, rfl, hbb, i0, i1, i2, hsl, -⟩ := (HB.out.2.1.chg C2 (Nat.le_refl _) (by simp)).at_ j o ho
          obtain ⟨As, cs, rfl⟩ := hsl.ex
          have hj' : (j : Int) < (V.gs.length : Int) := by omega
          by_cases hs : 40 < o.stack.length
          · have hs' : (40 : Int) < (o.stack.length : Int) := by omega
            have HY := Lib.hid C2; clear C C2 hall ho hbb hsl
            go_wp2_with fail
            try rw [Exit.noGoto_ret]
            go_ret
            exact ⟨false, rfl, fun h => absurd h (by decide), HY.out⟩
          · have hs' : ¬ (40 : Int) < (o.stack.length : Int) := by omega
            have HY := Lib.hid (And.intro C (take_all hall ho (Nat.le_of_not_lt hs))); clear C C2 hall ho hbb hsl
            go_wp2_with fail
            go_roundg (V.gs.length - j)
            case measure => omega
            case rel => exact ⟨j + 1, by omega, by omega, by go_num, HY.out.2, HY.out.1⟩
        · have e2 : V.gs.length = j := by omega
          have e3 : V.gs.take j = V.gs := by rw [← e2, List.take_length]
          rw [e3] at hall
          have hj' : ¬ (j : Int) < (V.gs.length : Int) := by omega
          have HY := Lib.hid (And.intro C2 hall); clear C C2 hall hgk e2 e3
          by_cases h1 : V.objects.length ≤ 40
          · have h1' : (V.objects.length : Int) ≤ 40 := by omega
            by_cases h2 : V.gs.length ≤ 40
            · have h2' : (V.gs.length : Int) ≤ 40 := by omega
              by_cases h3 : V.globals.length ≤ 40
              · have h3' : (V.globals.length : Int) ≤ 40 := by omega
                go_wp2_with fail
                go_ret
                exact ⟨_, rfl, fun _ => ⟨h1, HX.out.2, h2, HY.out.2, h3⟩, HY.out.1⟩
              · have h3' : ¬ (V.globals.length : Int) ≤ 40 := by omega
                go_wp2_with fail
                go_ret
                exact ⟨false, by simp, fun h => absurd h (by decide), HY.out.1⟩
            · have h2' : ¬ (V.gs.length : Int) ≤ 40 := by omega
              go_wp2_with fail
              go_ret
              exact ⟨false, by simp, fun h => absurd h (by decide), HY.out.1⟩
          · have h1' : ¬ (V.objects.length : Int) ≤ 40 := by omega
            go_wp2_with fail
            go_ret
            exact ⟨false, by simp, fun h => absurd h (by decide), HY.out.1⟩
end Go.Proofs.Ytfkgooliglcjkaa
