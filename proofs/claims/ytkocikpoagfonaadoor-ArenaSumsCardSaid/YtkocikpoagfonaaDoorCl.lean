/- The walks of package class. -/
import Derived.Test.YtkocikpoagfonaaDoorMem
import Derived.BigQuiet
import Derived.Deep.LoopGhost
import Derived.Deep.DeepCutAuto
namespace Go.Proofs.YtkocikpoagfonaaDoor
open Go.RowKit

def szL : List Nat := [1, 2, 3, 4, 6, 8, 12, 16, 24, 32, 48, 64, 96, 128, 192, 256]
def pgL : List Nat := [1, 1, 1, 1, 1, 1, 1, 1, 2, 1, 3, 1, 3, 2, 3, 4]
def slL : List Nat := [64, 32, 21, 16, 10, 8, 5, 4, 5, 2, 4, 1, 2, 1, 1, 1]
def szK (k : Nat) : Nat := szL.getD k 0
def pgK (k : Nat) : Nat := pgL.getD k 0
def slK (k : Nat) : Nat := slL.getD k 0
def isK (k : Int) : Prop := 0 ≤ k ∧ k < 16
instance (k : Int) : Decidable (isK k) := inferInstanceAs (Decidable (_ ∧ _))
def szI (k : Int) : Int := if isK k then szK k.toNat else 0
def pgI (k : Int) : Int := if isK k then pgK k.toNat else 0
def slI (k : Int) : Int := if isK k then slK k.toNat else 0
def szA : Array Value := (szL.map fun (n : Nat) => Value.int .i64 (n : Int)).toArray
def NwPost (v : Value) (w : World) (e : Ending) (w' : World) : Prop := e = .returned v ∧ Chg [] w w'
theorem szA_get (k : Nat) (h : k < 16) : szA[k]? = some (.int .i64 (szK k : Int)) := by
  have h1 : szL[k]? = some (szK k) := by
    unfold szK
    rw [List.getD_eq_getElem?_getD, List.getElem?_eq_getElem (by exact h)]; rfl
  unfold szA
  rw [List.getElem?_toArray, List.getElem?_map, h1]; rfl
set_option maxHeartbeats 1600000 in
set_option maxRecDepth 100000 in
theorem table_ok (w : World) : Calls Tryd.prog 48 #[] w (NwPost (.agg szA) w) := by
  go_enter Tryd.func48, Tryd.ntmps48
  go_wp2_with fail
  exact ⟨rfl, _, results_cell_row (P := Tryd.prog) (fn := Tryd.f48) rfl _ _ _ _ _ _ _ rfl (heap_alloc_new w _) Tryd.underlying74 (by rfl) (by kernel_rfl), rfl, (Chg.refl [] w).alloc _⟩
set_option maxHeartbeats 1600000 in
set_option maxRecDepth 100000 in
theorem count_ok (w : World) : Calls Tryd.prog 47 #[] w (NwPost (.int .i64 16) w) := by
  go_enter Tryd.func47, Tryd.ntmps47
  go_wp2_with fail
  refine (table_ok w).mono ?_
  rintro e w1 ⟨rfl, c1⟩
  go_wp2_with fail
  go_ret
  exact ⟨rfl, c1⟩
theorem idx_sz (W : World) (q : Nat) (hq : q < 16) : (Instr.index 74 (.agg szA) (.int .i64 (q : Nat))).run Tryd.prog W = .ok (.int .i64 (szK q : Nat)) W := by
  have h : q = 0 ∨ q = 1 ∨ q = 2 ∨ q = 3 ∨ q = 4 ∨ q = 5 ∨ q = 6 ∨ q = 7 ∨ q = 8 ∨ q = 9 ∨ q = 10 ∨ q = 11 ∨ q = 12 ∨ q = 13 ∨ q = 14 ∨ q = 15 := by omega
  rcases h with rfl | rfl | rfl | rfl | rfl | rfl | rfl | rfl | rfl | rfl | rfl | rfl | rfl | rfl | rfl | rfl <;> (show _ = _; kernel_rfl)
set_option maxHeartbeats 1600000 in
set_option maxRecDepth 100000 in
theorem size_ok (w : World) (k : Int) : Calls Tryd.prog 28 #[.int .i64 k] w (NwPost (.int .i64 (szI k)) w) := by
  go_enter Tryd.func28, Tryd.ntmps28
  by_cases h0 : k < 0
  · have d0 : decide (k < 0) = true := decide_eq_true h0
    have HK := Lib.hid h0
    go_wp2_with fail
    go_ret
    exact ⟨by unfold szI; rw [if_neg (by unfold isK; have := HK.out; omega)]; rfl, Chg.refl _ _⟩
  · have d0 : decide (k < 0) = false := decide_eq_false h0
    go_wp2_with fail
    refine (count_ok w).mono ?_
    rintro e w1 ⟨rfl, c1⟩
    have HC := Lib.hid c1; clear c1
    by_cases h1 : 16 ≤ k
    · have d1 : decide (16 ≤ k) = true := decide_eq_true h1
      have HK := Lib.hid h1
      go_wp2_with fail
      go_ret
      exact ⟨by unfold szI; rw [if_neg (by unfold isK; have := HK.out; omega)]; rfl, HC.out⟩
    · have d1 : decide (16 ≤ k) = false := decide_eq_false h1
      obtain ⟨q, rfl⟩ : ∃ q : Nat, k = q := ⟨k.toNat, by omega⟩
      have hq : q < 16 := by omega
      have hx := fun W => idx_sz W q hq
      have HK := Lib.hid hq
      go_wp2_with fail
      refine (table_ok w1).mono ?_
      rintro e w2 ⟨rfl, c2⟩
      have HC2 := Lib.hid (HC.out.trans c2); clear c2
      go_wp2_with fail
      go_ret
      exact ⟨by unfold szI; rw [if_pos (by unfold isK; have := HK.out; omega)]; simp, HC2.out⟩
end Go.Proofs.YtkocikpoagfonaaDoor
