/- ArenaPlays: numbers of words that may not be. -/
import Derived.Test.YtmafiagakoglkaaGreatDoorAp1
import Derived.Test.YtmafiagakoglkaaGreatDoorArT
namespace Go.Proofs.YtmafiagakoglkaaGreatDoor
open Go.RowKit Go.Maps

/-- So many words may be. -/
def okW (z : Int) : Prop := 256 ≤ z ∧ z ≤ 16777216 ∧ z.tmod 64 = 0
set_option maxHeartbeats 1600000 in
set_option maxRecDepth 100000 in
theorem anew_bad (w : World) (z : Int) (hz : ¬ okW z) : Calls Tryz.prog 39 #[.int .i64 z] w (NwPost (.tuple #[.pointer none, .int .i64 1]) w) := by
  by_cases h1 : z < 256
  · exact anew_no w z h1
  · have d1 : decide (z < 256) = false := decide_eq_false h1
    by_cases h2 : 16777216 < z
    · have d2 : decide ((16777216 : Int) < z) = true := decide_eq_true h2
      clear hz
      go_enter Tryz.func39, Tryz.ntmps39
      go_wp2_with fail
      go_ret2
      exact ⟨rfl, Chg.refl _ _⟩
    · have d2 : decide ((16777216 : Int) < z) = false := decide_eq_false h2
      have h3 : ¬ z.tmod 64 = 0 := fun h => hz ⟨by omega, by omega, h⟩
      have d3 : (z.tmod 64 != 0) = true := by rw [bne_iff_ne]; exact h3
      have d4 : (z.tmod 64 == 0) = false := by rw [beq_eq_false_iff_ne]; exact h3
      have e6 : z.tmod 64 = z % 64 := Int.tmod_eq_emod_of_nonneg (by omega)
      have d5 : (z % 64 != 0) = true := by rw [← e6]; exact d3
      have d6 : (z % 64 == 0) = false := by rw [← e6]; exact d4
      clear e6
      clear hz
      go_enter Tryz.func39, Tryz.ntmps39
      go_wp2_with fail
      go_ret2
      exact ⟨rfl, Chg.refl _ _⟩
set_option maxHeartbeats 1600000 in
set_option maxRecDepth 100000 in
theorem ranew_bad (w : World) (z : Int) (hz : ¬ okW z) : Calls Tryz.prog 40 #[.int .i64 z] w (NwPost (.pointer none) w) := by
  by_cases h1 : z < 256
  · have d1 : decide (z < 256) = true := decide_eq_true h1
    clear hz
    go_enter Tryz.func40, Tryz.ntmps40
    go_wp2_with fail
    go_ret
    exact ⟨rfl, Chg.refl _ _⟩
  · have d1 : decide (z < 256) = false := decide_eq_false h1
    by_cases h2 : 16777216 < z
    · have d2 : decide ((16777216 : Int) < z) = true := decide_eq_true h2
      clear hz
      go_enter Tryz.func40, Tryz.ntmps40
      go_wp2_with fail
      go_ret
      exact ⟨rfl, Chg.refl _ _⟩
    · have d2 : decide ((16777216 : Int) < z) = false := decide_eq_false h2
      have h3 : ¬ z.tmod 64 = 0 := fun h => hz ⟨by omega, by omega, h⟩
      have d3 : (z.tmod 64 != 0) = true := by rw [bne_iff_ne]; exact h3
      have d4 : (z.tmod 64 == 0) = false := by rw [beq_eq_false_iff_ne]; exact h3
      have e6 : z.tmod 64 = z % 64 := Int.tmod_eq_emod_of_nonneg (by omega)
      have d5 : (z % 64 != 0) = true := by rw [← e6]; exact d3
      have d6 : (z % 64 == 0) = false := by rw [← e6]; exact d4
      clear e6
      clear hz
      go_enter Tryz.func40, Tryz.ntmps40
      go_wp2_with fail
      go_ret
      exact ⟨rfl, Chg.refl _ _⟩
theorem okW.pages {z : Int} (h : okW z) (h2 : z ≤ 2048) : ∃ n : Nat, z = ((n * 64 : Nat) : Int) ∧ 4 ≤ n ∧ n ≤ 32 := by
  obtain ⟨h0, -, h1⟩ := h
  rw [Int.tmod_eq_emod_of_nonneg (by omega)] at h1
  exact ⟨(z / 64).toNat, by omega, by omega, by omega⟩
/-- Both begin. -/
theorem ApT.start {W w1 w2 : World} {g : Nat} {h : ArH} {hr : RaH} {n : Nat} (S : ArS W w1 g h (newA n) 0 0) (M : RaM w2 hr (newA n) []) (c : Chg [] w1 w2) (hf : ∀ k, RaF hr (newA n) k → w1.heap.size ≤ k) (hm : hr.mw = 0) : ApT W g hr.g h hr (newA n) [] 0 0 0 w2 :=
  ⟨S.chg0 c, M, fun k hk => Nat.le_trans S.c.size (hf k hk), fun k hk hk2 => by
    have := S.M.lt k hk2; have := hf k hk; omega, rfl, by omega⟩
end Go.Proofs.YtmafiagakoglkaaGreatDoor
