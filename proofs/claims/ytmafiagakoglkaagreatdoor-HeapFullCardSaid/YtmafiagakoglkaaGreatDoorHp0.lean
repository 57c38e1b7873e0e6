/- Classes: Of, where a size may be. -/
import Derived.Test.YtmafiagakoglkaaGreatDoorMCl
namespace Go.Proofs.YtmafiagakoglkaaGreatDoor
open Go.RowKit

def CoRel (w0 : World) (n : Int) (gk : Nat) (idx : Value) (w : World) : Prop := ∃ k, gk + k = 17 ∧ k ≤ 15 ∧ idx = .int .i64 (k : Nat) ∧ (∀ j, j < k → (szK j : Int) < n) ∧ Chg [] w0 w
set_option maxHeartbeats 1600000 in
set_option maxRecDepth 100000 in
theorem cof_ok (w : World) (n : Nat) (h0 : 1 ≤ n) (h1 : n ≤ 256) : Calls Tryz.prog 45 #[.int .i64 (n : Nat)] w (OfPost n w) := by
  have h2 : (1 : Int) ≤ (n : Int) := by omega
  go_enter Tryz.func45, Tryz.ntmps45
  go_wp2_with fail
  refine (table_ok w).mono ?_
  rintro e w1 ⟨rfl, c1⟩
  have HC := Lib.hid c1; clear c1
  go_wp2_with fail
  go_loopg [6] 17 (fun gk idx wr => CoRel w n gk idx wr)
  case atStart => exact ⟨0, by omega, by omega, rfl, fun j hj => by omega, HC.out⟩
  case round =>
    obtain ⟨k, hgk, hk, rfl, hp, c⟩ := hrel
    have hix := idx_sz wr k (by omega)
    have hi' : (k : Int) < 16 := by omega
    obtain ⟨s, hs⟩ : ∃ s, s = szK k := ⟨_, rfl⟩
    rw [← hs] at hix
    by_cases h4 : (n : Int) ≤ (s : Int)
    · have HP := Lib.hid (And.intro hp (And.intro c hs)); clear hp c hs
      go_wp2_with fail
      go_ret
      exact ⟨k, ⟨by omega, by rw [← HP.out.2.2]; omega, fun j hj => by have := HP.out.1 j hj; omega⟩, rfl, HP.out.2.1⟩
    · have hk15 : k < 15 := by
        rcases Nat.lt_or_ge k 15 with h5 | h5
        · exact h5
        · have e : k = 15 := by omega
          rw [e] at hs
          have e2 : szK 15 = 256 := rfl
          omega
      have hp' : ∀ j, j < k + 1 → (szK j : Int) < n := fun j hj => by
        rcases Nat.lt_or_ge j k with g | g
        · exact hp j g
        · have e2 : j = k := by omega
          rw [e2, ← hs]; omega
      have HP := Lib.hid (And.intro hp' c); clear hp hp' c hs
      go_wp2_with fail
      go_roundg (16 - k)
      case measure => omega
      case rel => exact ⟨k + 1, by omega, by omega, by go_num, HP.out.1, HP.out.2⟩
end Go.Proofs.YtmafiagakoglkaaGreatDoor
