/- The walk of treadmillref1.Slots. -/
import Derived.Test.YtmafiagakoglkaaGreatDoorAqR
namespace Go.Proofs.YtmafiagakoglkaaGreatDoor
open Go.RowKit Go.Maps

set_option maxHeartbeats 1600000 in
set_option maxRecDepth 100000 in
theorem rslots_ok (w : World) (q : Nat) (hq : q < 16) : Calls Tryz.prog 31 #[.int .i64 (q : Nat)] w (NwPost (.int .i64 (slK q : Nat)) w) := by
  obtain ⟨_, _, h3, h4, h5, h6, h7, h8, h9⟩ := kF hq
  have hdiv : ((pgK q : Nat) : Int) * 64 / ((szK q : Nat) : Int) = ((slK q : Nat) : Int) := by
    rw [← h7]
    exact (Int.natCast_ediv (pgK q * 64) (szK q)).symm
  have hz : (((szK q : Nat) : Int) == 0) = false := by rw [beq_eq_false_iff_ne]; omega
  have HH := Lib.hid hdiv; clear hdiv h7
  go_enter Tryz.func31, Tryz.ntmps31
  go_wp2_with fail
  refine (rsize_ok w (q : Nat)).mono ?_
  rintro e w1 ⟨rfl, c1⟩
  rw [szI_nat hq]
  have HC1 := Lib.hid c1; clear c1
  go_wp2_with fail
  refine (rpages_ok w1 q hq).mono ?_
  rintro e w2 ⟨rfl, c2⟩
  have HC2 := Lib.hid (HC1.out.trans c2); clear c2
  go_wp2_with fail
  refine (rsize_ok w2 (q : Nat)).mono ?_
  rintro e w3 ⟨rfl, c3⟩
  rw [szI_nat hq]
  have HC3 := Lib.hid (HC2.out.trans c3); clear c3
  have hs0 : ¬ ((szK q : Nat) : Int) = 0 := by omega
  have hs1 : ¬ szK q = 0 := by omega
  go_wp2_with fail
  go_ret
  exact ⟨by rw [← HH.out]; rfl, HC3.out⟩
end Go.Proofs.YtmafiagakoglkaaGreatDoor
