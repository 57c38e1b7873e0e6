/- Package ring: Steal, where nobody is told to be next and the thief has none. -/
import Derived.Test.YtcpljjacamibeaaGreatDoorMcSfJ
import Derived.LaidEqlPtr
namespace Go.Proofs.YtcpljjacamibeaaGreatDoor
set_option maxHeartbeats 16000000
set_option maxRecDepth 100000
open Go.RowKit Go.Maps
def rgMv (x : RgR × RgR) : RgR × RgR := (rgPut x.1 (x.2.l x.2.fr), rgPop x.2)
def rgMvN : Nat → RgR × RgR → RgR × RgR
  | 0, x => x
  | n + 1, x => rgMv (rgMvN n x)
def StlRel (w1 : World) (g1 g2 : Nat) (r o : RgR) (k gk : Nat) (idx : Value) (w : World) : Prop := ∃ j : Nat, gk + j = k + 1 ∧ j ≤ k ∧ idx = .int .i64 (j : Nat) ∧ Blk w g1 263 (rgC (rgMvN j (r, o)).1) ∧ Blk w g2 263 (rgC (rgMvN j (r, o)).2) ∧ Chg [g1, g2] w1 w
def StlPost (g1 g2 : Nat) (r o : RgR) (k : Nat) (w : World) (e : Ending) (w' : World) : Prop := e = .returned (.int .i64 (k : Nat)) ∧ Blk w' g1 263 (rgC (rgMvN k (r, o)).1) ∧ Blk w' g2 263 (rgC (rgMvN k (r, o)).2) ∧ Chg [g1, g2] w w'
end Go.Proofs.YtcpljjacamibeaaGreatDoor
