/- Package buffer: Half, to an empty one. (Printed by wip/genno.py.) -/
import Derived.Test.YtcpljjacamibeaaGreatDoorMl5J
import Derived.Laws.IdiomCopy
import Derived.LaidEqlPtr
namespace Go.Proofs.YtcpljjacamibeaaGreatDoor
set_option maxHeartbeats 16000000
set_option maxRecDepth 100000
open Go.RowKit Go.Maps
def HalfPost (g g2 : Nat) (h : Nat) (xs : List Int) (w : World) (e : Ending) (w' : World) : Prop := e = .returned (.int .i64 (h : Nat)) ∧ IsBf w' g (xs.take (xs.length - h)) ∧ IsBf w' g2 (xs.drop (xs.length - h)) ∧ Chg [g, g2] w w'
end Go.Proofs.YtcpljjacamibeaaGreatDoor
