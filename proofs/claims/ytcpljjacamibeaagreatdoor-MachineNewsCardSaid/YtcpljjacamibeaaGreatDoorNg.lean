/- Package timer: which of two sleepers comes first; two of them swapped. -/
import Derived.Test.YtcpljjacamibeaaGreatDoorMj6J
import Derived.Test.YtcpljjacamibeaaGreatDoorMClJ
import Derived.Handy
namespace Go.Proofs.YtcpljjacamibeaaGreatDoor
set_option maxHeartbeats 16000000
set_option maxRecDepth 100000
open Go.RowKit Go.Maps
def cmpI (a b : Int) : Int := if a < b then -1 else if b < a then 1 else 0
def orI (x y : Int) : Int := if x ≠ 0 then x else y
def OrRel (w0 : World) (x : Int) (gk : Nat) (idx : Value) (w : World) : Prop := w = w0 ∧ ((gk = 3 ∧ idx = .int .i64 0) ∨ (x = 0 ∧ gk = 2 ∧ idx = .int .i64 1))
end Go.Proofs.YtcpljjacamibeaaGreatDoor
