/- Closed facts of MachineNews's row. -/
import Derived.Test.YtcpljjacamibeaaGreatDoorRows
import Derived.OpenShut
import Derived.WalkKit
import Derived.ProofKit
namespace Go.Proofs.YtcpljjacamibeaaGreatDoor
set_option maxHeartbeats 16000000
set_option maxRecDepth 100000
open Go.ChangeShapes Go.WideShapes Go.ChangeAt Go.RowKit
theorem machineNews_k1 : Tryz.pinned.checked.prog.funcNamed Rows.machineNewsRow.func = some 5 := by kernel_rfl
theorem machineNews_k3 : Tryz.f5.isInstance Tryz.pinned.checked.prog Rows.machineNewsRow.origin Rows.machineNewsRow.targs := of_decide_eq_true (by kernel_rfl)
theorem machineNews_k4 : Tryz.f5.isWrapper Tryz.pinned.checked.prog Rows.machineNewsRow.wrapper Rows.machineNewsRow.mainSum := by unfold Func.isWrapper; first | (rw [if_pos (by decide +kernel)]; kernel_rfl) | (rw [if_neg (by decide +kernel)]; exact ⟨rfl, rfl⟩)
end Go.Proofs.YtcpljjacamibeaaGreatDoor
