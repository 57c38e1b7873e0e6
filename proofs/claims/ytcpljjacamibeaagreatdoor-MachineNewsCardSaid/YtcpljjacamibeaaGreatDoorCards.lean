/-
  DERIVED. GIVEN WITH THE SEED: THE CARDS: each row of YtcpljjacamibeaaGreatDoorRows.lean that lists a variable, with what it lists TIED to the program's text (the seventh form; the later family's looks); each row that meets fmt, with fmt's text TOLD by the authors' own Lean function (tested against real Go, not proved from fmt's source: count such statements apart). THE CARD IS WHAT COUNTS. Prove the row's statement (the work); the ties are given (YtcpljjacamibeaaGreatDoorTie.lean); close each card by the builder's one call (the guide's Derived/Test/ToyasCard.lean, 'card_holds'). Laid BY PROGRAM, IN A SANDBOX (cutbox-door.mjs). By AI agents, Wed Nov 11 2026. No macro, syntax, notation, axiom, sorry.
-/
import Derived.Test.YtcpljjacamibeaaGreatDoorRows
import GoSem.ClaimSeven
namespace Go.Proofs.YtcpljjacamibeaaGreatDoor
namespace Rows

/-- THE TIED CARD OF 'treadmilllaw28.MachineSleeps'. -/
def machineSleepsCard : Claim7 := { stood := { row := machineSleepsRow, standIns := [], harness := (true, "7e67e9e6f00672de0c34f84f5b857ce68c3b2ab3083250fc482a362a698bf00b"), looks := true }, kinds := [], alts := [], laidByText := true, laidKinds := [.data], laidTests := true, laidLooks := .later }
def MachineSleepsCardSaid : Prop := Claim7.holds Tryz.pinned (.plain (OpenSpec.ofChange machineSleepsSpec)) machineSleepsCard

/-- THE TIED CARD OF 'treadmilllaw28.MachineGreat'. -/
def machineGreatCard : Claim7 := { stood := { row := machineGreatRow, standIns := [], harness := (true, "7e67e9e6f00672de0c34f84f5b857ce68c3b2ab3083250fc482a362a698bf00b"), looks := true }, kinds := [], alts := [], laidByText := true, laidKinds := [.data], laidTests := true, laidLooks := .later }
def MachineGreatCardSaid : Prop := Claim7.holds Tryz.pinned (.plain (OpenSpec.ofChange machineGreatSpec)) machineGreatCard

/-- THE TIED CARD OF 'treadmilllaw28.MachineNews'. -/
def machineNewsCard : Claim7 := { stood := { row := machineNewsRow, standIns := [], harness := (true, "7e67e9e6f00672de0c34f84f5b857ce68c3b2ab3083250fc482a362a698bf00b"), looks := true }, kinds := [], alts := [], laidByText := true, laidKinds := [.data], laidTests := true, laidLooks := .later }
def MachineNewsCardSaid : Prop := Claim7.holds Tryz.pinned (.plain (OpenSpec.ofChange machineNewsSpec)) machineNewsCard

/-- THE SECOND FORM's CARD OF 'treadmilllaw28.MachineSleeps'. -/
def machineSleepsUptoCard : Claim7 := { stood := { row := machineSleepsUptoRow, standIns := [], harness := (true, "7e67e9e6f00672de0c34f84f5b857ce68c3b2ab3083250fc482a362a698bf00b"), looks := true }, kinds := [], alts := [], laidByText := true, laidKinds := [.data], laidTests := true, laidLooks := .later }
def MachineSleepsUptoCardSaid : Prop := Claim7.holds Tryz.pinned (.plain (OpenSpec.upto machineSleepsSpec)) machineSleepsUptoCard

/-- THE SECOND FORM's CARD OF 'treadmilllaw28.MachineGreat'. -/
def machineGreatUptoCard : Claim7 := { stood := { row := machineGreatUptoRow, standIns := [], harness := (true, "7e67e9e6f00672de0c34f84f5b857ce68c3b2ab3083250fc482a362a698bf00b"), looks := true }, kinds := [], alts := [], laidByText := true, laidKinds := [.data], laidTests := true, laidLooks := .later }
def MachineGreatUptoCardSaid : Prop := Claim7.holds Tryz.pinned (.plain (OpenSpec.upto machineGreatSpec)) machineGreatUptoCard

/-- THE SECOND FORM's CARD OF 'treadmilllaw28.MachineNews'. -/
def machineNewsUptoCard : Claim7 := { stood := { row := machineNewsUptoRow, standIns := [], harness := (true, "7e67e9e6f00672de0c34f84f5b857ce68c3b2ab3083250fc482a362a698bf00b"), looks := true }, kinds := [], alts := [], laidByText := true, laidKinds := [.data], laidTests := true, laidLooks := .later }
def MachineNewsUptoCardSaid : Prop := Claim7.holds Tryz.pinned (.plain (OpenSpec.upto machineNewsSpec)) machineNewsUptoCard
end Rows
end Go.Proofs.YtcpljjacamibeaaGreatDoor
