/-
  DERIVED. GIVEN WITH THE SEED: THE CARDS: each row of YthjplmminmhiaaaGreatDoorRows.lean that lists a variable, with what it lists TIED to the program's text (the seventh form; the later family's looks); each row that meets fmt, with fmt's text TOLD by the authors' own Lean function (tested against real Go, not proved from fmt's source: count such statements apart). THE CARD IS WHAT COUNTS. Prove the row's statement (the work); the ties are given (YthjplmminmhiaaaGreatDoorTie.lean); close each card by the builder's one call (the guide's Derived/Test/ToyasCard.lean, 'card_holds'). Laid BY PROGRAM, IN A SANDBOX (cutbox-door.mjs). By AI agents, Wed Nov 11 2026. No macro, syntax, notation, axiom, sorry.
-/
import Derived.Test.YthjplmminmhiaaaGreatDoorRows
import GoSem.ClaimSeven
namespace Go.Proofs.YthjplmminmhiaaaGreatDoor
namespace Rows

/-- THE TIED CARD OF 'treadmilllaw28.MachineSleeps'. -/
def machineSleepsCard : Claim7 := { stood := { row := machineSleepsRow, standIns := [], harness := (true, "71cc25ec1c8c4201d06a377df85740680fe6c291eac0bd0b7bebb41e9f39241d"), looks := true }, kinds := [], alts := [], laidByText := true, laidKinds := [.data], laidTests := true, laidLooks := .later }
def MachineSleepsCardSaid : Prop := Claim7.holds Tryz.pinned (.plain (OpenSpec.ofChange machineSleepsSpec)) machineSleepsCard

/-- THE TIED CARD OF 'treadmilllaw28.MachineWaits'. -/
def machineWaitsCard : Claim7 := { stood := { row := machineWaitsRow, standIns := [], harness := (true, "71cc25ec1c8c4201d06a377df85740680fe6c291eac0bd0b7bebb41e9f39241d"), looks := true }, kinds := [], alts := [], laidByText := true, laidKinds := [.data], laidTests := true, laidLooks := .later }
def MachineWaitsCardSaid : Prop := Claim7.holds Tryz.pinned (.plain (OpenSpec.ofChange machineWaitsSpec)) machineWaitsCard

/-- THE TIED CARD OF 'treadmilllaw28.MachineYields'. -/
def machineYieldsCard : Claim7 := { stood := { row := machineYieldsRow, standIns := [], harness := (true, "71cc25ec1c8c4201d06a377df85740680fe6c291eac0bd0b7bebb41e9f39241d"), looks := true }, kinds := [], alts := [], laidByText := true, laidKinds := [.data], laidTests := true, laidLooks := .later }
def MachineYieldsCardSaid : Prop := Claim7.holds Tryz.pinned (.plain (OpenSpec.ofChange machineYieldsSpec)) machineYieldsCard

/-- THE SECOND FORM's CARD OF 'treadmilllaw28.MachineSleeps'. -/
def machineSleepsUptoCard : Claim7 := { stood := { row := machineSleepsUptoRow, standIns := [], harness := (true, "71cc25ec1c8c4201d06a377df85740680fe6c291eac0bd0b7bebb41e9f39241d"), looks := true }, kinds := [], alts := [], laidByText := true, laidKinds := [.data], laidTests := true, laidLooks := .later }
def MachineSleepsUptoCardSaid : Prop := Claim7.holds Tryz.pinned (.plain (OpenSpec.upto machineSleepsSpec)) machineSleepsUptoCard

/-- THE SECOND FORM's CARD OF 'treadmilllaw28.MachineWaits'. -/
def machineWaitsUptoCard : Claim7 := { stood := { row := machineWaitsUptoRow, standIns := [], harness := (true, "71cc25ec1c8c4201d06a377df85740680fe6c291eac0bd0b7bebb41e9f39241d"), looks := true }, kinds := [], alts := [], laidByText := true, laidKinds := [.data], laidTests := true, laidLooks := .later }
def MachineWaitsUptoCardSaid : Prop := Claim7.holds Tryz.pinned (.plain (OpenSpec.upto machineWaitsSpec)) machineWaitsUptoCard

/-- THE SECOND FORM's CARD OF 'treadmilllaw28.MachineYields'. -/
def machineYieldsUptoCard : Claim7 := { stood := { row := machineYieldsUptoRow, standIns := [], harness := (true, "71cc25ec1c8c4201d06a377df85740680fe6c291eac0bd0b7bebb41e9f39241d"), looks := true }, kinds := [], alts := [], laidByText := true, laidKinds := [.data], laidTests := true, laidLooks := .later }
def MachineYieldsUptoCardSaid : Prop := Claim7.holds Tryz.pinned (.plain (OpenSpec.upto machineYieldsSpec)) machineYieldsUptoCard
end Rows
end Go.Proofs.YthjplmminmhiaaaGreatDoor
