/-
  DERIVED. GIVEN WITH THE SEED: THE CARDS: each row of YtoeppmnoifankaaGreatDoorRows.lean that lists a variable, with what it lists TIED to the program's text (the seventh form; the later family's looks); each row that meets fmt, with fmt's text TOLD by the authors' own Lean function (tested against real Go, not proved from fmt's source: count such statements apart). THE CARD IS WHAT COUNTS. Prove the row's statement (the work); the ties are given (YtoeppmnoifankaaGreatDoorTie.lean); close each card by the builder's one call (the guide's Derived/Test/ToyasCard.lean, 'card_holds'). Laid BY PROGRAM, IN A SANDBOX (cutbox-door.mjs). By AI agents, Wed Nov 11 2026. No macro, syntax, notation, axiom, sorry.
-/
import Derived.Test.YtoeppmnoifankaaGreatDoorRows
import GoSem.ClaimSeven
namespace Go.Proofs.YtoeppmnoifankaaGreatDoor
namespace Rows

/-- THE TIED CARD OF 'treadmilllaw28.MachineFresh'. -/
def machineFreshCard : Claim7 := { stood := { row := machineFreshRow, standIns := [], harness := (true, "1671adcdabb04c00b4139f451a37d69cda108064108fbb4e4f6b035092bbef78"), looks := true }, kinds := [], alts := [], laidByText := true, laidKinds := [.data], laidTests := true, laidLooks := .later }
def MachineFreshCardSaid : Prop := Claim7.holds Tryz.pinned (.plain (OpenSpec.ofChange machineFreshSpec)) machineFreshCard

/-- THE TIED CARD OF 'treadmilllaw28.MachineNobody'. -/
def machineNobodyCard : Claim7 := { stood := { row := machineNobodyRow, standIns := [], harness := (true, "1671adcdabb04c00b4139f451a37d69cda108064108fbb4e4f6b035092bbef78"), looks := true }, kinds := [], alts := [], laidByText := true, laidKinds := [.data], laidTests := true, laidLooks := .later }
def MachineNobodyCardSaid : Prop := Claim7.holds Tryz.pinned (.plain (OpenSpec.ofChange machineNobodySpec)) machineNobodyCard

/-- THE SECOND FORM's CARD OF 'treadmilllaw28.MachineFresh'. -/
def machineFreshUptoCard : Claim7 := { stood := { row := machineFreshUptoRow, standIns := [], harness := (true, "1671adcdabb04c00b4139f451a37d69cda108064108fbb4e4f6b035092bbef78"), looks := true }, kinds := [], alts := [], laidByText := true, laidKinds := [.data], laidTests := true, laidLooks := .later }
def MachineFreshUptoCardSaid : Prop := Claim7.holds Tryz.pinned (.plain (OpenSpec.upto machineFreshSpec)) machineFreshUptoCard

/-- THE SECOND FORM's CARD OF 'treadmilllaw28.MachineNobody'. -/
def machineNobodyUptoCard : Claim7 := { stood := { row := machineNobodyUptoRow, standIns := [], harness := (true, "1671adcdabb04c00b4139f451a37d69cda108064108fbb4e4f6b035092bbef78"), looks := true }, kinds := [], alts := [], laidByText := true, laidKinds := [.data], laidTests := true, laidLooks := .later }
def MachineNobodyUptoCardSaid : Prop := Claim7.holds Tryz.pinned (.plain (OpenSpec.upto machineNobodySpec)) machineNobodyUptoCard
end Rows
end Go.Proofs.YtoeppmnoifankaaGreatDoor
