/-
  DERIVED. GIVEN WITH THE SEED: THE CARDS: each row of YtepnlcemlnkpdaaGreatDoorRows.lean that lists a variable, with what it lists TIED to the program's text (the seventh form; the later family's looks); each row that meets fmt, with fmt's text TOLD by the authors' own Lean function (tested against real Go, not proved from fmt's source: count such statements apart). THE CARD IS WHAT COUNTS. Prove the row's statement (the work); the ties are given (YtepnlcemlnkpdaaGreatDoorTie.lean); close each card by the builder's one call (the guide's Derived/Test/ToyasCard.lean, 'card_holds'). Laid BY PROGRAM, IN A SANDBOX (cutbox-door.mjs). By AI agents, Wed Nov 11 2026. No macro, syntax, notation, axiom, sorry.
-/
import Derived.Test.YtepnlcemlnkpdaaGreatDoorRows
import GoSem.ClaimSeven
namespace Go.Proofs.YtepnlcemlnkpdaaGreatDoor
namespace Rows

/-- THE TIED CARD OF 'treadmilllaw28.MachineGreat'. -/
def machineGreatCard : Claim7 := { stood := { row := machineGreatRow, standIns := [], harness := (true, "b6bfb6faeac31efc893e0e439479b74184b2a2711703ad25dee9213946e42181"), looks := true }, kinds := [], alts := [], laidByText := true, laidKinds := [.data], laidTests := true, laidLooks := .later }
def MachineGreatCardSaid : Prop := Claim7.holds Tryz.pinned (.plain (OpenSpec.ofChange machineGreatSpec)) machineGreatCard

/-- THE TIED CARD OF 'treadmilllaw28.MachineFaults'. -/
def machineFaultsCard : Claim7 := { stood := { row := machineFaultsRow, standIns := [], harness := (true, "b6bfb6faeac31efc893e0e439479b74184b2a2711703ad25dee9213946e42181"), looks := true }, kinds := [], alts := [], laidByText := true, laidKinds := [.data], laidTests := true, laidLooks := .later }
def MachineFaultsCardSaid : Prop := Claim7.holds Tryz.pinned (.plain (OpenSpec.ofChange machineFaultsSpec)) machineFaultsCard

/-- THE TIED CARD OF 'treadmilllaw28.MachineNews'. -/
def machineNewsCard : Claim7 := { stood := { row := machineNewsRow, standIns := [], harness := (true, "b6bfb6faeac31efc893e0e439479b74184b2a2711703ad25dee9213946e42181"), looks := true }, kinds := [], alts := [], laidByText := true, laidKinds := [.data], laidTests := true, laidLooks := .later }
def MachineNewsCardSaid : Prop := Claim7.holds Tryz.pinned (.plain (OpenSpec.ofChange machineNewsSpec)) machineNewsCard

/-- THE SECOND FORM's CARD OF 'treadmilllaw28.MachineGreat'. -/
def machineGreatUptoCard : Claim7 := { stood := { row := machineGreatUptoRow, standIns := [], harness := (true, "b6bfb6faeac31efc893e0e439479b74184b2a2711703ad25dee9213946e42181"), looks := true }, kinds := [], alts := [], laidByText := true, laidKinds := [.data], laidTests := true, laidLooks := .later }
def MachineGreatUptoCardSaid : Prop := Claim7.holds Tryz.pinned (.plain (OpenSpec.upto machineGreatSpec)) machineGreatUptoCard

/-- THE SECOND FORM's CARD OF 'treadmilllaw28.MachineFaults'. -/
def machineFaultsUptoCard : Claim7 := { stood := { row := machineFaultsUptoRow, standIns := [], harness := (true, "b6bfb6faeac31efc893e0e439479b74184b2a2711703ad25dee9213946e42181"), looks := true }, kinds := [], alts := [], laidByText := true, laidKinds := [.data], laidTests := true, laidLooks := .later }
def MachineFaultsUptoCardSaid : Prop := Claim7.holds Tryz.pinned (.plain (OpenSpec.upto machineFaultsSpec)) machineFaultsUptoCard

/-- THE SECOND FORM's CARD OF 'treadmilllaw28.MachineNews'. -/
def machineNewsUptoCard : Claim7 := { stood := { row := machineNewsUptoRow, standIns := [], harness := (true, "b6bfb6faeac31efc893e0e439479b74184b2a2711703ad25dee9213946e42181"), looks := true }, kinds := [], alts := [], laidByText := true, laidKinds := [.data], laidTests := true, laidLooks := .later }
def MachineNewsUptoCardSaid : Prop := Claim7.holds Tryz.pinned (.plain (OpenSpec.upto machineNewsSpec)) machineNewsUptoCard
end Rows
end Go.Proofs.YtepnlcemlnkpdaaGreatDoor
