/-
  DERIVED. GIVEN WITH THE SEED: THE CARDS: each row of YtcnchgbngcnijaaGreatDoorRows.lean that lists a variable, with what it lists TIED to the program's text (the seventh form; the later family's looks); each row that meets fmt, with fmt's text TOLD by the authors' own Lean function (tested against real Go, not proved from fmt's source: count such statements apart). THE CARD IS WHAT COUNTS. Prove the row's statement (the work); the ties are given (YtcnchgbngcnijaaGreatDoorTie.lean); close each card by the builder's one call (the guide's Derived/Test/ToyasCard.lean, 'card_holds'). Laid BY PROGRAM, IN A SANDBOX (cutbox-door.mjs). By AI agents, Wed Nov 11 2026. No macro, syntax, notation, axiom, sorry.
-/
import Derived.Test.YtcnchgbngcnijaaGreatDoorRows
import GoSem.ClaimSeven
namespace Go.Proofs.YtcnchgbngcnijaaGreatDoor
namespace Rows

/-- THE TIED CARD OF 'treadmilllaw7.ArenaPlays'. -/
def arenaPlaysCard : Claim7 := { stood := { row := arenaPlaysRow, standIns := [], harness := (true, "93caef516120ad45dd691d7549a69014027ba46980d8bd59cc93211e6eb8a767"), looks := true }, kinds := [], alts := [], laidByText := true, laidKinds := [.data], laidTests := true, laidLooks := .later }
def ArenaPlaysCardSaid : Prop := Claim7.holds Tryz.pinned (.plain (OpenSpec.ofChange arenaPlaysSpec)) arenaPlaysCard

/-- THE TIED CARD OF 'treadmilllaw9.HeapSwept'. -/
def heapSweptCard : Claim7 := { stood := { row := heapSweptRow, standIns := [], harness := (true, "93caef516120ad45dd691d7549a69014027ba46980d8bd59cc93211e6eb8a767"), looks := true }, kinds := [], alts := [], laidByText := true, laidKinds := [.data], laidTests := true, laidLooks := .later }
def HeapSweptCardSaid : Prop := Claim7.holds Tryz.pinned (.plain (OpenSpec.ofChange heapSweptSpec)) heapSweptCard

/-- THE TIED CARD OF 'treadmilllaw9.HeapApart'. -/
def heapApartCard : Claim7 := { stood := { row := heapApartRow, standIns := [], harness := (true, "93caef516120ad45dd691d7549a69014027ba46980d8bd59cc93211e6eb8a767"), looks := true }, kinds := [], alts := [], laidByText := true, laidKinds := [.data], laidTests := true, laidLooks := .later }
def HeapApartCardSaid : Prop := Claim7.holds Tryz.pinned (.plain (OpenSpec.ofChange heapApartSpec)) heapApartCard

/-- THE TIED CARD OF 'treadmilllaw9.HeapDrops'. -/
def heapDropsCard : Claim7 := { stood := { row := heapDropsRow, standIns := [], harness := (true, "93caef516120ad45dd691d7549a69014027ba46980d8bd59cc93211e6eb8a767"), looks := true }, kinds := [], alts := [], laidByText := true, laidKinds := [.data], laidTests := true, laidLooks := .later }
def HeapDropsCardSaid : Prop := Claim7.holds Tryz.pinned (.plain (OpenSpec.ofChange heapDropsSpec)) heapDropsCard

/-- THE TIED CARD OF 'treadmilllaw9.HeapCycles'. -/
def heapCyclesCard : Claim7 := { stood := { row := heapCyclesRow, standIns := [], harness := (true, "93caef516120ad45dd691d7549a69014027ba46980d8bd59cc93211e6eb8a767"), looks := true }, kinds := [], alts := [], laidByText := true, laidKinds := [.data], laidTests := true, laidLooks := .later }
def HeapCyclesCardSaid : Prop := Claim7.holds Tryz.pinned (.plain (OpenSpec.ofChange heapCyclesSpec)) heapCyclesCard

/-- THE TIED CARD OF 'treadmilllaw9.HeapFull'. -/
def heapFullCard : Claim7 := { stood := { row := heapFullRow, standIns := [], harness := (true, "93caef516120ad45dd691d7549a69014027ba46980d8bd59cc93211e6eb8a767"), looks := true }, kinds := [], alts := [], laidByText := true, laidKinds := [.data], laidTests := true, laidLooks := .later }
def HeapFullCardSaid : Prop := Claim7.holds Tryz.pinned (.plain (OpenSpec.ofChange heapFullSpec)) heapFullCard

/-- THE TIED CARD OF 'treadmilllaw9.HeapPlays'. -/
def heapPlaysCard : Claim7 := { stood := { row := heapPlaysRow, standIns := [], harness := (true, "93caef516120ad45dd691d7549a69014027ba46980d8bd59cc93211e6eb8a767"), looks := true }, kinds := [], alts := [], laidByText := true, laidKinds := [.data], laidTests := true, laidLooks := .later }
def HeapPlaysCardSaid : Prop := Claim7.holds Tryz.pinned (.plain (OpenSpec.ofChange heapPlaysSpec)) heapPlaysCard

/-- THE SECOND FORM's CARD OF 'treadmilllaw7.ArenaPlays'. -/
def arenaPlaysUptoCard : Claim7 := { stood := { row := arenaPlaysUptoRow, standIns := [], harness := (true, "93caef516120ad45dd691d7549a69014027ba46980d8bd59cc93211e6eb8a767"), looks := true }, kinds := [], alts := [], laidByText := true, laidKinds := [.data], laidTests := true, laidLooks := .later }
def ArenaPlaysUptoCardSaid : Prop := Claim7.holds Tryz.pinned (.plain (OpenSpec.upto arenaPlaysSpec)) arenaPlaysUptoCard

/-- THE SECOND FORM's CARD OF 'treadmilllaw9.HeapSwept'. -/
def heapSweptUptoCard : Claim7 := { stood := { row := heapSweptUptoRow, standIns := [], harness := (true, "93caef516120ad45dd691d7549a69014027ba46980d8bd59cc93211e6eb8a767"), looks := true }, kinds := [], alts := [], laidByText := true, laidKinds := [.data], laidTests := true, laidLooks := .later }
def HeapSweptUptoCardSaid : Prop := Claim7.holds Tryz.pinned (.plain (OpenSpec.upto heapSweptSpec)) heapSweptUptoCard

/-- THE SECOND FORM's CARD OF 'treadmilllaw9.HeapApart'. -/
def heapApartUptoCard : Claim7 := { stood := { row := heapApartUptoRow, standIns := [], harness := (true, "93caef516120ad45dd691d7549a69014027ba46980d8bd59cc93211e6eb8a767"), looks := true }, kinds := [], alts := [], laidByText := true, laidKinds := [.data], laidTests := true, laidLooks := .later }
def HeapApartUptoCardSaid : Prop := Claim7.holds Tryz.pinned (.plain (OpenSpec.upto heapApartSpec)) heapApartUptoCard

/-- THE SECOND FORM's CARD OF 'treadmilllaw9.HeapDrops'. -/
def heapDropsUptoCard : Claim7 := { stood := { row := heapDropsUptoRow, standIns := [], harness := (true, "93caef516120ad45dd691d7549a69014027ba46980d8bd59cc93211e6eb8a767"), looks := true }, kinds := [], alts := [], laidByText := true, laidKinds := [.data], laidTests := true, laidLooks := .later }
def HeapDropsUptoCardSaid : Prop := Claim7.holds Tryz.pinned (.plain (OpenSpec.upto heapDropsSpec)) heapDropsUptoCard

/-- THE SECOND FORM's CARD OF 'treadmilllaw9.HeapCycles'. -/
def heapCyclesUptoCard : Claim7 := { stood := { row := heapCyclesUptoRow, standIns := [], harness := (true, "93caef516120ad45dd691d7549a69014027ba46980d8bd59cc93211e6eb8a767"), looks := true }, kinds := [], alts := [], laidByText := true, laidKinds := [.data], laidTests := true, laidLooks := .later }
def HeapCyclesUptoCardSaid : Prop := Claim7.holds Tryz.pinned (.plain (OpenSpec.upto heapCyclesSpec)) heapCyclesUptoCard

/-- THE SECOND FORM's CARD OF 'treadmilllaw9.HeapFull'. -/
def heapFullUptoCard : Claim7 := { stood := { row := heapFullUptoRow, standIns := [], harness := (true, "93caef516120ad45dd691d7549a69014027ba46980d8bd59cc93211e6eb8a767"), looks := true }, kinds := [], alts := [], laidByText := true, laidKinds := [.data], laidTests := true, laidLooks := .later }
def HeapFullUptoCardSaid : Prop := Claim7.holds Tryz.pinned (.plain (OpenSpec.upto heapFullSpec)) heapFullUptoCard

/-- THE SECOND FORM's CARD OF 'treadmilllaw9.HeapPlays'. -/
def heapPlaysUptoCard : Claim7 := { stood := { row := heapPlaysUptoRow, standIns := [], harness := (true, "93caef516120ad45dd691d7549a69014027ba46980d8bd59cc93211e6eb8a767"), looks := true }, kinds := [], alts := [], laidByText := true, laidKinds := [.data], laidTests := true, laidLooks := .later }
def HeapPlaysUptoCardSaid : Prop := Claim7.holds Tryz.pinned (.plain (OpenSpec.upto heapPlaysSpec)) heapPlaysUptoCard
end Rows
end Go.Proofs.YtcnchgbngcnijaaGreatDoor
