/-
  NARROWER THAN 'FOR EVERY INPUT', by the rows' own cells (each row's printed sentence says how): ArenaComes: laid · ArenaBounds: laid · ArenaApart: laid · ArenaSums: laid · ArenaMarks: laid.
  DERIVED. THE GIVEN ROWS OF THIS SEAT. 5 by the template 'for every input the law returns true; each argument reads behind the call as it read before'; 0 by the template 'total and deterministic' (their statements: YtkocikpoagfonaaDoorTotals.lean).
  GIVEN WITH THE SEED: the statements are not yours to turn. If you find one false, say at which input.
  Laid BY PROGRAM, IN A SANDBOX (cutbox-rows.mjs): the forced cells as the released guide's own fill.sh prints them over the translation bfdfe0ccb45d6217… (all of the seat's roots in one cut). By AI agents, Wed Nov 11 2026. No macro, syntax, notation, axiom, sorry.
-/
import Derived.Test.YtkocikpoagfonaaDoorChecked
import GoSem.Claim
import GoSem.ClaimJoined
import GoSem.ClaimMapViews
import Derived.JoinedTies
import Derived.KernelRfl
namespace Go.Proofs.YtkocikpoagfonaaDoor
/- THE CELL 'sum', in the pinned program and in every row, IS THE sha256 OF THE DUMP (.gsa) THAT YtkocikpoagfonaaDoorProg.lean LOADS. Nothing in Lean hashes anything: it is a label: what it is worth is what the hold of that sum in a sandbox is worth. -/
noncomputable def Tryd.pinned : Pinned := { name := "ytkocikpoagfonaadoor", sum := "bfdfe0ccb45d621757078dfeaf88273805a8ddfae9d0487ca8afcce22b2ed7bc", checked := Tryd.checked }
namespace Rows
def none {H : Type} : Left H := { results := [], args := [] }

/- WHAT THE LISTED PACKAGE-LEVEL VARIABLES READ AS WHEN THE CALL BEGINS. Each datum BY PROGRAM (the guide's laid-datum.mjs) off the statement by which the dump's own 'gosem.cut.vars' lays the variable. In a bare row this is a premise. The card (YtkocikpoagfonaaDoorCards.lean) ties it to the program's text. -/
def laid_math_bits_deBruijn64tab {H : Type} : DataW H := .agg [.lit (.int .u8 0), .lit (.int .u8 1), .lit (.int .u8 56), .lit (.int .u8 2), .lit (.int .u8 57), .lit (.int .u8 49), .lit (.int .u8 28), .lit (.int .u8 3), .lit (.int .u8 61), .lit (.int .u8 58), .lit (.int .u8 42), .lit (.int .u8 50), .lit (.int .u8 38), .lit (.int .u8 29), .lit (.int .u8 17), .lit (.int .u8 4), .lit (.int .u8 62), .lit (.int .u8 47), .lit (.int .u8 59), .lit (.int .u8 36), .lit (.int .u8 45), .lit (.int .u8 43), .lit (.int .u8 51), .lit (.int .u8 22), .lit (.int .u8 53), .lit (.int .u8 39), .lit (.int .u8 33), .lit (.int .u8 30), .lit (.int .u8 24), .lit (.int .u8 18), .lit (.int .u8 12), .lit (.int .u8 5), .lit (.int .u8 63), .lit (.int .u8 55), .lit (.int .u8 48), .lit (.int .u8 27), .lit (.int .u8 60), .lit (.int .u8 41), .lit (.int .u8 37), .lit (.int .u8 16), .lit (.int .u8 46), .lit (.int .u8 35), .lit (.int .u8 44), .lit (.int .u8 21), .lit (.int .u8 52), .lit (.int .u8 32), .lit (.int .u8 23), .lit (.int .u8 11), .lit (.int .u8 54), .lit (.int .u8 26), .lit (.int .u8 40), .lit (.int .u8 15), .lit (.int .u8 34), .lit (.int .u8 20), .lit (.int .u8 31), .lit (.int .u8 10), .lit (.int .u8 25), .lit (.int .u8 14), .lit (.int .u8 19), .lit (.int .u8 9), .lit (.int .u8 13), .lit (.int .u8 8), .lit (.int .u8 7), .lit (.int .u8 6)]

/-- 'treadmilllaw7.ArenaComes': WHATEVER THE INPUT: true; the input reads as it did. -/
def arenaComesSpec : ChangeSpec := { name := "arenaComes", fn := fun _ => fun
  | [d1, d2, d3] => { results := [.lit (.bool true)], args := [d1, d2, d3] }
  | _ => none }
def arenaComesRow : OpenClaim := { program := "ytkocikpoagfonaadoor", sum := "bfdfe0ccb45d621757078dfeaf88273805a8ddfae9d0487ca8afcce22b2ed7bc", func := "treadmill/treadmilllaw7.ArenaComes", spec := "arenaComes", inPlace := ["slices.overlaps[treadmill/api.Run]"], unfollowed := true, recurses := true, named := ["math/bits.deBruijn64tab"], apart := false, laid := [("math/bits.deBruijn64tab", laid_math_bits_deBruijn64tab)] }
def ArenaComesSaid : Prop := arenaComesRow.holds Tryd.pinned (OpenSpec.ofChange arenaComesSpec)

/-- ITS FALSE NEIGHBOUR: 'it returns false'. Refute it at one input. -/
def arenaComesWrong : ChangeSpec := { name := "arenaComes", fn := fun _ => fun
  | [d1, d2, d3] => { results := [.lit (.bool false)], args := [d1, d2, d3] }
  | _ => none }
def ArenaComesWrongFalsely : Prop := arenaComesRow.holds Tryd.pinned (OpenSpec.ofChange arenaComesWrong)

/-- 'treadmilllaw7.ArenaBounds': WHATEVER THE INPUT: true; the input reads as it did. -/
def arenaBoundsSpec : ChangeSpec := { name := "arenaBounds", fn := fun _ => fun
  | [d1, d2, d3] => { results := [.lit (.bool true)], args := [d1, d2, d3] }
  | _ => none }
def arenaBoundsRow : OpenClaim := { program := "ytkocikpoagfonaadoor", sum := "bfdfe0ccb45d621757078dfeaf88273805a8ddfae9d0487ca8afcce22b2ed7bc", func := "treadmill/treadmilllaw7.ArenaBounds", spec := "arenaBounds", unfollowed := true, recurses := true, named := ["math/bits.deBruijn64tab"], apart := false, laid := [("math/bits.deBruijn64tab", laid_math_bits_deBruijn64tab)] }
def ArenaBoundsSaid : Prop := arenaBoundsRow.holds Tryd.pinned (OpenSpec.ofChange arenaBoundsSpec)

/-- ITS FALSE NEIGHBOUR: 'it returns false'. Refute it at one input. -/
def arenaBoundsWrong : ChangeSpec := { name := "arenaBounds", fn := fun _ => fun
  | [d1, d2, d3] => { results := [.lit (.bool false)], args := [d1, d2, d3] }
  | _ => none }
def ArenaBoundsWrongFalsely : Prop := arenaBoundsRow.holds Tryd.pinned (OpenSpec.ofChange arenaBoundsWrong)

/-- 'treadmilllaw7.ArenaApart': WHATEVER THE INPUT: true; the input reads as it did. -/
def arenaApartSpec : ChangeSpec := { name := "arenaApart", fn := fun _ => fun
  | [d] => { results := [.lit (.bool true)], args := [d] }
  | _ => none }
def arenaApartRow : OpenClaim := { program := "ytkocikpoagfonaadoor", sum := "bfdfe0ccb45d621757078dfeaf88273805a8ddfae9d0487ca8afcce22b2ed7bc", func := "treadmill/treadmilllaw7.ArenaApart", spec := "arenaApart", unfollowed := true, recurses := true, named := ["math/bits.deBruijn64tab"], apart := false, laid := [("math/bits.deBruijn64tab", laid_math_bits_deBruijn64tab)] }
def ArenaApartSaid : Prop := arenaApartRow.holds Tryd.pinned (OpenSpec.ofChange arenaApartSpec)

/-- ITS FALSE NEIGHBOUR: 'it returns false'. Refute it at one input. -/
def arenaApartWrong : ChangeSpec := { name := "arenaApart", fn := fun _ => fun
  | [d] => { results := [.lit (.bool false)], args := [d] }
  | _ => none }
def ArenaApartWrongFalsely : Prop := arenaApartRow.holds Tryd.pinned (OpenSpec.ofChange arenaApartWrong)

/-- 'treadmilllaw7.ArenaSums': WHATEVER THE INPUT: true; the input reads as it did. -/
def arenaSumsSpec : ChangeSpec := { name := "arenaSums", fn := fun _ => fun
  | [d1, d2] => { results := [.lit (.bool true)], args := [d1, d2] }
  | _ => none }
def arenaSumsRow : OpenClaim := { program := "ytkocikpoagfonaadoor", sum := "bfdfe0ccb45d621757078dfeaf88273805a8ddfae9d0487ca8afcce22b2ed7bc", func := "treadmill/treadmilllaw7.ArenaSums", spec := "arenaSums", unfollowed := true, recurses := true, named := ["math/bits.deBruijn64tab"], apart := false, laid := [("math/bits.deBruijn64tab", laid_math_bits_deBruijn64tab)] }
def ArenaSumsSaid : Prop := arenaSumsRow.holds Tryd.pinned (OpenSpec.ofChange arenaSumsSpec)

/-- ITS FALSE NEIGHBOUR: 'it returns false'. Refute it at one input. -/
def arenaSumsWrong : ChangeSpec := { name := "arenaSums", fn := fun _ => fun
  | [d1, d2] => { results := [.lit (.bool false)], args := [d1, d2] }
  | _ => none }
def ArenaSumsWrongFalsely : Prop := arenaSumsRow.holds Tryd.pinned (OpenSpec.ofChange arenaSumsWrong)

/-- 'treadmilllaw7.ArenaMarks': WHATEVER THE INPUT: true; the input reads as it did. -/
def arenaMarksSpec : ChangeSpec := { name := "arenaMarks", fn := fun _ => fun
  | [d1, d2] => { results := [.lit (.bool true)], args := [d1, d2] }
  | _ => none }
def arenaMarksRow : OpenClaim := { program := "ytkocikpoagfonaadoor", sum := "bfdfe0ccb45d621757078dfeaf88273805a8ddfae9d0487ca8afcce22b2ed7bc", func := "treadmill/treadmilllaw7.ArenaMarks", spec := "arenaMarks", unfollowed := true, recurses := true, named := ["math/bits.deBruijn64tab"], apart := false, laid := [("math/bits.deBruijn64tab", laid_math_bits_deBruijn64tab)] }
def ArenaMarksSaid : Prop := arenaMarksRow.holds Tryd.pinned (OpenSpec.ofChange arenaMarksSpec)

/-- ITS FALSE NEIGHBOUR: 'it returns false'. Refute it at one input. -/
def arenaMarksWrong : ChangeSpec := { name := "arenaMarks", fn := fun _ => fun
  | [d1, d2] => { results := [.lit (.bool false)], args := [d1, d2] }
  | _ => none }
def ArenaMarksWrongFalsely : Prop := arenaMarksRow.holds Tryd.pinned (OpenSpec.ofChange arenaMarksWrong)

/- THE SECOND FORM. 'bulk': how many values and letters a reading holds, each counted each time it is reached (what is shared counts as often as it is met; a slice's spare places count too). A statement '..UptoSaid' is the law's where the arguments, and the package variables that the reading takes, are together of bulk at most 1048576: NARROWER than '..Said'. Prove '..Said' where nothing that the law and all that it calls make is longer than what came in: it says more and counts as full. Else prove '..UptoSaid'. A law counts once. -/
mutual
def uptoBulk {H : Type} : DataW H → Nat
  | .lit (.string bytes) => bytes.length + 1
  | .lit _ => 1
  | .nil => 1
  | .ptr d => uptoBulk d + 1
  | .slice elems spare => uptoBulkAll elems + uptoBulkAll spare + 1
  | .agg parts => uptoBulkAll parts + 1
  | .iface _ d => uptoBulk d + 1
  | .map entries => uptoBulkEntries entries + 1
  | .held _ => 1
def uptoBulkAll {H : Type} : List (DataW H) → Nat
  | [] => 0
  | d :: r => uptoBulk d + uptoBulkAll r
def uptoBulkEntries {H : Type} : List (Lit × DataW H) → Nat
  | [] => 0
  | x :: r => uptoBulkEntry x + uptoBulkEntries r
def uptoBulkEntry {H : Type} : Lit × DataW H → Nat
  | (.string bytes, d) => bytes.length + uptoBulk d + 1
  | (_, d) => uptoBulk d + 1
 end
def uptoSmall : (H : Type) → List (DataW H) → Bool := fun _ ds => decide (uptoBulkAll ds ≤ 1048576)
def OpenSpec.upto (s : _root_.Go.ChangeSpec) : _root_.Go.OpenSpec := { _root_.Go.OpenSpec.ofChange s with cond := some uptoSmall }

/-- 'treadmilllaw7.ArenaComes', WHERE WHAT IT READS IS OF BULK AT MOST 1048576: true; the input reads as it did. -/
def arenaComesUptoRow : OpenClaim := { program := "ytkocikpoagfonaadoor", sum := "bfdfe0ccb45d621757078dfeaf88273805a8ddfae9d0487ca8afcce22b2ed7bc", func := "treadmill/treadmilllaw7.ArenaComes", spec := "arenaComes", inPlace := ["slices.overlaps[treadmill/api.Run]"], unfollowed := true, recurses := true, named := ["math/bits.deBruijn64tab"], apart := false, laid := [("math/bits.deBruijn64tab", laid_math_bits_deBruijn64tab)], narrowed := true }
def ArenaComesUptoSaid : Prop := arenaComesUptoRow.holds Tryd.pinned (OpenSpec.upto arenaComesSpec)

/-- 'treadmilllaw7.ArenaBounds', WHERE WHAT IT READS IS OF BULK AT MOST 1048576: true; the input reads as it did. -/
def arenaBoundsUptoRow : OpenClaim := { program := "ytkocikpoagfonaadoor", sum := "bfdfe0ccb45d621757078dfeaf88273805a8ddfae9d0487ca8afcce22b2ed7bc", func := "treadmill/treadmilllaw7.ArenaBounds", spec := "arenaBounds", unfollowed := true, recurses := true, named := ["math/bits.deBruijn64tab"], apart := false, laid := [("math/bits.deBruijn64tab", laid_math_bits_deBruijn64tab)], narrowed := true }
def ArenaBoundsUptoSaid : Prop := arenaBoundsUptoRow.holds Tryd.pinned (OpenSpec.upto arenaBoundsSpec)

/-- 'treadmilllaw7.ArenaApart', WHERE WHAT IT READS IS OF BULK AT MOST 1048576: true; the input reads as it did. -/
def arenaApartUptoRow : OpenClaim := { program := "ytkocikpoagfonaadoor", sum := "bfdfe0ccb45d621757078dfeaf88273805a8ddfae9d0487ca8afcce22b2ed7bc", func := "treadmill/treadmilllaw7.ArenaApart", spec := "arenaApart", unfollowed := true, recurses := true, named := ["math/bits.deBruijn64tab"], apart := false, laid := [("math/bits.deBruijn64tab", laid_math_bits_deBruijn64tab)], narrowed := true }
def ArenaApartUptoSaid : Prop := arenaApartUptoRow.holds Tryd.pinned (OpenSpec.upto arenaApartSpec)

/-- 'treadmilllaw7.ArenaSums', WHERE WHAT IT READS IS OF BULK AT MOST 1048576: true; the input reads as it did. -/
def arenaSumsUptoRow : OpenClaim := { program := "ytkocikpoagfonaadoor", sum := "bfdfe0ccb45d621757078dfeaf88273805a8ddfae9d0487ca8afcce22b2ed7bc", func := "treadmill/treadmilllaw7.ArenaSums", spec := "arenaSums", unfollowed := true, recurses := true, named := ["math/bits.deBruijn64tab"], apart := false, laid := [("math/bits.deBruijn64tab", laid_math_bits_deBruijn64tab)], narrowed := true }
def ArenaSumsUptoSaid : Prop := arenaSumsUptoRow.holds Tryd.pinned (OpenSpec.upto arenaSumsSpec)

/-- 'treadmilllaw7.ArenaMarks', WHERE WHAT IT READS IS OF BULK AT MOST 1048576: true; the input reads as it did. -/
def arenaMarksUptoRow : OpenClaim := { program := "ytkocikpoagfonaadoor", sum := "bfdfe0ccb45d621757078dfeaf88273805a8ddfae9d0487ca8afcce22b2ed7bc", func := "treadmill/treadmilllaw7.ArenaMarks", spec := "arenaMarks", unfollowed := true, recurses := true, named := ["math/bits.deBruijn64tab"], apart := false, laid := [("math/bits.deBruijn64tab", laid_math_bits_deBruijn64tab)], narrowed := true }
def ArenaMarksUptoSaid : Prop := arenaMarksUptoRow.holds Tryd.pinned (OpenSpec.upto arenaMarksSpec)

end Rows
end Go.Proofs.YtkocikpoagfonaaDoor
