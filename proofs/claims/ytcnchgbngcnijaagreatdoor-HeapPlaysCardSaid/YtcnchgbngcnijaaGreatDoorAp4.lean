/- ArenaPlays: each op, done to the code's arena and then to the document's: they tell the same, and both are one arena again. -/
import Derived.Test.YtcnchgbngcnijaaGreatDoorMGa
import Derived.Test.YtcnchgbngcnijaaGreatDoorMRl
import Derived.Test.YtcnchgbngcnijaaGreatDoorRp
import Derived.Test.YtcnchgbngcnijaaGreatDoorRq
import Derived.Test.YtcnchgbngcnijaaGreatDoorMOb
namespace Go.Proofs.YtcnchgbngcnijaaGreatDoor
open Go.RowKit Go.Maps

theorem at_uniq {N : Nat} {a : Ar} (ok : ArOk N a) {id id' i i' : Nat} {s s' : Sp} (hs : a.sp id = some s) (hi : i < slK s.k) (hs' : a.sp id' = some s') (hi' : i' < slK s'.k) (e : s.addr i = s'.addr i') : id = id' ∧ s = s' ∧ i = i' := by
  have h1 := ok.other hs hs' hi hi' e
  subst h1
  rw [hs] at hs'
  cases hs'
  exact ⟨rfl, rfl, Sp.addr_inj (ok.pg _ s hs).1 e⟩
/-- Behind both. -/
def NxPost (W : World) (g rg n N b m : Nat) (v : Value) (e : Ending) (w3 : World) : Prop :=
  e = .returned v ∧ ∃ h' hr' a' ids' N' b' m', N' ≤ N + 1 ∧ b' ≤ b + 6 ∧ m' ≤ m + 256 ∧ a'.n = n ∧ ApT W g rg h' hr' a' ids' N' b' m' w3
/-- Behind the code's: what it tells is a v of the form V, and the document's f tells the same. -/
def OpPost (W : World) (g rg : Nat) (h : ArH) (a : Ar) (N b m : Nat) (V : Value → Prop) (f : FuncId) (args : Array Value) (w : World) (e : Ending) (w1 : World) : Prop :=
  ∃ v, V v ∧ e = .returned v ∧ (∀ bx t cs, Blk w bx t cs → ¬ ArF h a bx → Blk w1 bx t cs) ∧ ∀ w2, Chg [] w1 w2 → Calls Tryz.prog f args w2 (NxPost W g rg a.n N b m v)
def IsPair (v : Value) : Prop := ∃ p c : Int, v = .tuple #[.int .i64 p, .int .i64 c]
def IsInt (v : Value) : Prop := ∃ c : Int, v = .int .i64 c
def IsBool (v : Value) : Prop := ∃ c : Bool, v = .bool c
section
variable {W w : World} {g rg N b m : Nat} {h : ArH} {hr : RaH} {a : Ar} {ids : List Nat} (T : ApT W g rg h hr a ids N b m w)
include T
end
end Go.Proofs.YtcnchgbngcnijaaGreatDoor
