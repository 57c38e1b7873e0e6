/- The document's Encode, of a program that may be. -/
import Derived.Test.YtcpljjacamibeaaGreatDoorMf1J
import Derived.Test.YtcpljjacamibeaaGreatDoorMcIJ
import Derived.Laws.BytesArg
namespace Go.Proofs.YtcpljjacamibeaaGreatDoor
set_option maxHeartbeats 16000000
set_option maxRecDepth 100000
open Go.RowKit Go.Maps
structure BtR (w0 : World) (bs : List Nat) (v : Value) (w : World) : Prop where
  o : OwnV 5 w v (u8s bs)
  c : Chg [] w0 w
  f : ∀ k ∈ fpv v, w0.heap.size ≤ k
def encT (G : Nat) (fs : List (List Ins)) (i : Nat) : List Nat := fs.length :: G :: (fs.take i).flatMap encF
def EncR1 (w1 : World) (G : Nat) (fs : List (List Ins)) (gk : Nat) (v idx : Value) (w : World) : Prop := ∃ i : Nat, gk + i = fs.length + 1 ∧ i ≤ fs.length ∧ idx = .int .i64 (i : Nat) ∧ BtR w1 (encT G fs i) v w
def EncR2 (w1 : World) (bs : List Nat) (l : List Ins) (gk : Nat) (v idx : Value) (w : World) : Prop := ∃ i : Nat, gk + i = l.length + 1 ∧ i ≤ l.length ∧ idx = .int .i64 (i : Nat) ∧ BtR w1 (bs ++ (l.take i).flatMap encI) v w
def EcPost (bs : List Nat) (w : World) (e : Ending) (w' : World) : Prop := e = .returned (.tuple #[.string (strOfNums (bs.map fun n : Nat => (n : Int))), .int .i64 0]) ∧ Chg [] w w'
end Go.Proofs.YtcpljjacamibeaaGreatDoor
