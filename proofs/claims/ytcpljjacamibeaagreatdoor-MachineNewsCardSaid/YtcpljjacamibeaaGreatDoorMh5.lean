/- The document's model beside the machine, in plain Lean: of Exit, Yield, Set, Dec, Jump, Spawn. -/
import Derived.Test.YtcpljjacamibeaaGreatDoorMg7
namespace Go.Proofs.YtcpljjacamibeaaGreatDoor
set_option maxHeartbeats 16000000
set_option maxRecDepth 100000
open Go.RowKit Go.Maps
structure MdG where
  st : Int
  f : Int
  pc : Int
  cnt : Int
  sk : Nat → Int
structure Mdl where
  fs : List (List Ins)
  n : Nat
  gs : Nat → MdG
  wt : Nat → List Int
def doX (X : Mdl) (g : Nat) (i : Ins) : Mdl :=
  if i.o = 0 then { X with gs := updV X.gs g { X.gs g with pc := (X.gs g).pc + 1, st := 5 } }
  else if i.o = 9 then { X with gs := updV X.gs g { X.gs g with pc := (X.gs g).pc + 1 } }
  else if i.o = 16 then { X with gs := updV X.gs g { X.gs g with pc := (X.gs g).pc + 1, cnt := 256 * (i.a : Nat) + (i.b : Nat) } }
  else if i.o = 14 then { X with gs := updV X.gs g { X.gs g with pc := (i.a : Nat) } }
  else if i.o = 17 then
    if (X.gs g).cnt = 0 then { X with gs := updV X.gs g { X.gs g with pc := (X.gs g).pc + 1 } }
    else { X with gs := updV X.gs g { X.gs g with pc := (i.a : Nat), cnt := (X.gs g).cnt - 1 } }
  else { X with n := X.n + 1, gs := updV (updV X.gs g { X.gs g with pc := (X.gs g).pc + 1 }) X.n ⟨1, (i.a : Nat), 0, 0, updV (fun _ => 0) 0 ((X.gs g).sk i.b)⟩ }
def tellX (X : Mdl) (g : Nat) (i : Ins) : ComA := ⟨(g : Nat), (X.gs g).f, (X.gs g).pc, (i.o : Nat), if i.o = 8 then (X.n : Nat) else 0, false⟩
def stX (s : Int) : Int := if s = 5 then 5 else if s = 3 then 3 else 1
structure Rel (m : Mac) (X : Mdl) : Prop where
  fs : X.fs = m.fs
  n : X.n = m.ng
  st : ∀ j s, m.sts[j]? = some s → (X.gs j).st = stX s
  g : ∀ j, j < m.ng → (X.gs j).f = (m.gs j).f ∧ (X.gs j).pc = (m.gs j).pc ∧ (X.gs j).cnt = (m.gs j).cnt ∧ (X.gs j).sk = (m.gs j).st
  w : m.wt = X.wt
section
variable {m : Mac} {X : Mdl} (R : Rel m X) (q g : Nat) (hg : g < m.ng)
include R hg
end
end Go.Proofs.YtcpljjacamibeaaGreatDoor
