/- Package machine: one Step of a P that has something of its own, of Exit, Yield, Set, Dec, Jump, Spawn: one function on machines tells what it does. -/
import Derived.Test.YtcpljjacamibeaaGreatDoorMe1J
import Derived.Test.YtcpljjacamibeaaGreatDoorMj2J
namespace Go.Proofs.YtcpljjacamibeaaGreatDoor
set_option maxHeartbeats 16000000
set_option maxRecDepth 100000
open Go.RowKit Go.Maps
def serve (m : Mac) (q g : Nat) : Mac := if (m.ps q).g = -1 then takeA (tickA m q) q g else tickA m q
def stepA (m : Mac) (q g : Nat) (i : Ins) : Mac := cmt (serve m q g) q g i
structure Calm (m : Mac) : Prop where
  P : m.np ≤ 64
  tm : m.tm = []
  made : m.made = 0
  out : m.out = false
  h0 : m.ph.ph = 0
  fo : m.force = 0
  cy : 0 ≤ m.ph.cyc
  lv : m.A.a.live = 0
  T : 0 < m.gT
  sl : m.sts.length = m.ng
  ng : m.ng ≤ 1024
  cl : m.cms.length ≤ 100000000
  ob : ∀ x, m.A.a.ob x = none
structure Nxt (m : Mac) (g : Nat) (i : Ins) : Prop where
  o : i.o = 0 ∨ i.o = 8 ∨ i.o = 9 ∨ i.o = 14 ∨ i.o = 16 ∨ i.o = 17
  a : i.a < 256
  b : i.b < 256
  b8 : i.o = 8 → i.b < 16 ∧ m.ng < 1024
  c0 : 0 ≤ (m.gs g).cnt
  c1 : (m.gs g).cnt ≤ 1000000
  at_ : ∃ (F pc : Nat) (l : List Ins), (m.gs g).f = F ∧ (m.gs g).pc = pc ∧ pc ≤ 1000000 ∧ m.fs[F]? = some l ∧ (l[pc]? = some i ∨ (pc = l.length ∧ i = ⟨0, 0, 0, 0⟩)) ∧ l ≠ []
structure Cnts (m : Mac) (q : Nat) : Prop where
  wk : ∃ n : Nat, (m.ps q).worked = n ∧ n ≤ 1000000
  al : ∃ n : Nat, (m.ps q).all = n ∧ n + 1 ≤ 1000000
  pk : ∃ n : Nat, (m.ps q).picks = n ∧ n ≤ 1000000
  sp : ∃ n : Nat, m.steps = n ∧ n ≤ 1000000
  ck : ∃ n : Nat, m.clock = n ∧ n ≤ 1000000
def Serves (m : Mac) (q g : Nat) : Prop :=
  ((m.ps q).g = -1 ∧ (m.rg q).hs = false ∧ (m.rg q).fr < 256 ∧ 0 < (m.rg q).n ∧ (m.rg q).n ≤ 256 ∧ (m.rg q).l (m.rg q).fr = (g : Nat) ∧ m.sts[g]? = some 1) ∨
  ((m.ps q).g = (g : Nat) ∧ m.sts[g]? = some 2 ∧ (∃ rw : Nat, (m.ps q).row = rw ∧ rw < 16) ∧ (m.rg q).fr < 256 ∧ (m.rg q).n < 256)
section
variable {W : Bs} {w : World} {p : MAt} {m : Mac} (M : MM W w p m)
include M
end
end Go.Proofs.YtcpljjacamibeaaGreatDoor
