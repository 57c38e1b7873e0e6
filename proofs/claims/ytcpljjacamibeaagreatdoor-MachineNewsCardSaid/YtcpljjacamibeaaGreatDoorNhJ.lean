/- Package timer: order, and the sleepers' methods: Len, Less, Swap. (Printed by wip/gennh.py.) -/
/- Package timer: Swap. (Printed by wip/genni.py.) -/
/- Package machine: Block and Wake. -/
/- Package machine: data, of Move; what is thrown. (Printed by wip/genmn1.py.) -/
/- Package machine: a Load of nothing: what is thrown, who catches it. (Printed by wip/genmn2.py.) -/
/- Package machine: run of a P that ran 16 steps in a row. (Printed by wip/genmj7.py.) -/
/- MachineYields, in plain Lean: goroutines that yield to one another on one P: what stays true of the machine. -/
/- Where each goroutine is, in plain Lean: rings, those that Ps run, those that wait, the dead. -/
/- Which goroutine a P gets: of its own ring, of another P's, or none: plain law and Pick's contract together. -/
/- One step of any P of a machine that allocates nothing: nobody is found, or a goroutine is put away, or an instruction is done. -/
import Derived.Test.YtcpljjacamibeaaGreatDoorNg
import Derived.Test.YtcpljjacamibeaaGreatDoorMj6J
import Derived.Test.YtcpljjacamibeaaGreatDoorMe1J
import Derived.Test.YtcpljjacamibeaaGreatDoorMcIJ
import Derived.Test.YtcpljjacamibeaaGreatDoorMArJ
import Derived.Recover
import Derived.Test.YtcpljjacamibeaaGreatDoorMg7
namespace Go.Proofs.YtcpljjacamibeaaGreatDoor
set_option maxHeartbeats 16000000
set_option maxRecDepth 100000
open Go.RowKit Go.Maps
def ordT (a b : TmA) : Int := orI (cmpI a.at_ b.at_) (cmpI a.seq b.seq)
def set3 (w : World) (g o : Nat) (t : TmA) : World := ((w.setCell ⟨g, o, none⟩ (.int .i64 t.at_)).setCell ⟨g, o + 1, none⟩ (.int .i64 t.g)).setCell ⟨g, o + 2, none⟩ (.int .i64 t.seq)
section
variable {W : Bs} {w w' : World} {p : MAt} {m : Mac} (M : MM W w p m)
include M
end
section
variable {w0 w : World} {gC gT gI gA gY gM gp gg : Nat} {c : ComA} {i : Ins} {addr : Int} {yb q g : Nat} {D : List Nat} {p : MAt} {m : Mac} {Q : MAt → Prop}
end
section
variable {W : Bs} {w : World} {p : MAt} {m : Mac} (M : MM W w p m)
include M
end
def faultV : List PanicEntry := [{ v := .iface 317 (.agg #[]), recovered := false }]
def ThPost (w : World) (e : Ending) (w' : World) : Prop := e = .panicked faultV ∧ Chg [] w w'
section
variable {W : Bs} {w : World} {p : MAt} {m : Mac} (M : MM W w p m)
include M
theorem hp_arena : Calls Tryz.prog 44 #[.pointer (some ⟨p.H.gh, 0, none⟩)] w (QuPost (.pointer (some ⟨p.H.ah.ga, 0, none⟩)) w) := by
  have b0 : w.cell? ⟨p.H.gh, 0, none⟩ = some (.pointer (some ⟨p.H.ah.ga, 0, none⟩)) := M.hp.hb.cellv 0 rfl
  clear M
  go_enter Tryz.func44, Tryz.ntmps44
  go_wp2_with fail
  go_ret
  exact ⟨rfl, rfl⟩
end
section
variable (w : World) (gC gT : Nat) (c : ComA) (t : Int) (hC : Blk w gC 59 (comC c).toArray) (hT : Blk w gT 3 #[.int .i64 t])
include hC hT
end
section
variable {w0 w : World} {gC gT gI gA gY gM gp gg : Nat} {c : ComA} {i : Ins} {addr : Int} {yb gm q g : Nat} {D : List Nat} {p : MAt} {m : Mac} {Q : MAt → Prop}
end
section
variable {W : Bs} {w : World} {p : MAt} {m : Mac} (M : MM W w p m)
include M
end
structure RingIs (r : RgR) (L : List Nat) : Prop where
  n : r.n = L.length
  fr : r.fr < 256
  hs : r.hs = false
  at_ : ∀ (j x : Nat), L[j]? = some x → r.l ((r.fr + j) % 256) = (x : Nat)
def yFirst (k : Nat) : List Ins := List.replicate k ⟨8, 1, 0, 0⟩ ++ [⟨0, 0, 0, 0⟩]
def yEach (y : Nat) : List Ins := [⟨16, 0, y, 0⟩, ⟨9, 0, 0, 0⟩, ⟨17, 1, 0, 0⟩]
def yds (cms : List ComA) (g : Nat) : Nat := cms.countP fun c : ComA => decide (c.op = 9 ∧ c.g = (g : Nat))
def GOk (k y ng g : Nat) (x : GorA) (Y : Nat) (alive : Prop) : Prop :=
  (∀ j, x.st j = 0) ∧ ((g = 0 ∧ x.f = 0 ∧ x.cnt = 0 ∧ ((alive ∧ x.pc + 1 = (ng : Nat)) ∨ (¬ alive ∧ ng = k + 1))) ∨
  (g ≠ 0 ∧ x.f = 1 ∧ ((alive ∧ x.pc = 0 ∧ x.cnt = 0 ∧ Y = 0) ∨ (alive ∧ x.pc = 1 ∧ 0 ≤ x.cnt ∧ (Y : Int) + x.cnt = y) ∨ (alive ∧ x.pc = 2 ∧ 0 ≤ x.cnt ∧ (Y : Int) + x.cnt = y + 1) ∨ (alive ∧ x.pc = 3 ∧ x.cnt = 0 ∧ Y = y + 1) ∨ (¬ alive ∧ Y = y + 1))))
def Rests (g : Nat) (x : GorA) : Prop := if g = 0 then x.pc = 0 else x.pc = 0 ∨ x.pc = 2
structure YC (k y s i : Nat) (m : Mac) (Q : List Nat) : Prop where
  C : Calm m
  np : m.np = 1
  fs : m.fs = [yFirst k, yEach y]
  n1 : 1 ≤ m.ng
  nk : m.ng ≤ k + 1
  nd : Q.Nodup
  lt : ∀ g ∈ Q, g < m.ng
  ql : Q.length ≤ m.ng
  gor : ∀ g, g < m.ng → GOk k y m.ng g (m.gs g) (yds m.cms g) (g ∈ Q)
  cmg : ∀ c ∈ m.cms, ∃ g : Nat, c.g = (g : Nat) ∧ g < m.ng
  new : ∀ g, m.ng ≤ g → yds m.cms g = 0
  cml : m.cms.length = i
  wk : (m.ps 0).worked = 0
  al : (m.ps 0).all = (s : Nat)
  pk : ∃ n : Nat, (m.ps 0).picks = n ∧ n ≤ s
  sp : m.steps = (s : Nat)
  ck : m.clock = 0
structure YIdle (k y s i : Nat) (m : Mac) (Q : List Nat) : Prop where
  c : YC k y s i m Q
  r : RingIs (m.rg 0) Q
  pg : (m.ps 0).g = -1
  st : ∀ j, j < m.ng → m.sts[j]? = some (if j ∈ Q then 1 else 5)
  re : ∀ j ∈ Q, Rests j (m.gs j)
structure YBusy (k y s i : Nat) (m : Mac) (g : Nat) (L : List Nat) : Prop where
  c : YC k y s i m (g :: L)
  r : RingIs (m.rg 0) L
  pg : (m.ps 0).g = (g : Nat)
  st : ∀ j, j < m.ng → m.sts[j]? = some (if j = g then 2 else if j ∈ L then 1 else 5)
  re : ∀ j ∈ L, Rests j (m.gs j)
  row : (m.ps 0).row = if g = 0 then (m.gs g).pc else (m.gs g).pc % 2
def YI (k y s i : Nat) (m : Mac) (Q : List Nat) : Prop := YIdle k y s i m Q ∨ ∃ g L, Q = g :: L ∧ YBusy k y s i m g L
theorem nodup_len {n : Nat} : ∀ {L : List Nat}, L.Nodup → (∀ j ∈ L, j < n) → L.length ≤ n := by
  induction n with
  | zero =>
    intro L _ h
    cases L with
    | nil => exact Nat.le_refl _
    | cons a r => exact absurd (h a (by simp)) (by omega)
  | succ n ih =>
    intro L hN h
    by_cases e : n ∈ L
    · have h1 := ih (hN.erase n) (fun j hj => by
        have h2 := (hN.mem_erase_iff).1 hj
        have := h j h2.2
        omega)
      rw [List.length_erase_of_mem e] at h1
      omega
    · exact Nat.le_succ_of_le (ih hN (fun j hj => by
        have := h j hj
        have : j ≠ n := fun e2 => e (e2 ▸ hj)
        omega))
structure WFc (n np : Nat) (sts : List Int) (pg : Nat → Int) (rg : Nat → RgR) (loc : Nat → Nat × Nat) : Prop where
  sl : sts.length = n
  st : ∀ j, j < n → sts[j]? = some (((loc j).1 : Nat) : Int)
  kd : ∀ j, j < n → ((loc j).1 = 1 ∧ (loc j).2 < np) ∨ ((loc j).1 = 2 ∧ (loc j).2 < np) ∨ (loc j).1 = 3 ∨ (loc j).1 = 5
  rg : ∀ q, q < np → ∃ L : List Nat, RingIs (rg q) L ∧ L.Nodup ∧ ∀ j, j ∈ L ↔ j < n ∧ loc j = (1, q)
  rn : ∀ q, q < np → (pg q = -1 ∧ ∀ j, j < n → loc j ≠ (2, q)) ∨ ∃ g, g < n ∧ pg q = (g : Nat) ∧ ∀ j, j < n → (loc j = (2, q) ↔ j = g)
section
variable {n np : Nat} {sts : List Int} {pg : Nat → Int} {rg : Nat → RgR} {loc : Nat → Nat × Nat} (h : WFc n np sts pg rg loc)
include h
end
section
variable {n np : Nat} {sts : List Int} {pg : Nat → Int} {rg : Nat → RgR} {loc : Nat → Nat × Nat} (h : WFc n np sts pg rg loc)
include h
end
inductive Gets (rg : Nat → RgR) (q np : Nat) (vic : Int) : Option Nat → (Nat → RgR) → Prop
  | own (g : Nat) (L : List Nat) (h : RingIs (rg q) (g :: L)) : Gets rg q np vic (some g) (updV rg q (rgPop (rg q)))
  | stolen (v g : Nat) (L : List Nat) (h0 : RingIs (rg q) []) (hv : v < np) (hne : v ≠ q) (hvic : vic = (v : Nat)) (hL : RingIs (rg v) (g :: L)) : Gets rg q np vic (some g) (updV (stealR rg q v) q (rgPop (stealR rg q v q)))
  | none (h0 : RingIs (rg q) []) : Gets rg q np vic none rg
def NxtG (fs : List (List Ins)) (x : GorA) (i : Ins) : Prop := ∃ (F pc : Nat) (l : List Ins), x.f = F ∧ x.pc = pc ∧ pc ≤ 1000000 ∧ fs[F]? = some l ∧ (l[pc]? = some i ∨ (pc = l.length ∧ i = ⟨0, 0, 0, 0⟩)) ∧ l ≠ []
def Srv (m m1 : Mac) (q g : Nat) : Prop := ((m.ps q).g = (g : Nat) ∧ m1 = tickA m q) ∨ ((m.ps q).g = -1 ∧ ∃ r2, m1 = takeG (tickA m q) q g r2)
abbrev WF (m : Mac) (loc : Nat → Nat × Nat) : Prop := WFc m.ng m.np m.sts (fun q => (m.ps q).g) m.rg loc
end Go.Proofs.YtcpljjacamibeaaGreatDoor
