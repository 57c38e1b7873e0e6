/- Package sched: Pick, where the queue in common is empty and the P's own ring is empty, too: half of the victim's row, or nobody. (Printed by wip/genmj2.py.) -/
/- Package sched: Pick, where the queue in common and the P's own ring are empty. (Printed by wip/genmj3.py.) -/
/- Package machine: take, wherever the goroutine comes from, or nobody. (Printed by wip/genmj4.py.) -/
/- Package machine: one Step of a P that takes a goroutine, wherever it comes from, or finds nobody, or goes on. (Printed by wip/genmj5.py.) -/
/- Package machine: run, of Exit, Yield, Set, Dec, Jump, Spawn: one function on machines tells what it does. -/
import Derived.Test.YtcpljjacamibeaaGreatDoorMj1
import Derived.Laws.EntriesVeiled
import Derived.Test.YtcpljjacamibeaaGreatDoorMcEJ
import Derived.Test.YtcpljjacamibeaaGreatDoorMe1J
namespace Go.Proofs.YtcpljjacamibeaaGreatDoor
set_option maxHeartbeats 16000000
set_option maxRecDepth 100000
open Go.RowKit Go.Maps
def stealR (r : Nat → RgR) (p v : Nat) : Nat → RgR := updV (updV r v (rgMvN ((r v).n - (r v).n / 2) (r p, r v)).2) p (rgMvN ((r v).n - (r v).n / 2) (r p, r v)).1
def stlR (r : Nat → RgR) (p v : Nat) : Nat → RgR := if (r v).n = 0 then stealR r p v else updV (stealR r p v) p (rgPop (stealR r p v p))
def stlX (r : Nat → RgR) (p v : Nat) : Int := if (r v).n = 0 then 0 else (stealR r p v p).l (stealR r p v p).fr
def Pk3Post (g gq P : Nat) (vr vq : Value) (gp : Nat → Nat) (r' : Nat → RgR) (com : List Int) (x : Int) (b : Bool) (S : List Nat) (w : World) (e : Ending) (w' : World) : Prop :=
  e = .returned (.tuple #[.int .i64 x, .bool b]) ∧ IsSc w' g gq P vr vq gp r' com ∧ Chg S w w'
section
variable {w : World} {g gq P : Nat} {vr vq : Value} {gp : Nat → Nat} {r : Nat → RgR} {com : List Int} (I : IsSc w g gq P vr vq gp r com)
include I
end
def PkRel2 (w0 : World) (gs gk gt gv g p : Nat) (tick vic : Int) (gf gr gq P : Nat) (vr vq : Value) (gp : Nat → Nat) (r : Nat → RgR) (com : List Int) (gn : Nat) (idx : Value) (w : World) : Prop :=
  Blk w gf 311 #[.func (Fn.func 208) #[] #[.pointer (some ⟨gt, 0, none⟩), .pointer (some ⟨gs, 0, none⟩)], .func (Fn.func 214) #[.pointer (some ⟨gp p, 0, none⟩)] #[],
    .func (Fn.func 211) #[] #[.pointer (some ⟨gs, 0, none⟩), .pointer (some ⟨gr, 0, none⟩)], .func (Fn.func 212) #[] #[.pointer (some ⟨gs, 0, none⟩), .pointer (some ⟨gv, 0, none⟩), .pointer (some ⟨gk, 0, none⟩), .pointer (some ⟨gr, 0, none⟩)]] ∧
  Blk w gs 100 #[.pointer (some ⟨g, 0, none⟩)] ∧ Blk w gk 3 #[.int .i64 (p : Nat)] ∧ Blk w gt 3 #[.int .i64 tick] ∧ Blk w gv 3 #[.int .i64 vic] ∧ Blk w gr 173 #[.pointer (some ⟨gp p, 0, none⟩)] ∧
  Chg [gq] w0 w ∧ IsSc w g gq P vr vq gp r com ∧ ((gn = 5 ∧ idx = .int .i64 0) ∨ (gn = 4 ∧ idx = .int .i64 1) ∨ (gn = 3 ∧ idx = .int .i64 2) ∨ (gn = 2 ∧ idx = .int .i64 3))
def PkFar (g gq P : Nat) (vr vq : Value) (gp : Nat → Nat) (r' : Nat → RgR) (com : List Int) (x : Int) (b : Bool) (T : List Nat) (w : World) (e : Ending) (w' : World) : Prop :=
  e = .returned (.tuple #[.int .i64 x, .bool b]) ∧ IsSc w' g gq P vr vq gp r' com ∧ Chg (gq :: T) w w'
section
variable {w : World} {g gq P : Nat} {vr vq : Value} {gp : Nat → Nat} {r : Nat → RgR} {com : List Int} (I : IsSc w g gq P vr vq gp r com)
include I
end
def takeG (m : Mac) (q g : Nat) (r2 : Nat → RgR) : Mac := { m with ps := updV m.ps q { m.ps q with g := (g : Nat), row := 0, picks := (m.ps q).picks + 1 }, rg := r2, sts := m.sts.set g 2, gs := updV m.gs g { m.gs g with p := (q : Nat) } }
def takeN (m : Mac) (q : Nat) (r2 : Nat → RgR) : Mac := { m with ps := updV m.ps q { m.ps q with picks := (m.ps q).picks + 1 }, rg := r2 }
def PkK (p : MAt) (m : Mac) (q : Nat) (vic : Int) (r2 : Nat → RgR) (x : Int) (bb : Bool) : Prop := ∃ T : List Nat, (∀ j ∈ T, ∃ k, k < m.np ∧ j = p.gr k) ∧ ∀ w', IsSc w' p.gsd p.gq m.np p.vr p.vq p.gr m.rg m.com → Calls Tryz.prog 142 #[.pointer (some ⟨p.gsd, 0, none⟩), .int .i64 (q : Nat), .int .i64 61, .int .i64 vic] w' (PkFar p.gsd p.gq m.np p.vr p.vq p.gr r2 m.com x bb T w')
section
variable {W : Bs} {w : World} {p : MAt} {m : Mac} (M : MM W w p m)
include M
end
def RunE (W : Bs) (R : MAt → Prop) (m3 : Mac) (ek eg : Int) (e : Ending) (w' : World) : Prop := ∃ p3, e = .returned (evV ek eg 0) ∧ R p3 ∧ MM W w' p3 m3
section
variable {W : Bs} {w : World} {p : MAt} {m : Mac} (M : MM W w p m)
include M
end
def cmt (m : Mac) (q g : Nat) (i : Ins) : Mac :=
  if i.o = 0 then finA (preA m q g) q g ⟨(g : Nat), (m.gs g).f, (m.gs g).pc, (i.o : Nat), 0, false⟩ 5
  else if i.o = 9 then finA (preA m q g) q g ⟨(g : Nat), (m.gs g).f, (m.gs g).pc, (i.o : Nat), 0, false⟩ 1
  else if i.o = 16 then finA (setGor (preA m q g) g { (preA m q g).gs g with cnt := 256 * (i.a : Nat) + (i.b : Nat) }) q g ⟨(g : Nat), (m.gs g).f, (m.gs g).pc, (i.o : Nat), 0, false⟩ 2
  else if i.o = 14 then finA (setGor (preA m q g) g { (preA m q g).gs g with pc := (i.a : Nat) }) q g ⟨(g : Nat), (m.gs g).f, (m.gs g).pc, (i.o : Nat), 0, false⟩ 2
  else if i.o = 17 then
    if (m.gs g).cnt = 0 then finA (preA m q g) q g ⟨(g : Nat), (m.gs g).f, (m.gs g).pc, (i.o : Nat), 0, false⟩ 2
    else finA (setGor (preA m q g) g { (preA m q g).gs g with cnt := (m.gs g).cnt - 1, pc := (i.a : Nat) }) q g ⟨(g : Nat), (m.gs g).f, (m.gs g).pc, (i.o : Nat), 0, false⟩ 2
  else finA (spawnA (preA m q g) q (i.a : Nat) ((m.gs g).st i.b)) q g ⟨(g : Nat), (m.gs g).f, (m.gs g).pc, (i.o : Nat), (m.ng : Nat), false⟩ 2
def Keeps (p p2 : MAt) : Prop := p2.gm = p.gm ∧ p2.bp = p.bp ∧ p2.vq = .slice none 0 0 ∧ p2.vtm = p.vtm ∧ p2.vfr = p.vfr
section
variable {W : Bs} {w : World} {p : MAt} {m : Mac} (M : MM W w p m)
include M
end
end Go.Proofs.YtcpljjacamibeaaGreatDoor
