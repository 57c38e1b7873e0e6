/- The commit of any instruction that touches no object and no timer: the machine, the model, both in step. -/
/- The document's waiting places: Has, Wait, Wake. (Printed by wip/genml6.py.) -/
/- The document's model: plain and other, of Block and Wake. (Printed by wip/genml7.py.) -/
/- The document's model: plain, of Move, of a Load of nothing. (Printed by wip/genmn3.py.) -/
/- Any instruction that touches no object and no timer: the model's Do; what the waiting places keep; a run of such a program, told by what holds of the model. -/
/- MachineWaits, plain: two goroutines that wake one another; how the run begins; the model that is stuck. -/
/- MachineFaults, plain: who looks into nothing is dead by it; the others come to their ends. -/
/- MachineYields, in plain Lean: the step. -/
/- MachineYields: the machine keeps the invariant, from its beginning on. -/
/- MachineYields: machine and model keep step, whatever the run. -/
/- MachineYields: goroutines that yield to one another on one P all come to their ends, each with all of its yields. (Printed by wip/genmi9.py.) -/
/- MachineFaults: its program may be; a program of three functions. (The statement's walk is to follow: it wants a seat of its row.) -/
/- MachineFaults: who does what can't be done is dead at that instruction, and the others go on to their ends. (Printed by wip/genmn6.py.) -/
/- Package timer: the sleepers' Push and Pop. (Printed by wip/gennj.py.) -/
/- container/heap over the sleepers: up, down, Push, Pop, told by what becomes of the list. -/
/- container/heap over the sleepers: down, Push, Pop. -/
/- Package timer: Add, Due. -/
/- Package buffer: New, Len, Put, Get, Half, by what lies in a buffer. -/
import Derived.Test.YtcpljjacamibeaaGreatDoorNhJ
import Derived.Test.YtcpljjacamibeaaGreatDoorMe3J
import Derived.Test.YtcpljjacamibeaaGreatDoorMf5J
namespace Go.Proofs.YtcpljjacamibeaaGreatDoor
set_option maxHeartbeats 16000000
set_option maxRecDepth 100000
open Go.RowKit Go.Maps
def wkA (m : Mac) (q a x : Nat) (r : List Int) : Mac := { m with wt := updV m.wt a r, sts := m.sts.set x 1, rg := updV m.rg q (rgPut (m.rg q) (x : Nat)) }
def cmtW (m : Mac) (q g : Nat) (i : Ins) : Mac :=
  if i.o = 11 then finA { preA m q g with wt := updV m.wt i.a (m.wt i.a ++ [(g : Int)]) } q g ⟨(g : Nat), (m.gs g).f, (m.gs g).pc, (i.o : Nat), 0, false⟩ 3
  else if i.o = 12 then
    match m.wt i.a with
    | [] => finA (preA m q g) q g ⟨(g : Nat), (m.gs g).f, (m.gs g).pc, (i.o : Nat), -1, false⟩ 2
    | x :: r => finA (wkA (preA m q g) q i.a x.toNat r) q g ⟨(g : Nat), (m.gs g).f, (m.gs g).pc, (i.o : Nat), (x.toNat : Nat), false⟩ 2
  else if i.o = 4 then finA (setGor (preA m q g) g { (preA m q g).gs g with st := updV (m.gs g).st i.a ((m.gs g).st i.b) }) q g ⟨(g : Nat), (m.gs g).f, (m.gs g).pc, (i.o : Nat), 0, false⟩ 2
  else if i.o = 2 then finA (preA m q g) q g ⟨(g : Nat), (m.gs g).f, (m.gs g).pc, (i.o : Nat), 0, true⟩ 5
  else cmt m q g i
def doW (X : Mdl) (g : Nat) (i : Ins) : Mdl :=
  if i.o = 11 then { X with gs := updV X.gs g { X.gs g with pc := (X.gs g).pc + 1, st := 3 }, wt := updV X.wt i.a (X.wt i.a ++ [(g : Int)]) }
  else if i.o = 12 then
    match X.wt i.a with
    | [] => { X with gs := updV X.gs g { X.gs g with pc := (X.gs g).pc + 1 } }
    | x :: r => { X with gs := updV (updV X.gs g { X.gs g with pc := (X.gs g).pc + 1 }) x.toNat { X.gs x.toNat with st := 1 }, wt := updV X.wt i.a r }
  else if i.o = 4 then { X with gs := updV X.gs g { X.gs g with pc := (X.gs g).pc + 1, sk := updV (X.gs g).sk i.a ((X.gs g).sk i.b) } }
  else if i.o = 2 then { X with gs := updV X.gs g { X.gs g with pc := (X.gs g).pc + 1, st := 5 } }
  else doX X g i
def tellW (X : Mdl) (g : Nat) (i : Ins) : ComA :=
  if i.o = 12 then ⟨(g : Nat), (X.gs g).f, (X.gs g).pc, (i.o : Nat), (match X.wt i.a with | [] => -1 | x :: _ => (x.toNat : Nat)), false⟩ else if i.o = 2 then ⟨(g : Nat), (X.gs g).f, (X.gs g).pc, (i.o : Nat), 0, true⟩ else tellX X g i
structure WtX (X : Mdl) : Prop where
  m : ∀ a, a < 32 → ∀ y ∈ X.wt a, ∃ j : Nat, y = (j : Nat) ∧ j < X.n ∧ (X.gs j).st = 3
  nd : ∀ a, a < 32 → (X.wt a).Nodup
  dj : ∀ a b, a < 32 → b < 32 → a ≠ b → ∀ y ∈ X.wt a, y ∉ X.wt b
structure Fine (X : Mdl) (g : Nat) (i : Ins) : Prop where
  o : i.o = 0 ∨ i.o = 2 ∨ i.o = 4 ∨ i.o = 8 ∨ i.o = 9 ∨ i.o = 11 ∨ i.o = 12 ∨ i.o = 14 ∨ i.o = 16 ∨ i.o = 17
  a : i.a < 256
  b : i.b < 256
  b8 : i.o = 8 → i.b < 16 ∧ X.n < 255
  aw : i.o = 11 ∨ i.o = 12 → i.a < 32
  c : 0 ≤ (X.gs g).cnt ∧ (X.gs g).cnt ≤ 1000000
  ab : i.o = 2 ∨ i.o = 4 → i.a < 16 ∧ i.b < 16
  z : i.o = 2 → (X.gs g).sk i.b = 0
theorem loc3 {m : Mac} {X : Mdl} {loc : Nat → Nat × Nat} (R : Rel m X) (h : WF m loc) {j : Nat} (hj : j < m.ng) (hs : (X.gs j).st = 3) : (loc j).1 = 3 := by
  have h1 := WF.stX R h hj
  rw [hs] at h1
  rcases h.kd j hj with ⟨e, -⟩ | ⟨e, -⟩ | e | e
  · rw [e] at h1; exact absurd h1 (by decide)
  · rw [e] at h1; exact absurd h1 (by decide)
  · exact e
  · rw [e] at h1; exact absurd h1 (by decide)
section
variable {P : Nat} {fs : List (List Ins)} {J : Mdl → List ComA → Prop} {m : Mac} {X : Mdl} {loc : Nat → Nat × Nat} {q g : Nat} {i : Ins}
end
def RwPost (a : XAt) (X : Mdl) (p : Nat) (l : List Int) (v : Value) (w : World) (e : Ending) (w' : World) : Prop :=
  ∃ v' nb, e = .returned v ∧ XM w' { a with vw := updV a.vw p v', wb := nb ++ a.wb } { X with wt := updV X.wt p l } ∧ (∀ j ∈ nb, w.heap.size ≤ j) ∧ Chg [a.gX] w w'
def AtP (fs : List (List Ins)) (X : Mdl) (g : Nat) (i : Ins) : Prop := ∃ (F pc : Nat) (l : List Ins), (X.gs g).f = (F : Nat) ∧ (X.gs g).pc = (pc : Nat) ∧ pc ≤ 1000000 ∧ fs[F]? = some l ∧ (l[pc]? = some i ∨ (pc = l.length ∧ i = ⟨0, 0, 0, 0⟩)) ∧ l ≠ []
def wFirst (k : Nat) : List Ins := [⟨8, 1, 0, 0⟩, ⟨16, 0, k, 0⟩, ⟨11, 1, 0, 0⟩, ⟨12, 2, 0, 0⟩, ⟨17, 2, 0, 0⟩, ⟨0, 0, 0, 0⟩]
def wOther : List Ins := [⟨9, 0, 0, 0⟩, ⟨12, 1, 0, 0⟩, ⟨11, 2, 0, 0⟩, ⟨14, 1, 0, 0⟩]
def wNx (k : Nat) (X : Mdl) (g : Nat) : Ins := ((if g = 0 then wFirst k else wOther)[(X.gs g).pc.toNat]?).getD ⟨0, 0, 0, 0⟩
def WG0 (k n : Nat) (z : MdG) : Prop := ∃ pc cnt : Nat, z.f = 0 ∧ z.pc = pc ∧ z.cnt = cnt ∧ cnt ≤ k ∧ ((pc ≤ 5 ∧ (z.st = 1 ∨ z.st = 3)) ∨ z.st = 5) ∧ (n = 1 ↔ pc = 0) ∧ (n = 1 → z.st = 1)
def WG1 (z : MdG) : Prop := ∃ pc : Nat, z.f = 1 ∧ z.pc = pc ∧ pc ≤ 3 ∧ z.cnt = 0 ∧ (z.st = 1 ∨ z.st = 3)
structure WJ (k : Nat) (X : Mdl) (cms : List ComA) : Prop where
  fs : X.fs = [wFirst k, wOther]
  W : WtX X
  n : X.n = 1 ∨ X.n = 2
  g0 : WG0 k X.n (X.gs 0)
  g1 : X.n = 2 → WG1 (X.gs 1)
section
variable {k : Nat} {X : Mdl} {cms : List ComA}
end
def fFirst (k : Nat) : List Ins := (List.range k).map (fun i => ⟨8, 1 + i % 2, 0, 0⟩) ++ [⟨0, 0, 0, 0⟩]
def fBad (a : Nat) : List Ins := List.replicate a ⟨4, 2, 3, 0⟩ ++ [⟨2, 1, 9, 0⟩, ⟨7, 0, 0, 0⟩]
def fThird : List Ins := [⟨9, 0, 0, 0⟩, ⟨9, 0, 0, 0⟩]
def fFs (k a : Nat) : List (List Ins) := [fFirst k, fBad a, fThird]
def fOf (j : Nat) : Nat := if j = 0 then 0 else 1 + (j - 1) % 2
def fNx (k a : Nat) (X : Mdl) (g : Nat) : Ins := (((fFs k a).getD (fOf g) [])[(X.gs g).pc.toNat]?).getD ⟨0, 0, 0, 0⟩
structure FG (k a n j : Nat) (z : MdG) : Prop where
  f : z.f = (fOf j : Nat)
  sk : z.sk = fun _ => 0
  cnt : z.cnt = 0
  st : z.st = 1 ∨ z.st = 5
  p0 : j = 0 → z.st = 1 → ∃ pc : Nat, z.pc = pc ∧ pc + 1 = n
  p0d : j = 0 → z.st = 5 → n = k + 1
  p1 : fOf j = 1 → z.st = 1 → ∃ pc : Nat, z.pc = pc ∧ pc ≤ a
  p2 : fOf j = 2 → z.st = 1 → ∃ pc : Nat, z.pc = pc ∧ pc ≤ 2
structure FJ (k a : Nat) (X : Mdl) (cms : List ComA) : Prop where
  fs : X.fs = fFs k a
  wt : X.wt = fun _ => []
  n1 : 1 ≤ X.n
  nk : X.n ≤ k + 1
  g : ∀ j, j < X.n → FG k a X.n j (X.gs j)
  cf : ∀ c ∈ cms, c.flt = true → c.f = 1 ∧ c.pc = (a : Nat) ∧ c.op = 2 ∧ c.v = 0
  c7 : ∀ c ∈ cms, ¬ c.op = 7
  nf : cms.countP (fun c => c.flt) = (List.range X.n).countP (fun j => decide (fOf j = 1 ∧ (X.gs j).st = 5))
  ne : cms.countP (fun c => decide (c.op = 0)) = (List.range X.n).countP (fun j => decide (¬ fOf j = 1 ∧ (X.gs j).st = 5))
section
variable {k a : Nat} {X : Mdl} {cms : List ComA}
end
section
variable {k y s i : Nat} {m : Mac} {L : List Nat}
end
section
variable {k y s i : Nat} {m : Mac} {g : Nat} {L : List Nat}
end
def YJ (k y : Nat) (wB : World) (gW : Nat) (wo : Int) (b1 b2 : Nat) (va vf : Value) (i : Nat) (s : Int) (w : World) : Prop :=
  ∃ p m a X Q cP cV, BothM wB w gW (1 : Nat) wo b1 b2 va cP cV p m a X ∧ Rel m X ∧ YI k y i i m Q ∧ s = stV m ∧ (p.vq = .slice none 0 0 ∧ p.vtm = .slice none 0 0 ∧ p.vfr = .slice none 0 0) ∧ a.vf = vf ∧ a.ck = 0
instance decOkIns (G F S : Nat) (i : Ins) : Decidable (okIns G F S i) := by unfold okIns; infer_instance
def dnC (n : Nat) (f : Nat → Nat) : Array Value := ((List.range n).map fun j => Value.int .i64 ((f j : Nat) : Int)).toArray
def YcRel (w7 : World) (k gd : Nat) (cms : List ComA) (gk : Nat) (idx : Value) (w : World) : Prop := ∃ j : Nat, gk + j = cms.length + 1 ∧ j ≤ cms.length ∧ idx = .int .i64 (j : Nat) ∧ Blk w gd 3 (dnC (k + 1) (yds (cms.take j))) ∧ Chg [] w7 w
def YeRel (w8 : World) (k : Nat) (gk : Nat) (idx : Value) (w : World) : Prop := ∃ j : Nat, gk + j = k + 2 ∧ 1 ≤ j ∧ j ≤ k + 1 ∧ idx = .int .i64 (j : Nat) ∧ Chg [] w8 w
def YfRel (w1 : World) (k : Nat) (gk : Nat) (v idx : Value) (w : World) : Prop := ∃ (i : Nat) (A : Option Addr) (c : Nat), gk + i = k + 1 ∧ i ≤ k ∧ idx = .int .i64 (i : Nat) ∧ v = .slice A i c ∧ OwnG insC 4 33 w (.slice A i c) (List.replicate i ⟨8, 1, 0, 0⟩) ∧ (∀ b ∈ fpv (.slice A i c), w1.heap.size ≤ b) ∧ Chg [] w1 w
def fPre (i : Nat) : List Ins := (List.range i).map (fun i => ⟨8, 1 + i % 2, 0, 0⟩)
def AgRel (f : Nat → List Ins) (w1 : World) (k : Nat) (gk : Nat) (v idx : Value) (w : World) : Prop := ∃ (i : Nat) (A : Option Addr) (c : Nat), gk + i = k + 1 ∧ i ≤ k ∧ idx = .int .i64 (i : Nat) ∧ v = .slice A i c ∧ OwnG insC 4 33 w (.slice A i c) (f i) ∧ (∀ b ∈ fpv (.slice A i c), w1.heap.size ≤ b) ∧ Chg [] w1 w
def FcRel (w7 : World) (cms : List ComA) (gk : Nat) (fv ev idx : Value) (w : World) : Prop := ∃ j n1 n2 : Nat, gk + j = cms.length + 1 ∧ j ≤ cms.length ∧ idx = .int .i64 (j : Nat) ∧ fv = .int .i64 (n1 : Nat) ∧ ev = .int .i64 (n2 : Nat) ∧ n1 ≤ j ∧ n2 ≤ j ∧ n1 = (cms.take j).countP (fun c => c.flt) ∧ n2 = (cms.take j).countP (fun c => decide (c.op = 0)) ∧ Chg [] w7 w
def ifT (t : TmA) : Value := .iface 237 (.agg (tmC t).toArray)
def TpPost (g : Nat) (vt : Value) (made : Int) (v : Value) (l : List TmA) (w : World) (e : Ending) (w' : World) : Prop := ∃ vt', e = .returned v ∧ Blk w' g 166 #[vt', .int .i64 made] ∧ OwnG tmC 3 237 w' vt' l ∧ (∀ k ∈ fpv vt', k ∈ fpv vt ∨ w.heap.size ≤ k) ∧ Chg (g :: fpv vt) w w'
def lessL (l : List TmA) (a b : Nat) : Bool := match l[a]?, l[b]? with
  | some x, some y => decide (ordT x y < 0)
  | _, _ => false
def swL (l : List TmA) (i k : Nat) : List TmA := match l[i]?, l[k]? with
  | some a, some b => (l.set i b).set k a
  | _, _ => l
def upL : Nat → List TmA → Nat → List TmA
  | 0, l, _ => l
  | f + 1, l, j => if (j - 1) / 2 = j then l else if lessL l j ((j - 1) / 2) = true then upL f (swL l ((j - 1) / 2) j) ((j - 1) / 2) else l
def dnJ (l : List TmA) (i n : Nat) : Nat := if 2 * i + 2 < n ∧ lessL l (2 * i + 2) (2 * i + 1) = true then 2 * i + 2 else 2 * i + 1
def downL : Nat → List TmA → Nat → Nat → List TmA
  | 0, l, _, _ => l
  | f + 1, l, i, n => if n ≤ 2 * i + 1 then l else if lessL l (dnJ l i n) i = true then downL f (swL l i (dnJ l i n)) (dnJ l i n) n else l
structure IsTm (w : World) (g : Nat) (vt : Value) (made : Int) (l : List TmA) : Prop where
  b : Blk w g 166 #[vt, .int .i64 made]
  o : OwnG tmC 3 237 w vt l
def UpRelT (w0 : World) (g : Nat) (vt : Value) (made : Int) (n : Nat) (R : List TmA) (gk : Nat) (v1 : Value) (w : World) : Prop :=
  ∃ (j f : Nat) (L : List TmA), gk = j + 1 ∧ v1 = .int .i64 (j : Nat) ∧ j < f ∧ j < n ∧ L.length = n ∧ upL f L j = R ∧ IsTm w g vt made L ∧ Chg (fpv vt) w0 w
def UpPostT (w0 : World) (g : Nat) (vt : Value) (made : Int) (R : List TmA) (e : Ending) (w : World) : Prop := e = .returned (.tuple #[]) ∧ IsTm w g vt made R ∧ Chg (fpv vt) w0 w
def DnRelT (w0 : World) (g : Nat) (vt : Value) (made : Int) (n m : Nat) (R : List TmA) (gk : Nat) (v7 : Value) (w : World) : Prop :=
  ∃ (i f : Nat) (L : List TmA), gk + i = n + 1 ∧ i ≤ n ∧ n < f + i + 1 ∧ v7 = .int .i64 (i : Nat) ∧ L.length = m ∧ downL f L i n = R ∧ IsTm w g vt made L ∧ Chg (fpv vt) w0 w
def DnPostT (w0 : World) (g : Nat) (vt : Value) (made : Int) (R : List TmA) (e : Ending) (w : World) : Prop := ∃ q, e = .returned (.bool q) ∧ IsTm w g vt made R ∧ Chg (fpv vt) w0 w
def popL (l : List TmA) : List TmA := (downL (l.length - 1 + 1) (swL l 0 (l.length - 1)) 0 (l.length - 1)).take (l.length - 1)
def dueL : Nat → Int → List TmA → List Int × List TmA
  | 0, _, l => ([], l)
  | f + 1, now, l => match l with
    | [] => ([], [])
    | t :: r => if t.at_ ≤ now then (t.g :: (dueL f now (popL (t :: r))).1, (dueL f now (popL (t :: r))).2) else ([], t :: r)
def addT (when_ g made : Int) (l : List TmA) : List TmA := upL (l.length + 1) (l ++ [⟨when_, g, made + 1⟩]) l.length
def DuRel (w0 : World) (g : Nat) (vt0 : Value) (made now : Int) (R : List Int × List TmA) (gk : Nat) (v : Value) (w : World) : Prop :=
  ∃ (vt : Value) (L : List TmA) (A : Option Addr) (n c : Nat) (xs : List Int), gk = L.length + 1 ∧ v = .slice A n c ∧ xs.length = n ∧ n + L.length ≤ 100000 ∧ IsTm w g vt made L ∧ OwnI 3 w (.slice A n c) xs ∧ (∀ k ∈ fpv (.slice A n c), w0.heap.size ≤ k) ∧ (∀ k ∈ fpv vt, k ∈ fpv vt0 ∨ w0.heap.size ≤ k) ∧ (∀ k ∈ fpv vt, k ∉ fpv (.slice A n c)) ∧ R = (xs ++ (dueL L.length now L).1, (dueL L.length now L).2) ∧ Chg (g :: fpv vt0) w0 w
def DuePost (g : Nat) (vt : Value) (made : Int) (R : List Int × List TmA) (w : World) (e : Ending) (w' : World) : Prop :=
  ∃ v vt', e = .returned v ∧ OwnI 3 w' v R.1 ∧ (∀ k ∈ fpv v, w.heap.size ≤ k) ∧ IsTm w' g vt' made R.2 ∧ (∀ k ∈ fpv vt', k ∈ fpv vt ∨ w.heap.size ≤ k) ∧ (∀ k ∈ fpv vt', k ∉ fpv v) ∧ Chg (g :: fpv vt) w w'
def nT (l : Nat → Int) (n : Nat) : Array Value := (((List.range 32).map fun i => Value.int .i64 (l i)) ++ ([.int .i64 (n : Nat)] : List Value)).toArray
def IsBf (w : World) (g : Nat) (xs : List Int) : Prop := ∃ l : Nat → Int, Blk w g 277 (nT l xs.length) ∧ (∀ i x, xs[i]? = some x → l i = x) ∧ xs.length ≤ 32
def BfPost (g : Nat) (v : Value) (xs : List Int) (w : World) (e : Ending) (w' : World) : Prop := e = .returned v ∧ IsBf w' g xs ∧ Chg [g] w w'
section
variable {w : World} {g : Nat} {xs : List Int} (I : IsBf w g xs)
include I
end
end Go.Proofs.YtcpljjacamibeaaGreatDoor
