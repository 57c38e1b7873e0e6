/- A value method called through a pointer in an interface value: plain law, of no program. -/
/- Runs of free pages: plain laws on lists. No program in sight. -/
/- The walks of package page's heap of runs (container/heap over bySize). -/
/- container/heap over bySize: up, Push, down, Pop. -/
/- container/heap.Pop over bySize. -/
/- copy and clear on rows of elements of any number of cells; stores into the middle of a block. Of no program. -/
/- The walks of package slices at runs of pages: Index, Delete, Clone, Insert. -/
/- The walks of package slices at runs of pages: Clone, Insert. -/
/- The walk of slices.Insert at runs of pages: in the middle, where there is no room; and all roads joined. -/
/- The walks of package page: join. -/
import Derived.Test.YtoeppmnoifankaaGreatDoorMem
import Derived.WalkKit
import Derived.Deep.LoopGhost
import Derived.StillTailTactics
import Derived.BigRegion
import Derived.Deep.RegionLaw
import Derived.Deep.AppendLies
import Derived.Lib.AppendZerosOnto
import Derived.Lib.Overlaps
import Derived.Maps.AppendAt
import Derived.BigQuiet
namespace Go.Proofs.YtoeppmnoifankaaGreatDoor
open Go.RowKit
end Go.Proofs.YtoeppmnoifankaaGreatDoor
namespace Go.Proofs.YtoeppmnoifankaaGreatDoor

/-- A run of pages. -/
structure R where
  f : Nat
  p : Nat
  deriving DecidableEq

def nxt1 (lo : Nat) (a : List R) : Nat := a.foldl (fun _ r => r.f + r.p + 1) lo
def OkF : Nat → List R → Prop
  | _, [] => True
  | lo, r :: t => lo ≤ r.f ∧ 1 ≤ r.p ∧ OkF (r.f + r.p + 1) t
/-- Page x is free. -/
def Fr (l : List R) (x : Nat) : Prop := ∃ r, r ∈ l ∧ r.f ≤ x ∧ x < r.f + r.p
def Okn (n : Nat) (l : List R) : Prop := OkF 1 l ∧ nxt1 1 l ≤ n + 1

/-! Alloc. -/
/-- The best run: it is great enough, and the least, the first of like ones. -/
def Best (l : List R) (k : Nat) (r : R) : Prop := r ∈ l ∧ k ≤ r.p ∧ ∀ s ∈ l, k ≤ s.p → r.p < s.p ∨ (r.p = s.p ∧ r.f ≤ s.f)
def cutR (l : List R) (r : R) (k : Nat) : List R :=
  if r.p = k then l.erase r else l.map fun s => if s = r then ⟨r.f + k, r.p - k⟩ else s
/-! Free. -/
def joinR (l : List R) (i : Nat) : List R :=
  match l[i]?, l[i + 1]? with
  | some r, some s => if r.f + r.p = s.f then (l.set i ⟨r.f, r.p + s.p⟩).eraseIdx (i + 1) else l
  | _, _ => l
/-- The place among the runs. -/
def plc (l : List R) (first : Nat) : Nat := (l.takeWhile fun r => decide (r.f < first)).length
def backR (l : List R) (first k : Nat) : List R :=
  let at_ := plc l first
  let l1 := joinR (l.insertIdx at_ ⟨first, k⟩) at_
  if at_ = 0 then l1 else joinR l1 (at_ - 1)
/-- Something of it is free. -/
def someR (l : List R) (first k : Nat) : Prop :=
  (∃ r, 0 < plc l first ∧ l[plc l first - 1]? = some r ∧ first < r.f + r.p) ∨ (∃ r, l[plc l first]? = some r ∧ r.f < first + k)

def frontR (first k : Nat) : List R → List R
  | [] => [⟨first, k⟩]
  | s :: b' => if first + k = s.f then ⟨first, k + s.p⟩ :: b' else ⟨first, k⟩ :: s :: b'
/-! What is free, page by page. -/
def sumR (l : List R) : Nat := (l.map (·.p)).sum
/-- Runs of what is free below m, from page i on. -/
def scanR (F : Nat → Bool) : Nat → Nat → List R
  | _, 0 => []
  | i, m + 1 => if F i then (match scanR F (i + 1) m with | [] => [⟨i, 1⟩] | r :: t => if r.f = i + 1 then ⟨i, r.p + 1⟩ :: t else ⟨i, 1⟩ :: r :: t) else scanR F (i + 1) m
end Go.Proofs.YtoeppmnoifankaaGreatDoor
namespace Go.Proofs.YtoeppmnoifankaaGreatDoor
open Go.RowKit

def rc (l : List R) : List Value := l.flatMap fun r => [.int .i64 r.f, .int .i64 r.p]
/-- Each number of each run is small. -/
def Sm (l : List R) : Prop := ∀ r ∈ l, r.f ≤ 1000000 ∧ r.p ≤ 1000000

/-- The heap's variable lies in block h; the runs are l. -/
structure IsBy (w : World) (h : Nat) (v : Value) (l : List R) : Prop where
  b : Blk w h 397 #[v]
  o : w.ownsRow 0 145 2 v l.length (rc l)

def lessR (a b : R) : Bool := decide (a.p < b.p) || (a.p == b.p && decide (a.f < b.f))

def swapR (l : List R) (i j : Nat) (a b : R) : List R := (l.set i b).set j a

def PushPost (h : Nat) (v : Value) (l : List R) (w : World) (e : Ending) (w' : World) : Prop :=
  e = .returned (.tuple #[]) ∧ ∃ v', IsBy w' h v' l ∧ Stp (h :: fpv v) (h :: fpv v') w w'

end Go.Proofs.YtoeppmnoifankaaGreatDoor
namespace Go.Proofs.YtoeppmnoifankaaGreatDoor
open Go.RowKit

def leR (a b : R) : Prop := a.p < b.p ∨ (a.p = b.p ∧ a.f ≤ b.f)
/-- x is on its way up in L, which holds l besides. -/
structure UpI (l : List R) (x : R) (L : List R) (j : Nat) : Prop where
  len : L.length = l.length + 1
  lt : j < L.length
  at_ : L[j]? = some x
  ins : ∀ p s, p ≠ j → L[p]? = some s → s ∈ l
  has : ∀ s ∈ l, ∃ p, p ≠ j ∧ L[p]? = some s
  up : 0 < j → ∀ s0, L[0]? = some s0 → ∀ s ∈ l, leR s0 s
  top : j = 0 → ∀ s ∈ l, leR x s
/-- What a heap owes: the first is the least. -/
structure Top (l : List R) (L : List R) : Prop where
  len : L.length = l.length
  mem : ∀ s, s ∈ L ↔ s ∈ l
  top : ∀ s0, L[0]? = some s0 → ∀ s ∈ l, leR s0 s

def UpRel (w0 : World) (h : Nat) (v : Value) (l : List R) (x : R) (gk : Nat) (v1 : Value) (w : World) : Prop :=
  ∃ (j : Nat) (L : List R), gk = j + 1 ∧ v1 = .int .i64 j ∧ UpI l x L j ∧ IsBy w h v L ∧ Chg (fpv v) w0 w
def UpPost (w0 : World) (h : Nat) (v : Value) (l : List R) (e : Ending) (w : World) : Prop :=
  e = .returned (.tuple #[]) ∧ ∃ L, Top l L ∧ IsBy w h v L ∧ Chg (fpv v) w0 w

def HpPost (h : Nat) (v : Value) (l : List R) (w : World) (e : Ending) (w' : World) : Prop :=
  e = .returned (.tuple #[]) ∧ ∃ v' L, Top l L ∧ IsBy w' h v' L ∧ Stp (h :: fpv v) (h :: fpv v') w w'

/-! Pop. -/
def PopPost (h : Nat) (v : Value) (x : R) (w : World) (e : Ending) (w' : World) : Prop :=
  e = .returned (.iface 145 (.agg #[.int .i64 x.f, .int .i64 x.p])) ∧ Chg (h :: fpv v) w w'

def DownRel (w0 : World) (h n m : Nat) (v : Value) (y : Option R) (gk : Nat) (v7 : Value) (w : World) : Prop :=
  ∃ (i : Nat) (L : List R), gk + i = n + 1 ∧ i ≤ n ∧ v7 = .int .i64 i ∧ L.length = m ∧ L[n]? = y ∧ IsBy w h v L ∧ Chg (fpv v) w0 w
def DownPost (w0 : World) (h n m : Nat) (v : Value) (y : Option R) (e : Ending) (w : World) : Prop :=
  ∃ q L, e = .returned (.bool q) ∧ L.length = m ∧ L[n]? = y ∧ IsBy w h v L ∧ Chg (fpv v) w0 w
def SwapPost (w : World) (v : Value) (l : List R) (i j : Nat) (e : Ending) (w' : World) : Prop :=
  e = .returned (.tuple #[]) ∧ ∃ L : List R, L.length = l.length ∧ (∀ n, i ≠ n → j ≠ n → L[n]? = l[n]?) ∧ w'.ownsRow 0 145 2 v L.length (rc L) ∧ Chg (fpv v) w w'
end Go.Proofs.YtoeppmnoifankaaGreatDoor
namespace Go.Proofs.YtoeppmnoifankaaGreatDoor
open Go.RowKit

def Swap0Post (w : World) (v : Value) (n m : Nat) (x : R) (e : Ending) (w' : World) : Prop :=
  e = .returned (.tuple #[]) ∧ ∃ L : List R, L.length = m ∧ L[n]? = some x ∧ w'.ownsRow 0 145 2 v L.length (rc L) ∧ Chg (fpv v) w w'
end Go.Proofs.YtoeppmnoifankaaGreatDoor
namespace Go.Proofs.YtoeppmnoifankaaGreatDoor
open Go.RowKit

section
variable {P : Program}
end

end Go.Proofs.YtoeppmnoifankaaGreatDoor
namespace Go.Proofs.YtoeppmnoifankaaGreatDoor
open Go.RowKit

def IxPost (n : Nat) (w : World) (e : Ending) (w' : World) : Prop := e = .returned (.int .i64 n) ∧ Chg [] w w'
def IxRel (w0 : World) (h n : Nat) (r : R) (gk : Nat) (v : Value) (w : World) : Prop :=
  ∃ i : Nat, gk + i = n + 1 ∧ i ≤ n ∧ v = .int .i64 i ∧ Chg [] w0 w ∧ Blk w h 145 #[.int .i64 r.f, .int .i64 r.p]

def DelPost (v : Value) (l : List R) (w : World) (e : Ending) (w' : World) : Prop :=
  ∃ v', e = .returned v' ∧ w'.ownsRow 0 145 2 v' l.length (rc l) ∧ Chg (fpv v) w w' ∧ v'.ownBlock = v.ownBlock

end Go.Proofs.YtoeppmnoifankaaGreatDoor
namespace Go.Proofs.YtoeppmnoifankaaGreatDoor
open Go.RowKit

def ClPost (l : List R) (w : World) (e : Ending) (w' : World) : Prop :=
  ∃ v', e = .returned v' ∧ w'.ownsRow 0 145 2 v' l.length (rc l) ∧ Chg [] w w' ∧ ∀ k, v'.ownBlock = some k → w.heap.size ≤ k

def InsPost (v : Value) (l : List R) (w : World) (e : Ending) (w' : World) : Prop :=
  ∃ v', e = .returned v' ∧ w'.ownsRow 0 145 2 v' l.length (rc l) ∧ Chg (fpv v) w w' ∧ (v'.ownBlock = v.ownBlock ∨ ∃ k, v'.ownBlock = some k ∧ w.heap.size ≤ k)

end Go.Proofs.YtoeppmnoifankaaGreatDoor
namespace Go.Proofs.YtoeppmnoifankaaGreatDoor
open Go.RowKit

end Go.Proofs.YtoeppmnoifankaaGreatDoor
namespace Go.Proofs.YtoeppmnoifankaaGreatDoor
open Go.RowKit

/-- Pages lie in block g; the runs are l. -/
structure IsPg (w : World) (g n : Nat) (v : Value) (l : List R) : Prop where
  b : Blk w g 249 #[.int .i64 n, v]
  o : w.ownsRow 0 145 2 v l.length (rc l)
def PgPost (g n : Nat) (v : Value) (res : Value) (l : List R) (w : World) (e : Ending) (w' : World) : Prop :=
  e = .returned res ∧ ∃ v', IsPg w' g n v' l ∧ Stp (g :: fpv v) (g :: fpv v') w w'
end Go.Proofs.YtoeppmnoifankaaGreatDoor
