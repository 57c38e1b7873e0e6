/- The walk of package arena: Span. -/
/- The walk of package arena: Span. -/
/- The arena: a span swept, an object gone, a span gone, an owner gone. Plain theorems on worlds. -/
/- The walk of package arena: Sweep. -/
/- The arena: its invariant is kept by each op. Plain theorems. -/
/- The arena's ops, as to a state that a law carries along. -/
/- The walk of package arena: Drop of a span that has objects. -/
/- The walks of package arena: Class, Full. -/
/- The walk of the document's Pages (layer 4). -/
/- told of layer 7. -/
/- The walk of treadmillref1.Slots. -/
/- A slice of integers that is read; treadmillref1.Ints, Has (XRdI without the view). -/
/- A slice of integers that lies in memory; a slice laid behind one that is owned; the document's rising lists (cut loose of the view). -/
/- The walk of treadmillref1.Put. -/
import Derived.Test.YthjplmminmhiaaaGreatDoorMAr
import Derived.Test.YthjplmminmhiaaaGreatDoorMPaJ
import Derived.Test.YthjplmminmhiaaaGreatDoorMClJ
import Derived.IntWalk
import Derived.Test.YthjplmminmhiaaaGreatDoorMemJ
import Derived.BigQuiet
import Derived.Deep.LoopGhost
import Derived.Deep.DeepCutAuto
import Derived.Deep.AppendSrc
import Derived.Deep.RegionHeld3
import Derived.StillTailTactics
namespace Go.Proofs.YthjplmminmhiaaaGreatDoor
open Go.RowKit

/-- The pages turned. -/
def pgH (h : ArH) (v : Value) : ArH := { h with v := v }
/-- A new span. -/
def spanH (h : ArH) (id : Nat) (b : SpB) : ArH := { h with B := fun j => if j = id then b else h.B j, m := h.m + 1 }
/-- A page's owner told. -/
def owH (h : ArH) : ArH := { h with m := h.m + 1 }
end Go.Proofs.YthjplmminmhiaaaGreatDoor
namespace Go.Proofs.YthjplmminmhiaaaGreatDoor
open Go.RowKit

def spanA (a : Ar) (l' : List R) (id q f : Nat) : Ar := { a with l := l', sp := updF a.sp id (some ⟨f, q, fun _ => false, fun _ => false, 0⟩), ow := fun p => if f ≤ p ∧ p < f + pgK q then some id else a.ow p }
def ApPost (h : ArH) (a : Ar) (k : Int) (w : World) (e : Ending) (w' : World) : Prop :=
  (¬ isK k ∧ e = .returned (.tuple #[.int .i64 0, .int .i64 1]) ∧ Chg [] w w') ∨
  ∃ q : Nat, k = q ∧ q < 16 ∧ ∃ x c l', AllocSays a.l (pgK q : Nat) x c l' ∧
    ((c ≠ 0 ∧ e = .returned (.tuple #[.int .i64 0, .int .i64 c]) ∧ ∃ h' : ArH, ArM w' h' { a with l := l' } ∧ StA h a h' { a with l := l' } w w' ∧ h'.m = h.m ∧ h'.N = h.N ∧ h'.ga = h.ga) ∨
     (c = 0 ∧ ∃ (f id : Nat) (h' : ArH), x = f ∧ a.sp id = none ∧ (∀ j, j < id → a.sp j ≠ none) ∧ e = .returned (.tuple #[.int .i64 (id : Nat), .int .i64 0]) ∧ ArM w' h' (spanA a l' id q f) ∧ StA h a h' (spanA a l' id q f) w w' ∧ h'.m ≤ h.m + 6 ∧ h'.N = h.N ∧ h'.ga = h.ga))
def IdRel (w0 : World) (a : Ar) (N : Nat) (gk : Nat) (idx : Value) (w : World) : Prop := ∃ i, gk + i = N + 1 ∧ i ≤ N ∧ idx = .int .i64 (i : Nat) ∧ (∀ j, j < i → a.sp j ≠ none) ∧ w = w0
def owT (a : Ar) (f t id p : Nat) : Option Nat := if f ≤ p ∧ p < f + t then some id else a.ow p
def owHn (h : ArH) (t : Nat) : ArH := { h with m := h.m + t }
def OwRel (w0 : World) (h0 h4 : ArH) (a0 a4 : Ar) (f id P : Nat) (gk : Nat) (idx : Value) (w : World) : Prop :=
  ∃ t, gk + t = P + 1 ∧ t ≤ P ∧ idx = .int .i64 (t : Nat) ∧ ArM w (owHn h4 t) { a4 with ow := owT a4 f t id } ∧ StA h0 a0 (owHn h4 t) { a4 with ow := owT a4 f t id } w0 w
end Go.Proofs.YthjplmminmhiaaaGreatDoor
namespace Go.Proofs.YthjplmminmhiaaaGreatDoor
open Go.RowKit

/-- A span whose blocks have changed places. -/
def turnH (h : ArH) (id : Nat) (b : SpB) : ArH := { h with B := fun j => if j = id then b else h.B j }
end Go.Proofs.YthjplmminmhiaaaGreatDoor
namespace Go.Proofs.YthjplmminmhiaaaGreatDoor
open Go.RowKit

def sweptL (s : Sp) : List Nat := (allN s.F (slK s.k)).filter fun i => !(s.M i)
def addrT (s : Sp) (i : Nat) : List Nat := ((sweptL s).take i).map s.addr
def obT (a : Ar) (s : Sp) (i x : Nat) : Option (List Int) := if x ∈ addrT s i then none else a.ob x
def sweptS (s : Sp) : Sp := ⟨s.first, s.k, s.M, fun _ => false, 0⟩
def sweptB (b : SpB) : SpB := ⟨b.g, b.m, b.ma, b.u, b.ua⟩
def sweepA (a : Ar) (id : Nat) (s : Sp) (i : Nat) : Ar := { a with sp := updF a.sp id (some (sweptS s)), ob := obT a s i, live := a.live - i * szK s.k }
def AwPost (h : ArH) (a : Ar) (id : Int) (w : World) (e : Ending) (w' : World) : Prop :=
  (spI a id = none ∧ e = .returned (.tuple #[.slice none 0 0, .int .i64 4]) ∧ Chg [] w w') ∨
  ∃ s v, 0 ≤ id ∧ a.sp id.toNat = some s ∧ e = .returned (.tuple #[v, .int .i64 0]) ∧ OwnI 3 w' v (intsN ((sweptL s).map s.addr)) ∧ (∀ k ∈ fpv v, w.heap.size ≤ k) ∧ (∀ k ∈ fpv v, ¬ ArF (turnH h id.toNat (sweptB (h.B id.toNat))) (sweepA a id.toNat s (sweptL s).length) k) ∧ ArM w' (turnH h id.toNat (sweptB (h.B id.toNat))) (sweepA a id.toNat s (sweptL s).length) ∧ StA h a (turnH h id.toNat (sweptB (h.B id.toNat))) (sweepA a id.toNat s (sweptL s).length) w w'
def AwRel (w0 : World) (h h1 : ArH) (a : Ar) (id : Nat) (s : Sp) (vl : Value) (gk : Nat) (v idx : Value) (w : World) : Prop :=
  ∃ i, gk + i = (sweptL s).length + 1 ∧ i ≤ (sweptL s).length ∧ idx = .int .i64 (i : Nat) ∧ OwnI 3 w v (intsN (addrT s i)) ∧ OwnI 3 w vl (intsN (sweptL s)) ∧ (∀ k ∈ fpv v, w0.heap.size ≤ k ∧ k ∉ fpv vl) ∧ (∀ k ∈ fpv v, ∀ k' , ArF h1 (sweepA a id s i) k' → k ≠ k') ∧ (∀ k ∈ fpv vl, ∀ k', ArF h1 (sweepA a id s i) k' → k ≠ k') ∧ ArM w h1 (sweepA a id s i) ∧ StA h a h1 (sweepA a id s i) w0 w
end Go.Proofs.YthjplmminmhiaaaGreatDoor
namespace Go.Proofs.YthjplmminmhiaaaGreatDoor
open Go.RowKit

def spW (o : Option Sp) : Nat := match o with | none => 0 | some s => cntF s.F (slK s.k) * szK s.k
def livN (f : Nat → Option Sp) : Nat → Nat
  | 0 => 0
  | n + 1 => livN f n + spW (f n)
theorem livN_more {f : Nat → Option Sp} {N : Nat} (h : ∀ j, N ≤ j → f j = none) : ∀ {M : Nat}, N ≤ M → livN f M = livN f N
  | 0, hm => by have : N = 0 := by omega
                rw [this]
  | M + 1, hm => by
    by_cases e : N = M + 1
    · rw [e]
    · rw [livN, livN_more h (M := M) (by omega), h M (by omega)]; rfl
structure ArI (N : Nat) (a : Ar) : Prop where
  ok : ArOk N a
  mf : ∀ id s i, a.sp id = some s → s.M i = true → s.F i = true
  fz : ∀ id s i, a.sp id = some s → slK s.k ≤ i → s.F i = false
  lv : a.live = livN a.sp N
theorem newA_I (N n : Nat) (h1 : 1 ≤ n) (h2 : n ≤ 262144) : ArI N (newA n) := by
  refine ⟨newA_ok N n h1 h2, fun _ _ _ h => by simp [newA] at h, fun _ _ _ h => by simp [newA] at h, ?_⟩
  have : livN (newA n).sp N = livN (newA n).sp 0 := livN_more (fun j _ => rfl) (Nat.zero_le _)
  rw [this]; rfl
/-! Alloc -/
/-! Store -/
/-! Mark -/
/-! Sweep -/
/-! Span -/
end Go.Proofs.YthjplmminmhiaaaGreatDoor
namespace Go.Proofs.YthjplmminmhiaaaGreatDoor
open Go.RowKit

/-- The state: where all lies, far from what was there ahead. -/
structure ArS (w0 w : World) (g : Nat) (h : ArH) (a : Ar) (N b : Nat) : Prop where
  M : ArM w h a
  I : ArI N a
  far : ∀ k, ArF h a k → w0.heap.size ≤ k
  c : Chg [] w0 w
  ga : h.ga = g
  m : h.m ≤ b
section
variable {w0 w w' : World} {g N b : Nat} {h h' : ArH} {a a' : Ar}
theorem ArS.chg0 (S : ArS w0 w g h a N b) (c : Chg [] w w') : ArS w0 w' g h a N b := ⟨S.M.chg0 c, S.I, S.far, S.c.trans c, S.ga, S.m⟩
end
def SpPost (w0 w : World) (g : Nat) (h : ArH) (a : Ar) (N b : Nat) (q : Nat) (e : Ending) (w' : World) : Prop :=
  ∃ x c l', AllocSays a.l (pgK q : Nat) x c l' ∧
    ((c ≠ 0 ∧ e = .returned (.tuple #[.int .i64 0, .int .i64 c]) ∧ ∃ h', ArS w0 w' g h' a N b ∧ StA h a h' a w w') ∨
     (c = 0 ∧ ∃ (f id : Nat) (h' : ArH), x = f ∧ a.sp id = none ∧ (∀ j, j < id → a.sp j ≠ none) ∧ id ≤ N ∧ e = .returned (.tuple #[.int .i64 (id : Nat), .int .i64 0]) ∧ ArS w0 w' g h' (spanA a l' id q f) (N + 1) (b + 6) ∧ StA h a h' (spanA a l' id q f) w w'))
def AlPost' (w0 w : World) (g : Nat) (h : ArH) (a : Ar) (N b : Nat) (id n : Int) (black : Bool) (e : Ending) (w' : World) : Prop :=
  (∃ c : Int, e = .returned (.tuple #[.int .i64 0, .int .i64 c]) ∧ ArS w0 w' g h a N b ∧ Chg [] w w' ∧ ((spI a id = none ∧ c = 4) ∨ ∃ s, spI a id = some s ∧ (((n < 1 ∨ (szK s.k : Int) < n) ∧ c = 1) ∨ (1 ≤ n ∧ n ≤ szK s.k ∧ (∀ x, s.fr ≤ x → x < slK s.k → s.F x = true) ∧ c = 3)))) ∨
  ∃ s y h', 0 ≤ id ∧ a.sp id.toNat = some s ∧ 1 ≤ n ∧ n ≤ szK s.k ∧ s.fr ≤ y ∧ y < slK s.k ∧ s.F y = false ∧ (∀ x, s.fr ≤ x → x < y → s.F x = true) ∧ e = .returned (.tuple #[.int .i64 (s.addr y : Nat), .int .i64 0]) ∧ ArS w0 w' g h' (allocA a id.toNat s y n.toNat black) N (b + 1) ∧ StA h a h' (allocA a id.toNat s y n.toNat black) w w'
section
variable {w0 w : World} {g N b : Nat} {h : ArH} {a : Ar} (S : ArS w0 w g h a N b)
include S
theorem s_live : Calls Tryz.prog 149 #[.pointer (some ⟨g, 0, none⟩)] w (QuPost (.int .i64 (a.live : Nat)) w) := by
  have h1 := alive_ok w h a S.M
  rwa [S.ga] at h1
end
end Go.Proofs.YthjplmminmhiaaaGreatDoor
namespace Go.Proofs.YthjplmminmhiaaaGreatDoor
open Go.RowKit

section
variable {w0 w : World} {g N b : Nat} {h : ArH} {a : Ar} (S : ArS w0 w g h a N b)
include S
end
end Go.Proofs.YthjplmminmhiaaaGreatDoor
namespace Go.Proofs.YthjplmminmhiaaaGreatDoor
open Go.RowKit

/-- No place is free from where the last one was found on. -/
def fullS (s : Sp) : Prop := ∀ x, s.fr ≤ x → x < slK s.k → s.F x = true
def afPost (a : Ar) (id : Int) (w : World) (e : Ending) (w' : World) : Prop := ∃ bo, e = .returned (.bool bo) ∧ Chg [] w w' ∧ (bo = true ↔ ∀ s, spI a id = some s → fullS s)
section
variable {w0 w : World} {g N b : Nat} {h : ArH} {a : Ar} (S : ArS w0 w g h a N b)
include S
end
end Go.Proofs.YthjplmminmhiaaaGreatDoor
namespace Go.Proofs.YthjplmminmhiaaaGreatDoor
open Go.RowKit

def fitR (s p : Nat) : Bool := decide (s ≤ p * 64 ∧ p * 64 % s * 8 ≤ p * 64)
def RpRel (w0 : World) (P gk : Nat) (idx : Value) (w : World) : Prop := ∃ p, gk + p = P + 1 ∧ 1 ≤ p ∧ p ≤ P ∧ idx = .int .i64 (p : Nat) ∧ Chg [] w0 w
end Go.Proofs.YthjplmminmhiaaaGreatDoor
namespace Go.Proofs.YthjplmminmhiaaaGreatDoor
open Go.RowKit

theorem s_new (w : World) (n : Nat) (z : Int) (hz : z = ((n * 64 : Nat) : Int)) (h4 : 4 ≤ n) (hn : n ≤ 262144) : Calls Tryz.prog 128 #[.int .i64 z] w fun e w' => ∃ g h, e = .returned (.tuple #[.pointer (some ⟨g, 0, none⟩), .int .i64 0]) ∧ ArS w w' g h (newA n) 0 0 := by
  subst hz
  refine (anew_ok w n h4 hn).mono ?_
  rintro e w' ⟨h, he, M, c, far, hm, -⟩
  exact ⟨h.ga, h, he, M, newA_I 0 n (by omega) hn, far, c, rfl, by omega⟩
/-- The next span, where all that is free is one run, and ids are taken from 0. -/
def spn (f q : Nat) : Sp := ⟨f, q, fun _ => false, fun _ => false, 0⟩
def TdPost (w : World) (e : Ending) (w' : World) : Prop := e = .returned (.bool true) ∧ Chg [] w w'
end Go.Proofs.YthjplmminmhiaaaGreatDoor
namespace Go.Proofs.YthjplmminmhiaaaGreatDoor
open Go.RowKit Go.Maps

end Go.Proofs.YthjplmminmhiaaaGreatDoor
namespace Go.Proofs.YthjplmminmhiaaaGreatDoor
open Go.RowKit Go.Maps

structure RdI (w : World) (v : Value) (xs : List Int) : Prop where
  ex : ∃ A c, v = .slice A xs.length c
  len : xs.length ≤ 9223372036854775807
  at_ : ∀ A n c, v = .slice A n c → ∀ i x, xs[i]? = some x → ∃ b off, A = some ⟨b, off, none⟩ ∧ w.cell? ⟨b, off + i, none⟩ = some (.int .i64 x)
def BoolD (b : Bool) (w : World) (e : Ending) (w' : World) : Prop := e = .returned (.bool b) ∧ ∃ n, w' = w.drewN n
def IntsRel (w0 : World) (xs ys : List Int) (gk : Nat) (idx : Value) (w : World) : Prop := ∃ i, gk + i = xs.length + 1 ∧ i ≤ xs.length ∧ idx = .int .i64 (i : Nat) ∧ xs.take i = ys.take i ∧ ∃ n, w = w0.drewN n
def HasRel (xs : List Int) (x : Int) (idx : Value) : Prop := ∃ i, i ≤ xs.length ∧ idx = .int .i64 (i : Nat) ∧ x ∉ xs.take i
end Go.Proofs.YthjplmminmhiaaaGreatDoor
namespace Go.Proofs.YthjplmminmhiaaaGreatDoor
open Go.RowKit Go.Maps

/-- A list that rises. -/
def Rise (l : List Int) : Prop := l.Pairwise (· < ·)
def WfI (x : Int) : Prop := -9223372036854775808 ≤ x ∧ x ≤ 9223372036854775807
def IntsAt (w : World) (B : Nat) (A : Option Addr) (xs : List Int) : Prop := ∀ i x, xs[i]? = some x → ∃ b off, A = some ⟨b, off, none⟩ ∧ b < B ∧ w.cell? ⟨b, off + i, none⟩ = some (.int .i64 x)
/-- A slice of integers. -/
structure SlI (w : World) (B : Nat) (v : Value) (xs : List Int) : Prop where
  ex : ∃ A c, v = .slice A xs.length c
  len : xs.length ≤ maxLen
  at_ : ∀ A n c, v = .slice A n c → IntsAt w B A xs
  wf : ∀ x ∈ xs, WfI x
theorem Chg.then_ {S T : List Nat} {a w w' : World} (h : Chg S a w) (c : Chg T w w') (hT : ∀ k ∈ T, k ∈ S ∨ a.heap.size ≤ k) : Chg S a w' :=
  ⟨c.os.trans h.os, c.tape.trans h.tape, c.output.trans h.output, Nat.le_trans h.size c.size, fun k hk hn =>
    (c.block k (Nat.lt_of_lt_of_le hk h.size) (fun hm => by
      rcases hT k hm with h1 | h1
      · exact hn h1
      · omega)).trans (h.block k hk hn)⟩
theorem Chg.new {T : List Nat} {a w w' : World} (h : Chg [] a w) (c : Chg T w w') (hT : ∀ k ∈ T, a.heap.size ≤ k) : Chg [] a w' := h.then_ c fun k hk => .inr (hT k hk)
section
variable {w w' : World} {B : Nat} {S : List Nat}
end
section
variable {P : Program} {T E : TypeId} {w w' : World} {v u : Value} {xs ys : List Int} {B : Nat}
theorem setCells_nil (w : World) (b o : Nat) : w.setCells b o [] = w := rfl
theorem OwnI.set_ {g n c q : Nat} (h : OwnI E w (.slice (some ⟨g, 0, none⟩) n c) xs) (_ : q < xs.length) (z : Int) : OwnI E (w.setCell ⟨g, q, none⟩ (.int .i64 z)) (.slice (some ⟨g, 0, none⟩) n c) (xs.set q z) := by
  rcases h.o.2 with ⟨e, _⟩ | ⟨g', cap, cur, e, hb0, hg, hc, hm, hs, ht⟩
  · simp at e
  · injection e with e1 e2 e3
    injection e1 with e1
    injection e1 with e1
    subst e1 e2 e3
    have hb : Blk w g E cur := hg
    refine ⟨⟨by simp, .inr ⟨g, c, cur.setIfInBounds q (.int .i64 z), by simp, Nat.zero_le _, hb.set_ q _, by simpa using hc, hm, by simpa using hs, ?_⟩⟩⟩
    rw [Array.toList_setIfInBounds, List.take_set, List.length_set, ht, List.map_set]
end
def putL : List Int → Int → List Int
  | [], x => [x]
  | y :: l, x => if y < x then y :: putL l x else if y = x then y :: l else x :: y :: l
def OncePost (v : Value) (xs : List Int) (w : World) (e : Ending) (w' : World) : Prop := ∃ v', e = .returned v' ∧ OwnI 3 w' v' xs ∧ Stp (fpv v) (fpv v') w w'
end Go.Proofs.YthjplmminmhiaaaGreatDoor
namespace Go.Proofs.YthjplmminmhiaaaGreatDoor
open Go.RowKit Go.Maps

section
variable {P : Program} {T E : TypeId} {w w' : World} {v u : Value} {xs ys : List Int} {B : Nat}
end
theorem fpv_some {k g n c : Nat} (h : k ∈ fpv (.slice (some ⟨g, 0, none⟩) n c)) : k = g := by simpa [fpv, Value.ownBlock, eq_comm] using h
def PutRel (xs : List Int) (x : Int) (idx : Value) : Prop := ∃ i, i ≤ xs.length ∧ idx = .int .i64 (i : Nat) ∧ ∀ j y, j < i → xs[j]? = some y → y < x
end Go.Proofs.YthjplmminmhiaaaGreatDoor
