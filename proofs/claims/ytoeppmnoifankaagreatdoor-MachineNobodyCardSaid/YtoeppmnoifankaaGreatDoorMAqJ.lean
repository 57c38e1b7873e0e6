/- The walks of package arena: Class, Full. -/
/- The walk of the document's Pages (layer 4). -/
/- told of layer 7. -/
/- The walk of treadmillref1.Slots. -/
/- A slice of integers that is read; treadmillref1.Ints, Has (XRdI without the view). -/
/- A slice of integers that lies in memory; a slice laid behind one that is owned; the document's rising lists (cut loose of the view). -/
/- The walk of treadmillref1.Put. -/
import Derived.Test.YtoeppmnoifankaaGreatDoorMAs
import Derived.Test.YtoeppmnoifankaaGreatDoorMPb
import Derived.Test.YtoeppmnoifankaaGreatDoorMClJ
import Derived.IntWalk
import Derived.Test.YtoeppmnoifankaaGreatDoorMBit
import Derived.BigQuiet
import Derived.Deep.LoopGhost
import Derived.Deep.DeepCutAuto
import Derived.Deep.AppendSrc
import Derived.Deep.RegionHeld3
import Derived.StillTailTactics
namespace Go.Proofs.YtoeppmnoifankaaGreatDoor
open Go.RowKit

/-- No place is free from where the last one was found on. -/
def fullS (s : Sp) : Prop := ∀ x, s.fr ≤ x → x < slK s.k → s.F x = true
def afPost (a : Ar) (id : Int) (w : World) (e : Ending) (w' : World) : Prop := ∃ bo, e = .returned (.bool bo) ∧ Chg [] w w' ∧ (bo = true ↔ ∀ s, spI a id = some s → fullS s)
section
variable {w0 w : World} {g N b : Nat} {h : ArH} {a : Ar} (S : ArS w0 w g h a N b)
include S
end
end Go.Proofs.YtoeppmnoifankaaGreatDoor
namespace Go.Proofs.YtoeppmnoifankaaGreatDoor
open Go.RowKit

def fitR (s p : Nat) : Bool := decide (s ≤ p * 64 ∧ p * 64 % s * 8 ≤ p * 64)
def RpRel (w0 : World) (P gk : Nat) (idx : Value) (w : World) : Prop := ∃ p, gk + p = P + 1 ∧ 1 ≤ p ∧ p ≤ P ∧ idx = .int .i64 (p : Nat) ∧ Chg [] w0 w
end Go.Proofs.YtoeppmnoifankaaGreatDoor
namespace Go.Proofs.YtoeppmnoifankaaGreatDoor
open Go.RowKit

theorem s_new (w : World) (n : Nat) (z : Int) (hz : z = ((n * 64 : Nat) : Int)) (h4 : 4 ≤ n) (hn : n ≤ 262144) : Calls Tryz.prog 133 #[.int .i64 z] w fun e w' => ∃ g h, e = .returned (.tuple #[.pointer (some ⟨g, 0, none⟩), .int .i64 0]) ∧ ArS w w' g h (newA n) 0 0 := by
  subst hz
  refine (anew_ok w n h4 hn).mono ?_
  rintro e w' ⟨h, he, M, c, far, hm, -⟩
  exact ⟨h.ga, h, he, M, newA_I 0 n (by omega) hn, far, c, rfl, by omega⟩
/-- The next span, where all that is free is one run, and ids are taken from 0. -/
def spn (f q : Nat) : Sp := ⟨f, q, fun _ => false, fun _ => false, 0⟩
def TdPost (w : World) (e : Ending) (w' : World) : Prop := e = .returned (.bool true) ∧ Chg [] w w'
end Go.Proofs.YtoeppmnoifankaaGreatDoor
namespace Go.Proofs.YtoeppmnoifankaaGreatDoor
open Go.RowKit Go.Maps

end Go.Proofs.YtoeppmnoifankaaGreatDoor
namespace Go.Proofs.YtoeppmnoifankaaGreatDoor
open Go.RowKit Go.Maps

structure RdI (w : World) (v : Value) (xs : List Int) : Prop where
  ex : ∃ A c, v = .slice A xs.length c
  len : xs.length ≤ 9223372036854775807
  at_ : ∀ A n c, v = .slice A n c → ∀ i x, xs[i]? = some x → ∃ b off, A = some ⟨b, off, none⟩ ∧ w.cell? ⟨b, off + i, none⟩ = some (.int .i64 x)
def BoolD (b : Bool) (w : World) (e : Ending) (w' : World) : Prop := e = .returned (.bool b) ∧ ∃ n, w' = w.drewN n
def IntsRel (w0 : World) (xs ys : List Int) (gk : Nat) (idx : Value) (w : World) : Prop := ∃ i, gk + i = xs.length + 1 ∧ i ≤ xs.length ∧ idx = .int .i64 (i : Nat) ∧ xs.take i = ys.take i ∧ ∃ n, w = w0.drewN n
def HasRel (xs : List Int) (x : Int) (idx : Value) : Prop := ∃ i, i ≤ xs.length ∧ idx = .int .i64 (i : Nat) ∧ x ∉ xs.take i
end Go.Proofs.YtoeppmnoifankaaGreatDoor
namespace Go.Proofs.YtoeppmnoifankaaGreatDoor
open Go.RowKit Go.Maps

/-- A list that rises. -/
def Rise (l : List Int) : Prop := l.Pairwise (· < ·)
def WfI (x : Int) : Prop := -9223372036854775808 ≤ x ∧ x ≤ 9223372036854775807
def IntsAt (w : World) (B : Nat) (A : Option Addr) (xs : List Int) : Prop := ∀ i x, xs[i]? = some x → ∃ b off, A = some ⟨b, off, none⟩ ∧ b < B ∧ w.cell? ⟨b, off + i, none⟩ = some (.int .i64 x)
/-- A slice of integers. -/
structure SlI (w : World) (B : Nat) (v : Value) (xs : List Int) : Prop where
  ex : ∃ A c, v = .slice A xs.length c
  len : xs.length ≤ maxLen
  at_ : ∀ A n c, v = .slice A n c → IntsAt w B A xs
  wf : ∀ x ∈ xs, WfI x
theorem Chg.then_ {S T : List Nat} {a w w' : World} (h : Chg S a w) (c : Chg T w w') (hT : ∀ k ∈ T, k ∈ S ∨ a.heap.size ≤ k) : Chg S a w' :=
  ⟨c.os.trans h.os, c.tape.trans h.tape, c.output.trans h.output, Nat.le_trans h.size c.size, fun k hk hn =>
    (c.block k (Nat.lt_of_lt_of_le hk h.size) (fun hm => by
      rcases hT k hm with h1 | h1
      · exact hn h1
      · omega)).trans (h.block k hk hn)⟩
theorem Chg.new {T : List Nat} {a w w' : World} (h : Chg [] a w) (c : Chg T w w') (hT : ∀ k ∈ T, a.heap.size ≤ k) : Chg [] a w' := h.then_ c fun k hk => .inr (hT k hk)
section
variable {w w' : World} {B : Nat} {S : List Nat}
end
section
variable {P : Program} {T E : TypeId} {w w' : World} {v u : Value} {xs ys : List Int} {B : Nat}
theorem setCells_nil (w : World) (b o : Nat) : w.setCells b o [] = w := rfl
theorem OwnI.set_ {g n c q : Nat} (h : OwnI E w (.slice (some ⟨g, 0, none⟩) n c) xs) (_ : q < xs.length) (z : Int) : OwnI E (w.setCell ⟨g, q, none⟩ (.int .i64 z)) (.slice (some ⟨g, 0, none⟩) n c) (xs.set q z) := by
  rcases h.o.2 with ⟨e, _⟩ | ⟨g', cap, cur, e, hb0, hg, hc, hm, hs, ht⟩
  · simp at e
  · injection e with e1 e2 e3
    injection e1 with e1
    injection e1 with e1
    subst e1 e2 e3
    have hb : Blk w g E cur := hg
    refine ⟨⟨by simp, .inr ⟨g, c, cur.setIfInBounds q (.int .i64 z), by simp, Nat.zero_le _, hb.set_ q _, by simpa using hc, hm, by simpa using hs, ?_⟩⟩⟩
    rw [Array.toList_setIfInBounds, List.take_set, List.length_set, ht, List.map_set]
end
def putL : List Int → Int → List Int
  | [], x => [x]
  | y :: l, x => if y < x then y :: putL l x else if y = x then y :: l else x :: y :: l
def OncePost (v : Value) (xs : List Int) (w : World) (e : Ending) (w' : World) : Prop := ∃ v', e = .returned v' ∧ OwnI 3 w' v' xs ∧ Stp (fpv v) (fpv v') w w'
end Go.Proofs.YtoeppmnoifankaaGreatDoor
namespace Go.Proofs.YtoeppmnoifankaaGreatDoor
open Go.RowKit Go.Maps

section
variable {P : Program} {T E : TypeId} {w w' : World} {v u : Value} {xs ys : List Int} {B : Nat}
end
def PutRel (xs : List Int) (x : Int) (idx : Value) : Prop := ∃ i, i ≤ xs.length ∧ idx = .int .i64 (i : Nat) ∧ ∀ j y, j < i → xs[j]? = some y → y < x
end Go.Proofs.YtoeppmnoifankaaGreatDoor
