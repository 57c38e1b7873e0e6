/- Words of 64 bits that say which numbers are in a set. Plain laws; no program in sight. -/
/- The walks of package bits: sets of at most 64 numbers, in one word. -/
/- The walks of package bits: Next; math/bits.TrailingZeros64. -/
/- A list of integers that the call owns: append of one (no map, no view). Plain theorems on worlds; no program in sight. -/
/- The walk of package bits: All. -/
/- A slice of integers that is read; treadmillref1.Ints, Has (XRdI without the view). -/
/- A slice of integers that lies in memory; a slice laid behind one that is owned; the document's rising lists (cut loose of the view). -/
/- The walk of treadmillref1.Put. -/
import Derived.Laws.Bits64
import Derived.Laws.Bits64b
import Derived.Lib.TrailingZeros
import Derived.Test.YtoeppmnoifankaaGreatDoorMem
import Derived.Deep.LoopGhost
import Derived.Deep.DeepCutAuto
import Derived.Deep.CutBlock
import Derived.Deep.RegionHeld3
import Derived.Deep.RegionLaw
import Derived.Maps.AppendAt
import Derived.BigQuiet
import Derived.Deep.AppendSrc
import Derived.StillTailTactics
namespace Go.Proofs.YtoeppmnoifankaaGreatDoor

/-- The number whose bits are F's first ones. -/
def bw (F : Nat → Bool) : Nat → Nat
  | 0 => 0
  | k + 1 => bw F k + if F k = true then 2 ^ k else 0
def flipF (F : Nat → Bool) (i x : Nat) : Bool := if x = i then !(F x) else F x
/-- What Next tells. -/
def NextSays (n : Nat) (G : Nat → Bool) (from_ : Nat) (r : Int) : Prop := (r = -1 ∧ ∀ x, from_ ≤ x → x < n → G x = false) ∨ ∃ y : Nat, r = y ∧ from_ ≤ y ∧ y < n ∧ G y = true ∧ ∀ x, from_ ≤ x → x < y → G x = false
/-- How many. -/
def cntF (F : Nat → Bool) : Nat → Nat
  | 0 => 0
  | k + 1 => cntF F k + if F k = true then 1 else 0
end Go.Proofs.YtoeppmnoifankaaGreatDoor
namespace Go.Proofs.YtoeppmnoifankaaGreatDoor
open Go.RowKit

/-- A set in blocks g and A: of n numbers, F says which. -/
structure IsSet (w : World) (g A n : Nat) (F : Nat → Bool) : Prop where
  b : Blk w g 321 #[.int .i64 n, .slice (some ⟨A, 0, none⟩) 1 1, .int .i64 (cntF F n)]
  d : Blk w A 323 #[.int .u64 (bw F 64)]
  z : ∀ x, n ≤ x → F x = false
  n1 : 1 ≤ n
  n64 : n ≤ 64
section
variable {w w' : World} {g A n : Nat} {F : Nat → Bool}
theorem IsSet.chg {S : List Nat} (h : IsSet w g A n F) (c : Chg S w w') (h1 : g ∉ S) (h2 : A ∉ S) : IsSet w' g A n F := ⟨c.blk h.b h1, c.blk h.d h2, h.z, h.n1, h.n64⟩
end
/-! New -/
def BnPost (n : Nat) (w : World) (e : Ending) (w' : World) : Prop := ∃ g A, e = .returned (.pointer (some ⟨g, 0, none⟩)) ∧ IsSet w' g A n (fun _ => false) ∧ Chg [] w w' ∧ w.heap.size ≤ g ∧ w.heap.size ≤ A
/-! Has -/
def hasI (F : Nat → Bool) (n : Nat) (i : Int) : Bool := decide (0 ≤ i ∧ i < n) && F i.toNat
def QuPost (v : Value) (w : World) (e : Ending) (w' : World) : Prop := e = .returned v ∧ w' = w
/-! turn, Set, Clear -/
def BtPost (v : Value) (g A n : Nat) (F : Nat → Bool) (w : World) (e : Ending) (w' : World) : Prop := e = .returned v ∧ IsSet w' g A n F ∧ Chg [g, A] w w'
def setF (F : Nat → Bool) (i x : Nat) : Bool := if x = i then true else F x
def clrF (F : Nat → Bool) (i x : Nat) : Bool := if x = i then false else F x
end Go.Proofs.YtoeppmnoifankaaGreatDoor
namespace Go.Proofs.YtoeppmnoifankaaGreatDoor
open Go.RowKit

/-- The library's table, in its variable. -/
def Tab (w : World) : Prop := ∀ j, j < 64 → w.cell? ⟨3, j, none⟩ = some (.int .u8 ((Lib.deBruijn64tab.getD j 0 : Nat) : Int))
def BxPost (n : Nat) (G : Nat → Bool) (f : Nat) (w : World) (e : Ending) (w' : World) : Prop := ∃ r, e = .returned (.int .i64 r) ∧ NextSays n G f r ∧ w' = w
def BxRel (w : World) (n : Nat) (G : Nat → Bool) (f : Nat) (gk : Nat) (idx : Value) (w' : World) : Prop :=
  (gk = 2 ∧ idx = .int .i64 (f : Nat) ∧ f < n ∧ w' = w) ∨ (gk = 1 ∧ idx = .int .i64 64 ∧ (∀ x, f ≤ x → x < n → G x = false) ∧ w' = w)
def notF (F : Nat → Bool) (x : Nat) : Bool := !(F x)
end Go.Proofs.YtoeppmnoifankaaGreatDoor
namespace Go.Proofs.YtoeppmnoifankaaGreatDoor
open Go.RowKit Go.Maps

/-- What a slice type of integers of the program is. -/
structure SlTy (P : Program) (T E : TypeId) : Prop where
  s : P.underlying T = some (.slice E)
  i : (P.info? E).map (fun i => (i.zero, i.size, i.bytes)) = some (some (.int .i64 0), 1, 8)
/-- Slice v owns the list xs. -/
structure OwnI (E : TypeId) (w : World) (v : Value) (xs : List Int) : Prop where
  o : w.ownsRow 0 E 1 v xs.length (xs.map (Value.int .i64))

section
variable {P : Program} {T E : TypeId} {w w' : World} {v : Value} {xs : List Int}
theorem OwnI.nil (E : TypeId) (w : World) : OwnI E w (.slice none 0 0) [] := ⟨World.ownsRow_nil _ _ _ _⟩
theorem OwnI.lt (h : OwnI E w v xs) {k : Nat} (hk : k ∈ fpv v) : k < w.heap.size := own_lt h.o (mem_fpv.1 hk)
theorem OwnI.chg {S : List Nat} (h : OwnI E w v xs) (c : Chg S w w') (hn : ∀ k ∈ fpv v, k ∉ S) : OwnI E w' v xs := ⟨own_chg h.o c fun k hk => hn k (mem_fpv.2 hk)⟩
theorem OwnI.chg0 (h : OwnI E w v xs) (c : Chg [] w w') : OwnI E w' v xs := h.chg c (by simp)
theorem OwnI.slice (h : OwnI E w v xs) : ∃ A c, v = .slice A xs.length c := by
  rcases h.o.2 with ⟨rfl, h0⟩ | ⟨g, cap, cur, rfl, _⟩
  · exact ⟨none, 0, by rw [h0]⟩
  · exact ⟨_, _, rfl⟩
theorem OwnI.cell {A : Option Addr} {n c i : Nat} {x : Int} (h : OwnI E w (.slice A n c) xs) (hx : xs[i]? = some x) : ∃ g, A = some ⟨g, 0, none⟩ ∧ w.cell? ⟨g, i, none⟩ = some (.int .i64 x) ∧ w.frozen? ⟨g, i, none⟩ = false ∧ n = xs.length := by
  rcases h.o.2 with ⟨_, h0⟩ | ⟨g, cap, cur, e, _, hh, hc, hm, hs, ht⟩
  · have : xs = [] := List.eq_nil_of_length_eq_zero h0
    subst this; simp at hx
  · injection e with e1 e2 e3
    refine ⟨g, e1, ?_, Blk.frozen (t := E) (cs := cur) hh i, e2⟩
    rw [Blk.cell (t := E) (cs := cur) hh]
    have h1 : (cur.toList.take (xs.length * 1))[i]? = some (.int .i64 x) := by rw [ht]; simp [hx]
    rw [List.getElem?_take] at h1
    split at h1
    · simpa using h1
    · cases h1

theorem news_one (w : World) (u : Value) (E : TypeId) : ∀ j x, [u][j]? = some x → (w.alloc (.cells #[u] E)).cell? ((⟨w.heap.size, 0, none⟩ : Addr).add j) = some x := cell_one_new w u E

theorem run_push_int (t : SlTy P T E) (ty : TypeId) (h : OwnI E w v xs) (z : Int) (hl : xs.length + 1 ≤ 1000000000000) :
    ∃ v' w', (Builtin.append_ #[T, T] ty #[v, .slice (some ⟨w.heap.size, 0, none⟩) 1 1]).run P (w.alloc (.cells #[.int .i64 z] E)) = .ok v' w' ∧ OwnI E w' v' (xs ++ [z]) ∧ Stp (fpv v) (fpv v') w w' := by
  obtain ⟨i, hi, hz, hs, hb⟩ := info_parts t.i
  obtain ⟨v', w', hrun, h1, h2, h3, h4⟩ := run_append_own_at (P := P) (w.alloc (.cells #[.int .i64 z] E)) 0 T ty E i (.int .i64 0) 1 8 t.s hi hz hs hb rfl (by decide) v xs.length (xs.map (Value.int .i64)) (h.o.alloc _) ⟨w.heap.size, 0, none⟩ 1 1 [.int .i64 z] rfl (news_one w _ E) (by intro u hu; simp at hu; subst hu; rfl) (by unfold maxLen; omega) (by omega) (Nat.zero_le _)
  refine ⟨v', w', hrun, ⟨by simpa using h1⟩, ⟨((Chg.refl (fpv v) w).alloc _).grown h2 fun k hk => .inl (mem_fpv.2 hk), fun k hk => ?_⟩⟩
  rcases h4 with h4 | h4
  · rw [mem_fpv, h4] at hk; exact .inl (mem_fpv.2 hk)
  · rw [mem_fpv, h4] at hk
    injection hk with hk
    rw [World.size_alloc] at hk
    exact .inr (by omega)
theorem wpList_push_int {ops : Array Oper} {rest : List Oper} {o : Oper} {a : Act} {Q : Exit → Act → World → Prop} (hgd : o.guard = none) (s x : Operand)
    (ho : o.op = .call { callee := .builtin .append, args := #[s, x], argTypes := #[T, T] }) (t : SlTy P T E) (hs : a.eval s = v) (h : OwnI E w v xs) {z : Int} (hx : a.eval x = .slice (some ⟨w.heap.size, 0, none⟩) 1 1) (hl : xs.length + 1 ≤ 1000000000000)
    (hK : ∀ A' c' w', OwnI E w' (.slice A' (xs.length + 1) c') (xs ++ [z]) → Stp (fpv v) (fpv (.slice A' (xs.length + 1) c')) w w' → wpList P ops Q rest (a.put o.dst (.slice A' (xs.length + 1) c')) w') : wpList P ops Q (o :: rest) a (w.alloc (.cells #[.int .i64 z] E)) := by
  obtain ⟨v', w', hr, h2, h3⟩ := run_push_int t o.type h z hl
  obtain ⟨A', c', e⟩ := h2.slice
  rw [List.length_append, List.length_singleton] at e
  subst e
  refine wpList_plain hgd fun K' hK' => ?_
  unfold Oper.wp execOp
  simp only [ho, resolve, invoke, builtin, Sem.run_bind, Sem.run_pure, Result.andThen_ok, List.map_toArray, List.map_cons, List.map_nil, hs, hx, hr]
  exact hK' _ _ (hK A' c' w' h2 h3)
end
end Go.Proofs.YtoeppmnoifankaaGreatDoor
namespace Go.Proofs.YtoeppmnoifankaaGreatDoor
open Go.RowKit

def allN (F : Nat → Bool) (n : Nat) : List Nat := (List.range n).filter F
def intsN (l : List Nat) : List Int := l.map fun (x : Nat) => (x : Int)
def BaPost (xs : List Nat) (w : World) (e : Ending) (w' : World) : Prop := ∃ v, e = .returned v ∧ OwnI 3 w' v (intsN xs) ∧ Chg [] w w' ∧ ∀ k ∈ fpv v, w.heap.size ≤ k
def BaRel (w0 : World) (n : Nat) (F : Nat → Bool) (gk : Nat) (v idx : Value) (w : World) : Prop :=
  ∃ j m, gk + j = cntF F n + 1 ∧ j ≤ cntF F n ∧ idx = .int .i64 (j : Nat) ∧ m ≤ n ∧ (allN F m).length = j ∧ (m = 0 ∨ F (m - 1) = true) ∧ OwnI 3 w v (intsN (allN F m)) ∧ Chg [] w0 w ∧ ∀ k ∈ fpv v, w0.heap.size ≤ k
theorem Chg.newS {T : List Nat} {a w w' : World} (h : Chg [] a w) (c : Chg T w w') (hT : ∀ k ∈ T, a.heap.size ≤ k) : Chg [] a w' :=
  ⟨c.os.trans h.os, c.tape.trans h.tape, c.output.trans h.output, Nat.le_trans h.size c.size, fun k hk _ =>
    (c.block k (Nat.lt_of_lt_of_le hk h.size) (fun hm => by have := hT k hm; omega)).trans (h.block k hk (by simp))⟩
end Go.Proofs.YtoeppmnoifankaaGreatDoor
namespace Go.Proofs.YtoeppmnoifankaaGreatDoor
open Go.RowKit Go.Maps

structure RdI (w : World) (v : Value) (xs : List Int) : Prop where
  ex : ∃ A c, v = .slice A xs.length c
  len : xs.length ≤ 9223372036854775807
  at_ : ∀ A n c, v = .slice A n c → ∀ i x, xs[i]? = some x → ∃ b off, A = some ⟨b, off, none⟩ ∧ w.cell? ⟨b, off + i, none⟩ = some (.int .i64 x)
def BoolD (b : Bool) (w : World) (e : Ending) (w' : World) : Prop := e = .returned (.bool b) ∧ ∃ n, w' = w.drewN n
def IntsRel (w0 : World) (xs ys : List Int) (gk : Nat) (idx : Value) (w : World) : Prop := ∃ i, gk + i = xs.length + 1 ∧ i ≤ xs.length ∧ idx = .int .i64 (i : Nat) ∧ xs.take i = ys.take i ∧ ∃ n, w = w0.drewN n
def HasRel (xs : List Int) (x : Int) (idx : Value) : Prop := ∃ i, i ≤ xs.length ∧ idx = .int .i64 (i : Nat) ∧ x ∉ xs.take i
end Go.Proofs.YtoeppmnoifankaaGreatDoor
namespace Go.Proofs.YtoeppmnoifankaaGreatDoor
open Go.RowKit Go.Maps

/-- A list that rises. -/
def Rise (l : List Int) : Prop := l.Pairwise (· < ·)
def WfI (x : Int) : Prop := -9223372036854775808 ≤ x ∧ x ≤ 9223372036854775807
def IntsAt (w : World) (B : Nat) (A : Option Addr) (xs : List Int) : Prop := ∀ i x, xs[i]? = some x → ∃ b off, A = some ⟨b, off, none⟩ ∧ b < B ∧ w.cell? ⟨b, off + i, none⟩ = some (.int .i64 x)
/-- A slice of integers. -/
structure SlI (w : World) (B : Nat) (v : Value) (xs : List Int) : Prop where
  ex : ∃ A c, v = .slice A xs.length c
  len : xs.length ≤ maxLen
  at_ : ∀ A n c, v = .slice A n c → IntsAt w B A xs
  wf : ∀ x ∈ xs, WfI x
theorem Chg.then_ {S T : List Nat} {a w w' : World} (h : Chg S a w) (c : Chg T w w') (hT : ∀ k ∈ T, k ∈ S ∨ a.heap.size ≤ k) : Chg S a w' :=
  ⟨c.os.trans h.os, c.tape.trans h.tape, c.output.trans h.output, Nat.le_trans h.size c.size, fun k hk hn =>
    (c.block k (Nat.lt_of_lt_of_le hk h.size) (fun hm => by
      rcases hT k hm with h1 | h1
      · exact hn h1
      · omega)).trans (h.block k hk hn)⟩
theorem Chg.new {T : List Nat} {a w w' : World} (h : Chg [] a w) (c : Chg T w w') (hT : ∀ k ∈ T, a.heap.size ≤ k) : Chg [] a w' := h.then_ c fun k hk => .inr (hT k hk)
section
variable {w w' : World} {B : Nat} {S : List Nat}
end
section
variable {P : Program} {T E : TypeId} {w w' : World} {v u : Value} {xs ys : List Int} {B : Nat}
theorem setCells_nil (w : World) (b o : Nat) : w.setCells b o [] = w := rfl
theorem OwnI.set_ {g n c q : Nat} (h : OwnI E w (.slice (some ⟨g, 0, none⟩) n c) xs) (_ : q < xs.length) (z : Int) : OwnI E (w.setCell ⟨g, q, none⟩ (.int .i64 z)) (.slice (some ⟨g, 0, none⟩) n c) (xs.set q z) := by
  rcases h.o.2 with ⟨e, _⟩ | ⟨g', cap, cur, e, hb0, hg, hc, hm, hs, ht⟩
  · simp at e
  · injection e with e1 e2 e3
    injection e1 with e1
    injection e1 with e1
    subst e1 e2 e3
    have hb : Blk w g E cur := hg
    refine ⟨⟨by simp, .inr ⟨g, c, cur.setIfInBounds q (.int .i64 z), by simp, Nat.zero_le _, hb.set_ q _, by simpa using hc, hm, by simpa using hs, ?_⟩⟩⟩
    rw [Array.toList_setIfInBounds, List.take_set, List.length_set, ht, List.map_set]
end
def putL : List Int → Int → List Int
  | [], x => [x]
  | y :: l, x => if y < x then y :: putL l x else if y = x then y :: l else x :: y :: l
def OncePost (v : Value) (xs : List Int) (w : World) (e : Ending) (w' : World) : Prop := ∃ v', e = .returned v' ∧ OwnI 3 w' v' xs ∧ Stp (fpv v) (fpv v') w w'
end Go.Proofs.YtoeppmnoifankaaGreatDoor
namespace Go.Proofs.YtoeppmnoifankaaGreatDoor
open Go.RowKit Go.Maps

section
variable {P : Program} {T E : TypeId} {w w' : World} {v u : Value} {xs ys : List Int} {B : Nat}
end
theorem fpv_some {k g n c : Nat} (h : k ∈ fpv (.slice (some ⟨g, 0, none⟩) n c)) : k = g := by simpa [fpv, Value.ownBlock, eq_comm] using h
def PutRel (xs : List Int) (x : Int) (idx : Value) : Prop := ∃ i, i ≤ xs.length ∧ idx = .int .i64 (i : Nat) ∧ ∀ j y, j < i → xs[j]? = some y → y < x
end Go.Proofs.YtoeppmnoifankaaGreatDoor
