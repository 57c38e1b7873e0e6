/- ArenaComes: plain parts, and the walk. -/
/- Spans made one by one; a span with its first place used or marked, or not: what the laws of layer 7 carry. Plain. -/
/- Lists of the call's own beside an arena; what stands in objects, told by two lists. Plain. -/
/- Objects in the first places of spans: used, marked or not (for ArenaMarks, ArenaSums). Plain. -/
/- Package arena: Drop of a span without objects. -/
/- The walks of slices.Index, Clone, Grow (of nothing), Concat (of two) at integers. -/
/- Package central: how its rows lie in memory; side, has, last. -/
/- Package central: a step of what the call owns; TakeFull, Take. -/
/- Package central: Del. -/
/- Package central: Put. -/
/- Package central: Unswept, Any. -/
/- Package central: Begin. -/
/- Package central: Waiting. -/
/- Package central: New; classes: Count, Of. -/
/- ArenaDrops: plain parts. -/
/- Classes: Of, where a size may be. -/
/- Package cache: how a heap lies in memory; its parts turned one by one. -/
/- Package cache: owned, unswept, Arena, Unswept, fresh. -/
/- Package cache: Flush. -/
/- Package cache: Sweep. -/
/- Package cache: a heap's invariant: each span stands in just one place. Plain. -/
/- Package cache: the invariant through Flush, Begin, Sweep. Plain. -/
import Derived.Test.YtcpljjacamibeaaGreatDoorMArJ
import Derived.Test.YtcpljjacamibeaaGreatDoorMZ
import Derived.Test.YtcpljjacamibeaaGreatDoorMClJ
import Derived.Lib.AppendZerosOnto
import Derived.Deep.CutBlock
import Derived.Deep.RegionHeld3
import Derived.Deep.RegionLaw
import Derived.Deep.DeepCutAuto
namespace Go.Proofs.YtcpljjacamibeaaGreatDoor
set_option maxHeartbeats 16000000
set_option maxRecDepth 100000
open Go.RowKit
section
variable {a : Ar}
end
def oneF : Nat → Bool := fun i => decide (i = 0)
def s2 (q : Nat) : Sp := allocS (spn 1 q) 0 true
def s3 (q : Nat) : Sp := sweptS (s2 q)
def s4 (q : Nat) : Sp := sweptS (s3 q)
def s5 (q : Nat) : Sp := allocS (s4 q) 0 false
structure SerA (a : Ar) (i f p : Nat) : Prop where
  l : a.l = [⟨f, p⟩]
  s : f + p = 512
  f : f ≤ 1 + 4 * i
  sp : ∀ j, j < i → a.sp j ≠ none
section
variable {a : Ar} {i f p : Nat} (h : SerA a i f p)
include h
end
structure Spt (s : Sp) (F M : Bool) : Prop where
  F : ∀ x, s.F x = (decide (x = 0) && F)
  M : ∀ x, s.M x = (decide (x = 0) && M)
  fr : s.fr = 0
section
variable {s : Sp} {F M : Bool} (h : Spt s F M)
include h
end
structure LsS (W w : World) (h : ArH) (a : Ar) (v : Value) (l : List Int) : Prop where
  o : OwnI 3 w v l
  nf : ∀ k ∈ fpv v, ¬ ArF h a k
  new : ∀ k ∈ fpv v, W.heap.size ≤ k
section
variable {W w w' : World} {g N b : Nat} {h h' : ArH} {a a' : Ar} {v v' u u' : Value} {l l' : List Int}
end
structure Cont (a : Ar) (As Ss : List Nat) (V : Nat → Nat → Int) : Prop where
  len : As.length = Ss.length
  nd : As.Nodup
  mem : ∀ x, (a.ob x).isSome = true ↔ x ∈ As
  at_ : ∀ t x n, As[t]? = some x → Ss[t]? = some n → ∃ ys : List Int, a.ob x = some ys ∧ ys.length = n ∧ ∀ j, j < n → ys.getD j 0 = V t j
section
variable {a a' : Ar} {As Ss : List Nat} {V V' : Nat → Nat → Int} (C : Cont a As Ss V)
include C
end
structure MkA (a : Ar) (m : Nat) (c F M : Nat → Bool) (st : List Int) : Prop where
  sp : ∀ j, j < m → ∃ s, a.sp j = some s ∧ Spt s (F j) (M j)
  me : ∀ x, x ∈ st ↔ ∃ j s, j < m ∧ c j = true ∧ a.sp j = some s ∧ x = ((s.addr 0 : Nat) : Int)
  r : Rise st
  l : st.length ≤ m
  w : ∀ x ∈ st, 0 ≤ x ∧ x < 16777216
section
variable {a a' : Ar} {m id : Nat} {c F M F' M' : Nat → Bool} {st : List Int} {s s' : Sp} (K : MkA a m c F M st)
include K
end
def noT (ow : Nat → Option Nat) (f t : Nat) : Nat → Option Nat := fun p => if f ≤ p ∧ p < f + t then none else ow p
def dropA (a : Ar) (id : Nat) (s : Sp) (l' : List R) : Ar := { a with l := l', sp := updF a.sp id none, ow := noT a.ow s.first (pgK s.k) }
def DwRel (w0 : World) (h : ArH) (a : Ar) (f P gk : Nat) (idx : Value) (w : World) : Prop :=
  ∃ t, gk + t = P + 1 ∧ t ≤ P ∧ idx = .int .i64 (t : Nat) ∧ ArM w h { a with ow := noT a.ow f t } ∧ StA h a h { a with ow := noT a.ow f t } w0 w
section
variable {w0 w : World} {g N b : Nat} {h : ArH} {a : Ar} (S : ArS w0 w g h a N b)
include S
end
open Go.RowKit Go.Maps
def LixSays (xs : List Int) (x r : Int) : Prop := (r = -1 ∧ x ∉ xs) ∨ ∃ i : Nat, r = i ∧ xs[i]? = some x ∧ x ∉ xs.take i
def LixRel (xs : List Int) (x : Int) (gk : Nat) (idx : Value) (w0 w : World) : Prop := ∃ i, gk + i = xs.length + 1 ∧ i ≤ xs.length ∧ idx = .int .i64 (i : Nat) ∧ x ∉ xs.take i ∧ w = w0
def NwL (xs : List Int) (w : World) (e : Ending) (w' : World) : Prop := ∃ v, e = .returned v ∧ OwnI 3 w' v xs ∧ Chg [] w w' ∧ ∀ k ∈ fpv v, w.heap.size ≤ k
def CcRel (w0 : World) (xs ys : List Int) (gk : Nat) (sz idx : Value) (w : World) : Prop :=
  (gk = 3 ∧ idx = .int .i64 0 ∧ sz = .int .i64 0 ∧ w = w0) ∨ (gk = 2 ∧ idx = .int .i64 1 ∧ sz = .int .i64 (xs.length : Nat) ∧ w = w0) ∨ (gk = 1 ∧ idx = .int .i64 2 ∧ sz = .int .i64 (xs.length + ys.length : Nat) ∧ w = w0)
def CdRel (w0 : World) (xs ys : List Int) (gk : Nat) (vn idx : Value) (w : World) : Prop :=
  ∃ zs, OwnI 3 w vn zs ∧ Chg [] w0 w ∧ (∀ k ∈ fpv vn, w0.heap.size ≤ k) ∧ ((gk = 3 ∧ idx = .int .i64 0 ∧ zs = []) ∨ (gk = 2 ∧ idx = .int .i64 1 ∧ zs = xs) ∨ (gk = 1 ∧ idx = .int .i64 2 ∧ zs = xs ++ ys))
def ceC (v : Nat → Value) : Array Value := ((List.range 64).map v).toArray
def updV {α : Type} (f : Nat → α) (j : Nat) (x : α) : Nat → α := fun i => if i = j then x else f i
theorem updV_same {α : Type} (f : Nat → α) (j : Nat) (x : α) : updV f j x j = x := if_pos rfl
theorem updV_other {α : Type} (f : Nat → α) {i j : Nat} (x : α) (h : i ≠ j) : updV f j x i = f i := if_neg h
structure IsCe (w : World) (gc gl : Nat) (v : Nat → Value) (r : Nat → List Nat) : Prop where
  b : Blk w gc 283 #[.slice (some ⟨gl, 0, none⟩) 16 16]
  l : Blk w gl 368 (ceC v)
  o : ∀ j, j < 64 → OwnI 3 w (v j) (intsN (r j))
  d : ∀ i j, i < 64 → j < 64 → i ≠ j → ∀ k ∈ fpv (v i), k ∉ fpv (v j)
def CeF (gc gl : Nat) (v : Nat → Value) (k : Nat) : Prop := k = gc ∨ k = gl ∨ ∃ j, j < 64 ∧ k ∈ fpv (v j)
section
variable {w w' : World} {gc gl : Nat} {v : Nat → Value} {r : Nat → List Nat}
theorem IsCe.chg {S : List Nat} (I : IsCe w gc gl v r) (c : Chg S w w') (hn : ∀ k, CeF gc gl v k → k ∉ S) : IsCe w' gc gl v r :=
  ⟨c.blk I.b (hn _ (.inl rfl)), c.blk I.l (hn _ (.inr (.inl rfl))), fun j hj => (I.o j hj).chg c (fun k hk => hn k (.inr (.inr ⟨j, hj, hk⟩))), I.d⟩
theorem IsCe.chg0 (I : IsCe w gc gl v r) (c : Chg [] w w') : IsCe w' gc gl v r := I.chg c (by simp)
theorem IsCe.lt (I : IsCe w gc gl v r) {k : Nat} (hk : CeF gc gl v k) : k < w.heap.size := by
  rcases hk with rfl | rfl | ⟨j, hj, hk⟩
  · exact I.b.lt
  · exact I.l.lt
  · exact (I.o j hj).lt hk
end
def LsPost (p : Addr) (x : Int) (xs : List Int) (v : Value) (w : World) (e : Ending) (w' : World) : Prop :=
  ∃ u, e = .returned (.tuple #[.int .i64 x, .bool true]) ∧ w' = w.setCell p u ∧ OwnI 3 w u xs ∧ fpv u = fpv v
structure StP (F F' : Nat → Prop) (w w' : World) : Prop where
  os : w'.os = w.os
  tape : w'.tape = w.tape
  output : w'.output = w.output
  size : w.heap.size ≤ w'.heap.size
  block : ∀ k, k < w.heap.size → ¬ F k → w'.heap[k]? = w.heap[k]?
  fr : ∀ k, F' k → F k ∨ w.heap.size ≤ k
section
variable {F F' F'' : Nat → Prop} {w w' w'' : World}
end
def CeTo (gc gl : Nat) (v : Nat → Value) (r' : Nat → List Nat) (w w' : World) : Prop := ∃ v', IsCe w' gc gl v' r' ∧ StP (CeF gc gl v) (CeF gc gl v') w w'
def LaPost (gc gl : Nat) (v : Nat → Value) (r : Nat → List Nat) (j : Nat) (w : World) (e : Ending) (w' : World) : Prop :=
  (r j = [] ∧ e = .returned (.tuple #[.int .i64 0, .bool false]) ∧ w' = w) ∨ ∃ xs x, r j = xs ++ [x] ∧ e = .returned (.tuple #[.int .i64 (x : Nat), .bool true]) ∧ CeTo gc gl v (updV r j xs) w w'
def TkPost (gc gl : Nat) (v : Nat → Value) (r : Nat → List Nat) (k : Nat) (w : World) (e : Ending) (w' : World) : Prop :=
  (r (k * 4) = [] ∧ r (k * 4 + 2) = [] ∧ e = .returned (.tuple #[.int .i64 0, .bool false, .bool false]) ∧ w' = w) ∨
  (∃ xs x, r (k * 4) = xs ++ [x] ∧ e = .returned (.tuple #[.int .i64 (x : Nat), .bool false, .bool true]) ∧ CeTo gc gl v (updV r (k * 4) xs) w w') ∨
  ∃ xs x, r (k * 4) = [] ∧ r (k * 4 + 2) = xs ++ [x] ∧ e = .returned (.tuple #[.int .i64 (x : Nat), .bool true, .bool true]) ∧ CeTo gc gl v (updV r (k * 4 + 2) xs) w w'
def TkRel (w0 : World) (r : Nat → List Nat) (k gk : Nat) (idx : Value) (w : World) : Prop :=
  w = w0 ∧ ((gk = 3 ∧ idx = .int .i64 0) ∨ (gk = 2 ∧ idx = .int .i64 1 ∧ r (k * 4) = []) ∨ (gk = 1 ∧ idx = .int .i64 2 ∧ r (k * 4) = [] ∧ r (k * 4 + 2) = []))
def delR (r : Nat → List Nat) (id j : Nat) : Nat → List Nat := updV r j ((r j).erase id)
def DlPost (gc gl : Nat) (v : Nat → Value) (r : Nat → List Nat) (id : Nat) (w : World) (e : Ending) (w' : World) : Prop :=
  ((∀ j, j < 64 → id ∉ r j) ∧ e = .returned (.bool false) ∧ Chg [] w w') ∨ ∃ j, j < 64 ∧ id ∈ r j ∧ (∀ i, i < j → id ∉ r i) ∧ e = .returned (.bool true) ∧ CeTo gc gl v (delR r id j) w w'
def DlRel (w0 : World) (r : Nat → List Nat) (id d n base gk : Nat) (idx : Value) (w : World) : Prop :=
  ∃ i, gk + i = n + 1 ∧ i ≤ n ∧ idx = .int .i64 (i : Nat) ∧ (∀ j, j < base + i * d → id ∉ r j) ∧ w = w0
def DelTo (r : Nat → List Nat) (id : Nat) (r1 : Nat → List Nat) : Prop := (r1 = r ∧ ∀ j, j < 64 → id ∉ r j) ∨ ∃ j, j < 64 ∧ id ∈ r j ∧ (∀ i, i < j → id ∉ r i) ∧ r1 = delR r id j
def sd (full : Bool) : Nat := if full then 1 else 0
def CpPost (gc gl : Nat) (v : Nat → Value) (r : Nat → List Nat) (k id : Nat) (full : Bool) (w : World) (e : Ending) (w' : World) : Prop :=
  e = .returned (.tuple #[]) ∧ ∃ r1, DelTo r id r1 ∧ CeTo gc gl v (updV r1 (k * 4 + sd full) (r1 (k * 4 + sd full) ++ [id])) w w'
def unsN (r : Nat → List Nat) : Nat → Nat
  | 0 => 0
  | k + 1 => unsN r k + (r (k * 4 + 2)).length + (r (k * 4 + 3)).length
def UsRel (w0 : World) (r : Nat → List Nat) (gk : Nat) (n idx : Value) (w : World) : Prop :=
  ∃ k, gk + k = 17 ∧ k ≤ 16 ∧ idx = .int .i64 (k : Nat) ∧ n = .int .i64 (unsN r k : Nat) ∧ Chg [] w0 w
def AyPost (gc gl : Nat) (v : Nat → Value) (r : Nat → List Nat) (w : World) (e : Ending) (w' : World) : Prop :=
  ((∀ k, k < 16 → r (k * 4 + 2) = [] ∧ r (k * 4 + 3) = []) ∧ e = .returned (.tuple #[.int .i64 0, .int .i64 0, .bool false]) ∧ Chg [] w w') ∨
  ∃ k f x xs, k < 16 ∧ f < 2 ∧ r (k * 4 + 2 + f) = x :: xs ∧ e = .returned (.tuple #[.int .i64 (k : Nat), .int .i64 (x : Nat), .bool true]) ∧ CeTo gc gl v (updV r (k * 4 + 2 + f) xs) w w'
def AyPost2 (gc gl : Nat) (v : Nat → Value) (r : Nat → List Nat) (w : World) (e : Ending) (w' : World) : Prop :=
  ((∀ k, k < 16 → r (k * 4 + 2) = [] ∧ r (k * 4 + 3) = []) ∧ e = .returned (.tuple #[.int .i64 0, .int .i64 0, .bool false]) ∧ Chg [] w w') ∨
  ∃ k f x xs, k < 16 ∧ f < 2 ∧ (∀ i, i < k → r (i * 4 + 2) = [] ∧ r (i * 4 + 3) = []) ∧ (∀ i, i < f → r (k * 4 + 2 + i) = []) ∧ r (k * 4 + 2 + f) = x :: xs ∧ e = .returned (.tuple #[.int .i64 (k : Nat), .int .i64 (x : Nat), .bool true]) ∧ CeTo gc gl v (updV r (k * 4 + 2 + f) xs) w w'
def AyRel (w0 : World) (r : Nat → List Nat) (gk : Nat) (idx : Value) (w : World) : Prop :=
  ∃ k, gk + k = 17 ∧ k ≤ 16 ∧ idx = .int .i64 (k : Nat) ∧ (∀ i, i < k → r (i * 4 + 2) = [] ∧ r (i * 4 + 3) = []) ∧ w = w0
def AzRel (w0 : World) (r : Nat → List Nat) (k gk : Nat) (idx : Value) (w : World) : Prop :=
  ∃ f, gk + f = 3 ∧ f ≤ 2 ∧ idx = .int .i64 (f : Nat) ∧ (∀ i, i < f → r (k * 4 + 2 + i) = []) ∧ w = w0
def bgR (r : Nat → List Nat) (m : Nat) : Nat → List Nat := fun j => if j / 4 * 2 + j % 2 < m then (if j % 4 < 2 then [] else r j ++ r (j - 2)) else r j
def BgRel (w0 : World) (gc gl : Nat) (v : Nat → Value) (r : Nat → List Nat) (d n base gk : Nat) (idx : Value) (w : World) : Prop :=
  ∃ i v', gk + i = n + 1 ∧ i ≤ n ∧ idx = .int .i64 (i : Nat) ∧ IsCe w gc gl v' (bgR r (base + i * d)) ∧ StP (CeF gc gl v) (CeF gc gl v') w0 w
def waN (r : Nat → List Nat) : Nat → List Nat
  | 0 => []
  | k + 1 => waN r k ++ r (k * 4 + 2) ++ r (k * 4 + 3)
def WtRel (w0 : World) (r : Nat → List Nat) (gk : Nat) (vo idx : Value) (w : World) : Prop :=
  ∃ k, gk + k = 17 ∧ k ≤ 16 ∧ idx = .int .i64 (k : Nat) ∧ OwnI 3 w vo (intsN (waN r k)) ∧ Chg [] w0 w ∧ ∀ j ∈ fpv vo, w0.heap.size ≤ j
theorem cnew_ok (w : World) : Calls Tryz.prog 108 #[] w fun e w' => ∃ gc gl, e = .returned (.pointer (some ⟨gc, 0, none⟩)) ∧ IsCe w' gc gl (fun _ => .slice none 0 0) (fun _ => []) ∧ Chg [] w w' ∧ ∀ k, CeF gc gl (fun _ => .slice none 0 0) k → w.heap.size ≤ k := by
  have hmk : ∀ W : World, (Instr.makeSlice 281 (.int .i64 16) (.int .i64 16)).run Tryz.prog W = .ok (.slice (some ⟨W.heap.size, 0, none⟩) 16 16) (W.alloc (.cells (ceC fun _ => .slice none 0 0) 368)) := fun W => by
    obtain ⟨i, hi, hzz⟩ := Option.map_eq_some_iff.1 (show (Tryz.prog.info? 368).map (fun i => (i.zero, i.size, i.bytes)) = some (some (.agg #[.slice none 0 0, .slice none 0 0, .slice none 0 0, .slice none 0 0]), 4, 96) by kernel_rfl)
    simp only [Prod.mk.injEq] at hzz
    obtain ⟨hz, hs, hb⟩ := hzz
    have hr := run_make (P := Tryz.prog) W 281 368 i _ Tryz.underlying281 hi hz .i64 .i64 16 16 (by decide) (Int.le_refl _) (by rw [hb]; decide) (by decide)
    have em : madeCells (Value.agg #[.slice none 0 0, .slice none 0 0, .slice none 0 0, .slice none 0 0]).cells (Int.toNat 16 * 4) = ceC fun _ => .slice none 0 0 := by kernel_rfl
    rw [hs, em] at hr
    exact hr
  go_enter Tryz.func108, Tryz.ntmps108
  go_wp2_with fail
  refine (count_ok w).mono ?_
  rintro e w1 ⟨rfl, c⟩
  have HC := Lib.hid c; clear c
  go_wp2_with fail
  go_ret
  have B1 := Blk.new w1 368 (ceC fun _ => .slice none 0 0)
  have B2 := Blk.new (w1.alloc (.cells (ceC fun _ => .slice none 0 0) 368)) 283 #[.slice (some ⟨w1.heap.size, 0, none⟩) 16 16]
  rw [World.size_alloc] at B2
  refine ⟨_, w1.heap.size, rfl, ⟨B2, B1.alloc _, fun j hj => OwnI.nil _ _, fun i j hi hj hne k hk => by simp [fpv, Value.ownBlock] at hk⟩, (HC.out.alloc _).alloc _, fun k hk => ?_⟩
  have hsz := HC.out.size
  rcases hk with rfl | rfl | ⟨j, -, hk⟩
  · omega
  · exact hsz
  · simp [fpv, Value.ownBlock] at hk
structure SerD (a : Ar) (i f p : Nat) (cl : Nat → Nat) : Prop where
  l : a.l = [⟨f, p⟩]
  s : f + p = 256
  f : f ≤ 1 + 4 * i
  n : a.n = 256
  sp : ∀ j, j < i → ∃ s, a.sp j = some s ∧ s.k = cl j ∧ Spt s false false
def CoRel (w0 : World) (n : Int) (gk : Nat) (idx : Value) (w : World) : Prop := ∃ k, gk + k = 17 ∧ k ≤ 15 ∧ idx = .int .i64 (k : Nat) ∧ (∀ j, j < k → (szK j : Int) < n) ∧ Chg [] w0 w
structure HpH where
  gh : Nat
  ah : ArH
  gc : Nat
  gl : Nat
  v : Nat → Value
  vo : Value
  gp : Nat → Nat
structure HpA where
  a : Ar
  r : Nat → List Nat
  P : Nat
  own : Nat → Nat → Int
def own16 (f : Nat → Int) : Array Value := ((List.range 16).map fun k => Value.int .i64 (f k)).toArray
theorem own16_size (f : Nat → Int) : (own16 f).size = 16 := by unfold own16; simp
theorem own16_at (f : Nat → Int) {k : Nat} (h : k < 16) : (own16 f)[k]? = some (.int .i64 (f k)) := by unfold own16; simp [h]
theorem own16_set (f : Nat → Int) {k : Nat} (h : k < 16) (x : Int) : (own16 f).setIfInBounds k (.int .i64 x) = own16 (updV f k x) := by
  apply Array.ext_getElem?
  intro i
  rw [Array.getElem?_setIfInBounds]
  by_cases e : k = i
  · subst e
    rw [if_pos rfl, if_pos (by rw [own16_size]; exact h), own16_at _ h, updV_same]
  · rw [if_neg e]
    by_cases hi : i < 16
    · rw [own16_at _ hi, own16_at _ hi, updV_other _ _ (Ne.symm e)]
    · rw [Array.getElem?_eq_none (by rw [own16_size]; omega), Array.getElem?_eq_none (by rw [own16_size]; omega)]
def ownVs (gp : Nat → Nat) (P : Nat) : List Value := (List.range P).map fun p => .slice (some ⟨gp p, 0, none⟩) 16 16
def OwF (H : HpH) (P : Nat) (k : Nat) : Prop := k = H.gh ∨ k ∈ fpv H.vo ∨ ∃ p, p < P ∧ k = H.gp p
structure HpS (W w : World) (H : HpH) (A : HpA) (N b : Nat) : Prop where
  hb : Blk w H.gh 177 #[.pointer (some ⟨H.ah.ga, 0, none⟩), .pointer (some ⟨H.gc, 0, none⟩), H.vo]
  S : ArS W w H.ah.ga H.ah A.a N b
  C : IsCe w H.gc H.gl H.v A.r
  o : w.ownsRow 0 37 1 H.vo A.P (ownVs H.gp A.P)
  g : ∀ p, p < A.P → Blk w (H.gp p) 3 (own16 (A.own p))
  inj : ∀ p q, p < A.P → q < A.P → p ≠ q → H.gp p ≠ H.gp q
  d1 : ∀ k, CeF H.gc H.gl H.v k → ¬ ArF H.ah A.a k
  d2 : ∀ k, OwF H A.P k → ¬ ArF H.ah A.a k ∧ ¬ CeF H.gc H.gl H.v k
  n1 : ∀ k, CeF H.gc H.gl H.v k → W.heap.size ≤ k
  n2 : ∀ k, OwF H A.P k → W.heap.size ≤ k
section
variable {W w w' : World} {H : HpH} {A : HpA} {N N' b b' : Nat}
theorem HpS.ltO (Q : HpS W w H A N b) {k : Nat} (hk : OwF H A.P k) : k < w.heap.size := by
  rcases hk with rfl | hk | ⟨p, hp, rfl⟩
  · exact Q.hb.lt
  · exact own_lt Q.o (mem_fpv.1 hk)
  · exact (Q.g p hp).lt
theorem HpS.chg0 (Q : HpS W w H A N b) (c : Chg [] w w') : HpS W w' H A N b :=
  ⟨c.blk Q.hb (by simp), Q.S.chg0 c, Q.C.chg0 c, own_chg Q.o c (fun _ _ => by simp), fun p hp => c.blk (Q.g p hp) (by simp), Q.inj, Q.d1, Q.d2, Q.n1, Q.n2⟩
end
def HpF (H : HpH) (A : HpA) (k : Nat) : Prop := ArF H.ah A.a k ∨ CeF H.gc H.gl H.v k ∨ OwF H A.P k
section
variable {W w w' w'' : World} {H H' : HpH} {A A' : HpA}
end
structure LsP (W : World) (F : Nat → Prop) (w : World) (v : Value) (l : List Int) : Prop where
  o : OwnI 3 w v l
  nf : ∀ k ∈ fpv v, ¬ F k
  new : ∀ k ∈ fpv v, W.heap.size ≤ k
section
variable {W w w' : World} {F F' : Nat → Prop} {v v' u u' : Value} {l l' : List Int}
end
theorem HpS.lt {W w : World} {H : HpH} {A : HpA} {N b : Nat} (Q : HpS W w H A N b) {k : Nat} (hk : HpF H A k) : k < w.heap.size := by
  rcases hk with h | h | h
  · exact Q.S.M.lt k h
  · exact Q.C.lt h
  · exact Q.ltO h
structure HpB (A : HpA) : Prop where
  l : ∀ j, (A.r j).length ≤ 10000
  x : ∀ j, ∀ x ∈ A.r j, x ≤ 1000000
  o : ∀ p k, p < A.P → k < 16 → A.own p k = -1 ∨ ∃ id : Nat, A.own p k = id ∧ id ≤ 1000000
  P : A.P ≤ 64
section
variable {W w : World} {H : HpH} {A : HpA} {N b : Nat} (Q : HpS W w H A N b)
include Q
theorem HpS.vo_sl : ∃ B c, H.vo = .slice B A.P c := by
  rcases Q.o.2 with ⟨e, h0⟩ | ⟨g, cap, cur, e, _⟩
  · exact ⟨none, 0, by rw [h0]; exact e⟩
  · exact ⟨_, cap, e⟩
def OdPost (A : HpA) (id : Int) (w : World) (e : Ending) (w' : World) : Prop := ∃ bo, e = .returned (.bool bo) ∧ w' = w ∧ (bo = true ↔ ∃ p k, p < A.P ∧ k < 16 ∧ A.own p k = id)
def OdRel (A : HpA) (id : Int) (gk : Nat) (idx : Value) (w0 w : World) : Prop := ∃ p, gk + p = A.P + 1 ∧ p ≤ A.P ∧ idx = .int .i64 (p : Nat) ∧ (∀ q k, q < p → k < 16 → A.own q k ≠ id) ∧ w = w0
def OeRel (A : HpA) (p : Nat) (id : Int) (gk : Nat) (idx : Value) (w0 w : World) : Prop := ∃ k, gk + k = 17 ∧ k ≤ 16 ∧ idx = .int .i64 (k : Nat) ∧ (∀ j, j < k → A.own p j ≠ id) ∧ w = w0
def UwRel (xs : List Int) (id : Int) (gk : Nat) (idx : Value) (w0 w : World) : Prop := ∃ i, gk + i = xs.length + 1 ∧ i ≤ xs.length ∧ idx = .int .i64 (i : Nat) ∧ id ∉ xs.take i ∧ w = w0
end
def PutTo (a : Ar) (r : Nat → List Nat) (k id : Nat) (r' : Nat → List Nat) : Prop :=
  ∃ r1 full, DelTo r id r1 ∧ (full = true ↔ ∀ s, spI a (id : Nat) = some s → fullS s) ∧ r' = updV r1 (k * 4 + sd full) (r1 (k * 4 + sd full) ++ [id])
def FlR (a : Ar) (f : Nat → Int) : Nat → (Nat → List Nat) → (Nat → List Nat) → Prop
  | 0, r, r' => r' = r
  | n + 1, r, r' => ∃ r1, FlR a f n r r1 ∧ ((f n = -1 ∧ r' = r1) ∨ ∃ id : Nat, f n = id ∧ PutTo a r1 n id r')
def flO (f : Nat → Int) (n : Nat) : Nat → Int := fun k => if k < n then -1 else f k
def FlPost (W w : World) (H : HpH) (A : HpA) (N b p : Nat) (e : Ending) (w' : World) : Prop :=
  e = .returned (.tuple #[]) ∧ ∃ v' r', FlR A.a (A.own p) 16 A.r r' ∧ HpS W w' { H with v := v' } { A with r := r', own := updV A.own p (flO (A.own p) 16) } N b ∧ StP (HpF H A) (HpF { H with v := v' } { A with r := r', own := updV A.own p (flO (A.own p) 16) }) w w'
def FlRel (W w0 : World) (H : HpH) (A : HpA) (N b p gk : Nat) (idx : Value) (w : World) : Prop :=
  ∃ k v' r', gk + k = 17 ∧ k ≤ 16 ∧ idx = .int .i64 (k : Nat) ∧ FlR A.a (A.own p) k A.r r' ∧ HpS W w { H with v := v' } { A with r := r', own := updV A.own p (flO (A.own p) k) } N b ∧ StP (HpF H A) (HpF { H with v := v' } { A with r := r', own := updV A.own p (flO (A.own p) k) }) w0 w
def HwPost (W w : World) (H : HpH) (A : HpA) (N b : Nat) (e : Ending) (w' : World) : Prop :=
  ((∀ k, k < 16 → A.r (k * 4 + 2) = [] ∧ A.r (k * 4 + 3) = []) ∧ e = .returned (.tuple #[.slice none 0 0, .bool false]) ∧ Chg [] w w') ∨
  ∃ k f x xs s u h' v' r', k < 16 ∧ f < 2 ∧ A.r (k * 4 + 2 + f) = x :: xs ∧ A.a.sp x = some s ∧ PutTo (sweepA A.a x s (sweptL s).length) (updV A.r (k * 4 + 2 + f) xs) k x r' ∧ e = .returned (.tuple #[u, .bool true]) ∧
    HpS W w' { H with ah := h', v := v' } { A with a := sweepA A.a x s (sweptL s).length, r := r' } N b ∧
    StP (HpF H A) (HpF { H with ah := h', v := v' } { A with a := sweepA A.a x s (sweptL s).length, r := r' }) w w' ∧
    LsP W (HpF { H with ah := h', v := v' } { A with a := sweepA A.a x s (sweptL s).length, r := r' }) w' u (intsN ((sweptL s).map s.addr)) ∧ h'.ga = H.ah.ga ∧ ∀ k ∈ fpv u, w.heap.size ≤ k
def HwPost2 (W w : World) (H : HpH) (A : HpA) (N b : Nat) (e : Ending) (w' : World) : Prop :=
  ((∀ k, k < 16 → A.r (k * 4 + 2) = [] ∧ A.r (k * 4 + 3) = []) ∧ e = .returned (.tuple #[.slice none 0 0, .bool false]) ∧ Chg [] w w') ∨
  ∃ k f x xs s u h' v' r', k < 16 ∧ f < 2 ∧ (∀ i, i < k → A.r (i * 4 + 2) = [] ∧ A.r (i * 4 + 3) = []) ∧ (∀ i, i < f → A.r (k * 4 + 2 + i) = []) ∧ A.r (k * 4 + 2 + f) = x :: xs ∧ A.a.sp x = some s ∧ PutTo (sweepA A.a x s (sweptL s).length) (updV A.r (k * 4 + 2 + f) xs) k x r' ∧ e = .returned (.tuple #[u, .bool true]) ∧
    HpS W w' { H with ah := h', v := v' } { A with a := sweepA A.a x s (sweptL s).length, r := r' } N b ∧
    StP (HpF H A) (HpF { H with ah := h', v := v' } { A with a := sweepA A.a x s (sweptL s).length, r := r' }) w w' ∧
    LsP W (HpF { H with ah := h', v := v' } { A with a := sweepA A.a x s (sweptL s).length, r := r' }) w' u (intsN ((sweptL s).map s.addr)) ∧ h'.ga = H.ah.ga ∧ ∀ k ∈ fpv u, w.heap.size ≤ k
structure HpI (A : HpA) (z : Option Nat) : Prop where
  r : ∀ j x, x ∈ A.r j → j < 64 ∧ ∃ s, A.a.sp x = some s ∧ s.k = j / 4 ∧ (j % 2 = 1 ↔ fullS s)
  nd : ∀ j, (A.r j).Nodup
  dj : ∀ i j x, x ∈ A.r i → x ∈ A.r j → i = j
  o : ∀ p k, p < A.P → k < 16 → A.own p k = -1 ∨ ∃ (id : Nat) (s : Sp), A.own p k = id ∧ A.a.sp id = some s ∧ s.k = k
  oi : ∀ p q k l, p < A.P → q < A.P → k < 16 → l < 16 → A.own p k = A.own q l → A.own p k = -1 ∨ (p = q ∧ k = l)
  ro : ∀ p k (id : Nat), p < A.P → k < 16 → A.own p k = id → ∀ j, id ∉ A.r j
  P : A.P ≤ 64
  zz : ∀ id, z = some id → (∃ s, A.a.sp id = some s) ∧ (∀ j, id ∉ A.r j) ∧ ∀ p k, p < A.P → k < 16 → A.own p k ≠ (id : Nat)
  all : ∀ id s, A.a.sp id = some s → z = some id ∨ (∃ j, id ∈ A.r j) ∨ ∃ p k, p < A.P ∧ k < 16 ∧ A.own p k = (id : Nat)
section
variable {A : HpA} {z : Option Nat}
end
section
variable {A : HpA}
def FaR (a : Ar) (own : Nat → Nat → Int) : Nat → (Nat → List Nat) → (Nat → List Nat) → Prop
  | 0, r, r' => r' = r
  | p + 1, r, r' => ∃ r1, FaR a own p r r1 ∧ FlR a (own p) 16 r1 r'
def faO (own : Nat → Nat → Int) (n : Nat) : Nat → Nat → Int := fun q => if q < n then flO (own q) 16 else own q
end
end Go.Proofs.YtcpljjacamibeaaGreatDoor
