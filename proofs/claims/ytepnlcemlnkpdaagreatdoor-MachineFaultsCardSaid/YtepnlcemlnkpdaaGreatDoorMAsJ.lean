/- The walk of package arena: Span. -/
/- The walk of package arena: Span. -/
/- The arena: a span swept, an object gone, a span gone, an owner gone. Plain theorems on worlds. -/
/- The walk of package arena: Sweep. -/
/- The arena: its invariant is kept by each op. Plain theorems. -/
/- The arena's ops, as to a state that a law carries along. -/
/- The walk of package arena: Drop of a span that has objects. -/
/- The walks of package arena: Class, Full. -/
/- The walk of the document's Pages (layer 4). -/
/- told of layer 7. -/
/- The walk of treadmillref1.Slots. -/
/- ArenaComes: plain parts, and the walk. -/
/- Spans made one by one; a span with its first place used or marked, or not: what the laws of layer 7 carry. Plain. -/
/- Lists of the call's own beside an arena; what stands in objects, told by two lists. Plain. -/
/- Objects in the first places of spans: used, marked or not (for ArenaMarks, ArenaSums). Plain. -/
/- Package arena: Drop of a span without objects. -/
/- The walks of slices.Index, Clone, Grow (of nothing), Concat (of two) at integers. -/
/- Package central: how its rows lie in memory; side, has, last. -/
/- Package central: a step of what the call owns; TakeFull, Take. -/
/- Package central: Del. -/
/- Package central: Put. -/
/- Package central: Unswept, Any. -/
/- Package central: Begin. -/
/- Package central: Waiting. -/
/- Package central: New; classes: Count, Of. -/
import Derived.Test.YtepnlcemlnkpdaaGreatDoorMAr
import Derived.Test.YtepnlcemlnkpdaaGreatDoorMcR2J
import Derived.Test.YtepnlcemlnkpdaaGreatDoorMcCJ
import Derived.IntWalk
import Derived.Test.YtepnlcemlnkpdaaGreatDoorMemJ
import Derived.Lib.AppendZerosOnto
import Derived.Deep.CutBlock
import Derived.Deep.RegionHeld3
import Derived.Deep.RegionLaw
import Derived.Deep.DeepCutAuto
namespace Go.Proofs.YtepnlcemlnkpdaaGreatDoor
set_option maxHeartbeats 16000000
set_option maxRecDepth 100000
open Go.RowKit
def pgH (h : ArH) (v : Value) : ArH := { h with v := v }
def spanH (h : ArH) (id : Nat) (b : SpB) : ArH := { h with B := fun j => if j = id then b else h.B j, m := h.m + 1 }
def owH (h : ArH) : ArH := { h with m := h.m + 1 }
def spanA (a : Ar) (l' : List R) (id q f : Nat) : Ar := { a with l := l', sp := updF a.sp id (some ⟨f, q, fun _ => false, fun _ => false, 0⟩), ow := fun p => if f ≤ p ∧ p < f + pgK q then some id else a.ow p }
def ApPost (h : ArH) (a : Ar) (k : Int) (w : World) (e : Ending) (w' : World) : Prop :=
  (¬ isK k ∧ e = .returned (.tuple #[.int .i64 0, .int .i64 1]) ∧ Chg [] w w') ∨
  ∃ q : Nat, k = q ∧ q < 16 ∧ ∃ x c l', AllocSays a.l (pgK q : Nat) x c l' ∧
    ((c ≠ 0 ∧ e = .returned (.tuple #[.int .i64 0, .int .i64 c]) ∧ ∃ h' : ArH, ArM w' h' { a with l := l' } ∧ StA h a h' { a with l := l' } w w' ∧ h'.m = h.m ∧ h'.N = h.N ∧ h'.ga = h.ga) ∨
     (c = 0 ∧ ∃ (f id : Nat) (h' : ArH), x = f ∧ a.sp id = none ∧ (∀ j, j < id → a.sp j ≠ none) ∧ e = .returned (.tuple #[.int .i64 (id : Nat), .int .i64 0]) ∧ ArM w' h' (spanA a l' id q f) ∧ StA h a h' (spanA a l' id q f) w w' ∧ h'.m ≤ h.m + 6 ∧ h'.N = h.N ∧ h'.ga = h.ga))
def IdRel (w0 : World) (a : Ar) (N : Nat) (gk : Nat) (idx : Value) (w : World) : Prop := ∃ i, gk + i = N + 1 ∧ i ≤ N ∧ idx = .int .i64 (i : Nat) ∧ (∀ j, j < i → a.sp j ≠ none) ∧ w = w0
def owT (a : Ar) (f t id p : Nat) : Option Nat := if f ≤ p ∧ p < f + t then some id else a.ow p
def owHn (h : ArH) (t : Nat) : ArH := { h with m := h.m + t }
def OwRel (w0 : World) (h0 h4 : ArH) (a0 a4 : Ar) (f id P : Nat) (gk : Nat) (idx : Value) (w : World) : Prop :=
  ∃ t, gk + t = P + 1 ∧ t ≤ P ∧ idx = .int .i64 (t : Nat) ∧ ArM w (owHn h4 t) { a4 with ow := owT a4 f t id } ∧ StA h0 a0 (owHn h4 t) { a4 with ow := owT a4 f t id } w0 w
def turnH (h : ArH) (id : Nat) (b : SpB) : ArH := { h with B := fun j => if j = id then b else h.B j }
def sweptL (s : Sp) : List Nat := (allN s.F (slK s.k)).filter fun i => !(s.M i)
def addrT (s : Sp) (i : Nat) : List Nat := ((sweptL s).take i).map s.addr
def obT (a : Ar) (s : Sp) (i x : Nat) : Option (List Int) := if x ∈ addrT s i then none else a.ob x
def sweptS (s : Sp) : Sp := ⟨s.first, s.k, s.M, fun _ => false, 0⟩
def sweptB (b : SpB) : SpB := ⟨b.g, b.m, b.ma, b.u, b.ua⟩
def sweepA (a : Ar) (id : Nat) (s : Sp) (i : Nat) : Ar := { a with sp := updF a.sp id (some (sweptS s)), ob := obT a s i, live := a.live - i * szK s.k }
def AwPost (h : ArH) (a : Ar) (id : Int) (w : World) (e : Ending) (w' : World) : Prop :=
  (spI a id = none ∧ e = .returned (.tuple #[.slice none 0 0, .int .i64 4]) ∧ Chg [] w w') ∨
  ∃ s v, 0 ≤ id ∧ a.sp id.toNat = some s ∧ e = .returned (.tuple #[v, .int .i64 0]) ∧ OwnI 3 w' v (intsN ((sweptL s).map s.addr)) ∧ (∀ k ∈ fpv v, w.heap.size ≤ k) ∧ (∀ k ∈ fpv v, ¬ ArF (turnH h id.toNat (sweptB (h.B id.toNat))) (sweepA a id.toNat s (sweptL s).length) k) ∧ ArM w' (turnH h id.toNat (sweptB (h.B id.toNat))) (sweepA a id.toNat s (sweptL s).length) ∧ StA h a (turnH h id.toNat (sweptB (h.B id.toNat))) (sweepA a id.toNat s (sweptL s).length) w w'
def AwRel (w0 : World) (h h1 : ArH) (a : Ar) (id : Nat) (s : Sp) (vl : Value) (gk : Nat) (v idx : Value) (w : World) : Prop :=
  ∃ i, gk + i = (sweptL s).length + 1 ∧ i ≤ (sweptL s).length ∧ idx = .int .i64 (i : Nat) ∧ OwnI 3 w v (intsN (addrT s i)) ∧ OwnI 3 w vl (intsN (sweptL s)) ∧ (∀ k ∈ fpv v, w0.heap.size ≤ k ∧ k ∉ fpv vl) ∧ (∀ k ∈ fpv v, ∀ k' , ArF h1 (sweepA a id s i) k' → k ≠ k') ∧ (∀ k ∈ fpv vl, ∀ k', ArF h1 (sweepA a id s i) k' → k ≠ k') ∧ ArM w h1 (sweepA a id s i) ∧ StA h a h1 (sweepA a id s i) w0 w
def spW (o : Option Sp) : Nat := match o with | none => 0 | some s => cntF s.F (slK s.k) * szK s.k
def livN (f : Nat → Option Sp) : Nat → Nat
  | 0 => 0
  | n + 1 => livN f n + spW (f n)
theorem livN_more {f : Nat → Option Sp} {N : Nat} (h : ∀ j, N ≤ j → f j = none) : ∀ {M : Nat}, N ≤ M → livN f M = livN f N
  | 0, hm => by have : N = 0 := by omega
                rw [this]
  | M + 1, hm => by
    by_cases e : N = M + 1
    · rw [e]
    · rw [livN, livN_more h (M := M) (by omega), h M (by omega)]; rfl
structure ArI (N : Nat) (a : Ar) : Prop where
  ok : ArOk N a
  mf : ∀ id s i, a.sp id = some s → s.M i = true → s.F i = true
  fz : ∀ id s i, a.sp id = some s → slK s.k ≤ i → s.F i = false
  lv : a.live = livN a.sp N
theorem newA_I (N n : Nat) (h1 : 1 ≤ n) (h2 : n ≤ 262144) : ArI N (newA n) := by
  refine ⟨newA_ok N n h1 h2, fun _ _ _ h => by simp [newA] at h, fun _ _ _ h => by simp [newA] at h, ?_⟩
  have : livN (newA n).sp N = livN (newA n).sp 0 := livN_more (fun j _ => rfl) (Nat.zero_le _)
  rw [this]; rfl
/-! Alloc -/
/-! Store -/
/-! Mark -/
/-! Sweep -/
/-! Span -/
structure ArS (w0 w : World) (g : Nat) (h : ArH) (a : Ar) (N b : Nat) : Prop where
  M : ArM w h a
  I : ArI N a
  far : ∀ k, ArF h a k → w0.heap.size ≤ k
  c : Chg [] w0 w
  ga : h.ga = g
  m : h.m ≤ b
section
variable {w0 w w' : World} {g N b : Nat} {h h' : ArH} {a a' : Ar}
theorem ArS.chg0 (S : ArS w0 w g h a N b) (c : Chg [] w w') : ArS w0 w' g h a N b := ⟨S.M.chg0 c, S.I, S.far, S.c.trans c, S.ga, S.m⟩
end
def SpPost (w0 w : World) (g : Nat) (h : ArH) (a : Ar) (N b : Nat) (q : Nat) (e : Ending) (w' : World) : Prop :=
  ∃ x c l', AllocSays a.l (pgK q : Nat) x c l' ∧
    ((c ≠ 0 ∧ e = .returned (.tuple #[.int .i64 0, .int .i64 c]) ∧ ∃ h', ArS w0 w' g h' a N b ∧ StA h a h' a w w') ∨
     (c = 0 ∧ ∃ (f id : Nat) (h' : ArH), x = f ∧ a.sp id = none ∧ (∀ j, j < id → a.sp j ≠ none) ∧ id ≤ N ∧ e = .returned (.tuple #[.int .i64 (id : Nat), .int .i64 0]) ∧ ArS w0 w' g h' (spanA a l' id q f) (N + 1) (b + 6) ∧ StA h a h' (spanA a l' id q f) w w'))
def AlPost' (w0 w : World) (g : Nat) (h : ArH) (a : Ar) (N b : Nat) (id n : Int) (black : Bool) (e : Ending) (w' : World) : Prop :=
  (∃ c : Int, e = .returned (.tuple #[.int .i64 0, .int .i64 c]) ∧ ArS w0 w' g h a N b ∧ Chg [] w w' ∧ ((spI a id = none ∧ c = 4) ∨ ∃ s, spI a id = some s ∧ (((n < 1 ∨ (szK s.k : Int) < n) ∧ c = 1) ∨ (1 ≤ n ∧ n ≤ szK s.k ∧ (∀ x, s.fr ≤ x → x < slK s.k → s.F x = true) ∧ c = 3)))) ∨
  ∃ s y h', 0 ≤ id ∧ a.sp id.toNat = some s ∧ 1 ≤ n ∧ n ≤ szK s.k ∧ s.fr ≤ y ∧ y < slK s.k ∧ s.F y = false ∧ (∀ x, s.fr ≤ x → x < y → s.F x = true) ∧ e = .returned (.tuple #[.int .i64 (s.addr y : Nat), .int .i64 0]) ∧ ArS w0 w' g h' (allocA a id.toNat s y n.toNat black) N (b + 1) ∧ StA h a h' (allocA a id.toNat s y n.toNat black) w w'
section
variable {w0 w : World} {g N b : Nat} {h : ArH} {a : Ar} (S : ArS w0 w g h a N b)
include S
theorem s_load (x i : Int) (hx : Wf64 x) : Calls Tryz.prog 237 #[.pointer (some ⟨g, 0, none⟩), .int .i64 x, .int .i64 i] w (NwPost (.tuple #[.int .i64 (loadV a x i), .int .i64 (slotC a x i)]) w) := by
  have h1 := load_ok w h a S.M x i hx
  rwa [S.ga] at h1
theorem s_live : Calls Tryz.prog 65 #[.pointer (some ⟨g, 0, none⟩)] w (QuPost (.int .i64 (a.live : Nat)) w) := by
  have h1 := alive_ok w h a S.M
  rwa [S.ga] at h1
end
section
variable {w0 w : World} {g N b : Nat} {h : ArH} {a : Ar} (S : ArS w0 w g h a N b)
include S
end
def fullS (s : Sp) : Prop := ∀ x, s.fr ≤ x → x < slK s.k → s.F x = true
def afPost (a : Ar) (id : Int) (w : World) (e : Ending) (w' : World) : Prop := ∃ bo, e = .returned (.bool bo) ∧ Chg [] w w' ∧ (bo = true ↔ ∀ s, spI a id = some s → fullS s)
section
variable {w0 w : World} {g N b : Nat} {h : ArH} {a : Ar} (S : ArS w0 w g h a N b)
include S
end
def fitR (s p : Nat) : Bool := decide (s ≤ p * 64 ∧ p * 64 % s * 8 ≤ p * 64)
def RpRel (w0 : World) (P gk : Nat) (idx : Value) (w : World) : Prop := ∃ p, gk + p = P + 1 ∧ 1 ≤ p ∧ p ≤ P ∧ idx = .int .i64 (p : Nat) ∧ Chg [] w0 w
theorem s_new (w : World) (n : Nat) (z : Int) (hz : z = ((n * 64 : Nat) : Int)) (h4 : 4 ≤ n) (hn : n ≤ 262144) : Calls Tryz.prog 95 #[.int .i64 z] w fun e w' => ∃ g h, e = .returned (.tuple #[.pointer (some ⟨g, 0, none⟩), .int .i64 0]) ∧ ArS w w' g h (newA n) 0 0 := by
  subst hz
  refine (anew_ok w n h4 hn).mono ?_
  rintro e w' ⟨h, he, M, c, far, hm, -⟩
  exact ⟨h.ga, h, he, M, newA_I 0 n (by omega) hn, far, c, rfl, by omega⟩
def spn (f q : Nat) : Sp := ⟨f, q, fun _ => false, fun _ => false, 0⟩
def TdPost (w : World) (e : Ending) (w' : World) : Prop := e = .returned (.bool true) ∧ Chg [] w w'
open Go.RowKit Go.Maps
section
variable {a : Ar}
theorem slotC_none {x i : Int} (ho : obI a x = none) : slotC a x i = 4 := by unfold slotC; rw [ho]
theorem loadV_none {x i : Int} (ho : obI a x = none) : loadV a x i = 0 := by unfold loadV; rw [ho]
end
def oneF : Nat → Bool := fun i => decide (i = 0)
def s2 (q : Nat) : Sp := allocS (spn 1 q) 0 true
def s3 (q : Nat) : Sp := sweptS (s2 q)
def s4 (q : Nat) : Sp := sweptS (s3 q)
def s5 (q : Nat) : Sp := allocS (s4 q) 0 false
structure SerA (a : Ar) (i f p : Nat) : Prop where
  l : a.l = [⟨f, p⟩]
  s : f + p = 512
  f : f ≤ 1 + 4 * i
  sp : ∀ j, j < i → a.sp j ≠ none
section
variable {a : Ar} {i f p : Nat} (h : SerA a i f p)
include h
end
structure Spt (s : Sp) (F M : Bool) : Prop where
  F : ∀ x, s.F x = (decide (x = 0) && F)
  M : ∀ x, s.M x = (decide (x = 0) && M)
  fr : s.fr = 0
section
variable {s : Sp} {F M : Bool} (h : Spt s F M)
include h
end
structure LsS (W w : World) (h : ArH) (a : Ar) (v : Value) (l : List Int) : Prop where
  o : OwnI 3 w v l
  nf : ∀ k ∈ fpv v, ¬ ArF h a k
  new : ∀ k ∈ fpv v, W.heap.size ≤ k
section
variable {W w w' : World} {g N b : Nat} {h h' : ArH} {a a' : Ar} {v v' u u' : Value} {l l' : List Int}
end
structure Cont (a : Ar) (As Ss : List Nat) (V : Nat → Nat → Int) : Prop where
  len : As.length = Ss.length
  nd : As.Nodup
  mem : ∀ x, (a.ob x).isSome = true ↔ x ∈ As
  at_ : ∀ t x n, As[t]? = some x → Ss[t]? = some n → ∃ ys : List Int, a.ob x = some ys ∧ ys.length = n ∧ ∀ j, j < n → ys.getD j 0 = V t j
section
variable {a a' : Ar} {As Ss : List Nat} {V V' : Nat → Nat → Int} (C : Cont a As Ss V)
include C
end
structure MkA (a : Ar) (m : Nat) (c F M : Nat → Bool) (st : List Int) : Prop where
  sp : ∀ j, j < m → ∃ s, a.sp j = some s ∧ Spt s (F j) (M j)
  me : ∀ x, x ∈ st ↔ ∃ j s, j < m ∧ c j = true ∧ a.sp j = some s ∧ x = ((s.addr 0 : Nat) : Int)
  r : Rise st
  l : st.length ≤ m
  w : ∀ x ∈ st, 0 ≤ x ∧ x < 16777216
section
variable {a a' : Ar} {m id : Nat} {c F M F' M' : Nat → Bool} {st : List Int} {s s' : Sp} (K : MkA a m c F M st)
include K
end
def noT (ow : Nat → Option Nat) (f t : Nat) : Nat → Option Nat := fun p => if f ≤ p ∧ p < f + t then none else ow p
def dropA (a : Ar) (id : Nat) (s : Sp) (l' : List R) : Ar := { a with l := l', sp := updF a.sp id none, ow := noT a.ow s.first (pgK s.k) }
def DwRel (w0 : World) (h : ArH) (a : Ar) (f P gk : Nat) (idx : Value) (w : World) : Prop :=
  ∃ t, gk + t = P + 1 ∧ t ≤ P ∧ idx = .int .i64 (t : Nat) ∧ ArM w h { a with ow := noT a.ow f t } ∧ StA h a h { a with ow := noT a.ow f t } w0 w
section
variable {w0 w : World} {g N b : Nat} {h : ArH} {a : Ar} (S : ArS w0 w g h a N b)
include S
end
def LixSays (xs : List Int) (x r : Int) : Prop := (r = -1 ∧ x ∉ xs) ∨ ∃ i : Nat, r = i ∧ xs[i]? = some x ∧ x ∉ xs.take i
def LixRel (xs : List Int) (x : Int) (gk : Nat) (idx : Value) (w0 w : World) : Prop := ∃ i, gk + i = xs.length + 1 ∧ i ≤ xs.length ∧ idx = .int .i64 (i : Nat) ∧ x ∉ xs.take i ∧ w = w0
def NwL (xs : List Int) (w : World) (e : Ending) (w' : World) : Prop := ∃ v, e = .returned v ∧ OwnI 3 w' v xs ∧ Chg [] w w' ∧ ∀ k ∈ fpv v, w.heap.size ≤ k
def CcRel (w0 : World) (xs ys : List Int) (gk : Nat) (sz idx : Value) (w : World) : Prop :=
  (gk = 3 ∧ idx = .int .i64 0 ∧ sz = .int .i64 0 ∧ w = w0) ∨ (gk = 2 ∧ idx = .int .i64 1 ∧ sz = .int .i64 (xs.length : Nat) ∧ w = w0) ∨ (gk = 1 ∧ idx = .int .i64 2 ∧ sz = .int .i64 (xs.length + ys.length : Nat) ∧ w = w0)
def CdRel (w0 : World) (xs ys : List Int) (gk : Nat) (vn idx : Value) (w : World) : Prop :=
  ∃ zs, OwnI 3 w vn zs ∧ Chg [] w0 w ∧ (∀ k ∈ fpv vn, w0.heap.size ≤ k) ∧ ((gk = 3 ∧ idx = .int .i64 0 ∧ zs = []) ∨ (gk = 2 ∧ idx = .int .i64 1 ∧ zs = xs) ∨ (gk = 1 ∧ idx = .int .i64 2 ∧ zs = xs ++ ys))
def ceC (v : Nat → Value) : Array Value := ((List.range 64).map v).toArray
def updV {α : Type} (f : Nat → α) (j : Nat) (x : α) : Nat → α := fun i => if i = j then x else f i
theorem updV_same {α : Type} (f : Nat → α) (j : Nat) (x : α) : updV f j x j = x := if_pos rfl
theorem updV_other {α : Type} (f : Nat → α) {i j : Nat} (x : α) (h : i ≠ j) : updV f j x i = f i := if_neg h
structure IsCe (w : World) (gc gl : Nat) (v : Nat → Value) (r : Nat → List Nat) : Prop where
  b : Blk w gc 258 #[.slice (some ⟨gl, 0, none⟩) 16 16]
  l : Blk w gl 368 (ceC v)
  o : ∀ j, j < 64 → OwnI 3 w (v j) (intsN (r j))
  d : ∀ i j, i < 64 → j < 64 → i ≠ j → ∀ k ∈ fpv (v i), k ∉ fpv (v j)
def CeF (gc gl : Nat) (v : Nat → Value) (k : Nat) : Prop := k = gc ∨ k = gl ∨ ∃ j, j < 64 ∧ k ∈ fpv (v j)
section
variable {w w' : World} {gc gl : Nat} {v : Nat → Value} {r : Nat → List Nat}
theorem IsCe.chg {S : List Nat} (I : IsCe w gc gl v r) (c : Chg S w w') (hn : ∀ k, CeF gc gl v k → k ∉ S) : IsCe w' gc gl v r :=
  ⟨c.blk I.b (hn _ (.inl rfl)), c.blk I.l (hn _ (.inr (.inl rfl))), fun j hj => (I.o j hj).chg c (fun k hk => hn k (.inr (.inr ⟨j, hj, hk⟩))), I.d⟩
theorem IsCe.chg0 (I : IsCe w gc gl v r) (c : Chg [] w w') : IsCe w' gc gl v r := I.chg c (by simp)
theorem IsCe.lt (I : IsCe w gc gl v r) {k : Nat} (hk : CeF gc gl v k) : k < w.heap.size := by
  rcases hk with rfl | rfl | ⟨j, hj, hk⟩
  · exact I.b.lt
  · exact I.l.lt
  · exact (I.o j hj).lt hk
end
def LsPost (p : Addr) (x : Int) (xs : List Int) (v : Value) (w : World) (e : Ending) (w' : World) : Prop :=
  ∃ u, e = .returned (.tuple #[.int .i64 x, .bool true]) ∧ w' = w.setCell p u ∧ OwnI 3 w u xs ∧ fpv u = fpv v
structure StP (F F' : Nat → Prop) (w w' : World) : Prop where
  os : w'.os = w.os
  tape : w'.tape = w.tape
  output : w'.output = w.output
  size : w.heap.size ≤ w'.heap.size
  block : ∀ k, k < w.heap.size → ¬ F k → w'.heap[k]? = w.heap[k]?
  fr : ∀ k, F' k → F k ∨ w.heap.size ≤ k
section
variable {F F' F'' : Nat → Prop} {w w' w'' : World}
end
def CeTo (gc gl : Nat) (v : Nat → Value) (r' : Nat → List Nat) (w w' : World) : Prop := ∃ v', IsCe w' gc gl v' r' ∧ StP (CeF gc gl v) (CeF gc gl v') w w'
def LaPost (gc gl : Nat) (v : Nat → Value) (r : Nat → List Nat) (j : Nat) (w : World) (e : Ending) (w' : World) : Prop :=
  (r j = [] ∧ e = .returned (.tuple #[.int .i64 0, .bool false]) ∧ w' = w) ∨ ∃ xs x, r j = xs ++ [x] ∧ e = .returned (.tuple #[.int .i64 (x : Nat), .bool true]) ∧ CeTo gc gl v (updV r j xs) w w'
def TkPost (gc gl : Nat) (v : Nat → Value) (r : Nat → List Nat) (k : Nat) (w : World) (e : Ending) (w' : World) : Prop :=
  (r (k * 4) = [] ∧ r (k * 4 + 2) = [] ∧ e = .returned (.tuple #[.int .i64 0, .bool false, .bool false]) ∧ w' = w) ∨
  (∃ xs x, r (k * 4) = xs ++ [x] ∧ e = .returned (.tuple #[.int .i64 (x : Nat), .bool false, .bool true]) ∧ CeTo gc gl v (updV r (k * 4) xs) w w') ∨
  ∃ xs x, r (k * 4) = [] ∧ r (k * 4 + 2) = xs ++ [x] ∧ e = .returned (.tuple #[.int .i64 (x : Nat), .bool true, .bool true]) ∧ CeTo gc gl v (updV r (k * 4 + 2) xs) w w'
def TkRel (w0 : World) (r : Nat → List Nat) (k gk : Nat) (idx : Value) (w : World) : Prop :=
  w = w0 ∧ ((gk = 3 ∧ idx = .int .i64 0) ∨ (gk = 2 ∧ idx = .int .i64 1 ∧ r (k * 4) = []) ∨ (gk = 1 ∧ idx = .int .i64 2 ∧ r (k * 4) = [] ∧ r (k * 4 + 2) = []))
def delR (r : Nat → List Nat) (id j : Nat) : Nat → List Nat := updV r j ((r j).erase id)
def DlPost (gc gl : Nat) (v : Nat → Value) (r : Nat → List Nat) (id : Nat) (w : World) (e : Ending) (w' : World) : Prop :=
  ((∀ j, j < 64 → id ∉ r j) ∧ e = .returned (.bool false) ∧ Chg [] w w') ∨ ∃ j, j < 64 ∧ id ∈ r j ∧ (∀ i, i < j → id ∉ r i) ∧ e = .returned (.bool true) ∧ CeTo gc gl v (delR r id j) w w'
def DlRel (w0 : World) (r : Nat → List Nat) (id d n base gk : Nat) (idx : Value) (w : World) : Prop :=
  ∃ i, gk + i = n + 1 ∧ i ≤ n ∧ idx = .int .i64 (i : Nat) ∧ (∀ j, j < base + i * d → id ∉ r j) ∧ w = w0
def DelTo (r : Nat → List Nat) (id : Nat) (r1 : Nat → List Nat) : Prop := (r1 = r ∧ ∀ j, j < 64 → id ∉ r j) ∨ ∃ j, j < 64 ∧ id ∈ r j ∧ (∀ i, i < j → id ∉ r i) ∧ r1 = delR r id j
def sd (full : Bool) : Nat := if full then 1 else 0
def CpPost (gc gl : Nat) (v : Nat → Value) (r : Nat → List Nat) (k id : Nat) (full : Bool) (w : World) (e : Ending) (w' : World) : Prop :=
  e = .returned (.tuple #[]) ∧ ∃ r1, DelTo r id r1 ∧ CeTo gc gl v (updV r1 (k * 4 + sd full) (r1 (k * 4 + sd full) ++ [id])) w w'
def unsN (r : Nat → List Nat) : Nat → Nat
  | 0 => 0
  | k + 1 => unsN r k + (r (k * 4 + 2)).length + (r (k * 4 + 3)).length
def UsRel (w0 : World) (r : Nat → List Nat) (gk : Nat) (n idx : Value) (w : World) : Prop :=
  ∃ k, gk + k = 17 ∧ k ≤ 16 ∧ idx = .int .i64 (k : Nat) ∧ n = .int .i64 (unsN r k : Nat) ∧ Chg [] w0 w
def AyPost (gc gl : Nat) (v : Nat → Value) (r : Nat → List Nat) (w : World) (e : Ending) (w' : World) : Prop :=
  ((∀ k, k < 16 → r (k * 4 + 2) = [] ∧ r (k * 4 + 3) = []) ∧ e = .returned (.tuple #[.int .i64 0, .int .i64 0, .bool false]) ∧ Chg [] w w') ∨
  ∃ k f x xs, k < 16 ∧ f < 2 ∧ r (k * 4 + 2 + f) = x :: xs ∧ e = .returned (.tuple #[.int .i64 (k : Nat), .int .i64 (x : Nat), .bool true]) ∧ CeTo gc gl v (updV r (k * 4 + 2 + f) xs) w w'
def AyPost2 (gc gl : Nat) (v : Nat → Value) (r : Nat → List Nat) (w : World) (e : Ending) (w' : World) : Prop :=
  ((∀ k, k < 16 → r (k * 4 + 2) = [] ∧ r (k * 4 + 3) = []) ∧ e = .returned (.tuple #[.int .i64 0, .int .i64 0, .bool false]) ∧ Chg [] w w') ∨
  ∃ k f x xs, k < 16 ∧ f < 2 ∧ (∀ i, i < k → r (i * 4 + 2) = [] ∧ r (i * 4 + 3) = []) ∧ (∀ i, i < f → r (k * 4 + 2 + i) = []) ∧ r (k * 4 + 2 + f) = x :: xs ∧ e = .returned (.tuple #[.int .i64 (k : Nat), .int .i64 (x : Nat), .bool true]) ∧ CeTo gc gl v (updV r (k * 4 + 2 + f) xs) w w'
def AyRel (w0 : World) (r : Nat → List Nat) (gk : Nat) (idx : Value) (w : World) : Prop :=
  ∃ k, gk + k = 17 ∧ k ≤ 16 ∧ idx = .int .i64 (k : Nat) ∧ (∀ i, i < k → r (i * 4 + 2) = [] ∧ r (i * 4 + 3) = []) ∧ w = w0
def AzRel (w0 : World) (r : Nat → List Nat) (k gk : Nat) (idx : Value) (w : World) : Prop :=
  ∃ f, gk + f = 3 ∧ f ≤ 2 ∧ idx = .int .i64 (f : Nat) ∧ (∀ i, i < f → r (k * 4 + 2 + i) = []) ∧ w = w0
def bgR (r : Nat → List Nat) (m : Nat) : Nat → List Nat := fun j => if j / 4 * 2 + j % 2 < m then (if j % 4 < 2 then [] else r j ++ r (j - 2)) else r j
def BgRel (w0 : World) (gc gl : Nat) (v : Nat → Value) (r : Nat → List Nat) (d n base gk : Nat) (idx : Value) (w : World) : Prop :=
  ∃ i v', gk + i = n + 1 ∧ i ≤ n ∧ idx = .int .i64 (i : Nat) ∧ IsCe w gc gl v' (bgR r (base + i * d)) ∧ StP (CeF gc gl v) (CeF gc gl v') w0 w
def waN (r : Nat → List Nat) : Nat → List Nat
  | 0 => []
  | k + 1 => waN r k ++ r (k * 4 + 2) ++ r (k * 4 + 3)
def WtRel (w0 : World) (r : Nat → List Nat) (gk : Nat) (vo idx : Value) (w : World) : Prop :=
  ∃ k, gk + k = 17 ∧ k ≤ 16 ∧ idx = .int .i64 (k : Nat) ∧ OwnI 3 w vo (intsN (waN r k)) ∧ Chg [] w0 w ∧ ∀ j ∈ fpv vo, w0.heap.size ≤ j
theorem cnew_ok (w : World) : Calls Tryz.prog 96 #[] w fun e w' => ∃ gc gl, e = .returned (.pointer (some ⟨gc, 0, none⟩)) ∧ IsCe w' gc gl (fun _ => .slice none 0 0) (fun _ => []) ∧ Chg [] w w' ∧ ∀ k, CeF gc gl (fun _ => .slice none 0 0) k → w.heap.size ≤ k := by
  have hmk : ∀ W : World, (Instr.makeSlice 256 (.int .i64 16) (.int .i64 16)).run Tryz.prog W = .ok (.slice (some ⟨W.heap.size, 0, none⟩) 16 16) (W.alloc (.cells (ceC fun _ => .slice none 0 0) 368)) := fun W => by
    obtain ⟨i, hi, hzz⟩ := Option.map_eq_some_iff.1 (show (Tryz.prog.info? 368).map (fun i => (i.zero, i.size, i.bytes)) = some (some (.agg #[.slice none 0 0, .slice none 0 0, .slice none 0 0, .slice none 0 0]), 4, 96) by kernel_rfl)
    simp only [Prod.mk.injEq] at hzz
    obtain ⟨hz, hs, hb⟩ := hzz
    have hr := run_make (P := Tryz.prog) W 256 368 i _ Tryz.underlying256 hi hz .i64 .i64 16 16 (by decide) (Int.le_refl _) (by rw [hb]; decide) (by decide)
    have em : madeCells (Value.agg #[.slice none 0 0, .slice none 0 0, .slice none 0 0, .slice none 0 0]).cells (Int.toNat 16 * 4) = ceC fun _ => .slice none 0 0 := by kernel_rfl
    rw [hs, em] at hr
    exact hr
  go_enter Tryz.func96, Tryz.ntmps96
  go_wp2_with fail
  refine (count_ok w).mono ?_
  rintro e w1 ⟨rfl, c⟩
  have HC := Lib.hid c; clear c
  go_wp2_with fail
  go_ret
  have B1 := Blk.new w1 368 (ceC fun _ => .slice none 0 0)
  have B2 := Blk.new (w1.alloc (.cells (ceC fun _ => .slice none 0 0) 368)) 258 #[.slice (some ⟨w1.heap.size, 0, none⟩) 16 16]
  rw [World.size_alloc] at B2
  refine ⟨_, w1.heap.size, rfl, ⟨B2, B1.alloc _, fun j hj => OwnI.nil _ _, fun i j hi hj hne k hk => by simp [fpv, Value.ownBlock] at hk⟩, (HC.out.alloc _).alloc _, fun k hk => ?_⟩
  have hsz := HC.out.size
  rcases hk with rfl | rfl | ⟨j, -, hk⟩
  · omega
  · exact hsz
  · simp [fpv, Value.ownBlock] at hk
end Go.Proofs.YtepnlcemlnkpdaaGreatDoor
