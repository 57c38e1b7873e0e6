/- The walk of package arena: Span. -/
/- The walk of package arena: Span. -/
/- The arena: a span swept, an object gone, a span gone, an owner gone. Plain theorems on worlds. -/
/- The walk of package arena: Sweep. -/
/- The arena: its invariant is kept by each op. Plain theorems. -/
/- The arena's ops, as to a state that a law carries along. -/
/- The walk of package arena: Drop of a span that has objects. -/
import Derived.Test.YtoeppmnoifankaaGreatDoorMAr
namespace Go.Proofs.YtoeppmnoifankaaGreatDoor
open Go.RowKit

/-- The pages turned. -/
def pgH (h : ArH) (v : Value) : ArH := { h with v := v }
/-- A new span. -/
def spanH (h : ArH) (id : Nat) (b : SpB) : ArH := { h with B := fun j => if j = id then b else h.B j, m := h.m + 1 }
/-- A page's owner told. -/
def owH (h : ArH) : ArH := { h with m := h.m + 1 }
end Go.Proofs.YtoeppmnoifankaaGreatDoor
namespace Go.Proofs.YtoeppmnoifankaaGreatDoor
open Go.RowKit

def spanA (a : Ar) (l' : List R) (id q f : Nat) : Ar := { a with l := l', sp := updF a.sp id (some ⟨f, q, fun _ => false, fun _ => false, 0⟩), ow := fun p => if f ≤ p ∧ p < f + pgK q then some id else a.ow p }
def ApPost (h : ArH) (a : Ar) (k : Int) (w : World) (e : Ending) (w' : World) : Prop :=
  (¬ isK k ∧ e = .returned (.tuple #[.int .i64 0, .int .i64 1]) ∧ Chg [] w w') ∨
  ∃ q : Nat, k = q ∧ q < 16 ∧ ∃ x c l', AllocSays a.l (pgK q : Nat) x c l' ∧
    ((c ≠ 0 ∧ e = .returned (.tuple #[.int .i64 0, .int .i64 c]) ∧ ∃ h' : ArH, ArM w' h' { a with l := l' } ∧ StA h a h' { a with l := l' } w w' ∧ h'.m = h.m ∧ h'.N = h.N ∧ h'.ga = h.ga) ∨
     (c = 0 ∧ ∃ (f id : Nat) (h' : ArH), x = f ∧ a.sp id = none ∧ (∀ j, j < id → a.sp j ≠ none) ∧ e = .returned (.tuple #[.int .i64 (id : Nat), .int .i64 0]) ∧ ArM w' h' (spanA a l' id q f) ∧ StA h a h' (spanA a l' id q f) w w' ∧ h'.m ≤ h.m + 6 ∧ h'.N = h.N ∧ h'.ga = h.ga))
def IdRel (w0 : World) (a : Ar) (N : Nat) (gk : Nat) (idx : Value) (w : World) : Prop := ∃ i, gk + i = N + 1 ∧ i ≤ N ∧ idx = .int .i64 (i : Nat) ∧ (∀ j, j < i → a.sp j ≠ none) ∧ w = w0
def owT (a : Ar) (f t id p : Nat) : Option Nat := if f ≤ p ∧ p < f + t then some id else a.ow p
def owHn (h : ArH) (t : Nat) : ArH := { h with m := h.m + t }
def OwRel (w0 : World) (h0 h4 : ArH) (a0 a4 : Ar) (f id P : Nat) (gk : Nat) (idx : Value) (w : World) : Prop :=
  ∃ t, gk + t = P + 1 ∧ t ≤ P ∧ idx = .int .i64 (t : Nat) ∧ ArM w (owHn h4 t) { a4 with ow := owT a4 f t id } ∧ StA h0 a0 (owHn h4 t) { a4 with ow := owT a4 f t id } w0 w
end Go.Proofs.YtoeppmnoifankaaGreatDoor
namespace Go.Proofs.YtoeppmnoifankaaGreatDoor
open Go.RowKit

/-- A span whose blocks have changed places. -/
def turnH (h : ArH) (id : Nat) (b : SpB) : ArH := { h with B := fun j => if j = id then b else h.B j }
end Go.Proofs.YtoeppmnoifankaaGreatDoor
namespace Go.Proofs.YtoeppmnoifankaaGreatDoor
open Go.RowKit

def sweptL (s : Sp) : List Nat := (allN s.F (slK s.k)).filter fun i => !(s.M i)
def addrT (s : Sp) (i : Nat) : List Nat := ((sweptL s).take i).map s.addr
def obT (a : Ar) (s : Sp) (i x : Nat) : Option (List Int) := if x ∈ addrT s i then none else a.ob x
def sweptS (s : Sp) : Sp := ⟨s.first, s.k, s.M, fun _ => false, 0⟩
def sweptB (b : SpB) : SpB := ⟨b.g, b.m, b.ma, b.u, b.ua⟩
def sweepA (a : Ar) (id : Nat) (s : Sp) (i : Nat) : Ar := { a with sp := updF a.sp id (some (sweptS s)), ob := obT a s i, live := a.live - i * szK s.k }
def AwPost (h : ArH) (a : Ar) (id : Int) (w : World) (e : Ending) (w' : World) : Prop :=
  (spI a id = none ∧ e = .returned (.tuple #[.slice none 0 0, .int .i64 4]) ∧ Chg [] w w') ∨
  ∃ s v, 0 ≤ id ∧ a.sp id.toNat = some s ∧ e = .returned (.tuple #[v, .int .i64 0]) ∧ OwnI 3 w' v (intsN ((sweptL s).map s.addr)) ∧ (∀ k ∈ fpv v, w.heap.size ≤ k) ∧ (∀ k ∈ fpv v, ¬ ArF (turnH h id.toNat (sweptB (h.B id.toNat))) (sweepA a id.toNat s (sweptL s).length) k) ∧ ArM w' (turnH h id.toNat (sweptB (h.B id.toNat))) (sweepA a id.toNat s (sweptL s).length) ∧ StA h a (turnH h id.toNat (sweptB (h.B id.toNat))) (sweepA a id.toNat s (sweptL s).length) w w'
def AwRel (w0 : World) (h h1 : ArH) (a : Ar) (id : Nat) (s : Sp) (vl : Value) (gk : Nat) (v idx : Value) (w : World) : Prop :=
  ∃ i, gk + i = (sweptL s).length + 1 ∧ i ≤ (sweptL s).length ∧ idx = .int .i64 (i : Nat) ∧ OwnI 3 w v (intsN (addrT s i)) ∧ OwnI 3 w vl (intsN (sweptL s)) ∧ (∀ k ∈ fpv v, w0.heap.size ≤ k ∧ k ∉ fpv vl) ∧ (∀ k ∈ fpv v, ∀ k' , ArF h1 (sweepA a id s i) k' → k ≠ k') ∧ (∀ k ∈ fpv vl, ∀ k', ArF h1 (sweepA a id s i) k' → k ≠ k') ∧ ArM w h1 (sweepA a id s i) ∧ StA h a h1 (sweepA a id s i) w0 w
end Go.Proofs.YtoeppmnoifankaaGreatDoor
namespace Go.Proofs.YtoeppmnoifankaaGreatDoor
open Go.RowKit

def spW (o : Option Sp) : Nat := match o with | none => 0 | some s => cntF s.F (slK s.k) * szK s.k
def livN (f : Nat → Option Sp) : Nat → Nat
  | 0 => 0
  | n + 1 => livN f n + spW (f n)
theorem livN_more {f : Nat → Option Sp} {N : Nat} (h : ∀ j, N ≤ j → f j = none) : ∀ {M : Nat}, N ≤ M → livN f M = livN f N
  | 0, hm => by have : N = 0 := by omega
                rw [this]
  | M + 1, hm => by
    by_cases e : N = M + 1
    · rw [e]
    · rw [livN, livN_more h (M := M) (by omega), h M (by omega)]; rfl
structure ArI (N : Nat) (a : Ar) : Prop where
  ok : ArOk N a
  mf : ∀ id s i, a.sp id = some s → s.M i = true → s.F i = true
  fz : ∀ id s i, a.sp id = some s → slK s.k ≤ i → s.F i = false
  lv : a.live = livN a.sp N
theorem newA_I (N n : Nat) (h1 : 1 ≤ n) (h2 : n ≤ 262144) : ArI N (newA n) := by
  refine ⟨newA_ok N n h1 h2, fun _ _ _ h => by simp [newA] at h, fun _ _ _ h => by simp [newA] at h, ?_⟩
  have : livN (newA n).sp N = livN (newA n).sp 0 := livN_more (fun j _ => rfl) (Nat.zero_le _)
  rw [this]; rfl
/-! Alloc -/
/-! Store -/
/-! Mark -/
/-! Sweep -/
/-! Span -/
end Go.Proofs.YtoeppmnoifankaaGreatDoor
namespace Go.Proofs.YtoeppmnoifankaaGreatDoor
open Go.RowKit

/-- The state: where all lies, far from what was there ahead. -/
structure ArS (w0 w : World) (g : Nat) (h : ArH) (a : Ar) (N b : Nat) : Prop where
  M : ArM w h a
  I : ArI N a
  far : ∀ k, ArF h a k → w0.heap.size ≤ k
  c : Chg [] w0 w
  ga : h.ga = g
  m : h.m ≤ b
section
variable {w0 w w' : World} {g N b : Nat} {h h' : ArH} {a a' : Ar}
theorem ArS.chg0 (S : ArS w0 w g h a N b) (c : Chg [] w w') : ArS w0 w' g h a N b := ⟨S.M.chg0 c, S.I, S.far, S.c.trans c, S.ga, S.m⟩
end
def SpPost (w0 w : World) (g : Nat) (h : ArH) (a : Ar) (N b : Nat) (q : Nat) (e : Ending) (w' : World) : Prop :=
  ∃ x c l', AllocSays a.l (pgK q : Nat) x c l' ∧
    ((c ≠ 0 ∧ e = .returned (.tuple #[.int .i64 0, .int .i64 c]) ∧ ∃ h', ArS w0 w' g h' a N b ∧ StA h a h' a w w') ∨
     (c = 0 ∧ ∃ (f id : Nat) (h' : ArH), x = f ∧ a.sp id = none ∧ (∀ j, j < id → a.sp j ≠ none) ∧ id ≤ N ∧ e = .returned (.tuple #[.int .i64 (id : Nat), .int .i64 0]) ∧ ArS w0 w' g h' (spanA a l' id q f) (N + 1) (b + 6) ∧ StA h a h' (spanA a l' id q f) w w'))
def AlPost' (w0 w : World) (g : Nat) (h : ArH) (a : Ar) (N b : Nat) (id n : Int) (black : Bool) (e : Ending) (w' : World) : Prop :=
  (∃ c : Int, e = .returned (.tuple #[.int .i64 0, .int .i64 c]) ∧ ArS w0 w' g h a N b ∧ Chg [] w w' ∧ ((spI a id = none ∧ c = 4) ∨ ∃ s, spI a id = some s ∧ (((n < 1 ∨ (szK s.k : Int) < n) ∧ c = 1) ∨ (1 ≤ n ∧ n ≤ szK s.k ∧ (∀ x, s.fr ≤ x → x < slK s.k → s.F x = true) ∧ c = 3)))) ∨
  ∃ s y h', 0 ≤ id ∧ a.sp id.toNat = some s ∧ 1 ≤ n ∧ n ≤ szK s.k ∧ s.fr ≤ y ∧ y < slK s.k ∧ s.F y = false ∧ (∀ x, s.fr ≤ x → x < y → s.F x = true) ∧ e = .returned (.tuple #[.int .i64 (s.addr y : Nat), .int .i64 0]) ∧ ArS w0 w' g h' (allocA a id.toNat s y n.toNat black) N (b + 1) ∧ StA h a h' (allocA a id.toNat s y n.toNat black) w w'
section
variable {w0 w : World} {g N b : Nat} {h : ArH} {a : Ar} (S : ArS w0 w g h a N b)
include S
theorem s_live : Calls Tryz.prog 56 #[.pointer (some ⟨g, 0, none⟩)] w (QuPost (.int .i64 (a.live : Nat)) w) := by
  have h1 := alive_ok w h a S.M
  rwa [S.ga] at h1
end
end Go.Proofs.YtoeppmnoifankaaGreatDoor
namespace Go.Proofs.YtoeppmnoifankaaGreatDoor
open Go.RowKit

section
variable {w0 w : World} {g N b : Nat} {h : ArH} {a : Ar} (S : ArS w0 w g h a N b)
include S
end
end Go.Proofs.YtoeppmnoifankaaGreatDoor
