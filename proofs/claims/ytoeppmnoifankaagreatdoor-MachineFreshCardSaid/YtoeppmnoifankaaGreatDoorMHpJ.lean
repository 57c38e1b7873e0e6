/- ArenaDrops: plain parts. -/
/- Classes: Of, where a size may be. -/
/- Package cache: how a heap lies in memory; its parts turned one by one. -/
/- Package cache: owned, unswept, Arena, Unswept, fresh. -/
/- Package cache: Flush. -/
/- Package cache: Sweep. -/
/- Package cache: a heap's invariant: each span stands in just one place. Plain. -/
/- Package cache: the invariant through Flush, Begin, Sweep. Plain. -/
import Derived.Test.YtoeppmnoifankaaGreatDoorMSerJ
import Derived.Test.YtoeppmnoifankaaGreatDoorMCl
namespace Go.Proofs.YtoeppmnoifankaaGreatDoor
open Go.RowKit

/-- Spans 0 to i - 1 are there, of classes told, nothing in them; what is left is one run, of 256 pages in all. -/
structure SerD (a : Ar) (i f p : Nat) (cl : Nat → Nat) : Prop where
  l : a.l = [⟨f, p⟩]
  s : f + p = 256
  f : f ≤ 1 + 4 * i
  n : a.n = 256
  sp : ∀ j, j < i → ∃ s, a.sp j = some s ∧ s.k = cl j ∧ Spt s false false
end Go.Proofs.YtoeppmnoifankaaGreatDoor
namespace Go.Proofs.YtoeppmnoifankaaGreatDoor
open Go.RowKit

def CoRel (w0 : World) (n : Int) (gk : Nat) (idx : Value) (w : World) : Prop := ∃ k, gk + k = 17 ∧ k ≤ 15 ∧ idx = .int .i64 (k : Nat) ∧ (∀ j, j < k → (szK j : Int) < n) ∧ Chg [] w0 w
set_option maxHeartbeats 1600000 in
set_option maxRecDepth 100000 in
theorem cof_ok (w : World) (n : Nat) (h0 : 1 ≤ n) (h1 : n ≤ 256) : Calls Tryz.prog 31 #[.int .i64 (n : Nat)] w (OfPost n w) := by
  have h2 : (1 : Int) ≤ (n : Int) := by omega
  go_enter Tryz.func31, Tryz.ntmps31
  go_wp2_with fail
  refine (table_ok w).mono ?_
  rintro e w1 ⟨rfl, c1⟩
  have HC := Lib.hid c1; clear c1
  go_wp2_with fail
  go_loopg [6] 17 (fun gk idx wr => CoRel w n gk idx wr)
  case atStart => exact ⟨0, by omega, by omega, rfl, fun j hj => by omega, HC.out⟩
  case round =>
    obtain ⟨k, hgk, hk, rfl, hp, c⟩ := hrel
    have hix := idx_sz wr k (by omega)
    have hi' : (k : Int) < 16 := by omega
    obtain ⟨s, hs⟩ : ∃ s, s = szK k := ⟨_, rfl⟩
    rw [← hs] at hix
    by_cases h4 : (n : Int) ≤ (s : Int)
    · have HP := Lib.hid (And.intro hp (And.intro c hs)); clear hp c hs
      go_wp2_with fail
      go_ret
      exact ⟨k, ⟨by omega, by rw [← HP.out.2.2]; omega, fun j hj => by have := HP.out.1 j hj; omega⟩, rfl, HP.out.2.1⟩
    · have hk15 : k < 15 := by
        rcases Nat.lt_or_ge k 15 with h5 | h5
        · exact h5
        · have e : k = 15 := by omega
          rw [e] at hs
          have e2 : szK 15 = 256 := rfl
          omega
      have hp' : ∀ j, j < k + 1 → (szK j : Int) < n := fun j hj => by
        rcases Nat.lt_or_ge j k with g | g
        · exact hp j g
        · have e2 : j = k := by omega
          rw [e2, ← hs]; omega
      have HP := Lib.hid (And.intro hp' c); clear hp hp' c hs
      go_wp2_with fail
      go_roundg (16 - k)
      case measure => omega
      case rel => exact ⟨k + 1, by omega, by omega, by go_num, HP.out.1, HP.out.2⟩
end Go.Proofs.YtoeppmnoifankaaGreatDoor
namespace Go.Proofs.YtoeppmnoifankaaGreatDoor
open Go.RowKit Go.Maps

/-- Where a heap lies. -/
structure HpH where
  gh : Nat
  ah : ArH
  gc : Nat
  gl : Nat
  v : Nat → Value
  vo : Value
  gp : Nat → Nat
/-- What a heap is: an arena, the rows in common, each P's own spans (-1: none). -/
structure HpA where
  a : Ar
  r : Nat → List Nat
  P : Nat
  own : Nat → Nat → Int
def own16 (f : Nat → Int) : Array Value := ((List.range 16).map fun k => Value.int .i64 (f k)).toArray
theorem own16_size (f : Nat → Int) : (own16 f).size = 16 := by unfold own16; simp
theorem own16_at (f : Nat → Int) {k : Nat} (h : k < 16) : (own16 f)[k]? = some (.int .i64 (f k)) := by unfold own16; simp [h]
theorem own16_set (f : Nat → Int) {k : Nat} (h : k < 16) (x : Int) : (own16 f).setIfInBounds k (.int .i64 x) = own16 (updV f k x) := by
  apply Array.ext_getElem?
  intro i
  rw [Array.getElem?_setIfInBounds]
  by_cases e : k = i
  · subst e
    rw [if_pos rfl, if_pos (by rw [own16_size]; exact h), own16_at _ h, updV_same]
  · rw [if_neg e]
    by_cases hi : i < 16
    · rw [own16_at _ hi, own16_at _ hi, updV_other _ _ (Ne.symm e)]
    · rw [Array.getElem?_eq_none (by rw [own16_size]; omega), Array.getElem?_eq_none (by rw [own16_size]; omega)]
def ownVs (gp : Nat → Nat) (P : Nat) : List Value := (List.range P).map fun p => .slice (some ⟨gp p, 0, none⟩) 16 16
/-- The blocks that are neither the arena's nor the rows'. -/
def OwF (H : HpH) (P : Nat) (k : Nat) : Prop := k = H.gh ∨ k ∈ fpv H.vo ∨ ∃ p, p < P ∧ k = H.gp p
structure HpS (W w : World) (H : HpH) (A : HpA) (N b : Nat) : Prop where
  hb : Blk w H.gh 162 #[.pointer (some ⟨H.ah.ga, 0, none⟩), .pointer (some ⟨H.gc, 0, none⟩), H.vo]
  S : ArS W w H.ah.ga H.ah A.a N b
  C : IsCe w H.gc H.gl H.v A.r
  o : w.ownsRow 0 37 1 H.vo A.P (ownVs H.gp A.P)
  g : ∀ p, p < A.P → Blk w (H.gp p) 3 (own16 (A.own p))
  inj : ∀ p q, p < A.P → q < A.P → p ≠ q → H.gp p ≠ H.gp q
  d1 : ∀ k, CeF H.gc H.gl H.v k → ¬ ArF H.ah A.a k
  d2 : ∀ k, OwF H A.P k → ¬ ArF H.ah A.a k ∧ ¬ CeF H.gc H.gl H.v k
  n1 : ∀ k, CeF H.gc H.gl H.v k → W.heap.size ≤ k
  n2 : ∀ k, OwF H A.P k → W.heap.size ≤ k
section
variable {W w w' : World} {H : HpH} {A : HpA} {N N' b b' : Nat}
theorem HpS.ltO (Q : HpS W w H A N b) {k : Nat} (hk : OwF H A.P k) : k < w.heap.size := by
  rcases hk with rfl | hk | ⟨p, hp, rfl⟩
  · exact Q.hb.lt
  · exact own_lt Q.o (mem_fpv.1 hk)
  · exact (Q.g p hp).lt
theorem HpS.chg0 (Q : HpS W w H A N b) (c : Chg [] w w') : HpS W w' H A N b :=
  ⟨c.blk Q.hb (by simp), Q.S.chg0 c, Q.C.chg0 c, own_chg Q.o c (fun _ _ => by simp), fun p hp => c.blk (Q.g p hp) (by simp), Q.inj, Q.d1, Q.d2, Q.n1, Q.n2⟩
end
/-- All blocks of a heap. -/
def HpF (H : HpH) (A : HpA) (k : Nat) : Prop := ArF H.ah A.a k ∨ CeF H.gc H.gl H.v k ∨ OwF H A.P k
section
variable {W w w' w'' : World} {H H' : HpH} {A A' : HpA}
end
/-- A list of the call's own beside a heap. -/
structure LsP (W : World) (F : Nat → Prop) (w : World) (v : Value) (l : List Int) : Prop where
  o : OwnI 3 w v l
  nf : ∀ k ∈ fpv v, ¬ F k
  new : ∀ k ∈ fpv v, W.heap.size ≤ k
section
variable {W w w' : World} {F F' : Nat → Prop} {v v' u u' : Value} {l l' : List Int}
end
theorem HpS.lt {W w : World} {H : HpH} {A : HpA} {N b : Nat} (Q : HpS W w H A N b) {k : Nat} (hk : HpF H A k) : k < w.heap.size := by
  rcases hk with h | h | h
  · exact Q.S.M.lt k h
  · exact Q.C.lt h
  · exact Q.ltO h
end Go.Proofs.YtoeppmnoifankaaGreatDoor
namespace Go.Proofs.YtoeppmnoifankaaGreatDoor
open Go.RowKit Go.Maps

/-- What ids and rows are bounded by. -/
structure HpB (A : HpA) : Prop where
  l : ∀ j, (A.r j).length ≤ 10000
  x : ∀ j, ∀ x ∈ A.r j, x ≤ 1000000
  o : ∀ p k, p < A.P → k < 16 → A.own p k = -1 ∨ ∃ id : Nat, A.own p k = id ∧ id ≤ 1000000
  P : A.P ≤ 64
section
variable {W w : World} {H : HpH} {A : HpA} {N b : Nat} (Q : HpS W w H A N b)
include Q
theorem HpS.vo_sl : ∃ B c, H.vo = .slice B A.P c := by
  rcases Q.o.2 with ⟨e, h0⟩ | ⟨g, cap, cur, e, _⟩
  · exact ⟨none, 0, by rw [h0]; exact e⟩
  · exact ⟨_, cap, e⟩
def OdPost (A : HpA) (id : Int) (w : World) (e : Ending) (w' : World) : Prop := ∃ bo, e = .returned (.bool bo) ∧ w' = w ∧ (bo = true ↔ ∃ p k, p < A.P ∧ k < 16 ∧ A.own p k = id)
def OdRel (A : HpA) (id : Int) (gk : Nat) (idx : Value) (w0 w : World) : Prop := ∃ p, gk + p = A.P + 1 ∧ p ≤ A.P ∧ idx = .int .i64 (p : Nat) ∧ (∀ q k, q < p → k < 16 → A.own q k ≠ id) ∧ w = w0
def OeRel (A : HpA) (p : Nat) (id : Int) (gk : Nat) (idx : Value) (w0 w : World) : Prop := ∃ k, gk + k = 17 ∧ k ≤ 16 ∧ idx = .int .i64 (k : Nat) ∧ (∀ j, j < k → A.own p j ≠ id) ∧ w = w0
def UwRel (xs : List Int) (id : Int) (gk : Nat) (idx : Value) (w0 w : World) : Prop := ∃ i, gk + i = xs.length + 1 ∧ i ≤ xs.length ∧ idx = .int .i64 (i : Nat) ∧ id ∉ xs.take i ∧ w = w0
end
end Go.Proofs.YtoeppmnoifankaaGreatDoor
namespace Go.Proofs.YtoeppmnoifankaaGreatDoor
open Go.RowKit Go.Maps

/-- A span put behind its row. -/
def PutTo (a : Ar) (r : Nat → List Nat) (k id : Nat) (r' : Nat → List Nat) : Prop :=
  ∃ r1 full, DelTo r id r1 ∧ (full = true ↔ ∀ s, spI a (id : Nat) = some s → fullS s) ∧ r' = updV r1 (k * 4 + sd full) (r1 (k * 4 + sd full) ++ [id])
def FlR (a : Ar) (f : Nat → Int) : Nat → (Nat → List Nat) → (Nat → List Nat) → Prop
  | 0, r, r' => r' = r
  | n + 1, r, r' => ∃ r1, FlR a f n r r1 ∧ ((f n = -1 ∧ r' = r1) ∨ ∃ id : Nat, f n = id ∧ PutTo a r1 n id r')
/-- What a P has, the first n classes given back. -/
def flO (f : Nat → Int) (n : Nat) : Nat → Int := fun k => if k < n then -1 else f k
def FlPost (W w : World) (H : HpH) (A : HpA) (N b p : Nat) (e : Ending) (w' : World) : Prop :=
  e = .returned (.tuple #[]) ∧ ∃ v' r', FlR A.a (A.own p) 16 A.r r' ∧ HpS W w' { H with v := v' } { A with r := r', own := updV A.own p (flO (A.own p) 16) } N b ∧ StP (HpF H A) (HpF { H with v := v' } { A with r := r', own := updV A.own p (flO (A.own p) 16) }) w w'
def FlRel (W w0 : World) (H : HpH) (A : HpA) (N b p gk : Nat) (idx : Value) (w : World) : Prop :=
  ∃ k v' r', gk + k = 17 ∧ k ≤ 16 ∧ idx = .int .i64 (k : Nat) ∧ FlR A.a (A.own p) k A.r r' ∧ HpS W w { H with v := v' } { A with r := r', own := updV A.own p (flO (A.own p) k) } N b ∧ StP (HpF H A) (HpF { H with v := v' } { A with r := r', own := updV A.own p (flO (A.own p) k) }) w0 w
end Go.Proofs.YtoeppmnoifankaaGreatDoor
namespace Go.Proofs.YtoeppmnoifankaaGreatDoor
open Go.RowKit Go.Maps

/-- One unswept span swept: the first of the first row that is not empty. -/
def HwPost (W w : World) (H : HpH) (A : HpA) (N b : Nat) (e : Ending) (w' : World) : Prop :=
  ((∀ k, k < 16 → A.r (k * 4 + 2) = [] ∧ A.r (k * 4 + 3) = []) ∧ e = .returned (.tuple #[.slice none 0 0, .bool false]) ∧ Chg [] w w') ∨
  ∃ k f x xs s u h' v' r', k < 16 ∧ f < 2 ∧ A.r (k * 4 + 2 + f) = x :: xs ∧ A.a.sp x = some s ∧ PutTo (sweepA A.a x s (sweptL s).length) (updV A.r (k * 4 + 2 + f) xs) k x r' ∧ e = .returned (.tuple #[u, .bool true]) ∧
    HpS W w' { H with ah := h', v := v' } { A with a := sweepA A.a x s (sweptL s).length, r := r' } N b ∧
    StP (HpF H A) (HpF { H with ah := h', v := v' } { A with a := sweepA A.a x s (sweptL s).length, r := r' }) w w' ∧
    LsP W (HpF { H with ah := h', v := v' } { A with a := sweepA A.a x s (sweptL s).length, r := r' }) w' u (intsN ((sweptL s).map s.addr)) ∧ h'.ga = H.ah.ga ∧ ∀ k ∈ fpv u, w.heap.size ≤ k
/-- The same, and it is the first. -/
def HwPost2 (W w : World) (H : HpH) (A : HpA) (N b : Nat) (e : Ending) (w' : World) : Prop :=
  ((∀ k, k < 16 → A.r (k * 4 + 2) = [] ∧ A.r (k * 4 + 3) = []) ∧ e = .returned (.tuple #[.slice none 0 0, .bool false]) ∧ Chg [] w w') ∨
  ∃ k f x xs s u h' v' r', k < 16 ∧ f < 2 ∧ (∀ i, i < k → A.r (i * 4 + 2) = [] ∧ A.r (i * 4 + 3) = []) ∧ (∀ i, i < f → A.r (k * 4 + 2 + i) = []) ∧ A.r (k * 4 + 2 + f) = x :: xs ∧ A.a.sp x = some s ∧ PutTo (sweepA A.a x s (sweptL s).length) (updV A.r (k * 4 + 2 + f) xs) k x r' ∧ e = .returned (.tuple #[u, .bool true]) ∧
    HpS W w' { H with ah := h', v := v' } { A with a := sweepA A.a x s (sweptL s).length, r := r' } N b ∧
    StP (HpF H A) (HpF { H with ah := h', v := v' } { A with a := sweepA A.a x s (sweptL s).length, r := r' }) w w' ∧
    LsP W (HpF { H with ah := h', v := v' } { A with a := sweepA A.a x s (sweptL s).length, r := r' }) w' u (intsN ((sweptL s).map s.addr)) ∧ h'.ga = H.ah.ga ∧ ∀ k ∈ fpv u, w.heap.size ≤ k
end Go.Proofs.YtoeppmnoifankaaGreatDoor
namespace Go.Proofs.YtoeppmnoifankaaGreatDoor
open Go.RowKit Go.Maps

/-- z: the span in hand, in no place. -/
structure HpI (A : HpA) (z : Option Nat) : Prop where
  r : ∀ j x, x ∈ A.r j → j < 64 ∧ ∃ s, A.a.sp x = some s ∧ s.k = j / 4 ∧ (j % 2 = 1 ↔ fullS s)
  nd : ∀ j, (A.r j).Nodup
  dj : ∀ i j x, x ∈ A.r i → x ∈ A.r j → i = j
  o : ∀ p k, p < A.P → k < 16 → A.own p k = -1 ∨ ∃ (id : Nat) (s : Sp), A.own p k = id ∧ A.a.sp id = some s ∧ s.k = k
  oi : ∀ p q k l, p < A.P → q < A.P → k < 16 → l < 16 → A.own p k = A.own q l → A.own p k = -1 ∨ (p = q ∧ k = l)
  ro : ∀ p k (id : Nat), p < A.P → k < 16 → A.own p k = id → ∀ j, id ∉ A.r j
  P : A.P ≤ 64
  zz : ∀ id, z = some id → (∃ s, A.a.sp id = some s) ∧ (∀ j, id ∉ A.r j) ∧ ∀ p k, p < A.P → k < 16 → A.own p k ≠ (id : Nat)
  all : ∀ id s, A.a.sp id = some s → z = some id ∨ (∃ j, id ∈ A.r j) ∨ ∃ p k, p < A.P ∧ k < 16 ∧ A.own p k = (id : Nat)
section
variable {A : HpA} {z : Option Nat}
end
end Go.Proofs.YtoeppmnoifankaaGreatDoor
namespace Go.Proofs.YtoeppmnoifankaaGreatDoor
open Go.RowKit Go.Maps

section
variable {A : HpA}
/-- All Ps flushed, one by one. -/
def FaR (a : Ar) (own : Nat → Nat → Int) : Nat → (Nat → List Nat) → (Nat → List Nat) → Prop
  | 0, r, r' => r' = r
  | p + 1, r, r' => ∃ r1, FaR a own p r r1 ∧ FlR a (own p) 16 r1 r'
def faO (own : Nat → Nat → Int) (n : Nat) : Nat → Nat → Int := fun q => if q < n then flO (own q) 16 else own q
end
end Go.Proofs.YtoeppmnoifankaaGreatDoor
