/- ArenaComes: plain parts, and the walk. -/
/- Spans made one by one; a span with its first place used or marked, or not: what the laws of layer 7 carry. Plain. -/
/- Lists of the call's own beside an arena; what stands in objects, told by two lists. Plain. -/
/- Objects in the first places of spans: used, marked or not (for ArenaMarks, ArenaSums). Plain. -/
import Derived.Test.YtcnchgbngcnijaaGreatDoorMAq
import Derived.Test.YtcnchgbngcnijaaGreatDoorMZ
import Derived.Test.YtcnchgbngcnijaaGreatDoorMCl
namespace Go.Proofs.YtcnchgbngcnijaaGreatDoor
open Go.RowKit

theorem mod_n (x : Int) (m : Nat) (hm : 1 ≤ m) (hm2 : m ≤ 1000000) : ∃ n : Nat, n < m ∧ wrap64 ((IntKind.u64.wrap x).tmod m) = n := by
  have h0 : 0 ≤ IntKind.u64.wrap x := by rw [IntKind.wrap_u64]; omega
  rw [Int.tmod_eq_emod_of_nonneg h0]
  have h1 := Int.emod_nonneg (IntKind.u64.wrap x) (b := (m : Int)) (by omega)
  have h2 := Int.emod_lt_of_pos (IntKind.u64.wrap x) (b := (m : Int)) (by omega)
  obtain ⟨n, hn⟩ : ∃ n : Nat, (n : Int) = (IntKind.u64.wrap x) % (m : Int) := ⟨((IntKind.u64.wrap x) % (m : Int)).toNat, by omega⟩
  exact ⟨n, by omega, by unfold wrap64; omega⟩
theorem spn_addr (f q : Nat) : (spn f q).addr 0 = f * 64 := by unfold Sp.addr spn; simp
section
variable {a : Ar}
end
theorem cnt_pos {F : Nat → Bool} {i : Nat} : ∀ {n : Nat}, i < n → F i = true → 0 < cntF F n
  | 0, h, _ => by omega
  | n + 1, h, hF => by
    rw [cntF]
    by_cases e : i = n
    · subst e; rw [if_pos hF]; omega
    · have := cnt_pos (n := n) (by omega) hF
      omega
def oneF : Nat → Bool := fun i => decide (i = 0)
def s2 (q : Nat) : Sp := allocS (spn 1 q) 0 true
def s3 (q : Nat) : Sp := sweptS (s2 q)
def s4 (q : Nat) : Sp := sweptS (s3 q)
def s5 (q : Nat) : Sp := allocS (s4 q) 0 false
end Go.Proofs.YtcnchgbngcnijaaGreatDoor
namespace Go.Proofs.YtcnchgbngcnijaaGreatDoor
open Go.RowKit

theorem ArI.fresh {N : Nat} {a : Ar} (I : ArI N a) {id y : Nat} {s : Sp} (hs : a.sp id = some s) (hy : y < slK s.k) (hF : s.F y = false) : a.ob (s.addr y) = none := by
  cases e : a.ob (s.addr y) with
  | none => rfl
  | some xs =>
    obtain ⟨id', t, i, ht, hi, hFt, hx⟩ := (I.ok.ob (s.addr y)).1 (by rw [e]; rfl)
    have e1 := I.ok.other hs ht hy hi hx
    subst e1
    rw [hs] at ht; injection ht with ht; subst ht
    have e2 := Sp.addr_inj (I.ok.pg id s hs).1 hx
    subst e2
    rw [hF] at hFt; cases hFt
/-- Spans 0 to i - 1 are there; what is left is one run, of 512 pages in all. -/
structure SerA (a : Ar) (i f p : Nat) : Prop where
  l : a.l = [⟨f, p⟩]
  s : f + p = 512
  f : f ≤ 1 + 4 * i
  sp : ∀ j, j < i → a.sp j ≠ none
section
variable {a : Ar} {i f p : Nat} (h : SerA a i f p)
include h
end
/-- A span of which the first place alone may be used, or marked. -/
structure Spt (s : Sp) (F M : Bool) : Prop where
  F : ∀ x, s.F x = (decide (x = 0) && F)
  M : ∀ x, s.M x = (decide (x = 0) && M)
  fr : s.fr = 0
section
variable {s : Sp} {F M : Bool} (h : Spt s F M)
include h
end
end Go.Proofs.YtcnchgbngcnijaaGreatDoor
namespace Go.Proofs.YtcnchgbngcnijaaGreatDoor
open Go.RowKit

structure LsS (W w : World) (h : ArH) (a : Ar) (v : Value) (l : List Int) : Prop where
  o : OwnI 3 w v l
  nf : ∀ k ∈ fpv v, ¬ ArF h a k
  new : ∀ k ∈ fpv v, W.heap.size ≤ k
section
variable {W w w' : World} {g N b : Nat} {h h' : ArH} {a a' : Ar} {v v' u u' : Value} {l l' : List Int}
end
structure Cont (a : Ar) (As Ss : List Nat) (V : Nat → Nat → Int) : Prop where
  len : As.length = Ss.length
  nd : As.Nodup
  mem : ∀ x, (a.ob x).isSome = true ↔ x ∈ As
  at_ : ∀ t x n, As[t]? = some x → Ss[t]? = some n → ∃ ys : List Int, a.ob x = some ys ∧ ys.length = n ∧ ∀ j, j < n → ys.getD j 0 = V t j
section
variable {a a' : Ar} {As Ss : List Nat} {V V' : Nat → Nat → Int} (C : Cont a As Ss V)
include C
end
end Go.Proofs.YtcnchgbngcnijaaGreatDoor
namespace Go.Proofs.YtcnchgbngcnijaaGreatDoor
open Go.RowKit

structure MkA (a : Ar) (m : Nat) (c F M : Nat → Bool) (st : List Int) : Prop where
  sp : ∀ j, j < m → ∃ s, a.sp j = some s ∧ Spt s (F j) (M j)
  me : ∀ x, x ∈ st ↔ ∃ j s, j < m ∧ c j = true ∧ a.sp j = some s ∧ x = ((s.addr 0 : Nat) : Int)
  r : Rise st
  l : st.length ≤ m
  w : ∀ x ∈ st, 0 ≤ x ∧ x < 16777216
section
variable {a a' : Ar} {m id : Nat} {c F M F' M' : Nat → Bool} {st : List Int} {s s' : Sp} (K : MkA a m c F M st)
include K
end
end Go.Proofs.YtcnchgbngcnijaaGreatDoor
