/- A heap's steps have one outcome. Plain theorems. -/
/- A heap's steps have one outcome: seek, Alloc. Plain theorems. -/
/- HeapPlays: both forms side by side over one abstract heap. -/
/- HeapPlays: each op, done to both. -/
/- HeapPlays: Mark, done to both. -/
import Derived.Test.YtcnchgbngcnijaaGreatDoorMRi
import Derived.Test.YtcnchgbngcnijaaGreatDoorMRb
import Derived.Test.YtcnchgbngcnijaaGreatDoorMRw
import Derived.Test.YtcnchgbngcnijaaGreatDoorAp4
namespace Go.Proofs.YtcnchgbngcnijaaGreatDoor
open Go.RowKit Go.Maps

theorem DelTo.uniq {r r1 r2 : Nat → List Nat} {id : Nat} (h1 : DelTo r id r1) (h2 : DelTo r id r2) : r1 = r2 := by
  rcases h1 with ⟨rfl, n1⟩ | ⟨j, hj, m1, l1, rfl⟩
  · rcases h2 with ⟨rfl, -⟩ | ⟨j, hj, m2, -, -⟩
    · rfl
    · exact absurd m2 (n1 j hj)
  · rcases h2 with ⟨rfl, n2⟩ | ⟨j2, hj2, m2, l2, rfl⟩
    · exact absurd m1 (n2 j hj)
    · have e : j = j2 := by
        rcases Nat.lt_trichotomy j j2 with h | h | h
        · exact absurd m1 (l2 j h)
        · exact h
        · exact absurd m2 (l1 j2 h)
      rw [e]
theorem PutTo.uniq {a : Ar} {r r1 r2 : Nat → List Nat} {k id : Nat} (h1 : PutTo a r k id r1) (h2 : PutTo a r k id r2) : r1 = r2 := by
  obtain ⟨q1, f1, d1, e1, rfl⟩ := h1
  obtain ⟨q2, f2, d2, e2, rfl⟩ := h2
  have eq := d1.uniq d2
  subst eq
  have ef : f1 = f2 := by
    have := e1.trans e2.symm
    cases f1 <;> cases f2 <;> simp_all
  rw [ef]
theorem FlR.uniq {a : Ar} {f : Nat → Int} : ∀ {n : Nat} {r r1 r2 : Nat → List Nat}, FlR a f n r r1 → FlR a f n r r2 → r1 = r2
  | 0, r, r1, r2, h1, h2 => by
    have h1' : r1 = r := h1
    have h2' : r2 = r := h2
    rw [h1', h2']
  | n + 1, r, r1, r2, ⟨q1, g1, c1⟩, ⟨q2, g2, c2⟩ => by
    have e := FlR.uniq g1 g2
    subst e
    rcases c1 with ⟨m1, rfl⟩ | ⟨id, i1, p1⟩
    · rcases c2 with ⟨m2, rfl⟩ | ⟨id, i2, p2⟩
      · rfl
      · omega
    · rcases c2 with ⟨m2, rfl⟩ | ⟨id2, i2, p2⟩
      · omega
      · obtain rfl : id = id2 := by omega
        exact p1.uniq p2
theorem FaR.uniq {a : Ar} {own : Nat → Nat → Int} : ∀ {n : Nat} {r r1 r2 : Nat → List Nat}, FaR a own n r r1 → FaR a own n r r2 → r1 = r2
  | 0, r, r1, r2, h1, h2 => by
    have h1' : r1 = r := h1
    have h2' : r2 = r := h2
    rw [h1', h2']
  | n + 1, r, r1, r2, ⟨q1, g1, c1⟩, ⟨q2, g2, c2⟩ => by
    have e := FaR.uniq g1 g2
    subst e
    exact c1.uniq c2
theorem DrR.nil_inv {A B : HpA} {n : Nat} (h : DrR [] A B n) : B = A ∧ n = 0 := by
  generalize e : ([] : List Int) = L at h
  cases h with
  | nil => exact ⟨rfl, rfl⟩
  | skip => simp at e
  | drop => simp at e
theorem DrR.snoc_inv {l : List Int} {y : Int} {A C : HpA} {k : Nat} (h : DrR (l ++ [y]) A C k) : ∃ B n x s, DrR l A B n ∧ y = ((x : Nat) : Int) ∧ B.a.sp x = some s ∧
    (((ownedI B x ∨ x ∈ waN B.r 16 ∨ 0 < cntF s.F (slK s.k)) ∧ C = B ∧ k = n) ∨
     (¬ ownedI B x ∧ x ∉ waN B.r 16 ∧ cntF s.F (slK s.k) = 0 ∧ ∃ l' r1, FreeSays B.a.n B.a.l (s.first : Nat) (pgK s.k : Nat) 0 l' ∧ DelTo B.r x r1 ∧ C = { B with a := dropA B.a x s l', r := r1 } ∧ k = n + 1)) := by
  generalize e : l ++ [y] = L at h
  cases h with
  | nil => simp at e
  | skip h1 h2 h3 =>
    obtain ⟨rfl, e2⟩ := List.append_inj' e rfl
    injection e2 with e2
    exact ⟨_, _, _, _, h1, e2, h2, .inl ⟨h3, rfl, rfl⟩⟩
  | drop h1 h2 h3 h4 h5 h6 h7 =>
    obtain ⟨rfl, e2⟩ := List.append_inj' e rfl
    injection e2 with e2
    exact ⟨_, _, _, _, h1, e2, h2, .inr ⟨h3, h4, h5, _, _, h6, h7, rfl, rfl⟩⟩
theorem DrR.uniq {l : List Int} {A B C : HpA} {n k : Nat} (h : DrR l A B n) (h' : DrR l A C k) : B = C ∧ n = k := by
  induction h generalizing C k with
  | nil => obtain ⟨rfl, rfl⟩ := h'.nil_inv; exact ⟨rfl, rfl⟩
  | skip h1 h2 h3 ih =>
    obtain ⟨B2, n2, x2, s2, g1, gx, gs, hc⟩ := h'.snoc_inv
    obtain ⟨rfl, rfl⟩ := ih g1
    have ex := Int.ofNat.inj gx
    subst ex
    rw [h2] at gs; injection gs with gs; subst gs
    rcases hc with ⟨-, rfl, rfl⟩ | ⟨q1, q2, q3, -⟩
    · exact ⟨rfl, rfl⟩
    · exfalso
      rcases h3 with h3 | h3 | h3
      · exact q1 h3
      · exact q2 h3
      · omega
  | drop h1 h2 h3 h4 h5 h6 h7 ih =>
    obtain ⟨B2, n2, x2, s2, g1, gx, gs, hc⟩ := h'.snoc_inv
    obtain ⟨rfl, rfl⟩ := ih g1
    have ex := Int.ofNat.inj gx
    subst ex
    rw [h2] at gs; injection gs with gs; subst gs
    rcases hc with ⟨q, rfl, rfl⟩ | ⟨-, -, -, l2, r2, q6, q7, rfl, rfl⟩
    · exfalso
      rcases q with q | q | q
      · exact h3 q
      · exact h4 q
      · omega
    · obtain ⟨-, rfl⟩ := h6.uniq q6
      obtain rfl := h7.uniq q7
      exact ⟨rfl, rfl⟩
theorem least_uniq {f : Nat → Option Sp} {i j : Nat} (h1 : f i = none) (h2 : ∀ x, x < i → f x ≠ none) (g1 : f j = none) (g2 : ∀ x, x < j → f x ≠ none) : i = j := by
  rcases Nat.lt_trichotomy i j with h | h | h
  · exact absurd h1 (g2 i h)
  · exact h
  · exact absurd g1 (h2 j h)
theorem FrR.uniq {k id id' : Nat} {B D D' : HpA} {ok ok' : Bool} (h : FrR k B id ok D) (h' : FrR k B id' ok' D') : id = id' ∧ ok = ok' ∧ D = D' := by
  rcases h with ⟨f, l', a1, n1, m1, rfl, rfl⟩ | ⟨x, c, l1, ks, E, n, a1, c1, r1, k1, d1, h⟩
  · rcases h' with ⟨f2, l2, a2, n2, m2, rfl, rfl⟩ | ⟨x, c, l1, ks, E, n, a2, c2, -⟩
    · obtain ⟨ef, -, rfl⟩ := a1.uniq a2
      obtain rfl : f = f2 := by omega
      obtain rfl := least_uniq n1 m1 n2 m2
      exact ⟨rfl, rfl, rfl⟩
    · obtain ⟨-, e, -⟩ := a1.uniq a2
      exact absurd e.symm c2
  · rcases h' with ⟨f2, l2, a2, n2, m2, rfl, rfl⟩ | ⟨x2, c2, l2, ks2, E2, n2, a2, c2', r2, k2, d2, h'⟩
    · obtain ⟨-, e, -⟩ := a1.uniq a2
      exact absurd e c1
    · obtain rfl : ks = ks2 := rise_ext r1 r2 fun y => (k1 y).trans (k2 y).symm
      obtain ⟨rfl, rfl⟩ := d1.uniq d2
      rcases h with ⟨f, l', b1, n1, m1, rfl, rfl⟩ | ⟨y, z, l', b1, z1, rfl, rfl, rfl⟩
      · rcases h' with ⟨f2, l2, b2, n2, m2, rfl, rfl⟩ | ⟨y, z, l2, b2, z2, rfl, rfl, rfl⟩
        · obtain ⟨ef, -, rfl⟩ := b1.uniq b2
          obtain rfl : f = f2 := by omega
          obtain rfl := least_uniq n1 m1 n2 m2
          exact ⟨rfl, rfl, rfl⟩
        · obtain ⟨-, e, -⟩ := b1.uniq b2
          exact absurd e.symm z2
      · rcases h' with ⟨f2, l2, b2, n2, m2, rfl, rfl⟩ | ⟨y2, z2, l2, b2, z2', rfl, rfl, rfl⟩
        · obtain ⟨-, e, -⟩ := b1.uniq b2
          exact absurd e z1
        · exact ⟨rfl, rfl, rfl⟩
end Go.Proofs.YtcnchgbngcnijaaGreatDoor
namespace Go.Proofs.YtcnchgbngcnijaaGreatDoor
open Go.RowKit Go.Maps

def SkStep (k : Nat) (C : HpA) (l : List Int) (C' : HpA) : Prop :=
  ∃ xs x s, C.r (k * 4 + 3) = xs ++ [x] ∧ C.a.sp x = some s ∧ fullS (sweptS s) ∧ l = swI s ∧ C' = { C with a := sweepA C.a x s (sweptL s).length, r := updV (updV C.r (k * 4 + 3) xs) (k * 4 + 1) (updV C.r (k * 4 + 3) xs (k * 4 + 1) ++ [x]) }
section
variable {k : Nat} {A B C B1 B2 : HpA} {g g' g1 g2 l l' : List Int}
theorem last_inj {α : Type} {xs ys : List α} {x y : α} (h : xs ++ [x] = ys ++ [y]) : xs = ys ∧ x = y := by
  obtain ⟨h1, h2⟩ := List.append_inj' h rfl
  injection h2 with h2
  exact ⟨h1, h2⟩
theorem SkStep.uniq (h : SkStep k A l B) (h' : SkStep k A l' C) : l = l' ∧ B = C := by
  obtain ⟨xs, x, s, h1, h2, h3, rfl, rfl⟩ := h
  obtain ⟨ys, y, t, g1, g2, g3, rfl, rfl⟩ := h'
  rw [h1] at g1
  obtain ⟨rfl, rfl⟩ := last_inj g1
  rw [h2] at g2; injection g2 with g2; subst g2
  exact ⟨rfl, rfl⟩
theorem SkF.then (h : SkF k A g B) (s : SkStep k B l C) : SkF k A (g ++ l) C := by
  obtain ⟨xs, x, s, h1, h2, h3, rfl, rfl⟩ := s
  exact .snoc h h1 h2 h3
theorem SkF.head (h : SkF k A g B) : (B = A ∧ g = []) ∨ ∃ l A1 g', SkStep k A l A1 ∧ SkF k A1 g' B ∧ g = l ++ g' := by
  induction h with
  | nil => exact .inl ⟨rfl, rfl⟩
  | snoc h1 h2 h3 h4 ih =>
    have st := (⟨_, _, _, h2, h3, h4, rfl, rfl⟩ : SkStep k _ _ _)
    rcases ih with ⟨rfl, rfl⟩ | ⟨l, A1, g', s1, f1, rfl⟩
    · exact .inr ⟨_, _, [], st, .nil _, by simp⟩
    · exact .inr ⟨l, A1, _, s1, f1.then st, by rw [List.append_assoc]⟩
theorem SkF.lin (h : SkF k A g1 B1) (h' : SkF k A g2 B2) : (∃ g3, SkF k B1 g3 B2 ∧ g2 = g1 ++ g3) ∨ ∃ g3, SkF k B2 g3 B1 ∧ g1 = g2 ++ g3 := by
  induction h with
  | nil => exact .inl ⟨g2, h', by simp⟩
  | snoc h1 h2 h3 h4 ih =>
    have st := (⟨_, _, _, h2, h3, h4, rfl, rfl⟩ : SkStep k _ _ _)
    rcases ih with ⟨g3, f3, rfl⟩ | ⟨g3, f3, rfl⟩
    · rcases f3.head with ⟨rfl, rfl⟩ | ⟨l, C1, g', s1, f1, rfl⟩
      · exact .inr ⟨_, (SkF.nil _).then st, by simp⟩
      · obtain ⟨rfl, rfl⟩ := SkStep.uniq st s1
        exact .inl ⟨g', f1, by rw [List.append_assoc]⟩
    · exact .inr ⟨_, f3.then st, by rw [List.append_assoc]⟩
def SkStop (k : Nat) (B : HpA) : Prop := ∀ l C, ¬ SkStep k B l C
theorem SkF.uniq (h : SkF k A g1 B1) (s1 : SkStop k B1) (h' : SkF k A g2 B2) (s2 : SkStop k B2) : g1 = g2 ∧ B1 = B2 := by
  rcases h.lin h' with ⟨g3, f, rfl⟩ | ⟨g3, f, rfl⟩
  · rcases f.head with ⟨rfl, rfl⟩ | ⟨l, C, g', st, -⟩
    · exact ⟨by simp, rfl⟩
    · exact absurd st (s1 _ _)
  · rcases f.head with ⟨rfl, rfl⟩ | ⟨l, C, g', st, -⟩
    · exact ⟨by simp, rfl⟩
    · exact absurd st (s2 _ _)
theorem SkStop.nil (h : B.r (k * 4 + 3) = []) : SkStop k B := fun l C ⟨xs, x, s, h1, _⟩ => by rw [h] at h1; simp at h1
theorem SkStop.room {xs : List Nat} {x : Nat} {s : Sp} (h : B.r (k * 4 + 3) = xs ++ [x]) (hs : B.a.sp x = some s) (hf : ¬ fullS (sweptS s)) : SkStop k B := fun l C ⟨ys, y, t, h1, h2, h3, _⟩ => by
  rw [h] at h1
  obtain ⟨rfl, rfl⟩ := last_inj h1
  rw [hs] at h2; injection h2 with h2; subst h2
  exact hf h3
/-- What the third way of seek leads to. -/
def Sk3 (k : Nat) (B : HpA) (g0 : List Int) (id : Nat) (g : List Int) (ok : Bool) (A' : HpA) : Prop :=
  (∃ xs s, B.r (k * 4 + 3) = xs ++ [id] ∧ B.a.sp id = some s ∧ ¬ fullS (sweptS s) ∧ g = g0 ++ swI s ∧ ok = true ∧ A' = { B with a := sweepA B.a id s (sweptL s).length, r := updV B.r (k * 4 + 3) xs }) ∨
  (B.r (k * 4 + 3) = [] ∧ g = g0 ∧ FrR k B id ok A')
theorem SeekR.form {id : Nat} {ok : Bool} {A' : HpA} (h : SeekR k A id g ok A') :
    (∃ xs, A.r (k * 4) = xs ++ [id] ∧ g = [] ∧ ok = true ∧ A' = { A with r := updV A.r (k * 4) xs }) ∨
    (∃ xs s, A.r (k * 4) = [] ∧ A.r (k * 4 + 2) = xs ++ [id] ∧ A.a.sp id = some s ∧ g = swI s ∧ ok = true ∧ A' = { A with a := sweepA A.a id s (sweptL s).length, r := updV A.r (k * 4 + 2) xs }) ∨
    (A.r (k * 4) = [] ∧ A.r (k * 4 + 2) = [] ∧ ∃ B g0, SkF k A g0 B ∧ SkStop k B ∧ Sk3 k B g0 id g ok A') := by
  cases h with
  | swept h1 => exact .inl ⟨_, h1, rfl, rfl, rfl⟩
  | unswept h1 h2 h3 => exact .inr (.inl ⟨_, _, h1, h2, h3, rfl, rfl, rfl⟩)
  | full h1 h2 h3 h4 h5 h6 => exact .inr (.inr ⟨h1, h2, _, _, h3, .room h4 h5 h6, .inl ⟨_, _, h4, h5, h6, rfl, rfl, rfl⟩⟩)
  | fresh h1 h2 h3 h4 h5 h6 h7 => exact .inr (.inr ⟨h1, h2, _, _, h3, .nil h4, .inr ⟨h4, rfl, .inl ⟨_, _, h5, h6, h7, rfl, rfl⟩⟩⟩)
  | again h1 h2 h3 h4 h5 h6 h7 h8 h9 h10 h11 h12 => exact .inr (.inr ⟨h1, h2, _, _, h3, .nil h4, .inr ⟨h4, rfl, .inr ⟨_, _, _, _, _, _, h5, h6, h7, h8, h9, .inl ⟨_, _, h10, h11, h12, rfl, rfl⟩⟩⟩⟩)
  | no h1 h2 h3 h4 h5 h6 h7 h8 h9 h10 h11 => exact .inr (.inr ⟨h1, h2, _, _, h3, .nil h4, .inr ⟨h4, rfl, .inr ⟨_, _, _, _, _, _, h5, h6, h7, h8, h9, .inr ⟨_, _, _, h10, h11, rfl, rfl, rfl⟩⟩⟩⟩)
theorem Sk3.uniq {g0 : List Int} {id id' : Nat} {ok ok' : Bool} {A1 A2 : HpA} (h : Sk3 k B g0 id g ok A1) (h' : Sk3 k B g0 id' g' ok' A2) : id = id' ∧ g = g' ∧ ok = ok' ∧ A1 = A2 := by
  rcases h with ⟨xs, s, h1, h2, h3, rfl, rfl, rfl⟩ | ⟨h1, rfl, hf⟩
  · rcases h' with ⟨ys, t, q1, q2, q3, rfl, rfl, rfl⟩ | ⟨q1, rfl, qf⟩
    · rw [h1] at q1
      obtain ⟨rfl, rfl⟩ := last_inj q1
      rw [h2] at q2; injection q2 with q2; subst q2
      exact ⟨rfl, rfl, rfl, rfl⟩
    · rw [h1] at q1; simp at q1
  · rcases h' with ⟨ys, t, q1, q2, q3, rfl, rfl, rfl⟩ | ⟨q1, rfl, qf⟩
    · rw [h1] at q1; simp at q1
    · obtain ⟨rfl, rfl, rfl⟩ := hf.uniq qf
      exact ⟨rfl, rfl, rfl, rfl⟩
theorem SeekR.uniq {id id' : Nat} {ok ok' : Bool} {A1 A2 : HpA} (h : SeekR k A id g ok A1) (h' : SeekR k A id' g' ok' A2) : id = id' ∧ g = g' ∧ ok = ok' ∧ A1 = A2 := by
  rcases h.form with ⟨xs, h1, rfl, rfl, rfl⟩ | ⟨xs, s, h1, h2, h3, rfl, rfl, rfl⟩ | ⟨h1, h2, B1, g1, f1, s1, h3⟩
  · rcases h'.form with ⟨ys, q1, rfl, rfl, rfl⟩ | ⟨ys, t, q1, q2, q3, rfl, rfl, rfl⟩ | ⟨q1, q2, B2, g2, f2, s2, q3⟩
    · rw [h1] at q1
      obtain ⟨rfl, rfl⟩ := last_inj q1
      exact ⟨rfl, rfl, rfl, rfl⟩
    · rw [h1] at q1; simp at q1
    · rw [h1] at q1; simp at q1
  · rcases h'.form with ⟨ys, q1, rfl, rfl, rfl⟩ | ⟨ys, t, q1, q2, q3, rfl, rfl, rfl⟩ | ⟨q1, q2, B2, g2, f2, s2, q3⟩
    · rw [h1] at q1; simp at q1
    · rw [h2] at q2
      obtain ⟨rfl, rfl⟩ := last_inj q2
      rw [h3] at q3; injection q3 with q3; subst q3
      exact ⟨rfl, rfl, rfl, rfl⟩
    · rw [h2] at q2; simp at q2
  · rcases h'.form with ⟨ys, q1, rfl, rfl, rfl⟩ | ⟨ys, t, q1, q2, q3, rfl, rfl, rfl⟩ | ⟨q1, q2, B2, g2, f2, s2, q3⟩
    · rw [h1] at q1; simp at q1
    · rw [h2] at q2; simp at q2
    · obtain ⟨rfl, rfl⟩ := f1.uniq s1 f2 s2
      exact h3.uniq q3
theorem PreR.uniq {p q : Nat} (h : PreR p q A B1) (h' : PreR p q A B2) : B1 = B2 := by
  rcases h with ⟨h1, rfl⟩ | ⟨id, s, h1, hs, hf, rfl⟩
  · rcases h' with ⟨q1, rfl⟩ | ⟨id2, t, q1, qs, qf, rfl⟩
    · rfl
    · omega
  · rcases h' with ⟨q1, rfl⟩ | ⟨id2, t, q1, qs, qf, rfl⟩
    · omega
    · obtain rfl : id = id2 := by omega
      rfl
theorem PlcS.uniq {s : Sp} {y z : Nat} (h : PlcS s y) (h' : PlcS s z) : y = z := by
  rcases Nat.lt_trichotomy y z with g | g | g
  · have := h'.2.2.2 y h.1 g
    rw [h.2.2.1] at this; cases this
  · exact g
  · have := h.2.2.2 z h'.1 g
    rw [h'.2.2.1] at this; cases this
theorem AlcR.uniq {p q n x x' : Nat} {black : Bool} {c c' : Int} {A1 A2 : HpA} (h : AlcR p q n black A x g c A1) (h' : AlcR p q n black A x' g' c' A2) : x = x' ∧ g = g' ∧ c = c' ∧ A1 = A2 := by
  have pre : ∀ {id : Nat} {s : Sp} {B : HpA}, A.own p q = id → A.a.sp id = some s → ¬ fullS s → PreR p q A B → False := fun {id s B} h1 h2 h3 hp => by
    rcases hp with ⟨h4, -⟩ | ⟨id2, t, h4, h5, h6, -⟩
    · omega
    · obtain rfl : id = id2 := by omega
      rw [h2] at h5; injection h5 with h5; subst h5
      exact h3 h6
  cases h with
  | has h1 h2 h3 h4 =>
    cases h' with
    | has q1 q2 q3 q4 =>
      have e := Int.ofNat.inj (h1.symm.trans q1)
      subst e
      rw [h2] at q2; injection q2 with q2; subst q2
      obtain rfl := h4.uniq q4
      exact ⟨rfl, rfl, rfl, rfl⟩
    | got q1 => exact (pre h1 h2 h3 q1).elim
    | no q1 => exact (pre h1 h2 h3 q1).elim
  | got h1 h2 h3 h4 h5 =>
    cases h' with
    | has q1 q2 q3 q4 => exact (pre q1 q2 q3 h1).elim
    | got q1 q2 q3 q4 q5 =>
      obtain rfl := h1.uniq q1
      obtain ⟨rfl, rfl, -, rfl⟩ := h2.uniq q2
      rw [h3] at q3; injection q3 with q3; subst q3
      obtain rfl := h5.uniq q5
      exact ⟨rfl, rfl, rfl, rfl⟩
    | no q1 q2 =>
      obtain rfl := h1.uniq q1
      obtain ⟨-, -, e, -⟩ := h2.uniq q2
      cases e
  | no h1 h2 =>
    cases h' with
    | has q1 q2 q3 q4 => exact (pre q1 q2 q3 h1).elim
    | got q1 q2 q3 q4 q5 =>
      obtain rfl := h1.uniq q1
      obtain ⟨-, -, e, -⟩ := h2.uniq q2
      cases e
    | no q1 q2 =>
      obtain rfl := h1.uniq q1
      obtain ⟨-, rfl, -, rfl⟩ := h2.uniq q2
      exact ⟨rfl, rfl, rfl, rfl⟩
end
end Go.Proofs.YtcnchgbngcnijaaGreatDoor
namespace Go.Proofs.YtcnchgbngcnijaaGreatDoor
open Go.RowKit Go.Maps

/-- Both forms of the heap A. -/
structure HpT (W : World) (gh ga rg rc : Nat) (H : HpH) (h : RhH) (A : HpA) (N b M m : Nat) (w : World) : Prop where
  Q : HpS W w H A N b
  R : RhS w h A M m
  I : HpI A none
  far : ∀ k, RhF h A k → W.heap.size ≤ k
  apart : ∀ k, RhF h A k → ¬ HpF H A k
  gh : H.gh = gh
  ga : H.ah.ga = ga
  rg : h.g = rg
  rc : h.gc = rc
section
variable {W w w1 w2 w3 : World} {gh ga rg rc : Nat} {H H' : HpH} {h h' : RhH} {A A' : HpA} {N b M m N' b' M' m' : Nat}
theorem HpT.chg0 (T : HpT W gh ga rg rc H h A N b M m w) (c : Chg [] w w1) : HpT W gh ga rg rc H h A N b M m w1 := ⟨T.Q.chg0 c, T.R.chg0 c, T.I, T.far, T.apart, T.gh, T.ga, T.rg, T.rc⟩
theorem HpT.mid (T : HpT W gh ga rg rc H h A N b M m w) (st : StP (HpF H A) (HpF H' A') w w1) : RhS w1 h A M m := by
  obtain ⟨S, c, hS⟩ := st.chg
  exact T.R.chg c fun k hk hm => T.apart k hk (hS k hm)
theorem HpT.both (T : HpT W gh ga rg rc H h A N b M m w) (E : HpE H' H) (Q1 : HpS W w1 H' A' N' b') (st : StP (HpF H A) (HpF H' A') w w1) (c : Chg [] w1 w2) (X : RhTo w2 w3 h A A' M' m') (I' : HpI A' none) :
    ∃ h', HpT W gh ga rg rc H' h' A' N' b' M' m' w3 ∧ StP (RhF h A) (RhF h' A') w2 w3 := by
  obtain ⟨h', E2, R', s3⟩ := X
  obtain ⟨S, c3, hS⟩ := s3.chg
  have hw := st.size
  have hw2 := c.size
  have no : ∀ k, RhF h A k → ¬ HpF H' A' k := fun k hk hF => by
    rcases st.fr k hF with h1 | h1
    · exact T.apart k hk h1
    · have := T.R.lt hk; omega
  have hW : W.heap.size ≤ w2.heap.size := Nat.le_trans Q1.S.c.size hw2
  refine ⟨h', ⟨(Q1.chg0 c).far c3 (fun k hk => no k (hS k hk)) (fun k hk => T.far k (hS k hk)), R', I', fun k hk => ?_, fun k hk hF => ?_, E.gh.trans T.gh, E.ga.trans T.ga, E2.g.trans T.rg, E2.gc.trans T.rc⟩, s3⟩
  · rcases s3.fr k hk with h1 | h1
    · exact T.far k h1
    · omega
  · rcases s3.fr k hk with h1 | h1
    · exact no k h1 hF
    · have := (Q1.chg0 c).lt hF; omega
end
theorem SwR.uniq {A B C : HpA} {l l' : List Int} (h : SwR A l B) (h' : SwR A l' C) : l = l' ∧ B = C := by
  obtain ⟨k, f, x, xs, s, r, h1, h2, h3, h4, h5, h6, h7, rfl, rfl⟩ := h
  obtain ⟨k', f', x', xs', s', r', g1, g2, g3, g4, g5, g6, g7, rfl, rfl⟩ := h'
  have e1 : k = k' := by
    rcases Nat.lt_trichotomy k k' with q | q | q
    · obtain ⟨a1, a2⟩ := g3 k q
      exfalso
      have : f = 0 ∨ f = 1 := by omega
      rcases this with rfl | rfl
      · rw [show k * 4 + 2 + 0 = k * 4 + 2 from rfl, a1] at h5; cases h5
      · rw [show k * 4 + 2 + 1 = k * 4 + 3 from rfl, a2] at h5; cases h5
    · exact q
    · obtain ⟨a1, a2⟩ := h3 k' q
      exfalso
      have : f' = 0 ∨ f' = 1 := by omega
      rcases this with rfl | rfl
      · rw [show k' * 4 + 2 + 0 = k' * 4 + 2 from rfl, a1] at g5; cases g5
      · rw [show k' * 4 + 2 + 1 = k' * 4 + 3 from rfl, a2] at g5; cases g5
  subst e1
  have e2 : f = f' := by
    rcases Nat.lt_trichotomy f f' with q | q | q
    · have := g4 f q
      rw [this] at h5; cases h5
    · exact q
    · have := h4 f' q
      rw [this] at g5; cases g5
  subst e2
  rw [h5] at g5
  injection g5 with e3 e4
  subst e3 e4
  rw [h6] at g6; injection g6 with g6; subst g6
  obtain rfl := h7.uniq g7
  exact ⟨rfl, rfl⟩
end Go.Proofs.YtcnchgbngcnijaaGreatDoor
namespace Go.Proofs.YtcnchgbngcnijaaGreatDoor
open Go.RowKit Go.Maps

/-- Both forms, behind at most i ops. -/
def HyS (W : World) (gh ga rg rc P n i : Nat) (w : World) : Prop :=
  ∃ H h A N b M m, N ≤ i ∧ b ≤ 7 * i ∧ M ≤ i ∧ m ≤ 256 * i ∧ A.P = P ∧ A.a.n = n ∧ HpT W gh ga rg rc H h A N b M m w
section
variable {W w : World} {gh ga rg rc P n i : Nat}
theorem HyS.chg0 {w' : World} (T : HyS W gh ga rg rc P n i w) (c : Chg [] w w') : HyS W gh ga rg rc P n i w' := by
  obtain ⟨H, h, A, N, b, M, m, h1, h2, h3, h4, h5, h6, T⟩ := T
  exact ⟨H, h, A, N, b, M, m, h1, h2, h3, h4, h5, h6, T.chg0 c⟩
theorem HyS.next {w' : World} (T : HyS W gh ga rg rc P n i w) (c : Chg [] w w') : HyS W gh ga rg rc P n (i + 1) w' := by
  obtain ⟨H, h, A, N, b, M, m, h1, h2, h3, h4, h5, h6, T⟩ := T
  exact ⟨H, h, A, N, b, M, m, by omega, by omega, by omega, by omega, h5, h6, T.chg0 c⟩
end
theorem SkF.glen {k N : Nat} {A B : HpA} {g : List Int} (h : SkF k A g B) (J : ArI N A.a) : g.length + 64 * (B.r (k * 4 + 3)).length ≤ 64 * (A.r (k * 4 + 3)).length := by
  induction h with
  | nil => simp
  | snoc h1 h2 h3 h4 ih =>
    have hk := ((h1.cap J).1.ok.pg _ _ h3).1
    have h5 := sweptL_len _ hk
    rw [h2, List.length_append] at ih
    rw [List.length_append, swI_len]
    have e9 : ∀ (r : Nat → List Nat) (xs l : List Nat), updV (updV r (k * 4 + 3) xs) (k * 4 + 1) l (k * 4 + 3) = xs := fun r xs l => by rw [updV_other _ _ (by omega), updV_same]
    dsimp only
    rw [e9]
    simp at ih
    omega
theorem SeekR.glen {k id N : Nat} {A B : HpA} {g : List Int} {ok : Bool} (h : SeekR k A id g ok B) (J : ArI N A.a) : g.length ≤ 64 * ((A.r (k * 4 + 3)).length + 1) := by
  rcases h.form with ⟨xs, h1, rfl, rfl, rfl⟩ | ⟨xs, s, h1, h2, h3, rfl, rfl, rfl⟩ | ⟨h1, h2, B1, g1, f1, s1, h3⟩
  · simp
  · have := sweptL_len s (J.ok.pg _ _ h3).1
    rw [swI_len]; omega
  · have := f1.glen J
    rcases h3 with ⟨xs, s, q1, q2, q3, rfl, -, -⟩ | ⟨q1, rfl, -⟩
    · have h5 := sweptL_len s ((f1.cap J).1.ok.pg _ _ q2).1
      rw [List.length_append, swI_len]; omega
    · omega
theorem PreR.row {p q : Nat} {A A1 : HpA} (h : PreR p q A A1) : A1.r (q * 4 + 3) = A.r (q * 4 + 3) ∧ A1.a = A.a ∧ A1.P = A.P := by
  rcases h with ⟨-, rfl⟩ | ⟨id, s, -, -, -, rfl⟩
  · exact ⟨rfl, rfl, rfl⟩
  · exact ⟨updV_other _ _ (by omega), rfl, rfl⟩
theorem AlcR.glen {p q n x N : Nat} {black : Bool} {A A' : HpA} {g : List Int} {c : Int} (h : AlcR p q n black A x g c A') (J : ArI N A.a) : g.length ≤ 64 * ((A.r (q * 4 + 3)).length + 1) ∧ A'.P = A.P ∧ A'.a.n = A.a.n := by
  cases h with
  | has => exact ⟨by simp, rfl, rfl⟩
  | got h1 h2 =>
    obtain ⟨e1, e2, e3⟩ := h1.row
    obtain ⟨-, e4, e5⟩ := h2.own
    rw [← e1]
    refine ⟨h2.glen (N := N) (by rw [e2]; exact J), e4.trans e3, ?_⟩
    show _ = _
    rw [← e2]; exact e5
  | no h1 h2 =>
    obtain ⟨e1, e2, e3⟩ := h1.row
    obtain ⟨-, e4, e5⟩ := h2.own
    rw [← e1, ← e2]
    exact ⟨h2.glen (N := N) (by rw [e2]; exact J), e4.trans e3, e5⟩
/-- A block beside the heap stays. -/
theorem StP.box {F F' : Nat → Prop} {w w' : World} (st : StP F F' w w') {bx : Nat} {t : TypeId} {cs : Array Value} (B : Blk w bx t cs) (hn : ¬ F bx) : Blk w' bx t cs := (st.block bx B.lt hn).trans B
section
variable {W w : World} {gh ga rg rc P n i N b M m : Nat} {H : HpH} {h : RhH} {A : HpA}
/-- Behind the code's op: what it tells, and a list; the document's tells the same. -/
def HyL (W w : World) (gh ga rg rc P n i : Nat) (H : HpH) (A : HpA) (tl : Value → Value) (f : FuncId) (args : Array Value) (e : Ending) (w1 : World) : Prop :=
  ∃ v g, e = .returned (tl v) ∧ OwnI 3 w1 v g ∧ (∀ bx t cs, Blk w bx t cs → ¬ HpF H A bx → Blk w1 bx t cs) ∧ g.length ≤ 1000000 ∧ ∀ w2, Chg [] w1 w2 → Calls Tryz.prog f args w2 fun e w3 => ∃ u, e = .returned (tl u) ∧ OwnI 3 w3 u g ∧ OwnI 3 w3 v g ∧ HyS W gh ga rg rc P n (i + 1) w3
def HyV (W w : World) (gh ga rg rc P n i : Nat) (H : HpH) (A : HpA) (V : Value → Prop) (f : FuncId) (args : Array Value) (e : Ending) (w1 : World) : Prop :=
  ∃ v, V v ∧ e = .returned v ∧ (∀ bx t cs, Blk w bx t cs → ¬ HpF H A bx → Blk w1 bx t cs) ∧ ∀ w2, Chg [] w1 w2 → Calls Tryz.prog f args w2 fun e w3 => e = .returned v ∧ HyS W gh ga rg rc P n (i + 1) w3
variable (T : HpT W gh ga rg rc H h A N b M m w) (hN : N ≤ i) (hb : b ≤ 7 * i) (hM : M ≤ i) (hm : m ≤ 256 * i) (hP : A.P = P) (hn : A.a.n = n) (hi : i ≤ 1000) (T0 : Tab W)
include T hN hb hM hm hP hn hi T0
theorem hy_begin : Calls Tryz.prog 28 #[.pointer (some ⟨gh, 0, none⟩)] w (HyV W w gh ga rg rc P n i H A (fun v => ∃ c : Int, v = .int .i64 c) 87 #[.pointer (some ⟨rg, 0, none⟩)]) := by
  have K := hbegin_ok W w H A N b T.Q T.I T0 (by omega)
  rw [T.gh] at K
  refine K.mono ?_
  rintro e w1 (⟨hu, rfl, c1⟩ | ⟨hu, rfl, r1, hF, I', H', E, Q1, st⟩)
  · refine ⟨_, ⟨5, rfl⟩, rfl, fun bx t cs B _ => c1.blk B (by simp), fun w2 c2 => ?_⟩
    have R := rhbegin_ok w2 h A M m (T.R.chg0 (c1.trans c2)) T.I (by omega)
    rw [T.rg] at R
    refine R.mono ?_
    rintro e w3 (⟨-, rfl, c3⟩ | ⟨h0, -⟩)
    · exact ⟨rfl, HyS.next ⟨H, h, A, N, b, M, m, hN, hb, hM, hm, hP, hn, T⟩ ((c1.trans c2).trans c3)⟩
    · omega
  · refine ⟨_, ⟨0, rfl⟩, rfl, fun bx t cs B hf => st.box B hf, fun w2 c2 => ?_⟩
    have R := rhbegin_ok w2 h A M m ((T.mid st).chg0 c2) T.I (by omega)
    rw [T.rg] at R
    refine R.mono ?_
    rintro e w3 (⟨h0, -⟩ | ⟨-, rfl, r2, hF2, X⟩)
    · omega
    · obtain rfl := hF.uniq hF2
      obtain ⟨h', T', -⟩ := T.both E Q1 st c2 X I'
      exact ⟨rfl, H', h', { A with r := bgR r1 32, own := faO A.own A.P }, N, b, M, m, by omega, by omega, by omega, by omega, hP, hn, T'⟩
omit T0 in
theorem hy_drop : Calls Tryz.prog 33 #[.pointer (some ⟨gh, 0, none⟩)] w (HyV W w gh ga rg rc P n i H A (fun v => ∃ c : Int, v = .int .i64 c) 90 #[.pointer (some ⟨rg, 0, none⟩)]) := by
  have K := hdrop_ok W w H A N b T.Q T.I (by omega) (by omega)
  rw [T.gh] at K
  refine K.mono ?_
  rintro e w1 ⟨ks, B, k, hr, hks, hD, rfl, I', H', E, Q1, st⟩
  refine ⟨_, ⟨_, rfl⟩, rfl, fun bx t cs B hf => st.box B hf, fun w2 c2 => ?_⟩
  have R := rhdrop_ok w2 h A M m ((T.mid st).chg0 c2) T.I (by omega)
  rw [T.rg] at R
  refine R.mono ?_
  rintro e w3 ⟨ks2, B2, k2, hr2, hks2, hD2, rfl, -, X⟩
  obtain rfl : ks = ks2 := rise_ext hr hr2 fun y => (hks y).trans (hks2 y).symm
  obtain ⟨rfl, rfl⟩ := hD.uniq hD2
  obtain ⟨h', T', -⟩ := T.both E Q1 st c2 X I'
  obtain ⟨-, e2, e3, -, -⟩ := hD.own
  exact ⟨rfl, H', h', _, N, b, M, m, by omega, by omega, by omega, by omega, e2.trans hP, e3.trans hn, T'⟩
theorem hy_flush (p : Int) : Calls Tryz.prog 35 #[.pointer (some ⟨gh, 0, none⟩), .int .i64 p] w (HyV W w gh ga rg rc P n i H A (fun v => v = .tuple #[]) 88 #[.pointer (some ⟨rg, 0, none⟩), .int .i64 p]) := by
  by_cases hp : p < 0 ∨ (A.P : Int) ≤ p
  · have K := hflush_no W w H A N b T.Q p hp
    rw [T.gh] at K
    refine K.mono ?_
    rintro e w1 ⟨rfl, c1⟩
    refine ⟨_, rfl, rfl, fun bx t cs B _ => c1.blk B (by simp), fun w2 c2 => ?_⟩
    have R := rhflush_no w2 h A M m (T.R.chg0 (c1.trans c2)) p hp
    rw [T.rg] at R
    refine R.mono ?_
    rintro e w3 ⟨rfl, c3⟩
    exact ⟨rfl, HyS.next ⟨H, h, A, N, b, M, m, hN, hb, hM, hm, hP, hn, T⟩ ((c1.trans c2).trans c3)⟩
  · obtain ⟨q, rfl⟩ : ∃ q : Nat, p = q := ⟨p.toNat, by omega⟩
    have hq : q < A.P := by omega
    have B := T.I.B T.Q.S.I.ok (by omega : N ≤ 6000)
    have K := flush_ok W w H A N b T.Q T0 B q hq
    rw [T.gh] at K
    refine K.mono ?_
    rintro e w1 ⟨rfl, v', r', hF, Q1, st⟩
    refine ⟨_, rfl, rfl, fun bx t cs B hf => st.box B hf, fun w2 c2 => ?_⟩
    have R := rhflush_ok w2 h A M m ((T.mid st).chg0 c2) (by omega) B.l q hq T.I.P (fun k hk => B.o q k hq hk)
    rw [T.rg] at R
    refine R.mono ?_
    rintro e w3 ⟨rfl, r2, hF2, X⟩
    obtain rfl := hF.uniq hF2
    obtain ⟨h', T', -⟩ := T.both (H' := { H with v := v' }) ⟨rfl, rfl, rfl⟩ Q1 st c2 X (T.I.flush hq hF)
    exact ⟨rfl, _, h', { A with r := r', own := updV A.own q (flO (A.own q) 16) }, N, b, M, m, by omega, by omega, by omega, by omega, hP, hn, T'⟩
theorem hy_alloc (p k : Int) (black : Bool) : Calls Tryz.prog 25 #[.pointer (some ⟨gh, 0, none⟩), .int .i64 p, .int .i64 k, .bool black] w fun e w1 => ∃ x c : Int, HyL W w gh ga rg rc P n i H A (fun v => .tuple #[.int .i64 x, v, .int .i64 c]) 86 #[.pointer (some ⟨rg, 0, none⟩), .int .i64 p, .int .i64 k, .bool black] e w1 := by
  by_cases hp : AlBad A.P p k
  · have K := halloc_no W w H A N b T.Q p k black hp
    rw [T.gh] at K
    refine K.mono ?_
    rintro e w1 ⟨rfl, c1⟩
    refine ⟨0, 1, _, [], rfl, OwnI.nil _ _, fun bx t cs B _ => c1.blk B (by simp), by simp, fun w2 c2 => ?_⟩
    have R := rhalloc_no w2 h A M m (T.R.chg0 (c1.trans c2)) p k black hp
    rw [T.rg] at R
    refine R.mono ?_
    rintro e w3 ⟨rfl, c3⟩
    exact ⟨_, rfl, OwnI.nil _ _, OwnI.nil _ _, HyS.next ⟨H, h, A, N, b, M, m, hN, hb, hM, hm, hP, hn, T⟩ ((c1.trans c2).trans c3)⟩
  · unfold AlBad at hp
    obtain ⟨q, rfl⟩ : ∃ q : Nat, p = q := ⟨p.toNat, by omega⟩
    obtain ⟨k, rfl⟩ : ∃ k' : Nat, k = k' := ⟨k.toNat, by omega⟩
    have hq : q < A.P := by omega
    have K := halloc_ok W w H A N b T.Q T.I T0 (by omega) (by omega) q k hq (by omega) (by omega) black
    rw [T.gh] at K
    refine K.mono ?_
    rintro e w1 ⟨cl, x, gone, c, vg, A', N', b', H', hof, hal, rfl, hN', hb', E, Q1, st, L, fv, I'⟩
    refine ⟨_, _, vg, gone, rfl, L.o, fun bx t cs B hf => st.box B hf, by have h8 := (hal.glen T.Q.S.I).1; have h9 := T.I.len T.Q.S.I.ok (cl * 4 + 3); omega, fun w2 c2 => ?_⟩
    have R := rhalloc_ok w2 h A M m ((T.mid st).chg0 c2) T.I (by omega) (by omega) q k hq (by omega) (by omega) black
    rw [T.rg] at R
    refine R.mono ?_
    rintro e w3 ⟨cl2, x2, gone2, e2, vg2, A2, hof2, hal2, rfl, K2⟩
    obtain rfl := hof.uniq hof2
    obtain ⟨rfl, rfl, rfl, rfl⟩ := hal.uniq hal2
    obtain ⟨h2, E2, R2, s2, L2⟩ := K2.ex
    obtain ⟨h', T', s3⟩ := T.both E Q1 st c2 ⟨h2, E2, R2, s2⟩ I'
    have ho := (hal.glen T.Q.S.I).2
    refine ⟨vg2, rfl, L2.o, ?_, H', h', A', N', b', M + 1, m + 256, by omega, by omega, by omega, by omega, ho.1.trans hP, ho.2.trans hn, T'⟩
    obtain ⟨S3, c3, hS3⟩ := s3.chg
    refine (L.o.chg0 c2).chg c3 (fun j hj hm2 => ?_)
    have h5 := fv j hj
    have h6 := T.R.lt (hS3 j hm2)
    omega
theorem hy_sweep : Calls Tryz.prog 34 #[.pointer (some ⟨gh, 0, none⟩)] w fun e w1 => ∃ bo : Bool, HyL W w gh ga rg rc P n i H A (fun v => .tuple #[v, .bool bo]) 89 #[.pointer (some ⟨rg, 0, none⟩)] e w1 := by
  have B := T.I.B T.Q.S.I.ok (by omega : N ≤ 6000)
  have K := hsweep2_ok W w H A N b T.Q T0 B (by omega) (fun j hj x hx => (T.I.r j x hx).2.imp fun s h => h.1)
  rw [T.gh] at K
  refine K.mono ?_
  rintro e w1 (⟨hno, rfl, c1⟩ | ⟨k, f, x, xs, s, u, h', v', r', hk, hf, hk0, hf0, hr, hs, hpt, rfl, Q1, st, L, hga, fv⟩)
  · refine ⟨false, _, [], rfl, OwnI.nil _ _, fun bx t cs B _ => c1.blk B (by simp), by simp, fun w2 c2 => ?_⟩
    have R := rhsweep_ok w2 h A M m (T.R.chg0 (c1.trans c2)) T.I (by omega)
    rw [T.rg] at R
    refine R.mono ?_
    rintro e w3 (⟨-, rfl, X⟩ | ⟨l, A', u, ⟨k, f, x, xs, s, r', hk, hf, -, -, hr, -⟩, -⟩)
    · obtain ⟨h', T', -⟩ := T.both (HpE.refl H) (T.Q.chg0 c1) ((StP.refl _ _).then0 c1) c2 X T.I
      exact ⟨_, rfl, OwnI.nil _ _, OwnI.nil _ _, H, h', A, N, b, M, m, by omega, by omega, by omega, by omega, hP, hn, T'⟩
    · exfalso
      obtain ⟨a1, a2⟩ := hno k hk
      have : f = 0 ∨ f = 1 := by omega
      rcases this with rfl | rfl
      · rw [show k * 4 + 2 + 0 = k * 4 + 2 from rfl, a1] at hr; cases hr
      · rw [show k * 4 + 2 + 1 = k * 4 + 3 from rfl, a2] at hr; cases hr
  · have hsw : SwR A (intsN ((sweptL s).map s.addr)) { A with a := sweepA A.a x s (sweptL s).length, r := r' } := ⟨k, f, x, xs, s, r', hk, hf, hk0, hf0, hr, hs, hpt, rfl, rfl⟩
    refine ⟨true, u, _, rfl, L.o, fun bx t cs B hf => st.box B hf, by have h8 := sweptL_len s (T.Q.S.I.ok.pg x s hs).1; have h9 := swI_len s; unfold swI at h9; omega, fun w2 c2 => ?_⟩
    have R := rhsweep_ok w2 h A M m ((T.mid st).chg0 c2) T.I (by omega)
    rw [T.rg] at R
    refine R.mono ?_
    rintro e w3 (⟨hno, -⟩ | ⟨l2, A2, u2, hsw2, rfl, O2, f2, h2, E2, R2, s2⟩)
    · exfalso
      obtain ⟨a1, a2⟩ := hno k hk
      have : f = 0 ∨ f = 1 := by omega
      rcases this with rfl | rfl
      · rw [show k * 4 + 2 + 0 = k * 4 + 2 from rfl, a1] at hr; cases hr
      · rw [show k * 4 + 2 + 1 = k * 4 + 3 from rfl, a2] at hr; cases hr
    · obtain ⟨rfl, rfl⟩ := hsw.uniq hsw2
      have I' : HpI { A with a := sweepA A.a x s (sweptL s).length, r := r' } none := by
        have hxr : x ∈ A.r (k * 4 + 2 + f) := by rw [hr]; simp
        obtain ⟨hj, t, ht, hk4, -⟩ := T.I.r _ x hxr
        rw [hs] at ht; injection ht with ht; subst ht
        have J1 := (T.I.take (j := k * 4 + 2 + f) (x := x) (xs := xs) (by rw [hr])).sweep hs (sweptL s).length
        exact J1.putTo (s := sweptS s) sweepA_sp (by show s.k = k; omega) hk hpt
      obtain ⟨h', T', s3⟩ := T.both (H' := { H with ah := h', v := v' }) ⟨rfl, rfl, hga⟩ Q1 st c2 ⟨h2, E2, R2, s2⟩ I'
      refine ⟨u2, rfl, O2, ?_, _, h', { A with a := sweepA A.a x s (sweptL s).length, r := r' }, N, b, M, m, by omega, by omega, by omega, by omega, hP, hn, T'⟩
      obtain ⟨S3, c3, hS3⟩ := s3.chg
      refine (L.o.chg0 c2).chg c3 (fun j hj hm2 => ?_)
      have h5 := fv j hj
      have h6 := T.R.lt (hS3 j hm2)
      omega
end
end Go.Proofs.YtcnchgbngcnijaaGreatDoor
namespace Go.Proofs.YtcnchgbngcnijaaGreatDoor
open Go.RowKit Go.Maps

theorem HpI.marked {A : HpA} (I : HpI A none) {id i : Nat} {s : Sp} (hs : A.a.sp id = some s) : HpI { A with a := { A.a with sp := updF A.a.sp id (some (markS s i)) } } none := by
  have h1 : ∀ y t, A.a.sp y = some t → ∃ t', updF A.a.sp id (some (markS s i)) y = some t' ∧ t'.k = t.k ∧ (fullS t' ↔ fullS t) := fun y t ht => by
    by_cases e : y = id
    · subst e
      rw [hs] at ht; injection ht with ht; subst ht
      exact ⟨markS s i, updF_same _ _ _, rfl, Iff.rfl⟩
    · exact ⟨t, (updF_other _ _ e).trans ht, rfl, Iff.rfl⟩
  refine ⟨fun j x hx => ?_, I.nd, I.dj, fun p k hp hk => ?_, I.oi, I.ro, I.P, fun id hid => (by cases hid), fun y t' ht => ?_⟩
  · obtain ⟨h3, s, hs, h4, h5⟩ := I.r j x hx
    obtain ⟨t, ht, h6, h7⟩ := h1 x s hs
    exact ⟨h3, t, ht, h6.trans h4, h5.trans h7.symm⟩
  · rcases I.o p k hp hk with h3 | ⟨id, s, h3, hs, h4⟩
    · exact .inl h3
    · obtain ⟨t, ht, h6, -⟩ := h1 id s hs
      exact .inr ⟨id, t, h3, ht, h6.trans h4⟩
  · by_cases e : y = id
    · exact I.all y s (by rw [e]; exact hs)
    · exact I.all y t' ((updF_other _ _ e).symm.trans ht)
section
variable {W w : World} {gh ga rg rc P n i N b M m : Nat} {H : HpH} {h : RhH} {A : HpA}
variable (T : HpT W gh ga rg rc H h A N b M m w) (hN : N ≤ i) (hb : b ≤ 7 * i) (hM : M ≤ i) (hm : m ≤ 256 * i) (hP : A.P = P) (hn : A.a.n = n) (hi : i ≤ 1000)
include T hN hb hM hm hP hn hi
theorem hy_mark (x : Int) (hx : Wf64 x) : Calls Tryz.prog 26 #[.pointer (some ⟨ga, 0, none⟩), .int .i64 x] w (HyV W w gh ga rg rc P n i H A (fun v => ∃ bo : Bool, v = .bool bo) 55 #[.pointer (some ⟨h.ra.g, 0, none⟩), .int .i64 x]) := by
  have seen : ∀ {id i : Nat} {s : Sp}, A.a.sp id = some s → i < slK s.k → s.F i = true → x = ((s.addr i : Nat) : Int) → (obI A.a x).isSome = true := fun hs hi hF e => by
    rw [e]; unfold obI; rw [if_pos (by omega), Int.toNat_natCast]; exact (T.Q.S.I.ok.ob _).2 ⟨_, _, _, hs, hi, hF, rfl⟩
  have K := g_mark T.Q.S (by omega) x hx
  rw [T.ga] at K
  refine K.mono ?_
  rintro e w1 (⟨ho, rfl, c1⟩ | ⟨id, j, s, hs, hj, hF, he, rfl, S', st⟩)
  · refine ⟨_, ⟨_, rfl⟩, rfl, fun bx t cs B _ => c1.blk B (by simp), fun w2 c2 => ?_⟩
    obtain ⟨ids, MM⟩ := (T.R.chg0 (c1.trans c2)).M
    refine (ramark_ok w2 h.ra A.a ids MM (by have := MM.len_le T.R.J.ok; omega) M T.R.J.ok x).mono ?_
    rintro e w3 (⟨_, rfl, c3⟩ | ⟨id, i, s, hsome, -⟩)
    · exact ⟨rfl, HyS.next ⟨H, h, A, N, b, M, m, hN, hb, hM, hm, hP, hn, T⟩ ((c1.trans c2).trans c3)⟩
    · rw [ho] at hsome; cases hsome
  · have Q1 := T.Q.arena (by rw [T.ga]; exact S') st
    have s1 := st_arena (H := H) (A := A) st
    refine ⟨_, ⟨_, rfl⟩, rfl, fun bx t cs B hf => s1.box B hf, fun w2 c2 => ?_⟩
    have R2 := (T.mid s1).chg0 c2
    obtain ⟨ids, MM⟩ := R2.M
    refine (ramark_ok w2 h.ra A.a ids MM (by have := MM.len_le T.R.J.ok; omega) M T.R.J.ok x).mono ?_
    rintro e w3 (⟨ho, -⟩ | ⟨id', j', s', -, hs', hj', hF', he', rfl, M3, c3⟩)
    · have := seen hs hj hF he; rw [ho] at this; cases this
    · obtain ⟨rfl, rfl, rfl⟩ := at_uniq T.Q.S.I.ok hs hj hs' hj' (by omega)
      have hsp : ∀ y t, updF A.a.sp id (some (markS s j)) y = some t → ∃ s, A.a.sp y = some s := fun y t ht => by
        by_cases e : y = id
        · subst e; exact ⟨s, hs⟩
        · rw [updF_other _ _ e] at ht; exact ⟨t, ht⟩
      have X := R2.arena M3 (T.R.J.mark hs hF) (StR.of_chg c3 (fun k hk => .inl (.inr (.inr (.inr (.inr (.inr (.inr (.inr ⟨id, s, hs, .inl hk⟩)))))))) (fun k hk => .inl (RaF.sp (m := h.ra.mw) hsp hk))) rfl T.R.mw rfl
      obtain ⟨h', T', -⟩ := T.both (H' := { H with ah := H.ah }) ⟨rfl, rfl, rfl⟩ Q1 s1 c2 X (T.I.marked hs)
      exact ⟨rfl, _, h', { A with a := { A.a with sp := updF A.a.sp id (some (markS s j)) } }, N, b, M, m, by omega, by omega, by omega, by omega, hP, hn, T'⟩
end
/-- What is asked of both: how many wait. -/
theorem HpT.uns {W w : World} {gh ga rg rc N b M m : Nat} {H : HpH} {h : RhH} {A : HpA} (T : HpT W gh ga rg rc H h A N b M m w) (hN : N ≤ 6000) : (∀ w', Chg [] w w' → Calls Tryz.prog 41 #[.pointer (some ⟨gh, 0, none⟩)] w' (NwPost (.int .i64 (unsN A.r 16 : Nat)) w')) ∧ ∀ w', Chg [] w w' → Calls Tryz.prog 42 #[.pointer (some ⟨rc, 0, none⟩)] w' (NwPost (.int .i64 (unsN A.r 16 : Nat)) w') := by
  have B := T.I.B T.Q.S.I.ok hN
  refine ⟨fun w' c => ?_, fun w' c => ?_⟩
  · have K := hunswept_ok (T.Q.chg0 c) (fun j => Nat.le_trans (B.l j) (by decide))
    rwa [T.gh] at K
  · have K := crunswept_ok w' h.gc h.v A.r (T.R.C.chg0 c) (fun j => Nat.le_trans (B.l j) (by decide))
    rwa [T.rc] at K
end Go.Proofs.YtcnchgbngcnijaaGreatDoor
