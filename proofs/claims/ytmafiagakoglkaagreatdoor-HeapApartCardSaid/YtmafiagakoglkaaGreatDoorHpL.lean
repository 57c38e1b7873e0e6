/- Package cache: what Alloc does where a new span is to be had, or the P's own has room. Plain. -/
import Derived.Test.YtmafiagakoglkaaGreatDoorHpN
namespace Go.Proofs.YtmafiagakoglkaaGreatDoor
open Go.RowKit Go.Maps

section
variable {k : Nat} {A B : HpA} {g : List Int}
theorem SkF.none_ (h : SkF k A g B) (h3 : A.r (k * 4 + 3) = []) : g = [] ∧ B = A := by
  induction h with
  | nil => exact ⟨rfl, rfl⟩
  | snoc h h1 h2 h4 ih =>
    obtain ⟨-, e⟩ := ih
    rw [e, h3] at h1
    exact absurd h1.symm (by simp)
/-- No span of the class stands in a row: a new one. -/
theorem SeekR.new {id : Nat} {ok : Bool} (h : SeekR k A id g ok B) (h0 : A.r (k * 4) = []) (h2 : A.r (k * 4 + 2) = []) (h3 : A.r (k * 4 + 3) = []) {f p N : Nat} (hl : A.a.l = [⟨f, p⟩]) (hk : k < 16) (hp : pgK k < p) (hN : ∀ j, j < N → A.a.sp j ≠ none) (hn : A.a.sp N = none) :
    ok = true ∧ id = N ∧ g = [] ∧ B = { A with a := spanA A.a [⟨f + pgK k, p - pgK k⟩] N k f } := by
  have key : ∀ {C : HpA} {x c : Int} {l' : List R}, C = A → AllocSays C.a.l (pgK k : Nat) x c l' → x = (f : Nat) ∧ c = 0 ∧ l' = [⟨f + pgK k, p - pgK k⟩] := fun {C x c l'} e hs => by
    rw [e, hl] at hs
    exact says_one (kF hk).2.2.2.2.1 hp hs
  have kid : ∀ {j : Nat}, A.a.sp j = none → (∀ i, i < j → A.a.sp i ≠ none) → j = N := fun {j} h4 h5 => by
    rcases Nat.lt_trichotomy j N with h6 | h6 | h6
    · exact absurd h4 (hN j h6)
    · exact h6
    · exact absurd hn (h5 N h6)
  cases h with
  | swept h => rw [h0] at h; exact absurd h.symm (by simp)
  | unswept h4 h5 => rw [h2] at h5; exact absurd h5.symm (by simp)
  | full h4 h5 h6 h7 =>
    obtain ⟨-, e⟩ := h6.none_ h3
    rw [e, h3] at h7; exact absurd h7.symm (by simp)
  | fresh h4 h5 h6 h7 h8 h9 h10 =>
    obtain ⟨e1, e⟩ := h6.none_ h3
    subst e
    obtain ⟨h11, -, h12⟩ := key rfl h8
    have h13 := kid h9 h10
    subst h13
    have h14 : _ = f := Int.ofNat.inj h11
    subst h14
    subst h12
    exact ⟨rfl, rfl, e1, rfl⟩
  | again h4 h5 h6 h7 h8 h9 =>
    obtain ⟨e1, e⟩ := h6.none_ h3
    exact absurd (key e h8).2.1 h9
  | no h4 h5 h6 h7 h8 h9 =>
    obtain ⟨e1, e⟩ := h6.none_ h3
    exact absurd (key e h8).2.1 h9
end
section
variable {p q n x : Nat} {black : Bool} {A A' : HpA} {g : List Int} {c : Int}
theorem plc_not_full {s : Sp} {y : Nat} (h : PlcS s y) : ¬ fullS s := fun hf => by
  have := hf y h.1 h.2.1
  rw [h.2.2.1] at this; cases this
/-- The P's own span has room. -/
theorem AlcR.own (h : AlcR p q n black A x g c A') {id : Nat} {s : Sp} (ho : A.own p q = id) (hs : A.a.sp id = some s) (hf : ¬ fullS s) : ∃ y, PlcS s y ∧ x = s.addr y ∧ g = [] ∧ c = 0 ∧ A' = { A with a := allocA A.a id s y n black } := by
  have nopre : ∀ {B}, ¬ PreR p q A B := fun {B} hb => by
    rcases hb with ⟨h1, -⟩ | ⟨id', t, h1, ht, hft, -⟩
    · omega
    · have : id' = id := by omega
      subst this
      rw [hs] at ht; injection ht with ht; subst ht
      exact hf hft
  cases h with
  | has h1 h2 h3 h4 =>
    rename_i id' y t
    have : id' = id := by omega
    subst this
    rw [hs] at h2; injection h2 with h2; subst h2
    exact ⟨y, h4, rfl, rfl, rfl, rfl⟩
  | got h1 => exact absurd h1 nopre
  | no h1 => exact absurd h1 nopre
/-- It is full, or there is none: the span put away. -/
theorem AlcR.seek (h : AlcR p q n black A x g c A') (hf : ∀ (id : Nat) s, A.own p q = id → A.a.sp id = some s → fullS s) : ∃ A1, PreR p q A A1 ∧ ((∃ A2 id s y, SeekR q A1 id g true A2 ∧ A2.a.sp id = some s ∧ s.k = q ∧ PlcS s y ∧ x = s.addr y ∧ c = 0 ∧ A' = { A2 with a := allocA A2.a id s y n black, own := updV A2.own p (updV (A2.own p) q (id : Nat)) }) ∨ (x = 0 ∧ c = 3 ∧ SeekR q A1 0 g false A')) := by
  cases h with
  | has h1 h2 h3 h4 => exact absurd (hf _ _ h1 h2) h3
  | got h1 h2 h3 h4 h5 => exact ⟨_, h1, .inl ⟨_, _, _, _, h2, h3, h4, h5, rfl, rfl, rfl⟩⟩
  | no h1 h2 => exact ⟨_, h1, .inr ⟨rfl, rfl, h2⟩⟩
/-- Neither own nor in rows: a new span. -/
theorem AlcR.new (h : AlcR p q n black A x g c A') (hf : ∀ (id : Nat) s, A.own p q = id → A.a.sp id = some s → fullS s) (h0 : A.r (q * 4) = []) (h2 : A.r (q * 4 + 2) = []) (h3 : A.r (q * 4 + 3) = []) {f pp N : Nat} (hl : A.a.l = [⟨f, pp⟩]) (hq : q < 16) (hp : pgK q < pp) (hN : ∀ j, j < N → A.a.sp j ≠ none) (hn : A.a.sp N = none) :
    ∃ A1, PreR p q A A1 ∧ x = f * 64 ∧ g = [] ∧ c = 0 ∧ A' = { A1 with a := allocA (spanA A.a [⟨f + pgK q, pp - pgK q⟩] N q f) N (spn f q) 0 n black, own := updV A1.own p (updV (A1.own p) q (N : Nat)) } := by
  obtain ⟨A1, hpre, h1⟩ := h.seek hf
  have ha : A1.a = A.a := by
    rcases hpre with ⟨-, rfl⟩ | ⟨_, _, -, -, -, rfl⟩ <;> rfl
  have hr : ∀ j, j ≠ q * 4 + 1 → A1.r j = A.r j := fun j hj => by
    rcases hpre with ⟨-, rfl⟩ | ⟨_, _, -, -, -, rfl⟩
    · rfl
    · exact updV_other _ _ hj
  have key : ∀ {id : Nat} {ok : Bool} {B : HpA}, SeekR q A1 id g ok B → ok = true ∧ id = N ∧ g = [] ∧ B = { A1 with a := spanA A1.a [⟨f + pgK q, pp - pgK q⟩] N q f } := fun hs =>
    hs.new (by rw [hr _ (by omega)]; exact h0) (by rw [hr _ (by omega)]; exact h2) (by rw [hr _ (by omega)]; exact h3) (by rw [ha]; exact hl) hq hp (by rw [ha]; exact hN) (by rw [ha]; exact hn)
  rcases h1 with ⟨A2, id, s, y, hs, hsp, -, hy, rfl, rfl, rfl⟩ | ⟨-, -, hs⟩
  · obtain ⟨-, rfl, hg, rfl⟩ := key hs
    have e : s = spn f q := by
      have h5 : updF A1.a.sp id (some (spn f q)) id = some s := hsp
      rw [updF_same] at h5; injection h5 with h5; exact h5.symm
    subst e
    have hy0 : y = 0 := by
      rcases Nat.eq_zero_or_pos y with h6 | h6
      · exact h6
      · have := hy.2.2.2 0 (Nat.le_refl _) h6
        cases this
    subst hy0
    exact ⟨A1, hpre, spn_addr f q, hg, rfl, by rw [ha]⟩
  · have := (key hs).1
    cases this
end
end Go.Proofs.YtmafiagakoglkaaGreatDoor
