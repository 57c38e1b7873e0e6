/- told of layer 9: plain parts. -/
import Derived.Test.YtmafiagakoglkaaGreatDoorHpL
namespace Go.Proofs.YtmafiagakoglkaaGreatDoor
open Go.RowKit Go.Maps

theorem of_one {q : Nat} (h : OfSays 1 q) : q = 0 := by
  rcases Nat.eq_zero_or_pos q with h1 | h1
  · exact h1
  · have := h.2.2 0 h1
    exact absurd this (by decide)
theorem PreR.none_ {p q : Nat} {A A1 : HpA} (h : PreR p q A A1) (ho : A.own p q = -1) : A1 = A := by
  rcases h with ⟨-, h⟩ | ⟨id, s, h, -⟩
  · exact h
  · omega
def tS1 : Sp := allocS (spn 1 0) 0 false
def tS2 : Sp := allocS tS1 1 false
def tA1 : HpA := { hp0 4 2 with a := allocA (spanA (hp0 4 2).a [⟨1 + pgK 0, 3 - pgK 0⟩] 0 0 1) 0 (spn 1 0) 0 1 false, own := updV (hp0 4 2).own 0 (updV ((hp0 4 2).own 0) 0 ((0 : Nat) : Int)) }
def tA2 : HpA := { tA1 with a := allocA tA1.a 0 tS1 1 1 false }
def tA3 : HpA := { tA2 with a := allocA (spanA tA2.a [⟨2 + pgK 0, 2 - pgK 0⟩] 1 0 2) 1 (spn 2 0) 0 1 true, own := updV tA2.own 1 (updV (tA2.own 1) 0 ((1 : Nat) : Int)) }
theorem td_one {q x : Nat} {g : List Int} {c : Int} {A' : HpA} (hq : q = 0) (h : AlcR 0 q 1 false (hp0 4 2) x g c A') : x = 64 ∧ g = [] ∧ c = 0 ∧ A' = tA1 := by
  subst hq
  obtain ⟨A1, hp, rfl, rfl, rfl, rfl⟩ := h.new (f := 1) (pp := 3) (N := 0) (fun id s ho => by have ho' : (-1 : Int) = (id : Nat) := ho; omega) rfl rfl rfl rfl (by decide) (by decide) (fun j hj => by omega) rfl
  have := hp.none_ rfl
  subst this
  exact ⟨rfl, rfl, rfl, rfl⟩
theorem tS1_nf : ¬ fullS tS1 := fun h => absurd (h 1 (by decide) (by decide)) (by decide)
theorem tS2_nf : ¬ fullS tS2 := fun h => absurd (h 2 (by decide) (by decide)) (by decide)
theorem td_two {q x : Nat} {g : List Int} {c : Int} {A' : HpA} (hq : q = 0) (h : AlcR 0 q 1 false tA1 x g c A') : x = 65 ∧ g = [] ∧ c = 0 ∧ A' = tA2 := by
  subst hq
  obtain ⟨y, hy, rfl, rfl, rfl, rfl⟩ := h.own (id := 0) (s := tS1) rfl rfl tS1_nf
  have h1 : y = 1 := by
    rcases Nat.lt_trichotomy y 1 with h1 | h1 | h1
    · have e : y = 0 := by omega
      subst e
      exact absurd hy.2.2.1 (by decide)
    · exact h1
    · exact absurd (hy.2.2.2 1 (by decide) h1) (by decide)
  subst h1
  exact ⟨rfl, rfl, rfl, rfl⟩
theorem td_three {q x : Nat} {g : List Int} {c : Int} {A' : HpA} (hq : q = 0) (h : AlcR 1 q 1 true tA2 x g c A') : x = 128 ∧ g = [] ∧ c = 0 ∧ A' = tA3 := by
  subst hq
  obtain ⟨A1, hp, rfl, rfl, rfl, rfl⟩ := h.new (f := 2) (pp := 2) (N := 1) (fun id s ho => by have ho' : (-1 : Int) = (id : Nat) := ho; omega) rfl rfl rfl rfl (by decide) (by decide) (fun j hj => by
    have : j = 0 := by omega
    subst this
    rw [show tA2.a.sp 0 = some tS2 from rfl]
    simp) rfl
  have := hp.none_ rfl
  subst this
  exact ⟨rfl, rfl, rfl, rfl⟩
theorem FlR.only {a : Ar} {f : Nat → Int} {id : Nat} (h0 : f 0 = ((id : Nat) : Int)) : ∀ {n : Nat} {r r' : Nat → List Nat}, (∀ k, 1 ≤ k → k ≤ n → f k = -1) → FlR a f (n + 1) r r' → PutTo a r 0 id r'
  | 0, r, r', _, ⟨r1, h1, h2⟩ => by
    have e : r1 = r := h1
    subst e
    rcases h2 with ⟨h3, -⟩ | ⟨id', h3, h4⟩
    · have h3' : f 0 = -1 := h3
      omega
    · have h3' : f 0 = ((id' : Nat) : Int) := h3
      have : id' = id := by omega
      subst this; exact h4
  | n + 1, r, r', hk, ⟨r1, h1, h2⟩ => by
    have h5 := FlR.only h0 (fun k h3 h4 => hk k h3 (by omega)) h1
    rcases h2 with ⟨-, rfl⟩ | ⟨id', h3, -⟩
    · exact h5
    · have := hk (n + 1) (by omega) (Nat.le_refl _); omega
theorem PutTo.is {a : Ar} {r r' : Nat → List Nat} {k id : Nat} {s : Sp} (h : PutTo a r k id r') (hn : ∀ j, id ∉ r j) (hs : a.sp id = some s) : ∃ full : Bool, (full = true ↔ fullS s) ∧ r' = updV r (k * 4 + sd full) (r (k * 4 + sd full) ++ [id]) := by
  obtain ⟨r1, full, hd, hf, rfl⟩ := h
  have := hd.none_ hn
  subst this
  exact ⟨full, full_iff hs hf, rfl⟩
theorem PutTo.nf {a : Ar} {r r' : Nat → List Nat} {k id : Nat} {s : Sp} (h : PutTo a r k id r') (hn : ∀ j, id ∉ r j) (hs : a.sp id = some s) (hf : ¬ fullS s) : r' = updV r (k * 4) (r (k * 4) ++ [id]) := by
  obtain ⟨full, h1, rfl⟩ := h.is hn hs
  cases full with
  | false => rfl
  | true => exact absurd (h1.1 rfl) hf
theorem td_own0 (k : Nat) (hk : 1 ≤ k) : tA3.own 0 k = -1 := by
  show (if k = 0 then ((0 : Nat) : Int) else -1) = -1
  rw [if_neg (by omega)]
theorem td_own1 (k : Nat) (hk : 1 ≤ k) : tA3.own 1 k = -1 := by
  show (if k = 0 then ((1 : Nat) : Int) else -1) = -1
  rw [if_neg (by omega)]
theorem td_rows {r' : Nat → List Nat} (h : FaR tA3.a tA3.own 2 tA3.r r') : r' = updV (fun _ => []) 0 [0, 1] := by
  obtain ⟨r2, ⟨r1, h1, h2⟩, h3⟩ := h
  have e1 : r1 = fun _ => [] := h1
  subst e1
  have h4 := (FlR.only (f := tA3.own 0) (id := 0) rfl (n := 15) (fun k hk _ => td_own0 k hk) h2).nf (fun j hj => by have hj' : 0 ∈ ([] : List Nat) := hj; cases hj') (s := tS2) rfl tS2_nf
  subst h4
  have hnf : ¬ fullS (allocS (spn 2 0) 0 true) := fun h => absurd (h 1 (by decide) (by decide)) (by decide)
  have h5 := (FlR.only (f := tA3.own 1) (id := 1) rfl (n := 15) (fun k hk _ => td_own1 k hk) h3).nf (fun j hj => by
      unfold updV at hj
      split at hj
      · simp at hj
      · cases hj) (s := allocS (spn 2 0) 0 true) rfl hnf
  rw [h5]
  funext j
  unfold updV
  by_cases e : j = 0
  · subst e; rfl
  · rw [if_neg e, if_neg e, if_neg e]
theorem td_bg (j : Nat) : bgR (updV (fun _ => ([] : List Nat)) 0 [0, 1]) 32 j = if j = 2 then [0, 1] else [] := by
  have h := bgR_at (r := updV (fun _ => ([] : List Nat)) 0 [0, 1]) (fun j hj => by unfold updV; rw [if_neg (by omega)]) (fun j hj => by unfold updV; rw [if_neg (by omega)]) j
  rw [h]
  unfold updV
  by_cases e : j = 2
  · subst e; rfl
  · rw [if_neg e]
    split
    · rfl
    · rw [if_neg (by omega)]
theorem td_sw : sweptL tS2 = [0, 1] := by decide +kernel
theorem td_gone : intsN ((sweptL tS2).map tS2.addr) = [64, 65] := by rw [td_sw]; rfl
theorem unsN_one {r : Nat → List Nat} (h : ∀ k, 1 ≤ k → r (k * 4 + 2) = [] ∧ r (k * 4 + 3) = []) : ∀ n, unsN r (n + 1) = (r 2).length + (r 3).length
  | 0 => by simp [unsN]
  | n + 1 => by
    rw [unsN, unsN_one h n, (h (n + 1) (by omega)).1, (h (n + 1) (by omega)).2]; simp
theorem td_uns {a : Ar} {r' : Nat → List Nat} {s : Sp} (h : PutTo a (updV (fun j => if j = 2 then [0, 1] else []) 2 [1]) 0 0 r') (hs : a.sp 0 = some s) : unsN r' 16 = 1 := by
  obtain ⟨full, -, rfl⟩ := h.is (fun j hj => by
    unfold updV at hj
    split at hj
    · simp at hj
    · next e =>
      have hj' : 0 ∈ if j = 2 then [0, 1] else ([] : List Nat) := hj
      rw [if_neg e] at hj'; cases hj') hs
  have h1 := sd_le full
  rw [unsN_one (fun k hk => by
    rw [updV_other _ _ (by omega), updV_other _ _ (by omega), updV_other _ _ (by omega), updV_other _ _ (by omega)]
    exact ⟨if_neg (by omega), if_neg (by omega)⟩) 15]
  have h2 : ∀ L : List Nat, updV (updV (fun j => if j = 2 then [0, 1] else []) 2 [1]) (0 * 4 + sd full) L 2 = [1] := fun L => by
    rw [updV_other _ _ (by omega : 2 ≠ 0 * 4 + sd full)]; rfl
  have h3 : ∀ L : List Nat, updV (updV (fun j => if j = 2 then [0, 1] else []) 2 [1]) (0 * 4 + sd full) L 3 = [] := fun L => by
    rw [updV_other _ _ (by omega : 3 ≠ 0 * 4 + sd full)]; rfl
  rw [h2, h3]
  rfl
end Go.Proofs.YtmafiagakoglkaaGreatDoor
