/- Words of 64 bits that say which numbers are in a set. Plain laws; no program in sight. -/
import Derived.Laws.Bits64
import Derived.Laws.Bits64b
import Derived.Lib.TrailingZeros
namespace Go.Proofs.YtkocikpoagfonaaDoor

/-- The number whose bits are F's first ones. -/
def bw (F : Nat → Bool) : Nat → Nat
  | 0 => 0
  | k + 1 => bw F k + if F k = true then 2 ^ k else 0
theorem bw_lt (F : Nat → Bool) : ∀ k, bw F k < 2 ^ k
  | 0 => by simp [bw]
  | k + 1 => by
    have := bw_lt F k
    rw [bw, Nat.pow_succ]
    split <;> omega
theorem bw_bit (F : Nat → Bool) : ∀ k j, (bw F k).testBit j = (decide (j < k) && F j)
  | 0, j => by simp [bw]
  | k + 1, j => by
    have ih := bw_bit F k
    have hl := bw_lt F k
    rw [bw]
    by_cases hF : F k = true
    · rw [if_pos hF, Nat.add_comm]
      rcases Nat.lt_trichotomy j k with h | h | h
      · rw [Nat.testBit_two_pow_add_gt h, ih, decide_eq_true h, decide_eq_true (by omega)]
      · subst h
        rw [Nat.testBit_two_pow_add_eq, ih, hF]
        simp
      · rw [Nat.testBit_lt_two_pow (Nat.lt_of_lt_of_le (Nat.add_lt_add_left hl _) (by rw [← Nat.two_mul, ← Nat.pow_succ']; exact Nat.pow_le_pow_right (by decide) h)), decide_eq_false (by omega)]
        rfl
    · rw [if_neg hF, Nat.add_zero, ih]
      by_cases h : j = k
      · subst h
        have : F j = false := by cases h2 : F j <;> simp_all
        rw [this]; simp
      · congr 1
        exact decide_eq_decide.2 (by omega)
theorem bw_ext {F G : Nat → Bool} {k : Nat} (h : ∀ j, j < k → F j = G j) : bw F k = bw G k := by
  apply Nat.eq_of_testBit_eq
  intro j
  rw [bw_bit, bw_bit]
  by_cases hj : j < k
  · rw [h j hj]
  · rw [decide_eq_false hj]; rfl
def flipF (F : Nat → Bool) (i x : Nat) : Bool := if x = i then !(F x) else F x
theorem bw_flip (F : Nat → Bool) {i k : Nat} (hi : i < k) : bw F k ^^^ 2 ^ i = bw (flipF F i) k := by
  apply Nat.eq_of_testBit_eq
  intro j
  rw [Nat.testBit_xor, bw_bit, bw_bit, Nat.testBit_two_pow]
  unfold flipF
  by_cases h : j = i
  · subst h
    simp [hi]
  · rw [if_neg h, decide_eq_false (Ne.symm h)]
    simp
theorem bw_not (F : Nat → Bool) : ∀ k, 2 ^ k - 1 - bw F k = bw (fun x => !(F x)) k
  | 0 => rfl
  | k + 1 => by
    have ih := bw_not F k
    have hl := bw_lt F k
    simp only [bw]
    rw [← ih, Nat.pow_succ]
    by_cases hF : F k = true
    · rw [if_pos hF, if_neg (by simp [hF])]; omega
    · rw [if_neg hF, if_pos (by simpa using hF)]; omega
theorem bw_div_bit (F : Nat → Bool) (k s j : Nat) : (bw F k / 2 ^ s).testBit j = (decide (s + j < k) && F (s + j)) := by
  rw [Nat.testBit_div_two_pow, bw_bit, Nat.add_comm]
theorem bw_has (F : Nat → Bool) {k s : Nat} (hs : s < k) : bw F k / 2 ^ s % 2 = if F s = true then 1 else 0 := by
  have h := bw_div_bit F k s 0
  rw [Nat.add_zero, Nat.testBit_zero, decide_eq_true hs, Bool.true_and] at h
  have h2 := Nat.mod_two_eq_zero_or_one (bw F k / 2 ^ s)
  cases hF : F s
  · rw [hF] at h
    rw [if_neg (by decide)]
    rcases h2 with h3 | h3
    · exact h3
    · rw [h3] at h; simp at h
  · rw [hF] at h
    rw [if_pos rfl]
    simpa using h
theorem bw_zero {F : Nat → Bool} {k s : Nat} (h : bw F k / 2 ^ s = 0) : ∀ x, s ≤ x → x < k → F x = false := fun x h1 h2 => by
  have := bw_div_bit F k s (x - s)
  rw [h, Nat.zero_testBit, show s + (x - s) = x by omega, decide_eq_true h2, Bool.true_and] at this
  exact this.symm
theorem ctz_bit {x : Nat} (h0 : x ≠ 0) (hx : x < 2 ^ 64) : x.testBit (Lib.ctz 64 x) = true ∧ (∀ t, t < Lib.ctz 64 x → x.testBit t = false) ∧ Lib.ctz 64 x < 64 := by
  obtain ⟨m, hm, hk⟩ := Lib.ctzFrom_spec 64 x (by omega) hx
  have e : Lib.ctz 64 x = Lib.ctzFrom 64 x := by unfold Lib.ctz; rw [if_neg h0]
  rw [e]
  generalize Lib.ctzFrom 64 x = c at hm hk ⊢
  subst hm
  rw [Nat.mul_comm]
  refine ⟨?_, fun t ht => ?_, hk⟩
  · rw [Nat.testBit_mul_two_pow]; simp
  · rw [Nat.testBit_mul_two_pow, decide_eq_false (by omega)]; rfl
/-- The least one from s on. -/
theorem bw_next {F : Nat → Bool} {s : Nat} (h : bw F 64 / 2 ^ s ≠ 0) : ∃ y, y = s + Lib.ctz 64 (bw F 64 / 2 ^ s) ∧ y < 64 ∧ F y = true ∧ ∀ x, s ≤ x → x < y → F x = false := by
  have hlt : bw F 64 / 2 ^ s < 2 ^ 64 := Nat.lt_of_le_of_lt (Nat.div_le_self ..) (bw_lt F 64)
  obtain ⟨h1, h2, h3⟩ := ctz_bit h hlt
  rw [bw_div_bit, Bool.and_eq_true, decide_eq_true_iff] at h1
  refine ⟨_, rfl, h1.1, h1.2, fun x hx hy => ?_⟩
  have := h2 (x - s) (by omega)
  rw [bw_div_bit, show s + (x - s) = x by omega, decide_eq_true (by omega), Bool.true_and] at this
  exact this
/-- What Next tells. -/
def NextSays (n : Nat) (G : Nat → Bool) (from_ : Nat) (r : Int) : Prop := (r = -1 ∧ ∀ x, from_ ≤ x → x < n → G x = false) ∨ ∃ y : Nat, r = y ∧ from_ ≤ y ∧ y < n ∧ G y = true ∧ ∀ x, from_ ≤ x → x < y → G x = false
theorem next_zero {n : Nat} {F : Nat → Bool} {s : Nat} (hn : n ≤ 64) (h : bw F 64 / 2 ^ s = 0) : NextSays n F s (-1) := .inl ⟨rfl, fun x h1 h2 => bw_zero h x h1 (by omega)⟩
theorem next_some {n : Nat} {F : Nat → Bool} {s : Nat} (h : bw F 64 / 2 ^ s ≠ 0) (hl : s + Lib.ctz 64 (bw F 64 / 2 ^ s) < n) : NextSays n F s ((s + Lib.ctz 64 (bw F 64 / 2 ^ s) : Nat) : Int) := by
  obtain ⟨y, rfl, h1, h2, h3⟩ := bw_next h
  exact .inr ⟨_, rfl, by omega, hl, h2, h3⟩
theorem next_far {n : Nat} {F : Nat → Bool} {s : Nat} (h : bw F 64 / 2 ^ s ≠ 0) (hl : n ≤ s + Lib.ctz 64 (bw F 64 / 2 ^ s)) : NextSays n F s (-1) := by
  obtain ⟨y, rfl, h1, h2, h3⟩ := bw_next h
  exact .inl ⟨rfl, fun x h4 h5 => h3 x h4 (by omega)⟩
/-- How many. -/
def cntF (F : Nat → Bool) : Nat → Nat
  | 0 => 0
  | k + 1 => cntF F k + if F k = true then 1 else 0
theorem cntF_le (F : Nat → Bool) : ∀ k, cntF F k ≤ k
  | 0 => Nat.le_refl _
  | k + 1 => by have := cntF_le F k; rw [cntF]; split <;> omega
theorem cntF_ext {F G : Nat → Bool} : ∀ {k : Nat}, (∀ j, j < k → F j = G j) → cntF F k = cntF G k
  | 0, _ => rfl
  | k + 1, h => by rw [cntF, cntF, cntF_ext (fun j hj => h j (by omega)), h k (by omega)]
theorem cntF_flip {F : Nat → Bool} {i : Nat} : ∀ {k : Nat}, i < k → cntF (flipF F i) k + (if F i = true then 1 else 0) = cntF F k + (if F i = true then 0 else 1)
  | 0, h => by omega
  | k + 1, h => by
    rw [cntF, cntF]
    by_cases e : i = k
    · subst e
      rw [cntF_ext (F := flipF F i) (G := F) fun j hj => by unfold flipF; rw [if_neg (by omega)]]
      unfold flipF
      cases hF : F i <;> simp
    · have ih := cntF_flip (F := F) (i := i) (k := k) (by omega)
      have e2 : flipF F i k = F k := by unfold flipF; rw [if_neg (Ne.symm e)]
      rw [e2]
      omega
theorem cntF_zero {F : Nat → Bool} : ∀ {k : Nat}, cntF F k = 0 → ∀ x, x < k → F x = false
  | 0, _, x, hx => by omega
  | k + 1, h, x, hx => by
    rw [cntF] at h
    by_cases e : x = k
    · subst e
      cases hF : F x
      · rfl
      · rw [hF, if_pos rfl] at h; omega
    · exact cntF_zero (k := k) (by omega) x (by omega)
end Go.Proofs.YtkocikpoagfonaaDoor
