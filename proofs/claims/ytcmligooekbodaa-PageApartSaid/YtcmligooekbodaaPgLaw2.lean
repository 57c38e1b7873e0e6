/- Runs of free pages: plain laws for PageMerges, PageApart, PageLefts, PagePlays. No program in sight. -/
import Derived.Test.YtcmligooekbodaaPgBestLaw
namespace Go.Proofs.Ytcmligooekbodaa

theorem joinR_sum (l : List R) (i : Nat) : sumR (joinR l i) = sumR l := by
  by_cases h : i < l.length
  · obtain ⟨a, r, b, rfl, rfl⟩ : ∃ a r b, l = a ++ r :: b ∧ a.length = i := ⟨l.take i, l[i], l.drop (i + 1), by rw [List.getElem_cons_drop]; exact (List.take_append_drop i l).symm, by rw [List.length_take]; omega⟩
    rw [joinR_at]
    cases b with
    | nil => rfl
    | cons s b' =>
      simp only
      split
      · simp [sumR]; omega
      · rfl
  · unfold joinR
    rw [List.getElem?_eq_none (by omega)]
theorem backR_sum (l : List R) (f k : Nat) : sumR (backR l f k) = sumR l + k := by
  obtain ⟨a, b, e, hl, _, _⟩ := plc_split l f
  have h1 : sumR (l.insertIdx (plc l f) ⟨f, k⟩) = sumR l + k := by
    rw [← hl]
    conv => lhs; rw [e, ins_at]
    rw [e]; simp [sumR]; omega
  unfold backR
  simp only
  split <;> simp [joinR_sum, h1]

/-- Pages that are handed out are not free; given back at once they are taken. -/
theorem free_taken {n : Nat} {l : List R} {r : R} {k : Nat} {c : Int} {l' : List R} (h : Okn n l) (hb : Best l k r) (hk : 1 ≤ k) (hs : FreeSays n (cutR l r k) r.f k c l') :
    c = 0 ∧ Okn n l' ∧ sumR l' = sumR l := by
  have hr := hb.1
  have hkp := hb.2.1
  have hbd := h.bd r hr
  have h2 := cutR_ok h hr hkp
  have hno : ¬ ∃ x, r.f ≤ x ∧ x < r.f + k ∧ Fr (cutR l r k) x := by
    rintro ⟨x, h3, h4, h5⟩
    exact ((cutR_fr h hr hkp x).1 h5).2 ⟨h3, h4⟩
  rcases hs with ⟨h1, _⟩ | ⟨_, ⟨h1, _⟩ | ⟨_, hc, hl⟩⟩
  · omega
  · simp only [Int.toNat_natCast] at h1
    exact absurd ((someR_iff h2 hk).1 h1) hno
  · simp only [Int.toNat_natCast] at hl
    have h3 := backR_ok h2 hk hbd.1 (by omega) hno
    have h4 := cut_sum h hr hkp
    rw [hl]
    exact ⟨hc, h3.1, by rw [backR_sum]; exact h4⟩
/-- Free, where it serves. -/
theorem free_serves {n : Nat} {l : List R} {f k : Nat} {c : Int} {l' : List R} (h : Okn n l) (hk : 1 ≤ k) (hf : 1 ≤ f) (hn : f + k ≤ n) (hno : ∀ x, f ≤ x → x < f + k → ¬ Fr l x) (hs : FreeSays n l f k c l') :
    c = 0 ∧ Okn n l' ∧ sumR l' = sumR l + k ∧ ∀ x, Fr l' x ↔ Fr l x ∨ (f ≤ x ∧ x < f + k) := by
  have hno' : ¬ ∃ x, f ≤ x ∧ x < f + k ∧ Fr l x := by rintro ⟨x, h3, h4, h5⟩; exact hno x h3 h4 h5
  rcases hs with ⟨h1, _⟩ | ⟨_, ⟨h1, _⟩ | ⟨_, hc, hl⟩⟩
  · omega
  · simp only [Int.toNat_natCast] at h1
    exact absurd ((someR_iff h hk).1 h1) hno'
  · simp only [Int.toNat_natCast] at hl
    have h3 := backR_ok h hk hf hn hno'
    rw [hl]
    exact ⟨hc, h3.1, backR_sum l f k, h3.2⟩
/-- Free, where something is free. -/
theorem free_state2 {n : Nat} {l : List R} {f k : Nat} {c : Int} {l' : List R} (h : Okn n l) (hk : 1 ≤ k) (hf : 1 ≤ f) (hn : f + k ≤ n) (x : Nat) (h1 : f ≤ x) (h2 : x < f + k) (hx : Fr l x) (hs : FreeSays n l f k c l') :
    c = 5 ∧ l' = l := by
  rcases hs with ⟨h1, _⟩ | ⟨_, ⟨_, hc, hl⟩ | ⟨h3, _⟩⟩
  · omega
  · exact ⟨hc, hl⟩
  · simp only [Int.toNat_natCast] at h3
    exact absurd ((someR_iff h hk).2 ⟨x, h1, h2, hx⟩) h3

/-! Neighbours. -/
theorem OkF.at {l : List R} {lo : Nat} (h : OkF lo l) {j : Nat} {r : R} (hr : l[j]? = some r) : lo ≤ r.f ∧ 1 ≤ r.p ∧ r.f + r.p + 1 ≤ nxt1 lo l := h.bd r (List.mem_of_getElem? hr)
theorem OkF.next : ∀ {l : List R} {lo : Nat}, OkF lo l → ∀ {j : Nat} {r s : R}, l[j]? = some r → l[j + 1]? = some s → r.f + r.p + 1 ≤ s.f
  | [], _, _, _, _, _, h, _ => by simp at h
  | q :: t, _, h, 0, r, s, h1, h2 => by
    simp at h1; subst h1
    exact (h.2.2.at (j := 0) h2).1
  | q :: t, _, h, j + 1, r, s, h1, h2 => by
    exact h.2.2.next (j := j) (by simpa using h1) (by simpa using h2)

/-! How many runs there are. -/
def stc (F : Nat → Bool) : Nat → Nat → Bool → Nat
  | _, 0, _ => 0
  | i, m + 1, b => (if F i = true ∧ b = false then 1 else 0) + stc F (i + 1) m (F i)
theorem stc_succ (F : Nat → Bool) (i m : Nat) (b : Bool) : stc F i (m + 1) b = (if F i = true ∧ b = false then 1 else 0) + stc F (i + 1) m (F i) := rfl
theorem stc_le (F : Nat → Bool) : ∀ m i b, stc F i m b ≤ m
  | 0, _, _ => Nat.le_refl _
  | m + 1, i, b => by have := stc_le F m (i + 1) (F i); rw [stc_succ]; split <;> omega
theorem stc_false (F : Nat → Bool) (i m : Nat) : stc F i (m + 1) false = (if F i = true then 1 else 0) + stc F (i + 1) m (F i) := by
  rw [stc_succ]; by_cases h : F i = true <;> simp [h]
theorem stc_true (F : Nat → Bool) (i m : Nat) : stc F i (m + 1) true = stc F (i + 1) m (F i) := by
  rw [stc_succ]; simp
theorem scan_len (F : Nat → Bool) : ∀ m i, (scanR F i m).length = stc F i m false
  | 0, _ => rfl
  | m + 1, i => by
    have ih := scan_len F m (i + 1)
    obtain ⟨h1, _, h3⟩ := scanR_ok F m (i + 1)
    rw [scanR_succ, stc_false]
    by_cases hi : F i = true
    · rw [if_pos hi, if_pos hi, hi]
      cases m with
      | zero => rfl
      | succ m =>
        rw [stc_true]
        rw [stc_false] at ih
        have h4 := h3 (i + 1)
        generalize scanR F (i + 1) (m + 1) = c at ih h1 h3 h4 ⊢
        cases c with
        | nil =>
          simp only [List.length_nil, List.length_cons] at ih ⊢
          omega
        | cons r t =>
          simp only [List.length_cons] at ih ⊢
          by_cases e : r.f = i + 1
          · rw [if_pos e]
            have hF : F (i + 1) = true := (h4.1 (fr_cons.2 (.inl ⟨by omega, by have := h1.2.1; omega⟩))).2.2
            rw [if_pos hF] at ih
            simp only [List.length_cons]; omega
          · rw [if_neg e]
            have hF : ¬ F (i + 1) = true := fun q => by
              have h5 := h4.2 ⟨Nat.le_refl _, by omega, q⟩
              have h6 := h1.1
              rcases fr_cons.1 h5 with h7 | h7
              · omega
              · have := (h1.2.2.fr h7).1; omega
            rw [if_neg hF] at ih
            simp only [List.length_cons]; omega
    · have hf : F i = false := by simpa using hi
      rw [if_neg hi, if_neg hi, hf, ih]; omega

/-- All pages are free: one run. -/
theorem one_run {m : Nat} {l : List R} (h : Okn (m + 1) l) (hm : 1 ≤ m) (hs : sumR l = m) : l = [⟨1, m⟩] := by
  obtain ⟨h1, h2⟩ := h
  cases l with
  | nil => simp [sumR] at hs; omega
  | cons r t =>
    have h3 := h1.1
    have h4 := h1.2.1
    have e : sumR (r :: t) = r.p + sumR t := rfl
    have h6 : nxt1 1 (r :: t) = nxt1 (r.f + r.p + 1) t := rfl
    cases t with
    | nil =>
      have : sumR [] = 0 := rfl
      have h7 : nxt1 (r.f + r.p + 1) [] = r.f + r.p + 1 := rfl
      have e1 : r.p = m := by omega
      have e2 : r.f = 1 := by omega
      cases r; simp_all
    | cons s t' =>
      exfalso
      have h7 := sum_bd h1.2.2.2.2
      have h8 := h1.2.2.1
      have h9 : nxt1 (r.f + r.p + 1) (s :: t') = nxt1 (s.f + s.p + 1) t' := rfl
      have e5 : sumR (s :: t') = s.p + sumR t' := rfl
      omega
/-- All pages are free: one run, by pages. -/
theorem one_run' {m : Nat} {l : List R} (h : Okn (m + 1) l) (hm : 1 ≤ m) (hf : ∀ x, 1 ≤ x → x < m + 1 → Fr l x) : l = [⟨1, m⟩] := by
  refine okf_uniq h.1 (⟨Nat.le_refl _, hm, trivial⟩ : OkF 1 [⟨1, m⟩]) fun x => ?_
  rw [fr_cons]
  simp only [fr_nil, or_false]
  constructor
  · intro q; have := h.1.fr q; have := h.2; omega
  · rintro ⟨q1, q2⟩; exact hf x q1 (by omega)

/-! PageMerges: steps that meet each page once. -/
theorem step_apart {m d i j : Nat} (hc : Nat.gcd d m = 1) (hij : j < i) (hi : i < m) : j * d % m ≠ i * d % m := by
  intro e
  have h1 : m ∣ i * d - j * d := Nat.dvd_of_mod_eq_zero (Nat.sub_mod_eq_zero_of_mod_eq e.symm)
  rw [← Nat.sub_mul] at h1
  have h2 : Nat.Coprime m d := by unfold Nat.Coprime; rw [Nat.gcd_comm]; exact hc
  have h3 := h2.dvd_of_dvd_mul_right h1
  have := Nat.le_of_dvd (by omega) h3
  omega
theorem step_mod (m d i : Nat) : (i * d % m + d) % m = (i + 1) * d % m := by rw [Nat.add_mul, Nat.one_mul, Nat.mod_add_mod]
/-- What is free behind i rounds. -/
def mrgF (m d i x : Nat) : Bool := (List.range i).any fun j => j * d % m + 1 == x
theorem mrgF_succ (m d i x : Nat) : mrgF m d (i + 1) x = (mrgF m d i x || (i * d % m + 1 == x)) := by simp [mrgF, List.range_succ]
theorem mrgF_zero (m d i : Nat) : mrgF m d i 0 = false := by simp [mrgF]
theorem mrgF_new {m d i : Nat} (hc : Nat.gcd d m = 1) (hi : i < m) : mrgF m d i (i * d % m + 1) = false := by
  rw [mrgF, List.any_eq_false]
  intro j hj
  have := step_apart hc (List.mem_range.1 hj) hi
  simp; omega
end Go.Proofs.Ytcmligooekbodaa
