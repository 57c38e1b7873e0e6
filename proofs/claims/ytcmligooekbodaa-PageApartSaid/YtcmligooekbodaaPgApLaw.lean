/- PageApart: plain laws. -/
import Derived.Test.YtcmligooekbodaaPgRunsLaw
import Derived.Test.YtcmligooekbodaaPgLaw2
namespace Go.Proofs.Ytcmligooekbodaa

theorem OkF.gap {l : List R} {lo x : Nat} {r : R} (h : OkF lo l) (hr : r ∈ l) (hx : r.f = x + 1) : ¬ Fr l x := by
  obtain ⟨a, b, rfl⟩ := List.append_of_mem hr
  rw [OkF.append] at h
  rw [fr_append]
  rintro (h1 | h1)
  · have := (h.1.fr h1).2
    have h2 := h.2.1
    omega
  · have := (h.2.fr h1).1
    have h3 : OkF r.f (r :: b) := ⟨Nat.le_refl _, h.2.2⟩
    have := (h3.fr h1).1
    omega
/-- What is handed out lies apart. -/
def Apt (r s : R) : Prop := r.f + r.p ≤ s.f ∨ s.f + s.p ≤ r.f
structure Ap (l got : List R) : Prop where
  ok : Okn 400 l
  fr : ∀ x, Fr l x ↔ 1 ≤ x ∧ x < 400 ∧ ¬ Fr got x
  bd : ∀ r ∈ got, 1 ≤ r.f ∧ 1 ≤ r.p ∧ r.p ≤ 9 ∧ r.f + r.p ≤ 400
  ap : got.Pairwise Apt
/-- Behind i rounds: from there on all is free; H says what is handed out. -/
structure ApH (i : Nat) (l got : List R) (H : Nat → Bool) : Prop where
  a : Ap l got
  hi : ∀ x, 1 + 9 * i ≤ x → x < 400 → Fr l x
  H : ∀ x, x < 400 → (H x = true ↔ Fr got x)
theorem ApH.front {i : Nat} {l got : List R} {H : Nat → Bool} (h : ApH i l got H) (_ : i < 40) {r : R} (hr : r ∈ l) : r.f ≤ 1 + 9 * i := by
  rcases Nat.lt_or_ge (1 + 9 * i) r.f with h1 | h1
  · have hb := h.a.ok.bd r hr
    exact absurd (h.hi (r.f - 1) (by omega) (by omega)) (h.a.ok.1.gap hr (by omega))
  · exact h1
theorem ApH.serves {i : Nat} {l got : List R} {H : Nat → Bool} (h : ApH i l got H) (hi : i < 40) {k : Nat} (hk : 1 ≤ k) (hk9 : k ≤ 9) {a c : Int} {l' : List R} (hs : AllocSays l k a c l') :
    ∃ r : R, a = (r.f : Int) ∧ c = 0 ∧ 1 ≤ r.f ∧ r.f + k ≤ 400 ∧ (∀ x, r.f ≤ x → x < r.f + k → H x = false) ∧ ApH (i + 1) l' (got ++ [⟨r.f, k⟩]) (giveF H r.f k) := by
  obtain ⟨r0, hr0, h1, h2⟩ := h.hi 399 (by omega) (by omega)
  have h3 := h.front hi hr0
  rcases hs with ⟨h4, _⟩ | ⟨_, h4, _⟩ | ⟨_, r, hr, rfl, rfl, rfl⟩
  · omega
  · have := h4 r0 hr0; omega
  · rw [show (k : Int).toNat = k by omega] at hr ⊢
    have hb := h.a.ok.bd r hr.1
    have hkp := hr.2.1
    have hf := h.front hi hr.1
    have hfr := cutR_fr h.a.ok hr.1 hkp
    have hin : ∀ x, r.f ≤ x → x < r.f + k → ¬ Fr got x := fun x a b => ((h.a.fr x).1 ⟨r, hr.1, a, by omega⟩).2.2
    have hone : ∀ x, Fr [(⟨r.f, k⟩ : R)] x ↔ r.f ≤ x ∧ x < r.f + k := fun x => by simp [Fr]
    refine ⟨r, rfl, rfl, hb.1, by omega, fun x a b => ?_, ⟨⟨cutR_ok h.a.ok hr.1 hkp, fun x => ?_, fun s hs => ?_, ?_⟩, fun x a b => ?_, fun x hx => ?_⟩⟩
    · cases hH : H x with
      | false => rfl
      | true => exact absurd ((h.H x (by omega)).1 hH) (hin x a b)
    · rw [hfr, h.a.fr x, fr_append, hone]
      constructor
      · rintro ⟨⟨a, b, c⟩, d⟩; exact ⟨a, b, fun e => e.elim c d⟩
      · rintro ⟨a, b, c⟩; exact ⟨⟨a, b, fun e => c (.inl e)⟩, fun e => c (.inr e)⟩
    · rcases List.mem_append.1 hs with h5 | h5
      · exact h.a.bd s h5
      · have e : s = ⟨r.f, k⟩ := by simpa using h5
        subst e; exact ⟨hb.1, hk, hk9, by show r.f + k ≤ 400; omega⟩
    · rw [List.pairwise_append]
      refine ⟨h.a.ap, by simp, fun s hs t ht => ?_⟩
      have e : t = ⟨r.f, k⟩ := by simpa using ht
      subst e
      have hsb := h.a.bd s hs
      have n1 : ¬ (r.f ≤ s.f ∧ s.f < r.f + k) := fun ⟨a, b⟩ => hin s.f a b ⟨s, hs, by omega, by omega⟩
      have n2 : ¬ (s.f ≤ r.f ∧ r.f < s.f + s.p) := fun ⟨a, b⟩ => hin r.f (by omega) (by omega) ⟨s, hs, a, b⟩
      show s.f + s.p ≤ r.f ∨ r.f + k ≤ s.f
      omega
    · exact (hfr x).2 ⟨h.hi x (by omega) b, by omega⟩
    · unfold giveF
      rw [Bool.or_eq_true, decide_eq_true_iff, h.H x hx, fr_append, hone]
/-- One of them is given back. -/
theorem Ap.back {l a b : List R} {r : R} (h : Ap l (a ++ r :: b)) {c : Int} {l' : List R} (hs : FreeSays 400 l r.f r.p c l') : c = 0 ∧ Ap l' (a ++ b) ∧ ∀ x, Fr l' x ↔ Fr l x ∨ (r.f ≤ x ∧ x < r.f + r.p) := by
  have hb := h.bd r (by simp)
  have hno : ∀ x, r.f ≤ x → x < r.f + r.p → ¬ Fr l x := fun x h1 h2 h3 => ((h.fr x).1 h3).2.2 ⟨r, by simp, h1, h2⟩
  obtain ⟨h1, h2, _, h4⟩ := free_serves h.ok hb.2.1 hb.1 hb.2.2.2 hno hs
  have hp := h.ap
  rw [List.pairwise_append, List.pairwise_cons] at hp
  have hfar : ∀ x, Fr (a ++ b) x → ¬ (r.f ≤ x ∧ x < r.f + r.p) := by
    rintro x ⟨s, hs, h5, h6⟩ ⟨h7, h8⟩
    rcases List.mem_append.1 hs with h9 | h9
    · rcases hp.2.2 s h9 r (by simp) with h10 | h10 <;> omega
    · rcases hp.2.1.1 s h9 with h10 | h10 <;> omega
  refine ⟨h1, ⟨h2, fun x => ?_, fun s hs => h.bd s ?_, ?_⟩, h4⟩
  · rw [h4, h.fr, fr_append, fr_cons]
    have hf := hfar x
    rw [fr_append] at hf ⊢
    constructor
    · rintro (⟨q1, q2, q3⟩ | q1)
      · exact ⟨q1, q2, fun q => q3 (q.imp id .inr)⟩
      · exact ⟨by omega, by omega, fun q => hf q q1⟩
    · rintro ⟨q1, q2, q3⟩
      by_cases q4 : r.f ≤ x ∧ x < r.f + r.p
      · exact .inr q4
      · exact .inl ⟨q1, q2, fun q => by
          rcases q with q | q | q
          · exact q3 (.inl q)
          · exact q4 q
          · exact q3 (.inr q)⟩
  · simp only [List.mem_append, List.mem_cons] at hs ⊢
    exact hs.imp id .inr
  · rw [List.pairwise_append]
    exact ⟨hp.1, hp.2.1.2, fun s hs t ht => hp.2.2 s hs t (by simp [ht])⟩
theorem ApH.back {i : Nat} {l got : List R} {r : R} {H : Nat → Bool} (h : ApH i l (r :: got) H) {c : Int} {l' : List R} (hs : FreeSays 400 l r.f r.p c l') : c = 0 ∧ ApH i l' got (takeF H r.f r.p) := by
  obtain ⟨h1, h2, h3⟩ := Ap.back (a := []) h.a hs
  have hp := h.a.ap
  rw [List.pairwise_cons] at hp
  refine ⟨h1, h2, fun x a b => (h3 x).2 (.inl (h.hi x a b)), fun x hx => ?_⟩
  unfold takeF
  rw [Bool.and_eq_true, Bool.not_eq_true', decide_eq_false_iff_not, h.H x hx, fr_cons]
  constructor
  · rintro ⟨h4 | h4, h5⟩
    · exact absurd h4 h5
    · exact h4
  · intro h4
    refine ⟨.inr h4, fun h5 => ?_⟩
    obtain ⟨s, hs, h6, h7⟩ := h4
    rcases hp.1 s hs with h8 | h8 <;> omega
theorem Ap.twice {l a b : List R} {r : R} (h : Ap l (a ++ r :: b)) {c c2 : Int} {l' l2 : List R} (hs : FreeSays 400 l r.f r.p c l') (hs2 : FreeSays 400 l' r.f r.p c2 l2) : c = 0 ∧ c2 = 5 ∧ Ap l2 (a ++ b) := by
  obtain ⟨h1, h2, h3⟩ := h.back hs
  have hb := h.bd r (by simp)
  obtain ⟨h4, rfl⟩ := free_state2 h2.ok hb.2.1 hb.1 hb.2.2.2 r.f (Nat.le_refl _) (by omega) ((h3 r.f).2 (.inr ⟨Nat.le_refl _, by omega⟩)) hs2
  exact ⟨h1, h4, h2⟩
theorem Ap.whole {l : List R} (h : Ap l []) : l = [⟨1, 399⟩] := one_run' (m := 399) h.ok (by omega) fun x h1 h2 => (h.fr x).2 ⟨h1, h2, fr_nil⟩
theorem ApH.start (H : Nat → Bool) (hH : ∀ x, H x = false) : ApH 0 (newL 400) [] H := by
  have h : ∀ x, Fr (newL 400) x ↔ 1 ≤ x ∧ x < 400 := fun x => by
    rw [show newL 400 = [⟨1, 399⟩] from rfl, fr_cons]
    simp only [fr_nil, or_false]
  exact ⟨⟨newL_ok 400 (by omega), fun x => by rw [h]; simp [fr_nil], by simp, List.Pairwise.nil⟩, fun x a b => (h x).2 ⟨by omega, b⟩, fun x _ => by rw [hH]; simp [fr_nil]⟩
end Go.Proofs.Ytcmligooekbodaa
