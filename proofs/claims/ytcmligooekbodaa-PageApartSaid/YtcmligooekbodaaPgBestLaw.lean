/- PageBest: plain laws. -/
import Derived.Test.YtcmligooekbodaaPgTold
namespace Go.Proofs.Ytcmligooekbodaa

theorem plc_all {l : List R} {f : Nat} (h : ∀ r ∈ l, r.f < f) : plc l f = l.length := by
  unfold plc
  congr 1
  induction l with
  | nil => rfl
  | cons r t ih =>
    rw [List.takeWhile_cons_of_pos (by simpa using h r (by simp)), ih (fun s hs => h s (by simp [hs]))]
/-- Pages that are given back behind all runs, with one page between, are a run of their own. -/
theorem free_behind {n : Nat} {l : List R} {at_ k : Nat} {c : Int} {l' : List R} (h : OkF 1 l) (hx : nxt1 1 l ≤ at_) (hk : 1 ≤ k) (hn : at_ + k ≤ n) (hs : FreeSays n l at_ k c l') : c = 0 ∧ l' = l ++ [⟨at_, k⟩] ∧ OkF 1 l' ∧ nxt1 1 l' = at_ + k + 1 := by
  have hge := h.nxt_ge
  have hb : ∀ r ∈ l, r.f + r.p + 1 ≤ at_ := fun r hr => by have := (h.bd r hr).2.2; omega
  have hp : plc l at_ = l.length := plc_all fun r hr => by have := hb r hr; omega
  rcases hs with ⟨h1, _⟩ | ⟨_, ⟨h1, _⟩ | ⟨_, hc, hl⟩⟩
  · omega
  · exfalso
    rcases h1 with ⟨r, h1, h2, h3⟩ | ⟨r, h2, h3⟩
    · simp only [Int.toNat_natCast] at h2 h3
      have := hb r (List.mem_of_getElem? h2)
      omega
    · simp only [Int.toNat_natCast] at h2 h3
      rw [hp, List.getElem?_eq_none (Nat.le_refl _)] at h2
      cases h2
  · simp only [Int.toNat_natCast] at hl
    have e : l' = l ++ [⟨at_, k⟩] := by
      have h5 := backR_split (a := l) (b := []) (first := at_) (k := k) (by rw [List.append_nil]; exact hp.symm)
      rw [List.append_nil] at h5
      rw [hl, h5]
      cases List.eq_nil_or_concat l with
      | inl h6 => subst h6; rfl
      | inr h6 =>
        obtain ⟨a, q, rfl⟩ := h6
        have hq := hb q (by simp)
        rw [if_neg (by simp)]
        have h7 := joinR_at a q (frontR at_ k [])
        have e1 : (a ++ [q]).length - 1 = a.length := by simp
        have e2 : a ++ [q] ++ frontR at_ k [] = a ++ q :: frontR at_ k [] := by simp
        rw [List.concat_eq_append, e1, e2, h7]
        simp only [frontR]
        rw [if_neg (by show ¬ q.f + q.p = at_; omega)]
        simp
    refine ⟨hc, e, ?_, ?_⟩
    · rw [e, OkF.append]; exact ⟨h, hx, hk, trivial⟩
    · rw [e, nxt1_snoc]

/-- What PageBest keeps in mind: best of the runs so far for w. -/
structure Bst (w : Nat) (l : List R) (b : R) : Prop where
  none : b.p = 0 → (∀ r ∈ l, r.p < w) ∧ b.f = 0
  some : b.p ≠ 0 → Best l w b
theorem Bst.nil (w : Nat) : Bst w [] ⟨0, 0⟩ := ⟨fun _ => ⟨by simp, rfl⟩, fun h => absurd rfl h⟩
theorem Bst.snoc {w at_ n : Nat} {l : List R} {b : R} (h : Bst w l b) (hf : ∀ r ∈ l, r.f < at_) (hn : 1 ≤ n) :
    Bst w (l ++ [⟨at_, n⟩]) (if w ≤ n ∧ (b.p = 0 ∨ n < b.p) then ⟨at_, n⟩ else b) := by
  by_cases hc : w ≤ n ∧ (b.p = 0 ∨ n < b.p)
  · rw [if_pos hc]
    refine ⟨fun h0 => by simp only at h0; omega, fun _ => ⟨by simp, hc.1, fun s hs hk => ?_⟩⟩
    rcases List.mem_append.1 hs with hs | hs
    · rcases hc.2 with h0 | h0
      · have := (h.none h0).1 s hs; omega
      · by_cases hb : b.p = 0
        · omega
        · have := (h.some hb).2.2 s hs hk
          left; show n < s.p; omega
    · have : s = ⟨at_, n⟩ := by simpa using hs
      subst this; right; exact ⟨rfl, Nat.le_refl _⟩
  · rw [if_neg hc]
    refine ⟨fun h0 => ⟨fun r hr => ?_, (h.none h0).2⟩, fun hb => ⟨List.mem_append_left _ (h.some hb).1, (h.some hb).2.1, fun s hs hk => ?_⟩⟩
    · rcases List.mem_append.1 hr with hr | hr
      · exact (h.none h0).1 r hr
      · have : r = ⟨at_, n⟩ := by simpa using hr
        subst this; show n < w; omega
    · rcases List.mem_append.1 hs with hs | hs
      · exact (h.some hb).2.2 s hs hk
      · have : s = ⟨at_, n⟩ := by simpa using hs
        subst this
        have h1 : w ≤ n := hk
        have h2 := hf b (h.some hb).1
        by_cases h3 : b.p < n
        · exact .inl h3
        · right; exact ⟨by show b.p = n; omega, by show b.f ≤ at_; omega⟩
theorem Best.uniq {l : List R} {k : Nat} {r s : R} (h1 : Best l k r) (h2 : Best l k s) : r = s := by
  have a := h1.2.2 s h2.1 h2.2.1
  have b := h2.2.2 r h1.1 h1.2.1
  cases r; cases s
  simp only [R.mk.injEq] at *
  omega
theorem cut_sum {n : Nat} {l : List R} {r : R} {k : Nat} (h : Okn n l) (hr : r ∈ l) (hk : k ≤ r.p) : sumR (cutR l r k) + k = sumR l := by
  obtain ⟨a, b, rfl⟩ := List.append_of_mem hr
  rw [cutR_split h.1]
  split
  · simp [sumR]; omega
  · simp [sumR]; omega
end Go.Proofs.Ytcmligooekbodaa
