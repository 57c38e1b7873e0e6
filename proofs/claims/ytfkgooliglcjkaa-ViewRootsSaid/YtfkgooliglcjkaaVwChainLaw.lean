/- A chain of objects, cut at a place: what can be reached, and the ways. Plain. -/
import Derived.Test.YtfkgooliglcjkaaVwTold
namespace Go.Proofs.Ytfkgooliglcjkaa

def chO (c k i : Nat) : Ob := ⟨(64 + i : Nat), [if i + 1 < k ∧ i + 1 ≠ c then ((65 + i : Nat) : Int) else 0], false⟩
def chL (c k n : Nat) : List Ob := (List.range n).map (chO c k)
def chG (k : Nat) (held : Bool) : List Int := if held then [64, ((64 + k - 1 : Nat) : Int)] else [64]
def chV (c k : Nat) (held : Bool) : Vw := ⟨0, 0, 0, chG k held, [], chL c k k, 0, 0, 0⟩
def chFar (c k : Nat) : Nat := min c k
def chR (c k : Nat) (held : Bool) : List Int := (List.range (chFar c k)).map (fun i => ((64 + i : Nat) : Int)) ++ if held = true ∧ chFar c k < k then [((64 + k - 1 : Nat) : Int)] else []
def chWant (c k : Nat) (held : Bool) : Nat := chFar c k + if held = true ∧ chFar c k < k then 1 else 0
theorem chL_len (c k n : Nat) : (chL c k n).length = n := by simp [chL]
theorem chL_snoc (c k n : Nat) : chL c k (n + 1) = chL c k n ++ [chO c k n] := by simp [chL, List.range_succ]
theorem chL_get {c k n i : Nat} {o : Ob} (h : (chL c k n)[i]? = some o) : i < n ∧ o = chO c k i := by
  unfold chL at h
  rw [List.getElem?_map] at h
  by_cases hi : i < n
  · rw [List.getElem?_range hi] at h
    exact ⟨hi, by simpa using h.symm⟩
  · rw [List.getElem?_eq_none (by simp; omega)] at h; simp at h
theorem chL_at {c k n i : Nat} (h : i < n) : (chL c k n)[i]? = some (chO c k i) := by
  unfold chL; rw [List.getElem?_map, List.getElem?_range h]; rfl
theorem chR_len (c k : Nat) (held : Bool) : (chR c k held).length = chWant c k held := by
  unfold chR chWant; rw [List.length_append]; split <;> simp
section
variable {c k : Nat} {held : Bool}
theorem ch_at {a : Int} {j : Nat} (h : (chV c k held).at_ a = some j) : j < k ∧ a = ((64 + j : Nat) : Int) := by
  obtain ⟨o, h1, h2⟩ := at_lt h
  obtain ⟨h3, rfl⟩ := chL_get h1
  exact ⟨h3, h2.symm⟩
theorem ch_isSome {i : Nat} (h : i < k) : (chV c k held).at_ ((64 + i : Nat) : Int) = some i := by
  cases hj : (chV c k held).at_ ((64 + i : Nat) : Int) with
  | none =>
    exfalso
    unfold Vw.at_ at hj
    rw [List.findIdx?_eq_none_iff] at hj
    have := hj (chO c k i) (List.mem_of_getElem? (chL_at h))
    simp [chO] at this
  | some j =>
    have := (ch_at hj).2
    congr 1; omega
theorem ch_said {x : Int} : x ∈ (chV c k held).said ↔ x = 64 ∨ (held = true ∧ x = ((64 + k - 1 : Nat) : Int)) := by
  unfold Vw.said chV chG
  cases held <;> simp
theorem ch_slots {a x : Int} (h : x ∈ (chV c k held).slotsAt a) (h0 : x ≠ 0) : ∃ j : Nat, j + 1 < k ∧ j + 1 ≠ c ∧ a = ((64 + j : Nat) : Int) ∧ x = ((65 + j : Nat) : Int) := by
  obtain ⟨j, o, h1, h2, h3⟩ := slotsAt_obj h
  obtain ⟨hj, ha⟩ := ch_at h1
  obtain ⟨_, rfl⟩ := chL_get h2
  by_cases hc : j + 1 < k ∧ j + 1 ≠ c
  · simp only [chO, if_pos hc] at h3
    exact ⟨j, hc.1, hc.2, ha, by simpa using h3⟩
  · simp only [chO, if_neg hc] at h3
    exact absurd (by simpa using h3) h0
theorem ch_slots' {j : Nat} (h1 : j + 1 < k) (h2 : j + 1 ≠ c) : ((65 + j : Nat) : Int) ∈ (chV c k held).slotsAt ((64 + j : Nat) : Int) := by
  rw [slotsAt_of (ch_isSome (by omega)) (chL_at (by omega))]
  simp only [chO, if_pos (And.intro h1 h2)]
  exact List.mem_singleton.2 rfl
theorem ch_way {i : Nat} (h1 : i < chFar c k) : ∃ p, Way (chV c k held) p ((64 + i : Nat) : Int) ∧ p.length = i + 1 := by
  induction i with
  | zero => exact ⟨_, .root (ch_said.2 (.inl rfl)) (by simp), rfl⟩
  | succ i ih =>
    obtain ⟨p, hp, hl⟩ := ih (by omega)
    unfold chFar at h1
    have e : ((64 + (i + 1) : Nat) : Int) = ((65 + i : Nat) : Int) := by omega
    rw [e]
    exact ⟨_, .step hp (ch_slots' (by omega) (by omega)) (by omega), by simp [hl]⟩
theorem ch_end (hk : 1 ≤ k) : held = true → ∃ p, Way (chV c k held) p ((64 + (k - 1) : Nat) : Int) ∧ p.length = 1 := fun h =>
  ⟨_, .root (ch_said.2 (.inr ⟨h, by omega⟩)) (by omega), rfl⟩
theorem ch_wayLen {p : List Int} {x : Int} (h : Way (chV c k held) p x) (hk : 1 ≤ k) : ∃ i : Nat, x = ((64 + i : Nat) : Int) ∧ ((i < chFar c k ∧ 1 ≤ c ∧ p.length = i + 1) ∨ (1 ≤ c → False) ∨ (held = true ∧ i + 1 = k ∧ p.length = 1)) := by
  by_cases hc : 1 ≤ c
  · induction h with
    | root h1 _ =>
      rcases ch_said.1 h1 with rfl | ⟨g1, rfl⟩
      · exact ⟨0, rfl, .inl ⟨by unfold chFar; omega, hc, rfl⟩⟩
      · exact ⟨k - 1, by omega, .inr (.inr ⟨g1, by omega, rfl⟩)⟩
    | step _ hx h0 ih =>
      obtain ⟨i, e, hi⟩ := ih
      obtain ⟨j, h1, h2, h3, h4⟩ := ch_slots hx h0
      have e2 : j = i := by omega
      subst e2
      refine ⟨j + 1, by omega, ?_⟩
      rcases hi with ⟨g1, _, g2⟩ | g | ⟨_, g, _⟩
      · exact .inl ⟨by unfold chFar at *; omega, hc, by simp [g2]⟩
      · exact absurd hc g
      · omega
  · cases h with
    | root h1 _ =>
      rcases ch_said.1 h1 with rfl | ⟨g1, rfl⟩
      · exact ⟨0, rfl, .inr (.inl hc)⟩
      · exact ⟨k - 1, by omega, .inr (.inl hc)⟩
    | step _ hx h0 =>
      obtain ⟨j, h1, h2, h3, h4⟩ := ch_slots hx h0
      exact ⟨j + 1, by omega, .inr (.inl hc)⟩
theorem ch_isRch (hc : 1 ≤ c) (hk : 1 ≤ k) : IsRch (chV c k held) (chR c k held) := by
  refine ⟨?_, fun x => ⟨fun hx => ?_, fun ⟨hr, _⟩ => ?_⟩⟩
  · unfold Rising chR
    rw [List.pairwise_append]
    refine ⟨?_, ?_, ?_⟩
    · rw [List.pairwise_map]
      exact List.pairwise_lt_range.imp fun h => by omega
    · split <;> simp
    · intro a ha b hb
      split at hb
      · next h =>
        have hb := List.mem_singleton.1 hb
        obtain ⟨i, hi, rfl⟩ := List.mem_map.1 ha
        have hi := List.mem_range.1 hi
        omega
      · simp at hb
  · unfold chR at hx
    rcases List.mem_append.1 hx with hx | hx
    · obtain ⟨i, hi, rfl⟩ := List.mem_map.1 hx
      have hi := List.mem_range.1 hi
      obtain ⟨p, hp, _⟩ := ch_way (held := held) hi
      exact ⟨hp.rch, by rw [ch_isSome (by unfold chFar at hi; omega)]; rfl⟩
    · split at hx
      · next h =>
        have hx := List.mem_singleton.1 hx
        obtain ⟨p, hp, _⟩ := ch_end (c := c) hk h.1
        rw [show x = ((64 + (k - 1) : Nat) : Int) by omega]
        exact ⟨hp.rch, by rw [ch_isSome (by omega)]; rfl⟩
      · simp at hx
  · obtain ⟨p, hp⟩ := hr.way
    obtain ⟨i, rfl, h⟩ := ch_wayLen hp hk
    unfold chR
    rw [List.mem_append]
    rcases h with ⟨h, _⟩ | h | ⟨h1, h2, _⟩
    · exact .inl (List.mem_map.2 ⟨i, List.mem_range.2 h, rfl⟩)
    · exact absurd hc h
    · by_cases hf : i < chFar c k
      · exact .inl (List.mem_map.2 ⟨i, List.mem_range.2 hf, rfl⟩)
      · right
        rw [if_pos ⟨h1, by unfold chFar at *; omega⟩]
        exact List.mem_singleton.2 (by omega)
theorem ch_reach {l : List Int} (hc : 1 ≤ c) (hk : 1 ≤ k) (h : IsRch (chV c k held) l) : l = chR c k held := h.uniq (ch_isRch hc hk)
/-- How many links a path shows. -/
def chLinks (c k : Nat) (held : Bool) (i : Nat) : Nat := if held = true ∧ i + 1 = k then 1 else if i < chFar c k then i + 1 else 0
theorem ch_path {i : Nat} {p : List Int} (hc : 1 ≤ c) (hi : i < k) (h : IsPath (chV c k held) ((64 + i : Nat) : Int) p) : p.length = chLinks c k held i ∧ (0 < p.length → p[p.length - 1]? = some ((64 + i : Nat) : Int)) := by
  unfold chLinks
  rcases h with ⟨rfl, h⟩ | ⟨_, h⟩
  · refine ⟨?_, by simp⟩
    rcases h with h | h
    · rw [ch_isSome hi] at h; simp at h
    · rw [if_neg, if_neg]
      · rfl
      · intro hf
        obtain ⟨p, hp, _⟩ := ch_way (held := held) hf
        exact h hp.rch
      · rintro ⟨h1, h2⟩
        obtain ⟨p, hp, _⟩ := ch_end (c := c) (k := k) (by omega) h1
        rw [show k - 1 = i by omega] at hp
        exact h hp.rch
  · refine ⟨?_, fun _ => by have := h.1.last; rwa [List.getLast?_eq_getElem?] at this⟩
    obtain ⟨j, e, hj⟩ := ch_wayLen h.1 (by omega)
    have e2 : j = i := by omega
    subst e2
    by_cases hh : held = true ∧ j + 1 = k
    · rw [if_pos hh]
      obtain ⟨q, hq, hl⟩ := ch_end (c := c) (k := k) (by omega) hh.1
      rw [show k - 1 = j by omega] at hq
      have := h.len hq
      have := h.1.pos
      omega
    · rw [if_neg hh]
      rcases hj with ⟨h1, _, h2⟩ | h1 | ⟨h1, h2, _⟩
      · rw [if_pos h1, h2]
      · exact absurd hc h1
      · exact absurd ⟨h1, h2⟩ hh
theorem ch_white : whiteL (chV c k held) (chR c k held) = chR c k held := by
  unfold whiteL
  rw [List.filter_eq_self]
  intro a _
  cases h : (chV c k held).at_ a with
  | none => unfold Vw.markedAt; rw [h]; rfl
  | some j =>
    obtain ⟨o, h1, _⟩ := at_lt h
    rw [markedAt_of h h1]
    obtain ⟨_, rfl⟩ := chL_get h1
    rfl
theorem ch_words : ∀ n, wordsN (chL c k n) = n
  | 0 => rfl
  | n + 1 => by
    have h1 := words_take (os := chL c k (n + 1)) (i := n) (o := chO c k n) (chL_at (Nat.lt_succ_self n))
    have e1 : (chL c k (n + 1)).take (n + 1) = chL c k (n + 1) := List.take_of_length_le (by rw [chL_len]; omega)
    have e2 : (chL c k (n + 1)).take n = chL c k n := by rw [chL_snoc, List.take_left' (chL_len c k n)]
    rw [e1, e2, ch_words n] at h1
    rw [h1]
    congr 1
theorem ch_small (hk : k ≤ 1000) : Small (chV c k held) := by
  refine ⟨?_, by simp [chV], by simp [chV, chL_len]; omega⟩
  unfold Vw.names
  rw [List.length_append]
  have h1 : (chV c k held).said.length ≤ 2 := by unfold Vw.said chV chG; cases held <;> simp
  have h2 : ∀ n, ((chL c k n).flatMap (·.slots)).length = n := by
    intro n
    induction n with
    | zero => rfl
    | succ n ih => rw [chL_snoc, List.flatMap_append, List.length_append, ih]; rfl
  have h3 := h2 k
  have e : (chV c k held).objects = chL c k k := rfl
  rw [e, h3]; omega
end
end Go.Proofs.Ytfkgooliglcjkaa
