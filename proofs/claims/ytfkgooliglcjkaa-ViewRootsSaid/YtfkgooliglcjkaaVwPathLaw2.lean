/- Ways in a view: more plain laws. -/
import Derived.Test.YtfkgooliglcjkaaVwPathLaw
namespace Go.Proofs.Ytfkgooliglcjkaa
open Go.RowKit Go.Maps

theorem PthL.empty {V : Vw} {n : Nat} {F : Int → Option Int} {S : List Int} (h : PthL V n F [] S) {p : List Int} {x : Int} (hp : Way V p x) : ∃ q, Way V q x ∧ q.length ≤ n := by
  induction hp with
  | @root x h1 h2 =>
    cases n with
    | zero => obtain ⟨_, h3⟩ := h.all _ _ (.root h1 h2) rfl (fun q hq => hq.pos); simp at h3
    | succ n => exact ⟨_, .root h1 h2, by simp⟩
  | @step p a x _ hx h0 ih =>
    obtain ⟨q, hq, hl⟩ := ih
    by_cases hs : ∃ r, Way V r x ∧ r.length ≤ n
    · exact hs
    · exfalso
      have hge : ∀ r, Way V r x → n + 1 ≤ r.length := fun r hr => by
        rcases Nat.lt_or_ge r.length (n + 1) with h1 | h1
        · exact absurd ⟨r, hr, by omega⟩ hs
        · exact h1
      have h1 := hge _ (.step hq hx h0)
      obtain ⟨_, h3⟩ := h.all _ _ (.step hq hx h0) (by simp at h1 ⊢; omega) hge
      simp at h3
theorem PthN.congr {V : Vw} {F0 F : Int → Option Int} {W N : List (List Int × Int)} {D D' : List Int × Int → Int → Prop} (h : PthN V F0 W D F N) (e : ∀ x b, D x b ↔ D' x b) : PthN V F0 W D' F N := by
  have : D = D' := by funext x b; exact propext (e x b)
  rw [← this]; exact h
def objW (V : Vw) (W : List (List Int × Int)) : List (List Int × Int) := W.filter fun e => (V.at_ e.2).isSome
def D3 (V : Vw) (W' : List (List Int × Int)) (i : Nat) (e : List Int × Int) (b : Int) : Prop := ∃ k, k < i ∧ W'[k]? = some e ∧ b ∈ V.slotsAt e.2
def D4 (V : Vw) (W' : List (List Int × Int)) (i j : Nat) (e : List Int × Int) (b : Int) : Prop := D3 V W' i e b ∨ (W'[i]? = some e ∧ b ∈ (srt (V.slotsAt e.2)).take j)
theorem D3_zero (V : Vw) (W' : List (List Int × Int)) (e : List Int × Int) (b : Int) : False ↔ D3 V W' 0 e b := by
  constructor
  · exact fun h => h.elim
  · rintro ⟨k, hk, _⟩; omega
theorem D4_zero (V : Vw) (W' : List (List Int × Int)) (i : Nat) (e : List Int × Int) (b : Int) : D3 V W' i e b ↔ D4 V W' i 0 e b := by simp [D4]
theorem D4_all (V : Vw) {W' : List (List Int × Int)} {i m : Nat} {c : List Int × Int} (hc : W'[i]? = some c) (hm : m = (srt (V.slotsAt c.2)).length) (e : List Int × Int) (b : Int) : D4 V W' i m e b ↔ D3 V W' (i + 1) e b := by
  subst hm
  constructor
  · rintro (⟨k, hk, h⟩ | ⟨h1, h2⟩)
    · exact ⟨k, by omega, h⟩
    · rw [hc] at h1; injection h1 with h1; subst h1
      rw [List.take_length] at h2
      exact ⟨i, by omega, hc, srt_mem.1 h2⟩
  · rintro ⟨k, hk, h1, h2⟩
    by_cases e1 : k = i
    · subst e1
      rw [hc] at h1; injection h1 with h1; subst h1
      exact .inr ⟨hc, by rw [List.take_length]; exact srt_mem.2 h2⟩
    · exact .inl ⟨k, by omega, h1, h2⟩
theorem D4_succ (V : Vw) {W' : List (List Int × Int)} {i j : Nat} {c : List Int × Int} {y : Int} (hc : W'[i]? = some c) (hy : (srt (V.slotsAt c.2))[j]? = some y) (e : List Int × Int) (b : Int) : (D4 V W' i j e b ∨ (e = c ∧ b = y)) ↔ D4 V W' i (j + 1) e b := by
  unfold D4
  constructor
  · rintro ((h | ⟨h1, h2⟩) | ⟨rfl, rfl⟩)
    · exact .inl h
    · rw [hc] at h1; injection h1 with h1; subst h1
      exact .inr ⟨hc, by rw [take_succ_get hy]; exact List.mem_append_left _ h2⟩
    · exact .inr ⟨hc, by rw [take_succ_get hy]; simp⟩
  · rintro (h | ⟨h1, h2⟩)
    · exact .inl (.inl h)
    · rw [hc] at h1; injection h1 with h1; subst h1
      rw [take_succ_get hy] at h2
      rcases List.mem_append.1 h2 with h3 | h3
      · exact .inl (.inr ⟨hc, h3⟩)
      · exact .inr ⟨rfl, by simpa using h3⟩
theorem srt_le (xs : List Int) {i j : Nat} {a b : Int} (hij : i < j) (ha : (srt xs)[i]? = some a) (hb : (srt xs)[j]? = some b) : a ≤ b := by
  have h1 : (srt xs).Pairwise fun a b => decide (a ≤ b) = true := List.pairwise_mergeSort (fun a b c h1 h2 => by simp at *; omega) (fun a b => by simp; omega) xs
  obtain ⟨h2, rfl⟩ := List.getElem?_eq_some_iff.1 ha
  obtain ⟨h3, rfl⟩ := List.getElem?_eq_some_iff.1 hb
  exact of_decide_eq_true (List.pairwise_iff_getElem.1 h1 i j h2 h3 hij)
theorem D4_before {V : Vw} {W' : List (List Int × Int)} (hs : W'.Pairwise fun a b => lexLt a.1 b.1) {i j : Nat} {c : List Int × Int} {y : Int} (hc : W'[i]? = some c) (hy : (srt (V.slotsAt c.2))[j]? = some y) : ∀ e b, D4 V W' i j e b → lexLt e.1 c.1 ∨ (e = c ∧ b ≤ y) := by
  rintro e b (⟨k, hk, h1, _⟩ | ⟨h1, h2⟩)
  · left
    obtain ⟨g1, rfl⟩ := List.getElem?_eq_some_iff.1 h1
    obtain ⟨g2, rfl⟩ := List.getElem?_eq_some_iff.1 hc
    exact List.pairwise_iff_getElem.1 hs k i g1 g2 hk
  · right
    rw [hc] at h1; injection h1 with h1; subst h1
    refine ⟨rfl, ?_⟩
    obtain ⟨k, hk⟩ := List.getElem?_of_mem h2
    rw [List.getElem?_take] at hk
    split at hk
    · next hkj => exact srt_le _ hkj hk hy
    · cases hk
theorem objW_mem {V : Vw} {W : List (List Int × Int)} {i : Nat} {c : List Int × Int} (h : (objW V W)[i]? = some c) : c ∈ W ∧ (V.at_ c.2).isSome = true := by
  have := List.mem_of_getElem? h
  unfold objW at this
  exact List.mem_filter.1 this
theorem objW_so {V : Vw} {W : List (List Int × Int)} (h : W.Pairwise fun a b => lexLt a.1 b.1) : (objW V W).Pairwise fun a b => lexLt a.1 b.1 := h.filter _
theorem D3_all {V : Vw} {W : List (List Int × Int)} : ∀ e ∈ W, ∀ b ∈ V.slotsAt e.2, D3 V (objW V W) (objW V W).length e b := fun e he b hb => by
  obtain ⟨k, o, h1, _⟩ := slotsAt_obj hb
  have : e ∈ objW V W := List.mem_filter.2 ⟨he, by rw [h1]; rfl⟩
  obtain ⟨i, hi⟩ := List.getElem?_of_mem this
  exact ⟨i, (List.getElem?_eq_some_iff.1 hi).1, hi, hb⟩
theorem thereL_map (V : Vw) (W : List (List Int × Int)) : thereL V (W.map (·.2)) = (objW V W).map (·.2) := by
  unfold thereL objW
  rw [List.filter_map]; rfl
theorem thereL_yes {V : Vw} {l : List Int} {a : Int} {i k : Nat} (ha : l[i]? = some a) (hk : V.at_ a = some k) : thereL V (l.take (i + 1)) = thereL V (l.take i) ++ [a] := by rw [take_succ_get ha]; simp [thereL, hk]
theorem thereL_no {V : Vw} {l : List Int} {a : Int} {i : Nat} (ha : l[i]? = some a) (hk : V.at_ a = none) : thereL V (l.take (i + 1)) = thereL V (l.take i) := by rw [take_succ_get ha]; simp [thereL, hk]
theorem thereL_len (V : Vw) (l : List Int) (i : Nat) : (thereL V (l.take i)).length ≤ l.length := Nat.le_trans (List.length_filter_le _ _) (by rw [List.length_take]; omega)
/-- What is no way of n + 1 either. -/
theorem PthL.notYet {V : Vw} {n : Nat} {F : Int → Option Int} {W : List (List Int × Int)} {S : List Int} {addr : Int} (h : PthL V n F W S) (hA : ∀ q : List Int, ∀ x, Way V q x → q.length ≤ n → x ≠ addr) (hn : addr ∉ W.map (·.2)) :
    ∀ q : List Int, ∀ x, Way V q x → q.length ≤ n + 1 → x ≠ addr := fun q x hq hl e => by
  subst e
  have hge : ∀ r, Way V r x → n + 1 ≤ r.length := fun r hr => by
    rcases Nat.lt_or_ge r.length (n + 1) with h1 | h1
    · exact absurd rfl (hA r x hr (by omega))
    · exact h1
  have := hge q hq
  obtain ⟨p', hp'⟩ := h.all q x hq (by omega) hge
  exact hn (List.mem_map.2 ⟨_, hp', rfl⟩)
theorem drop_cons_get {p : List Int} {j : Nat} {a : Int} (h : p[j]? = some a) : p.drop j = a :: p.drop (j + 1) := by
  obtain ⟨hi, rfl⟩ := List.getElem?_eq_some_iff.1 h
  exact List.drop_eq_getElem_cons hi
theorem PthN.len {V : Vw} {F0 F : Int → Option Int} {W N : List (List Int × Int)} {D : List Int × Int → Int → Prop} (h : PthN V F0 W D F N) : N.length ≤ V.names.length := by
  have := nodup_le (m := V.names) h.nd fun x hx => by
    obtain ⟨q, hq, rfl⟩ := List.mem_map.1 hx
    obtain ⟨e, g1, _⟩ := h.nn q hq
    obtain ⟨k, o, _, h2, h3⟩ := slotsAt_obj (h.sub e _ g1).2
    unfold Vw.names
    exact List.mem_append_right _ (List.mem_flatMap.2 ⟨o, List.mem_of_getElem? h2, h3⟩)
  simpa using this
end Go.Proofs.Ytfkgooliglcjkaa
