/- Reached things are closed; a least way meets no place twice. Plain. -/
import Derived.Test.YtfkgooliglcjkaaVwOwn
import Derived.Test.YtfkgooliglcjkaaVwPath
namespace Go.Proofs.Ytfkgooliglcjkaa

section
variable {V : Vw}
theorem Way.pre : ∀ (n : Nat) {p r : List Int} {x : Int}, r.length = n → Way V (p ++ r) x → p ≠ [] → ∃ a, Way V p a ∧ ∀ q, Way V q a → Way V (q ++ r) x
  | 0, p, r, x, hr, h, _ => by
    have e : r = [] := List.eq_nil_of_length_eq_zero hr
    subst e
    rw [List.append_nil] at h
    exact ⟨x, h, fun q hq => by rw [List.append_nil]; exact hq⟩
  | n + 1, p, r, x, hr, h, hp => by
    obtain ⟨r', y, rfl⟩ : ∃ r' y, r = r' ++ [y] := by
      have hne : r ≠ [] := by intro e; rw [e] at hr; simp at hr
      exact ⟨r.dropLast, r.getLast hne, (List.dropLast_concat_getLast hne).symm⟩
    have hr' : r'.length = n := by simpa using hr
    rw [← List.append_assoc] at h
    generalize hz : p ++ r' ++ [y] = z at h
    cases h with
    | root h1 h2 =>
      have := congrArg List.length hz
      simp at this
      have : p = [] := List.eq_nil_of_length_eq_zero (by omega)
      exact absurd this hp
    | @step p0 a0 _ h1 h2 h3 =>
      obtain ⟨e1, e2⟩ := List.append_inj' hz rfl
      have e3 : y = x := by simpa using e2
      subst e1 e3
      obtain ⟨a, ha, hq⟩ := Way.pre n hr' h1 hp
      exact ⟨a, ha, fun q hw => by rw [← List.append_assoc]; exact .step (hq q hw) h2 h3⟩
theorem take_last {p : List Int} {i : Nat} (hi : i < p.length) : (p.take (i + 1)).getLast? = some p[i] := by
  rw [List.take_succ_eq_append_getElem hi, List.getLast?_concat]
theorem LeastWay.nodup {p : List Int} {x : Int} (h : LeastWay V p x) : p.Nodup := by
  unfold List.Nodup
  rw [List.pairwise_iff_getElem]
  intro i j hi hj hij e
  have hw := h.1
  have d1 : p = p.take (i + 1) ++ p.drop (i + 1) := (List.take_append_drop _ _).symm
  have d2 : p = p.take (j + 1) ++ p.drop (j + 1) := (List.take_append_drop _ _).symm
  have n1 : p.take (i + 1) ≠ [] := by intro e0; have := congrArg List.length e0; rw [List.length_take, List.length_nil] at this; omega
  have n2 : p.take (j + 1) ≠ [] := by intro e0; have := congrArg List.length e0; rw [List.length_take, List.length_nil] at this; omega
  obtain ⟨a, ha, _⟩ := Way.pre _ rfl (by rw [← d1]; exact hw) n1
  obtain ⟨b, hb, hq⟩ := Way.pre _ rfl (by rw [← d2]; exact hw) n2
  have e1 := ha.last.symm.trans (take_last hi)
  have e2 := hb.last.symm.trans (take_last hj)
  injection e1 with e1
  injection e2 with e2
  have e3 : a = b := by rw [e1, e2, e]
  subst e3
  have hl := h.len (hq _ ha)
  have := congrArg List.length d2
  simp only [List.length_append, List.length_take, List.length_drop] at hl
  omega
theorem Way.head {p : List Int} {x : Int} (h : Way V p x) : ∃ r, p[0]? = some r ∧ r ∈ V.rootsL := by
  induction h with
  | root h1 h2 => exact ⟨_, rfl, mem_rootsL.2 ⟨h1, h2⟩⟩
  | @step p b x hp hx h0 ih =>
    obtain ⟨r, h1, h2⟩ := ih
    exact ⟨r, by rw [List.getElem?_append_left hp.pos]; exact h1, h2⟩
theorem Way.link {p : List Int} {x : Int} (h : Way V p x) : ∀ j a b, p[j]? = some a → p[j + 1]? = some b → b ∈ V.slotsAt a := by
  induction h with
  | root h1 h2 => intro j a b _ hb; simp at hb
  | @step p c x hp hx h0 ih =>
    intro j a b ha hb
    by_cases hj : j + 1 < p.length
    · rw [List.getElem?_append_left (by omega)] at ha
      rw [List.getElem?_append_left hj] at hb
      exact ih j a b ha hb
    · have hb' := (List.getElem?_eq_some_iff.1 hb).1
      simp at hb'
      have e : j + 1 = p.length := by omega
      rw [List.getElem?_append_left (by omega)] at ha
      rw [e, List.getElem?_append_right (Nat.le_refl _), Nat.sub_self] at hb
      have e2 : x = b := by simpa using hb
      have h3 := hp.last
      rw [List.getLast?_eq_getElem?, ← e, Nat.add_sub_cancel, ha] at h3
      injection h3 with h3
      subst e2 h3
      exact hx
theorem known_of {l m : List Int} {x : Int} (hl : IsRch V l) (hm : IsLost V m) (h : Rch V x) : x ∈ l ↔ x ∉ m := by
  rw [hl.m, hm.m]
  cases hs : (V.at_ x).isSome <;> simp [h]
theorem Way.objs {p : List Int} {x : Int} (h : Way V p x) : ∀ a ∈ p, a = x ∨ (V.at_ a).isSome = true := by
  induction h with
  | root h1 h2 => intro a ha; exact .inl (List.mem_singleton.1 ha)
  | @step p b x hp hx h0 ih =>
    intro a ha
    rcases List.mem_append.1 ha with h1 | h1
    · rcases ih a h1 with h2 | h2
      · subst h2
        obtain ⟨k, o, h3, _⟩ := slotsAt_obj hx
        exact .inr (by rw [h3]; rfl)
      · exact .inr h2
    · exact .inl (List.mem_singleton.1 h1)
theorem LeastWay.le_reach {l p : List Int} {x : Int} (h : LeastWay V p x) (hl : IsRch V l) (hx : x ∈ l) : p.length ≤ l.length := nodup_le h.nodup fun a ha => by
  have hr := h.1.mem a ha
  rcases h.1.objs a ha with h1 | h1
  · rw [h1]; exact hx
  · exact (hl.m a).2 ⟨hr, h1⟩
end
end Go.Proofs.Ytfkgooliglcjkaa
