/- A view that names less: it reaches less. Plain. -/
import Derived.Test.YtfkgooliglcjkaaVwAsk
namespace Go.Proofs.Ytfkgooliglcjkaa

structure LessO (o o' : Ob) : Prop where
  a : o'.addr = o.addr
  m : o'.marked = true
  n : o'.slots.length = o.slots.length
  s : ∀ x ∈ o'.slots, x = 0 ∨ x ∈ o.slots
structure LessOs (os os' : List Ob) : Prop where
  p : ∀ (i : Nat) (o o' : Ob), os[i]? = some o → os'[i]? = some o' → LessO o o'
structure LessV (V V' : Vw) : Prop where
  n : V'.objects.length = V.objects.length
  o : LessOs V.objects V'.objects
  s : ∀ x ∈ V'.said, x = 0 ∨ x ∈ V.said
theorem LessOs.snoc {os os' : List Ob} {o o' : Ob} (h : LessOs os os') (hi : os[os'.length]? = some o) (ho : LessO o o') : LessOs os (os' ++ [o']) := ⟨fun i a b ha hb => by
  rcases Nat.lt_trichotomy i os'.length with h1 | h1 | h1
  · rw [List.getElem?_append_left h1] at hb; exact h.p i a b ha hb
  · subst h1
    rw [List.getElem?_append_right (Nat.le_refl _), Nat.sub_self] at hb
    have e : o' = b := by simpa using hb
    rw [hi] at ha; injection ha with ha
    subst e ha; exact ho
  · rw [List.getElem?_eq_none (by simp; omega)] at hb; cases hb⟩
section
variable {V V' : Vw} {l l' : List Int}
theorem LessV.addrs (h : LessV V V') : V'.objects.map (·.addr) = V.objects.map (·.addr) := by
  apply List.ext_getElem?
  intro i
  rw [List.getElem?_map, List.getElem?_map]
  by_cases hi : i < V.objects.length
  · have h1 := List.getElem?_eq_getElem hi
    have h2 := List.getElem?_eq_getElem (l := V'.objects) (i := i) (by rw [h.n]; exact hi)
    rw [h1, h2]
    simp only [Option.map_some]
    rw [(h.o.p i _ _ h1 h2).a]
  · have h1 : V.objects[i]? = none := List.getElem?_eq_none (by omega)
    have h2 : V'.objects[i]? = none := List.getElem?_eq_none (by rw [h.n]; omega)
    rw [h1, h2]
theorem at_addrs (V : Vw) (a : Int) : V.at_ a = (V.objects.map (·.addr)).findIdx? (· == a) := by
  unfold Vw.at_
  rw [List.findIdx?_map]; rfl
theorem LessV.at_ (h : LessV V V') (a : Int) : V'.at_ a = V.at_ a := by rw [at_addrs, at_addrs, h.addrs]
theorem LessV.rch (h : LessV V V') {x : Int} (hr : Rch V' x) : Rch V x := by
  induction hr with
  | root h1 h0 => exact .root ((h.s _ h1).resolve_left h0) h0
  | @step a x k o _ h1 h2 h3 h0 ih =>
    have e1 : V.at_ a = some k := (h.at_ a).symm.trans h1
    obtain ⟨o2, h4, _⟩ := at_lt e1
    exact .step ih e1 h4 (((h.o.p k _ _ h4 h2).s _ h3).resolve_left h0) h0
theorem LessV.sub (h : LessV V V') (h1 : IsRch V l) (h2 : IsRch V' l') : ∀ x ∈ l', x ∈ l := fun x hx => by
  obtain ⟨h3, h4⟩ := (h2.m x).1 hx
  rw [h.at_] at h4
  exact (h1.m x).2 ⟨h.rch h3, h4⟩
theorem LessV.le (h : LessV V V') (h1 : IsRch V l) (h2 : IsRch V' l') : l'.length ≤ l.length := nodup_le (h2.s.imp fun h => by omega) (h.sub h1 h2)
theorem LessV.white (h : LessV V V') (h2 : IsRch V' l') : whiteL V' l' = [] := by
  unfold whiteL
  rw [List.filter_eq_nil_iff]
  intro a ha
  obtain ⟨_, h4⟩ := (h2.m a).1 ha
  cases hk : V'.at_ a with
  | none => rw [hk] at h4; simp at h4
  | some k =>
    obtain ⟨o', h5, _⟩ := at_lt hk
    rw [markedAt_of hk h5]
    have hlt := (List.getElem?_eq_some_iff.1 h5).1
    have h6 := List.getElem?_eq_getElem (l := V.objects) (i := k) (by rw [← h.n]; exact hlt)
    simp [(h.o.p k _ _ h6 h5).m]
end
end Go.Proofs.Ytfkgooliglcjkaa
