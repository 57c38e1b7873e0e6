/- A rising list with a number, once; the document's walk along all names. Plain. -/
import Derived.Test.YtfkgooliglcjkaaVwRoots
namespace Go.Proofs.Ytfkgooliglcjkaa

def putL : List Int → Int → List Int
  | [], x => [x]
  | y :: l, x => if y < x then y :: putL l x else if y = x then y :: l else x :: y :: l
theorem mem_putL : ∀ {l : List Int} {x y : Int}, y ∈ putL l x ↔ y ∈ l ∨ y = x
  | [], x, y => by simp [putL]
  | a :: l, x, y => by
    unfold putL
    split
    · rw [List.mem_cons, mem_putL, List.mem_cons, or_assoc]
    · split
      · next h => rw [List.mem_cons]
                  constructor
                  · exact .inl
                  · rintro (h1 | h1)
                    · exact h1
                    · exact .inl (by omega)
      · rw [List.mem_cons]; exact Or.comm
theorem rising_putL : ∀ {l : List Int} {x : Int}, Rising l → Rising (putL l x)
  | [], x, _ => by simp [putL, Rising]
  | a :: l, x, h => by
    have h1 := List.pairwise_cons.1 h
    unfold putL
    split
    · next h2 => exact List.pairwise_cons.2 ⟨fun b hb => by
        rcases mem_putL.1 hb with h3 | h3
        · exact h1.1 b h3
        · omega, rising_putL h1.2⟩
    · split
      · exact h
      · exact List.pairwise_cons.2 ⟨fun b hb => by
          rcases List.mem_cons.1 hb with h3 | h3
          · omega
          · have := h1.1 b h3; omega, h⟩
theorem len_putL : ∀ (l : List Int) (x : Int), (putL l x).length ≤ l.length + 1
  | [], x => by simp [putL]
  | a :: l, x => by
    unfold putL
    split
    · have := len_putL l x; simp only [List.length_cons]; omega
    · split <;> simp
theorem putL_old : ∀ {l : List Int} {x : Int} {i : Nat}, (∀ j y, j < i → l[j]? = some y → y < x) → l[i]? = some x → putL l x = l
  | [], _, _, _, h => by simp at h
  | a :: l, x, 0, _, h => by
    have e : a = x := by simpa using h
    unfold putL; rw [if_neg (by omega), if_pos e]
  | a :: l, x, i + 1, h1, h => by
    have e := h1 0 a (by omega) rfl
    unfold putL
    rw [if_pos e, putL_old (i := i) (fun j y hj hy => h1 (j + 1) y (by omega) (by simpa using hy)) (by simpa using h)]
theorem putL_new : ∀ {l : List Int} {x : Int} {i : Nat}, i ≤ l.length → (∀ j y, j < i → l[j]? = some y → y < x) → (∀ y, l[i]? = some y → x < y) → putL l x = l.take i ++ x :: l.drop i
  | [], x, i, hi, _, _ => by simp [putL]
  | a :: l, x, 0, _, _, h => by
    have e := h a rfl
    unfold putL; rw [if_neg (by omega), if_neg (by omega)]; rfl
  | a :: l, x, i + 1, hi, h1, h => by
    have e := h1 0 a (by omega) rfl
    unfold putL
    rw [if_pos e, putL_new (i := i) (by simpa using hi) (fun j y hj hy => h1 (j + 1) y (by omega) (by simpa using hy)) (fun y hy => h y (by simpa using hy))]
    rfl

/-- The document's walk: places l, lost names, P: the names that it has looked at. -/
structure RwL (V : Vw) (P : Int → Prop) (l : List Nat) (lost : List Int) : Prop where
  nd : l.Nodup
  so : ∀ p ∈ l, ∃ a, Rch V a ∧ V.at_ a = some p
  lr : Rising lost
  ls : ∀ x ∈ lost, Rch V x ∧ V.at_ x = none
  co : ∀ x, P x → x ≠ 0 → (∃ p ∈ l, V.at_ x = some p) ∨ x ∈ lost
section
variable {V : Vw} {P : Int → Prop} {l : List Nat} {lost : List Int} {x : Int}
theorem RwL.start (V : Vw) : RwL V (fun _ => False) [] [] := ⟨List.nodup_nil, by simp, List.Pairwise.nil, by simp, fun _ h => h.elim⟩
theorem RwL.congr {Q : Int → Prop} (h : RwL V P l lost) (e : ∀ x, x ≠ 0 → Q x → P x) : RwL V Q l lost := ⟨h.nd, h.so, h.lr, h.ls, fun x hx h0 => h.co x (e x h0 hx) h0⟩
theorem RwL.zero (h : RwL V P l lost) (hx : x = 0) : RwL V (fun y => P y ∨ y = x) l lost := h.congr fun y h0 hy => by
  rcases hy with hy | hy
  · exact hy
  · exact absurd (hy.trans hx) h0
theorem RwL.lost_ (h : RwL V P l lost) (hx : Rch V x) (ha : V.at_ x = none) : RwL V (fun y => P y ∨ y = x) l (putL lost x) :=
  ⟨h.nd, h.so, rising_putL h.lr, fun y hy => by
    rcases mem_putL.1 hy with h1 | rfl
    · exact h.ls y h1
    · exact ⟨hx, ha⟩, fun y hy h0 => by
    rcases hy with hy | rfl
    · rcases h.co y hy h0 with h1 | h1
      · exact .inl h1
      · exact .inr (mem_putL.2 (.inl h1))
    · exact .inr (mem_putL.2 (.inr rfl))⟩
theorem RwL.old {p : Nat} (h : RwL V P l lost) (ha : V.at_ x = some p) (hp : p ∈ l) : RwL V (fun y => P y ∨ y = x) l lost :=
  ⟨h.nd, h.so, h.lr, h.ls, fun y hy h0 => by
    rcases hy with hy | rfl
    · exact h.co y hy h0
    · exact .inl ⟨p, hp, ha⟩⟩
theorem RwL.new {p : Nat} (h : RwL V P l lost) (hx : Rch V x) (ha : V.at_ x = some p) (hp : p ∉ l) : RwL V (fun y => P y ∨ y = x) (l ++ [p]) lost :=
  ⟨by rw [List.nodup_append]; exact ⟨h.nd, by simp, fun a hal b hb => by simp at hb; subst hb; rintro rfl; exact hp hal⟩, fun q hq => by
    rcases List.mem_append.1 hq with h1 | h1
    · exact h.so q h1
    · rw [List.mem_singleton.1 h1]; exact ⟨x, hx, ha⟩, h.lr, h.ls, fun y hy h0 => by
    rcases hy with hy | rfl
    · rcases h.co y hy h0 with ⟨q, h1, h2⟩ | h1
      · exact .inl ⟨q, List.mem_append_left _ h1, h2⟩
      · exact .inr h1
    · exact .inl ⟨p, by simp, ha⟩⟩
/-- The reached places. -/
structure IsPls (V : Vw) (l : List Nat) : Prop where
  nd : l.Nodup
  m : ∀ p, p ∈ l ↔ ∃ a, Rch V a ∧ V.at_ a = some p
theorem RwL.fin (h : RwL V P l lost) (h1 : ∀ x ∈ V.said, x ≠ 0 → P x) (h2 : ∀ p ∈ l, ∀ o, V.objects[p]? = some o → ∀ x ∈ o.slots, x ≠ 0 → P x) : IsPls V l ∧ IsLost V lost := by
  have main : ∀ x, Rch V x → (∃ p ∈ l, V.at_ x = some p) ∨ x ∈ lost := by
    intro x hx
    induction hx with
    | root g1 g2 => exact h.co _ (h1 _ g1 g2) g2
    | @step a x k o ha g1 g2 g3 g4 ih =>
      rcases ih with ⟨p, hp, e⟩ | hl
      · rw [g1] at e; injection e with e; subst e
        exact h.co _ (h2 _ hp o g2 _ g3 g4) g4
      · have := (h.ls _ hl).2; rw [g1] at this; cases this
  refine ⟨⟨h.nd, fun p => ⟨h.so p, ?_⟩⟩, ⟨h.lr, fun x => ⟨fun hx => ?_, ?_⟩⟩⟩
  · rintro ⟨a, ha, e⟩
    rcases main a ha with ⟨q, hq, e'⟩ | hl
    · rw [e] at e'; injection e' with e'; subst e'; exact hq
    · have := (h.ls _ hl).2; rw [e] at this; cases this
  · obtain ⟨a, b⟩ := h.ls x hx; exact ⟨a, by rw [b]; rfl⟩
  · rintro ⟨hx, hn⟩
    rcases main x hx with ⟨q, hq, e⟩ | hl
    · rw [e] at hn; cases hn
    · exact hl
theorem IsPls.lt (h : IsPls V l) {p : Nat} (hp : p ∈ l) : ∃ o, V.objects[p]? = some o ∧ V.at_ o.addr = some p ∧ Rch V o.addr := by
  obtain ⟨a, ha, e⟩ := (h.m p).1 hp
  have e0 := e
  unfold Vw.at_ at e
  obtain ⟨hlt, hp1, _⟩ := List.findIdx?_eq_some_iff_getElem.1 e
  have hpa : V.objects[p].addr = a := by simpa using hp1
  exact ⟨V.objects[p], List.getElem?_eq_getElem hlt, by rw [hpa]; exact e0, by rw [hpa]; exact ha⟩
def addrAt (V : Vw) (p : Nat) : Int := match V.objects[p]? with | some o => o.addr | none => 0
theorem addrAt_of {p : Nat} {o : Ob} (h : V.objects[p]? = some o) : addrAt V p = o.addr := by unfold addrAt; rw [h]
theorem isRch_of_pls (h : IsPls V l) {out : List Int} (hr : Rising out) (hm : ∀ x, x ∈ out ↔ ∃ p ∈ l, addrAt V p = x) : IsRch V out := by
  refine ⟨hr, fun x => ?_⟩
  rw [hm]
  constructor
  · rintro ⟨p, hp, rfl⟩
    obtain ⟨o, ho, ha, hx⟩ := h.lt hp
    rw [addrAt_of ho]
    exact ⟨hx, by rw [ha]; rfl⟩
  · rintro ⟨hx, hs⟩
    cases e : V.at_ x with
    | none => rw [e] at hs; cases hs
    | some p =>
      have hp := (h.m p).2 ⟨x, hx, e⟩
      refine ⟨p, hp, ?_⟩
      unfold Vw.at_ at e
      obtain ⟨hlt, hp1, _⟩ := List.findIdx?_eq_some_iff_getElem.1 e
      rw [addrAt_of (List.getElem?_eq_getElem hlt)]
      simpa using hp1
end
end Go.Proofs.Ytfkgooliglcjkaa
