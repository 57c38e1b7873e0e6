/- HeapSwept: plain parts: what stays through sweeps; marks; the pages suffice. -/
import Derived.Test.YtmafiagakoglkaaGreatDoorHpP
namespace Go.Proofs.YtmafiagakoglkaaGreatDoor
open Go.RowKit Go.Maps

/-- An object that is there, and is marked, or its span is not to be swept. -/
def Sty (A : HpA) (x : Nat) : Prop := ∃ id s i, A.a.sp id = some s ∧ i < slK s.k ∧ s.F i = true ∧ x = s.addr i ∧ (s.M i = true ∨ ∀ j, 2 ≤ j % 4 → id ∉ A.r j)
/-- An object that is there and is marked. -/
def Mkd (A : HpA) (x : Nat) : Prop := ∃ id s i, A.a.sp id = some s ∧ i < slK s.k ∧ s.F i = true ∧ x = s.addr i ∧ s.M i = true
theorem Mkd.sty {A B : HpA} {x : Nat} (h : Mkd A x) (e : B.a.sp = A.a.sp) : Sty B x := by
  obtain ⟨id, s, i, h1, h2, h3, h4, h5⟩ := h
  exact ⟨id, s, i, by rw [e]; exact h1, h2, h3, h4, .inl h5⟩
theorem Sty.ob {A : HpA} {x N : Nat} (h : Sty A x) (J : ArI N A.a) : (A.a.ob x).isSome = true := by
  obtain ⟨id, s, i, h1, h2, h3, h4, -⟩ := h
  exact (J.ok.ob x).2 ⟨id, s, i, h1, h2, h3, h4⟩
theorem allocS_F {s : Sp} {y i : Nat} {black : Bool} (h : s.F i = true) : (allocS s y black).F i = true := by
  show setF s.F y i = true
  unfold setF
  split
  · rfl
  · exact h
theorem allocS_M {s : Sp} {y i : Nat} {black : Bool} (h : s.M i = true) : (allocS s y black).M i = true := by
  cases black with
  | false => exact h
  | true =>
    show setF s.M y i = true
    unfold setF
    split
    · rfl
    · exact h
section
variable {p k n x : Nat} {black : Bool} {A A' : HpA} {g : List Int} {f pp id : Nat} {s0 : Sp} {y : Nat} {D : Nat → Prop} (T : AlS p k n black A x g A' f pp id s0 y D)
include T
theorem AlS.un {i : Nat} (h : D i) : ∃ j, 2 ≤ j % 4 ∧ i ∈ A.r j := by
  rcases T.d i h with h1 | h1
  · exact ⟨_, by omega, h1⟩
  · exact ⟨_, by omega, h1⟩
theorem AlS.keeps {i i' : Nat} {s : Sp} (hs : A.a.sp i = some s) (hi : i' < slK s.k) (hF : s.F i' = true) (hM : s.M i' = true ∨ ¬ D i) : ∃ s', A'.a.sp i = some s' ∧ s'.k = s.k ∧ s'.first = s.first ∧ s'.F i' = true ∧ (i ≠ id → ¬ D i → s' = s) ∧ (¬ D i → s.M i' = true → s'.M i' = true) := by
  by_cases e : i = id
  · subst e
    rcases T.e0 with ⟨t, ht, htr, -⟩ | ⟨h3, -⟩
    · rw [hs] at ht; injection ht with ht; subst ht
      rcases htr with ⟨h3, u, e1, e2⟩ | ⟨h3, e2⟩
      · injection e1 with e1; subst e1; injection e2 with e2; subst e2
        exact ⟨_, T.spid, rfl, rfl, allocS_F (s := sweptS s) (hM.resolve_right (fun h => h h3)), fun h => absurd rfl h, fun h => absurd h3 h⟩
      · injection e2 with e2; subst e2
        exact ⟨_, T.spid, rfl, rfl, allocS_F hF, fun h => absurd rfl h, fun _ h => allocS_M h⟩
    · rw [hs] at h3; cases h3
  · rcases T.sp i e with ⟨h3, t, h4, h5⟩ | ⟨h3, h4⟩
    · rw [hs] at h4; injection h4 with h4; subst h4
      exact ⟨_, h5, rfl, rfl, hM.resolve_right (fun h => h h3), fun _ h => absurd h3 h, fun h => absurd h3 h⟩
    · exact ⟨s, h4.trans hs, rfl, rfl, hF, fun _ _ => rfl, fun _ h => h⟩
theorem AlS.sty {N : Nat} (J : ArI N A.a) (hk : k < 16) (hl : A.a.l = [⟨f, pp⟩]) (hpp : pgK k < pp) {z : Nat} (h : Sty A z) : Sty A' z ∧ z ≠ x := by
  have hob := h.ob J
  obtain ⟨i, s, i', h1, h2, h3, h4, h5⟩ := h
  have hM : s.M i' = true ∨ ¬ D i := by
    rcases h5 with h5 | h5
    · exact .inl h5
    · exact .inr fun h => by
        obtain ⟨j, hj, hm⟩ := T.un h
        exact h5 j hj hm
  refine ⟨?_, fun e => ?_⟩
  · obtain ⟨s', e1, e2, e3, e4, e5, e6⟩ := T.keeps h1 h2 h3 hM
    refine ⟨i, s', i', e1, by rw [e2]; exact h2, e4, by rw [h4]; unfold Sp.addr; rw [e2, e3], ?_⟩
    by_cases hD : D i
    · exact .inr fun j hj hm => ((T.r j i hj).1 hm).2 hD
    · rcases h5 with h5 | h5
      · exact .inl (e6 hD h5)
      · exact .inr fun j hj hm => h5 j hj ((T.r j i hj).1 hm).1
  · subst e
    have hg := T.new_ J hk hl hpp hob
    obtain ⟨i2, s2, hD, hs2, hm⟩ := (T.eg _).1 hg
    unfold swI intsN at hm
    obtain ⟨z2, hz2, e⟩ := List.mem_map.1 hm
    obtain ⟨i3, hi3, rfl⟩ := List.mem_map.1 hz2
    obtain ⟨g1, g2, g3⟩ := swept_mem.1 hi3
    have e2 : s.addr i' = s2.addr i3 := by omega
    have e3 := J.ok.other h1 hs2 h2 g1 e2
    subst e3
    rw [h1] at hs2; injection hs2 with hs2; subst hs2
    have e4 := Sp.addr_inj (J.ok.pg _ _ h1).1 e2
    subst e4
    rcases hM with hM | hM
    · rw [g3] at hM; cases hM
    · exact hM hD
theorem AlS.mkd (h0 : ∀ j, 2 ≤ j % 4 → A.r j = []) {z : Nat} (h : Mkd A z) : Mkd A' z := by
  obtain ⟨i, s, i', h1, h2, h3, h4, h5⟩ := h
  have hD : ¬ D i := fun h => by
    obtain ⟨j, hj, hm⟩ := T.un h
    rw [h0 j hj] at hm; cases hm
  obtain ⟨s', e1, e2, e3, e4, e5, e6⟩ := T.keeps h1 h2 h3 (.inl h5)
  exact ⟨i, s', i', e1, by rw [e2]; exact h2, e4, by rw [h4]; unfold Sp.addr; rw [e2, e3], e6 hD h5⟩
theorem AlS.unz (h0 : ∀ j, 2 ≤ j % 4 → A.r j = []) : (∀ j, 2 ≤ j % 4 → A'.r j = []) ∧ g = [] := by
  refine ⟨fun j hj => List.eq_nil_iff_forall_not_mem.2 fun z hz => ?_, List.eq_nil_iff_forall_not_mem.2 fun z hz => ?_⟩
  · have := ((T.r j z hj).1 hz).1
    rw [h0 j hj] at this; cases this
  · obtain ⟨i, s, hD, -⟩ := (T.eg z).1 hz
    obtain ⟨j, hj, hm⟩ := T.un hD
    rw [h0 j hj] at hm; cases hm
end
/-- One run of pages is left; what has been taken is bounded. -/
def PgB (A : HpA) (n0 c m : Nat) : Prop := ∃ f pp, A.a.l = [⟨f, pp⟩] ∧ f + pp = n0 ∧ 1 ≤ f ∧ f ≤ 1 + c * m
theorem PgB.new (n0 P c : Nat) (h : 2 ≤ n0) : PgB (hp0 n0 P) n0 c 0 := by
  refine ⟨1, n0 - 1, ?_, by omega, Nat.le_refl _, by omega⟩
  show (newA n0).l = _
  show newL n0 = _
  unfold newL
  rw [if_pos (by omega)]
theorem pg3 {n q : Nat} (h : OfSays n q) (hn : n ≤ 128) : pgK q ≤ 3 := by
  have hq : q ≤ 13 := by
    rcases Nat.lt_or_ge 13 q with h1 | h1
    · have := h.2.2 13 h1
      have e : szK 13 = 128 := rfl
      omega
    · exact h1
  have key : ∀ q, q ≤ 13 → pgK q ≤ 3 := by decide
  exact key q hq
/-- All that a law wants to know of an Alloc, where pages suffice. -/
theorem AlcR.pgs {p k n x N n0 m cc : Nat} {black : Bool} {A A' : HpA} {g : List Int} {e : Int} (h : AlcR p k n black A x g e A') (I : HpI A none) (hp : p < A.P) (hk : k < 16) (J : ArI N A.a) (B : PgB A n0 cc m) (hc : pgK k ≤ cc) (hm : 1 + cc * m + cc < n0) :
    e = 0 ∧ PgB A' n0 cc (m + 1) ∧ ∃ f pp id s0 y D, A.a.l = [⟨f, pp⟩] ∧ pgK k < pp ∧ AlS p k n black A x g A' f pp id s0 y D := by
  obtain ⟨f, pp, hl, h1, h2, h3⟩ := B
  have hpp : pgK k < pp := by omega
  obtain ⟨he, id, s0, y, D, T⟩ := h.sum I hp hk hl hpp J
  refine ⟨he, ?_, f, pp, id, s0, y, D, hl, hpp, T⟩
  rcases T.e0 with ⟨s, -, -, e1⟩ | ⟨-, -, -, -, e1, -⟩
  · exact ⟨f, pp, e1.trans hl, h1, h2, by rw [Nat.mul_succ]; omega⟩
  · exact ⟨f + pgK k, pp - pgK k, e1, by omega, by omega, by rw [Nat.mul_succ]; omega⟩
/-- A span marked: the invariant stays. -/
theorem HpI.like {A : HpA} {z : Option Nat} (I : HpI A z) {a' : Ar} (h1 : ∀ y t, A.a.sp y = some t → ∃ t', a'.sp y = some t' ∧ t'.k = t.k ∧ (fullS t' ↔ fullS t)) (h2 : ∀ y t', a'.sp y = some t' → ∃ t, A.a.sp y = some t) : HpI { A with a := a' } z := by
  refine ⟨fun j x hx => ?_, I.nd, I.dj, fun p k hp hk => ?_, I.oi, I.ro, I.P, fun id hid => ?_, fun id s hs => ?_⟩
  · obtain ⟨h3, s, hs, h4, h5⟩ := I.r j x hx
    obtain ⟨t, ht, h6, h7⟩ := h1 x s hs
    exact ⟨h3, t, ht, h6.trans h4, h5.trans h7.symm⟩
  · rcases I.o p k hp hk with h3 | ⟨id, s, h3, hs, h4⟩
    · exact .inl h3
    · obtain ⟨t, ht, h6, -⟩ := h1 id s hs
      exact .inr ⟨id, t, h3, ht, h6.trans h4⟩
  · obtain ⟨⟨s, hs⟩, h3⟩ := I.zz id hid
    obtain ⟨t, ht, -⟩ := h1 id s hs
    exact ⟨⟨t, ht⟩, h3⟩
  · obtain ⟨t, ht⟩ := h2 id s hs
    exact I.all id t ht
def mrkA (A : HpA) (id : Nat) (s : Sp) (i : Nat) : HpA := { A with a := { A.a with sp := updF A.a.sp id (some (markS s i)) } }
theorem mrk_get {A : HpA} {id i : Nat} {s : Sp} (hs : A.a.sp id = some s) : (∀ y t, A.a.sp y = some t → ∃ t', (mrkA A id s i).a.sp y = some t' ∧ t'.k = t.k ∧ t'.first = t.first ∧ t'.F = t.F ∧ (fullS t' ↔ fullS t) ∧ ∀ j, t.M j = true → t'.M j = true) ∧ ∀ y t', (mrkA A id s i).a.sp y = some t' → ∃ t, A.a.sp y = some t := by
  refine ⟨fun y t ht => ?_, fun y t' ht => ?_⟩
  · by_cases e : y = id
    · subst e
      rw [hs] at ht; injection ht with ht; subst ht
      refine ⟨markS s i, updF_same _ _ _, rfl, rfl, rfl, Iff.rfl, fun j hj => ?_⟩
      show setF s.M i j = true
      unfold setF
      split
      · rfl
      · exact hj
    · exact ⟨t, (updF_other _ _ e).trans ht, rfl, rfl, rfl, Iff.rfl, fun _ h => h⟩
  · by_cases e : y = id
    · exact ⟨s, by rw [e]; exact hs⟩
    · exact ⟨t', (updF_other _ _ e).symm.trans ht⟩
theorem HpI.mark {A : HpA} {z : Option Nat} (I : HpI A z) {id i : Nat} {s : Sp} (hs : A.a.sp id = some s) : HpI (mrkA A id s i) z :=
  I.like (fun y t ht => by
    obtain ⟨t', h1, h2, -, -, h3, -⟩ := (mrk_get (i := i) hs).1 y t ht
    exact ⟨t', h1, h2, h3⟩) (mrk_get hs).2
theorem Sty.mark {A : HpA} {id i x : Nat} {s : Sp} (hs : A.a.sp id = some s) (h : Sty A x) : Sty (mrkA A id s i) x := by
  obtain ⟨id', t, i', h1, h2, h3, h4, h5⟩ := h
  obtain ⟨t', e1, e2, e3, e4, -, e5⟩ := (mrk_get (i := i) hs).1 id' t h1
  exact ⟨id', t', i', e1, by rw [e2]; exact h2, by rw [e4]; exact h3, by rw [h4]; unfold Sp.addr; rw [e2, e3], h5.imp (e5 i') fun g => g⟩
theorem Mkd.mark {A : HpA} {id i x : Nat} {s : Sp} (hs : A.a.sp id = some s) (h : Mkd A x) : Mkd (mrkA A id s i) x := by
  obtain ⟨id', t, i', h1, h2, h3, h4, h5⟩ := h
  obtain ⟨t', e1, e2, e3, e4, -, e5⟩ := (mrk_get (i := i) hs).1 id' t h1
  exact ⟨id', t', i', e1, by rw [e2]; exact h2, by rw [e4]; exact h3, by rw [h4]; unfold Sp.addr; rw [e2, e3], e5 i' h5⟩
theorem Mkd.new {A : HpA} {id i : Nat} {s : Sp} (hi : i < slK s.k) (hF : s.F i = true) : Mkd (mrkA A id s i) (s.addr i) :=
  ⟨id, markS s i, i, updF_same _ _ _, hi, hF, rfl, by show setF s.M i i = true; unfold setF; simp⟩
/-- Behind Begin each span waits. -/
theorem uns_pos {A : HpA} (I : HpI A none) (ho : ∀ p k, p < A.P → k < 16 → A.own p k = -1) (hr : ∀ j, j % 4 < 2 → A.r j = []) {id : Nat} {s : Sp} (hs : A.a.sp id = some s) : 0 < unsN A.r 16 := by
  rcases I.all id s hs with h | ⟨j, h⟩ | ⟨p, k, hp, hk, h⟩
  · cases h
  · have hj := (I.r j id h).1
    have h4 : 2 ≤ j % 4 := by
      rcases Nat.lt_or_ge (j % 4) 2 with h4 | h4
      · rw [hr j h4] at h; cases h
      · exact h4
    rcases Nat.eq_zero_or_pos (unsN A.r 16) with h0 | h0
    · obtain ⟨h2, h3⟩ := unsN_zero.1 h0 (j / 4) (by omega)
      have : j = j / 4 * 4 + 2 ∨ j = j / 4 * 4 + 3 := by omega
      rcases this with e | e
      · rw [e, h2] at h; cases h
      · rw [e, h3] at h; cases h
    · exact h0
  · have := ho p k hp hk; omega
theorem faO_all (own : Nat → Nat → Int) {P p k : Nat} (hp : p < P) (hk : k < 16) : faO own P p k = -1 := by
  unfold faO
  rw [if_pos hp]
  unfold flO
  rw [if_pos hk]
end Go.Proofs.YtmafiagakoglkaaGreatDoor
