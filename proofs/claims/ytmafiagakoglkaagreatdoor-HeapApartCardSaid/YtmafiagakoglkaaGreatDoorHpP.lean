/- Package cache: what Alloc does where one run of pages is left and it is great enough: spans swept on the way (D), the span that serves, its place. Plain. -/
import Derived.Test.YtmafiagakoglkaaGreatDoorHpAl
namespace Go.Proofs.YtmafiagakoglkaaGreatDoor
open Go.RowKit Go.Maps

/-- A span, swept or as it was. -/
def Trn (D : Prop) (o o' : Option Sp) : Prop := (D ∧ ∃ s, o = some s ∧ o' = some (sweptS s)) ∨ (¬ D ∧ o' = o)
theorem Trn.rfl_ {D : Prop} {o : Option Sp} (h : ¬ D) : Trn D o o := .inr ⟨h, rfl⟩
structure SkD (k : Nat) (A B : HpA) (g : List Int) (D : Nat → Prop) : Prop where
  own : B.own = A.own
  P : B.P = A.P
  n : B.a.n = A.a.n
  d : ∀ i, D i → i ∈ A.r (k * 4 + 2) ∨ i ∈ A.r (k * 4 + 3)
  r : ∀ j z, 2 ≤ j % 4 → (z ∈ B.r j ↔ z ∈ A.r j ∧ ¬ D z)
  r0 : ∀ j z, j % 4 = 0 → z ∈ B.r j → z ∈ A.r j
  g : ∀ y, y ∈ g ↔ ∃ i s, D i ∧ A.a.sp i = some s ∧ y ∈ swI s
section
variable {k : Nat} {A B : HpA} {g : List Int}
theorem SkF.sum (h : SkF k A g B) (hk : k < 16) (I : HpI A none) : ∃ D, SkD k A B g D ∧ B.a.l = A.a.l ∧ (∀ i, Trn (D i) (A.a.sp i) (B.a.sp i)) := by
  induction h with
  | nil => exact ⟨fun _ => False, ⟨rfl, rfl, rfl, fun _ h => h.elim, fun j z _ => by simp, fun _ _ _ h => h, fun y => by simp⟩, rfl, fun _ => .inr ⟨id, rfl⟩⟩
  | snoc h h1 h2 h3 ih =>
    rename_i B g xs x s
    obtain ⟨D, K, hl, hsp⟩ := ih
    have IB := h.inv hk I
    have hx : x ∈ B.r (k * 4 + 3) := by rw [h1]; simp
    obtain ⟨hxA, hnD⟩ := (K.r (k * 4 + 3) x (by omega)).1 hx
    have hsA : A.a.sp x = some s := by
      rcases hsp x with ⟨hd, -⟩ | ⟨-, e⟩
      · exact absurd hd hnD
      · rw [← e]; exact h2
    have nd := IB.nd (k * 4 + 3)
    rw [h1, List.nodup_append] at nd
    have hxs : x ∉ xs := fun hm => nd.2.2 x hm x (by simp) rfl
    refine ⟨fun i => D i ∨ i = x, ⟨K.own, K.P, K.n, fun i hi => ?_, fun j z hj => ?_, fun j z hj hz => ?_, fun y => ?_⟩, hl, fun i => ?_⟩
    · rcases hi with hi | rfl
      · exact K.d i hi
      · exact .inr hxA
    · show z ∈ updV (updV B.r (k * 4 + 3) xs) (k * 4 + 1) _ j ↔ _
      rw [updV_other _ _ (by omega)]
      by_cases e : j = k * 4 + 3
      · rw [e, updV_same]
        have h5 := K.r (k * 4 + 3) z (by omega)
        rw [h1] at h5
        constructor
        · intro hz
          obtain ⟨h6, h7⟩ := h5.1 (List.mem_append_left _ hz)
          exact ⟨h6, fun h8 => h8.elim h7 (fun e2 => hxs (e2 ▸ hz))⟩
        · rintro ⟨h6, h7⟩
          rcases List.mem_append.1 (h5.2 ⟨h6, fun h => h7 (.inl h)⟩) with h8 | h8
          · exact h8
          · exact absurd (.inr (by simpa using h8)) h7
      · rw [updV_other _ _ e, K.r j z hj]
        constructor
        · rintro ⟨h6, h7⟩
          exact ⟨h6, fun h8 => h8.elim h7 (fun e2 => e (I.dj j (k * 4 + 3) x (e2 ▸ h6) hxA))⟩
        · rintro ⟨h6, h7⟩
          exact ⟨h6, fun h => h7 (.inl h)⟩
    · have hz' : z ∈ updV (updV B.r (k * 4 + 3) xs) (k * 4 + 1) (updV B.r (k * 4 + 3) xs (k * 4 + 1) ++ [x]) j := hz
      rw [updV_other _ _ (by omega), updV_other _ _ (by omega)] at hz'
      exact K.r0 j z hj hz'
    · rw [List.mem_append, K.g y]
      constructor
      · rintro (⟨i, t, h5, h6, h7⟩ | h5)
        · exact ⟨i, t, .inl h5, h6, h7⟩
        · exact ⟨x, s, .inr rfl, hsA, h5⟩
      · rintro ⟨i, t, h5 | h5, h6, h7⟩
        · exact .inl ⟨i, t, h5, h6, h7⟩
        · subst h5
          rw [hsA] at h6; injection h6 with h6; subst h6
          exact .inr h7
    · show Trn (D i ∨ i = x) (A.a.sp i) (updF B.a.sp x (some (sweptS s)) i)
      by_cases e : i = x
      · subst e
        rw [updF_same]
        exact .inl ⟨.inr rfl, s, hsA, rfl⟩
      · rw [updF_other _ _ e]
        rcases hsp i with ⟨h5, h6⟩ | ⟨h5, h6⟩
        · exact .inl ⟨.inl h5, h6⟩
        · exact .inr ⟨fun h => h.elim h5 e, h6⟩
/-- The span that seek gives: one that stood in a row, or a new one. -/
def SkGot (k : Nat) (A B : HpA) (f pp id : Nat) (D : Nat → Prop) : Prop :=
  (∃ s, A.a.sp id = some s ∧ (∃ j, id ∈ A.r j) ∧ Trn (D id) (some s) (B.a.sp id) ∧ B.a.l = A.a.l) ∨
  (A.a.sp id = none ∧ (∀ j, j < id → A.a.sp j ≠ none) ∧ A.r (k * 4) = [] ∧ ¬ D id ∧ B.a.sp id = some (spn f k) ∧ B.a.l = [⟨f + pgK k, pp - pgK k⟩])
theorem SeekR.sum {id : Nat} {ok : Bool} (h : SeekR k A id g ok B) (hk : k < 16) (I : HpI A none) {f pp : Nat} (hl : A.a.l = [⟨f, pp⟩]) (hp : pgK k < pp) :
    ok = true ∧ ∃ D, SkD k A B g D ∧ (∀ i, i ≠ id → Trn (D i) (A.a.sp i) (B.a.sp i)) ∧ SkGot k A B f pp id D := by
  have hpg := (kF hk).2.2.2.2.1
  cases h with
  | swept h =>
    rename_i xs
    obtain ⟨-, s, hs, -⟩ := I.r (k * 4) id (by rw [h]; simp)
    refine ⟨rfl, fun _ => False, ⟨rfl, rfl, rfl, fun _ h => h.elim, fun j z hj => ?_, fun j z hj hz => ?_, fun y => by simp⟩, fun i _ => .inr ⟨fun h => h, rfl⟩, .inl ⟨s, hs, ⟨k * 4, by rw [h]; simp⟩, .inr ⟨fun h => h, hs⟩, rfl⟩⟩
    · show z ∈ updV A.r (k * 4) xs j ↔ _
      rw [updV_other _ _ (by omega)]; simp
    · have hz' : z ∈ updV A.r (k * 4) xs j := hz
      by_cases e : j = k * 4
      · subst e
        rw [updV_same] at hz'
        rw [h]; exact List.mem_append_left _ hz'
      · rwa [updV_other _ _ e] at hz'
  | unswept h0 h1 h2 =>
    rename_i xs s
    have hx : id ∈ A.r (k * 4 + 2) := by rw [h1]; simp
    have nd := I.nd (k * 4 + 2)
    rw [h1, List.nodup_append] at nd
    have hxs : id ∉ xs := fun hm => nd.2.2 id hm id (by simp) rfl
    refine ⟨rfl, fun i => i = id, ⟨rfl, rfl, rfl, fun i h => .inl (h ▸ hx), fun j z hj => ?_, fun j z hj hz => ?_, fun y => ?_⟩, fun i hi => .inr ⟨hi, updF_other _ _ hi⟩, .inl ⟨s, h2, ⟨_, hx⟩, .inl ⟨rfl, s, rfl, updF_same _ _ _⟩, rfl⟩⟩
    · show z ∈ updV A.r (k * 4 + 2) xs j ↔ _
      by_cases e : j = k * 4 + 2
      · rw [e, updV_same, h1, List.mem_append]
        constructor
        · intro hz
          exact ⟨.inl hz, fun e2 => hxs (e2 ▸ hz)⟩
        · rintro ⟨h5 | h5, h6⟩
          · exact h5
          · exact absurd (by simpa using h5) h6
      · rw [updV_other _ _ e]
        constructor
        · intro hz
          exact ⟨hz, fun e2 => e (I.dj j (k * 4 + 2) id (e2 ▸ hz) hx)⟩
        · exact fun h => h.1
    · have hz' : z ∈ updV A.r (k * 4 + 2) xs j := hz
      rwa [updV_other _ _ (by omega)] at hz'
    · constructor
      · intro hy; exact ⟨id, s, rfl, h2, hy⟩
      · rintro ⟨i, t, rfl, h5, h6⟩
        rw [h2] at h5; injection h5 with h5; subst h5
        exact h6
  | full h0 h1 h2 h3 h4 h5 =>
    rename_i B g xs s
    obtain ⟨D, K, hlB, hsp⟩ := h2.sum hk I
    have IB := h2.inv hk I
    have hx : id ∈ B.r (k * 4 + 3) := by rw [h3]; simp
    obtain ⟨hxA, hnD⟩ := (K.r (k * 4 + 3) id (by omega)).1 hx
    have hsA : A.a.sp id = some s := by
      rcases hsp id with ⟨hd, -⟩ | ⟨-, e⟩
      · exact absurd hd hnD
      · rw [← e]; exact h4
    have nd := IB.nd (k * 4 + 3)
    rw [h3, List.nodup_append] at nd
    have hxs : id ∉ xs := fun hm => nd.2.2 id hm id (by simp) rfl
    refine ⟨rfl, fun i => D i ∨ i = id, ⟨K.own, K.P, K.n, fun i hi => ?_, fun j z hj => ?_, fun j z hj hz => ?_, fun y => ?_⟩, fun i hi => ?_, .inl ⟨s, hsA, ⟨_, hxA⟩, .inl ⟨.inr rfl, s, rfl, updF_same _ _ _⟩, hlB⟩⟩
    · rcases hi with hi | rfl
      · exact K.d i hi
      · exact .inr hxA
    · show z ∈ updV B.r (k * 4 + 3) xs j ↔ _
      by_cases e : j = k * 4 + 3
      · rw [e, updV_same]
        have h6 := K.r (k * 4 + 3) z (by omega)
        rw [h3] at h6
        constructor
        · intro hz
          obtain ⟨h7, h8⟩ := h6.1 (List.mem_append_left _ hz)
          exact ⟨h7, fun h9 => h9.elim h8 (fun e2 => hxs (e2 ▸ hz))⟩
        · rintro ⟨h7, h8⟩
          rcases List.mem_append.1 (h6.2 ⟨h7, fun h => h8 (.inl h)⟩) with h9 | h9
          · exact h9
          · exact absurd (.inr (by simpa using h9)) h8
      · rw [updV_other _ _ e, K.r j z hj]
        constructor
        · rintro ⟨h6, h7⟩
          exact ⟨h6, fun h8 => h8.elim h7 (fun e2 => e (I.dj j (k * 4 + 3) id (e2 ▸ h6) hxA))⟩
        · rintro ⟨h6, h7⟩
          exact ⟨h6, fun h => h7 (.inl h)⟩
    · have hz' : z ∈ updV B.r (k * 4 + 3) xs j := hz
      rw [updV_other _ _ (by omega)] at hz'
      exact K.r0 j z hj hz'
    · rw [List.mem_append, K.g y]
      constructor
      · rintro (⟨i, t, h6, h7, h8⟩ | h6)
        · exact ⟨i, t, .inl h6, h7, h8⟩
        · exact ⟨id, s, .inr rfl, hsA, h6⟩
      · rintro ⟨i, t, h6 | h6, h7, h8⟩
        · exact .inl ⟨i, t, h6, h7, h8⟩
        · subst h6
          rw [hsA] at h7; injection h7 with h7; subst h7
          exact .inr h8
    · show Trn (D i ∨ i = id) (A.a.sp i) (updF B.a.sp id (some (sweptS s)) i)
      rw [updF_other _ _ hi]
      rcases hsp i with ⟨h6, h7⟩ | ⟨h6, h7⟩
      · exact .inl ⟨.inl h6, h7⟩
      · exact .inr ⟨fun h => h.elim h6 hi, h7⟩
  | fresh h0 h1 h2 h3 h4 h5 h6 =>
    rename_i B f' l'
    obtain ⟨D, K, hlB, hsp⟩ := h2.sum hk I
    rw [hlB, hl] at h4
    obtain ⟨h7, -, h8⟩ := says_one hpg hp h4
    have h9 : f' = f := Int.ofNat.inj h7
    subst h9 h8
    have none_ : ∀ i, B.a.sp i = none ↔ A.a.sp i = none := fun i => by
      rcases hsp i with ⟨-, s, e1, e2⟩ | ⟨-, e⟩
      · rw [e1, e2]; simp
      · rw [e]
    have hnD : ¬ D id := fun hd => by
      rcases hsp id with ⟨-, s, e1, e2⟩ | ⟨h, -⟩
      · rw [h5] at e2; cases e2
      · exact h hd
    refine ⟨rfl, D, ⟨K.own, K.P, K.n, K.d, K.r, K.r0, K.g⟩, fun i hi => ?_, .inr ⟨(none_ id).1 h5, fun j hj h => h6 j hj ((none_ j).2 h), h0, hnD, updF_same _ _ _, rfl⟩⟩
    show Trn (D i) (A.a.sp i) (updF B.a.sp id _ i)
    rw [updF_other _ _ hi]; exact hsp i
  | again h0 h1 h2 h3 h4 h5 =>
    obtain ⟨D, K, hlB, hsp⟩ := h2.sum hk I
    rw [hlB, hl] at h4
    exact absurd (says_one hpg hp h4).2.1 h5
  | no h0 h1 h2 h3 h4 h5 =>
    obtain ⟨D, K, hlB, hsp⟩ := h2.sum hk I
    rw [hlB, hl] at h4
    exact absurd (says_one hpg hp h4).2.1 h5
end
/-- What Alloc does. -/
structure AlS (p k n : Nat) (black : Bool) (A : HpA) (x : Nat) (g : List Int) (A' : HpA) (f pp id : Nat) (s0 : Sp) (y : Nat) (D : Nat → Prop) : Prop where
  eP : A'.P = A.P
  eN : A'.a.n = A.a.n
  own : ∀ p' k', A'.own p' k' = if p' = p ∧ k' = k then ((id : Nat) : Int) else A.own p' k'
  d : ∀ i, D i → i ∈ A.r (k * 4 + 2) ∨ i ∈ A.r (k * 4 + 3)
  r : ∀ j z, 2 ≤ j % 4 → (z ∈ A'.r j ↔ z ∈ A.r j ∧ ¬ D z)
  r0 : ∀ j z, j % 4 = 0 → z ∈ A'.r j → z ∈ A.r j
  eg : ∀ y, y ∈ g ↔ ∃ i s, D i ∧ A.a.sp i = some s ∧ y ∈ swI s
  sp : ∀ i, i ≠ id → Trn (D i) (A.a.sp i) (A'.a.sp i)
  e0 : (∃ s, A.a.sp id = some s ∧ Trn (D id) (some s) (some s0) ∧ A'.a.l = A.a.l) ∨ (A.a.sp id = none ∧ (∀ j, j < id → A.a.sp j ≠ none) ∧ ¬ D id ∧ s0 = spn f k ∧ A'.a.l = [⟨f + pgK k, pp - pgK k⟩] ∧ A.r (k * 4) = [] ∧ ∀ (i : Nat) s, A.own p k = i → A.a.sp i = some s → fullS s)
  spid : A'.a.sp id = some (allocS s0 y black)
  ek : s0.k = k
  ey : PlcS s0 y
  ex : x = s0.addr y
  ob : A'.a.ob x = some (List.replicate n 0)
theorem AlcR.sum {p k n x : Nat} {black : Bool} {A A' : HpA} {g : List Int} {c : Int} (h : AlcR p k n black A x g c A') (I : HpI A none) (hp : p < A.P) (hk : k < 16) {f pp : Nat} (hl : A.a.l = [⟨f, pp⟩]) (hpp : pgK k < pp) {N : Nat} (J : ArI N A.a) :
    c = 0 ∧ ∃ id s0 y D, AlS p k n black A x g A' f pp id s0 y D := by
  cases h with
  | has h1 h2 h3 h4 =>
    rename_i id y s
    have hsk : s.k = k := by
      rcases I.o p k hp hk with h5 | ⟨id', s', h5, h6, h7⟩
      · omega
      · have : id' = id := by omega
        subst this
        rw [h2] at h6; injection h6 with h6; subst h6
        exact h7
    refine ⟨rfl, id, s, y, fun _ => False, rfl, rfl, fun p' k' => ?_, fun _ h => h.elim, fun j z _ => by simp, fun _ _ _ h => h, fun y => by simp, fun i hi => .inr ⟨fun h => h, updF_other _ _ hi⟩, .inl ⟨s, h2, .inr ⟨fun h => h, rfl⟩, rfl⟩, updF_same _ _ _, hsk, h4, rfl, updF_same _ _ _⟩
    show A.own p' k' = _
    split
    · next e => rw [e.1, e.2]; exact h1
    · rfl
  | got h1 h2 h3 h4 h5 =>
    rename_i A1 A2 id y s
    obtain ⟨I1, ho1, hP1, ha1⟩ := h1.inv I hp hk
    obtain ⟨e1, e2, e3, e4⟩ := h1.own_
    obtain ⟨-, D, K, hsp, hgot⟩ := h2.sum hk I1 (by rw [ha1]; exact hl) hpp
    have hr : ∀ j, 2 ≤ j % 4 → A1.r j = A.r j := fun j hj => e3 j (by omega)
    refine ⟨rfl, id, s, y, D, K.P.trans hP1, K.n.trans (by rw [ha1]), fun p' k' => ?_, fun i hi => ?_, fun j z hj => ?_, fun j z hj hz => ?_, fun y => ?_, fun i hi => ?_, ?_, updF_same _ _ _, h4, h5, rfl, updF_same _ _ _⟩
    · show updV A2.own p (updV (A2.own p) k _) p' k' = _
      rw [updV2]
      split
      · rfl
      · next hne =>
        rw [K.own]
        exact e4 p' k' (by
          by_cases e : p' = p
          · exact .inr fun e2 => hne ⟨e, e2⟩
          · exact .inl e)
    · have := K.d i hi
      rwa [hr _ (by omega), hr _ (by omega)] at this
    · have := K.r j z hj
      rwa [hr j hj] at this
    · have := K.r0 j z hj hz
      rwa [e3 j (by omega)] at this
    · have := K.g y
      rwa [ha1] at this
    · show Trn (D i) (A.a.sp i) (updF A2.a.sp id _ i)
      rw [updF_other _ _ hi]
      have := hsp i hi
      rwa [ha1] at this
    · rcases hgot with ⟨t, ht, hj, htr, hl2⟩ | ⟨ht, hall, hrow, hnd, hsp2, hl2⟩
      · rw [ha1] at ht hl2
        rw [h3] at htr
        exact .inl ⟨t, ht, htr, hl2⟩
      · rw [ha1] at ht hall
        rw [h3] at hsp2
        injection hsp2 with hsp2
        rw [e3 (k * 4) (by omega)] at hrow
        refine .inr ⟨ht, hall, hnd, hsp2, hl2, hrow, fun i t hi hti => ?_⟩
        rcases h1 with ⟨h6, -⟩ | ⟨id2, t2, h6, h7, h8, -⟩
        · omega
        · have : id2 = i := by omega
          subst this
          rw [hti] at h7; injection h7 with h7; subst h7
          exact h8
  | no h1 h2 =>
    rename_i A1
    obtain ⟨I1, ho1, hP1, ha1⟩ := h1.inv I hp hk
    obtain ⟨h3, -⟩ := h2.sum hk I1 (by rw [ha1]; exact hl) hpp
    cases h3
section
variable {p k n x : Nat} {black : Bool} {A A' : HpA} {g : List Int} {f pp id : Nat} {s0 : Sp} {y : Nat} {D : Nat → Prop} (T : AlS p k n black A x g A' f pp id s0 y D)
include T
/-- Where the place's span came from: what is used in it. -/
theorem AlS.from_ {i : Nat} (hi : s0.F i = true) : ∃ s, A.a.sp id = some s ∧ s.first = s0.first ∧ s.k = s0.k ∧ ((D id ∧ s.M i = true ∧ s0 = sweptS s) ∨ (¬ D id ∧ s0 = s)) := by
  rcases T.e0 with ⟨s, hs, ⟨h1, t, e1, e2⟩ | ⟨h1, e2⟩, -⟩ | ⟨-, -, -, rfl, -⟩
  · injection e1 with e1; subst e1
    injection e2 with e2; subst e2
    exact ⟨s, hs, rfl, rfl, .inl ⟨h1, hi, rfl⟩⟩
  · injection e2 with e2; subst e2
    exact ⟨s0, hs, rfl, rfl, .inr ⟨h1, rfl⟩⟩
  · cases hi
/-- Objects: the new one, and those that were not swept. -/
theorem AlS.obs {N N' : Nat} (J : ArI N A.a) (J' : ArI N' A'.a) (z : Nat) : (A'.a.ob z).isSome = true ↔ z = x ∨ ((A.a.ob z).isSome = true ∧ ((z : Nat) : Int) ∉ g) := by
  have notg : ∀ {i i' : Nat} {s : Sp}, A.a.sp i = some s → i' < slK s.k → s.addr i' = z → (¬ D i ∨ s.M i' = true) → ((z : Nat) : Int) ∉ g := fun {i i' s} hs hi' hz hd hg => by
    obtain ⟨i2, s2, hD, hs2, hm⟩ := (T.eg _).1 hg
    unfold swI intsN at hm
    obtain ⟨z2, hz2, e⟩ := List.mem_map.1 hm
    obtain ⟨i3, hi3, rfl⟩ := List.mem_map.1 hz2
    obtain ⟨h1, h2, h3⟩ := swept_mem.1 hi3
    have e2 : s.addr i' = s2.addr i3 := by omega
    have e3 := J.ok.other hs hs2 hi' h1 e2
    subst e3
    rw [hs] at hs2; injection hs2 with hs2; subst hs2
    have e4 := Sp.addr_inj (J.ok.pg _ _ hs).1 e2
    subst e4
    rcases hd with hd | hd
    · exact hd hD
    · rw [h3] at hd; cases hd
  rw [J'.ok.ob z]
  constructor
  · rintro ⟨id', s', i, hs', hi, hF, hz⟩
    by_cases e : id' = id
    · subst e
      rw [T.spid] at hs'; injection hs' with hs'; subst hs'
      have hF' : setF s0.F y i = true := hF
      by_cases e2 : i = y
      · left; rw [hz, e2, T.ex]; rfl
      · right
        unfold setF at hF'
        rw [if_neg e2] at hF'
        obtain ⟨s, hs, h1, h2, h3⟩ := T.from_ hF'
        have hz' : s.addr i = z := by rw [hz]; unfold Sp.addr; rw [h1, h2]; rfl
        have hi' : i < slK s.k := by rw [h2]; exact hi
        rcases h3 with ⟨h4, h5, -⟩ | ⟨h4, h5⟩
        · exact ⟨(J.ok.ob z).2 ⟨_, s, i, hs, hi', J.mf _ s i hs h5, hz'.symm⟩, notg hs hi' hz' (.inr h5)⟩
        · exact ⟨(J.ok.ob z).2 ⟨_, s, i, hs, hi', by rw [← h5]; exact hF', hz'.symm⟩, notg hs hi' hz' (.inl h4)⟩
    · right
      rcases T.sp id' e with ⟨h1, s, h2, h3⟩ | ⟨h1, h2⟩
      · rw [hs'] at h3; injection h3 with h3; subst h3
        have hF' : s.M i = true := hF
        have hi' : i < slK s.k := hi
        have hz' : s.addr i = z := hz.symm
        exact ⟨(J.ok.ob z).2 ⟨id', s, i, h2, hi', J.mf _ s i h2 hF', hz⟩, notg h2 hi' hz' (.inr hF')⟩
      · rw [h2] at hs'
        exact ⟨(J.ok.ob z).2 ⟨id', s', i, hs', hi, hF, hz⟩, notg hs' hi hz.symm (.inl h1)⟩
  · rintro (rfl | ⟨h1, h2⟩)
    · exact ⟨id, _, y, T.spid, T.ey.2.1, by show setF s0.F y y = true; unfold setF; simp, T.ex⟩
    · obtain ⟨id', s, i, hs, hi, hF, hz⟩ := (J.ok.ob z).1 h1
      have keep : D id' → s.M i = true := fun hD => by
        cases hM : s.M i with
        | true => rfl
        | false =>
          refine absurd ((T.eg _).2 ⟨id', s, hD, hs, ?_⟩) h2
          unfold swI intsN
          exact List.mem_map.2 ⟨z, List.mem_map.2 ⟨i, swept_mem.2 ⟨hi, hF, hM⟩, hz.symm⟩, rfl⟩
      by_cases e : id' = id
      · subst e
        rcases T.e0 with ⟨t, ht, htr, -⟩ | ⟨h3, -⟩
        · rw [hs] at ht; injection ht with ht; subst ht
          refine ⟨_, _, i, T.spid, ?_, ?_, ?_⟩
          · rcases htr with ⟨h3, t, e1, e2⟩ | ⟨h3, e2⟩
            · injection e1 with e1; subst e1; injection e2 with e2; subst e2; exact hi
            · injection e2 with e2; subst e2; exact hi
          · show setF s0.F y i = true
            unfold setF
            split
            · rfl
            · rcases htr with ⟨h3, t, e1, e2⟩ | ⟨h3, e2⟩
              · injection e1 with e1; subst e1; injection e2 with e2; subst e2; exact keep h3
              · injection e2 with e2; subst e2; exact hF
          · rcases htr with ⟨h3, t, e1, e2⟩ | ⟨h3, e2⟩
            · injection e1 with e1; subst e1; injection e2 with e2; subst e2; exact hz
            · injection e2 with e2; subst e2; exact hz
        · rw [hs] at h3; cases h3
      · rcases T.sp id' e with ⟨h3, t, h4, h5⟩ | ⟨h3, h4⟩
        · rw [hs] at h4; injection h4 with h4; subst h4
          exact ⟨id', _, i, h5, hi, keep h3, hz⟩
        · exact ⟨id', s, i, h4.trans hs, hi, hF, hz⟩
/-- The new one was not there, or has been swept. -/
theorem AlS.new_ {N : Nat} (J : ArI N A.a) (hk : k < 16) (hl : A.a.l = [⟨f, pp⟩]) (hpp : pgK k < pp) (hx : (A.a.ob x).isSome = true) : ((x : Nat) : Int) ∈ g := by
  obtain ⟨id', s, i, hs, hi, hF, hz⟩ := (J.ok.ob x).1 hx
  rcases T.e0 with ⟨t, ht, htr, -⟩ | ⟨h3, hall, hnd, e0, -⟩
  · have hft : s0.first = t.first ∧ s0.k = t.k := by
      rcases htr with ⟨h3, u, e1, e2⟩ | ⟨h3, e2⟩
      · injection e1 with e1; subst e1; injection e2 with e2; subst e2; exact ⟨rfl, rfl⟩
      · injection e2 with e2; subst e2; exact ⟨rfl, rfl⟩
    have e1 : s.addr i = t.addr y := by rw [← hz, T.ex]; unfold Sp.addr; rw [hft.1, hft.2]
    have hy : y < slK t.k := by rw [← hft.2]; exact T.ey.2.1
    have e2 := J.ok.other hs ht hi hy e1
    subst e2
    rw [hs] at ht; injection ht with ht; subst ht
    have e3 := Sp.addr_inj (J.ok.pg _ _ hs).1 e1
    subst e3
    rcases htr with ⟨h3, u, e1, e2⟩ | ⟨h3, e2⟩
    · injection e1 with e1; subst e1; injection e2 with e2; subst e2
      have h4 : s.M i = false := T.ey.2.2.1
      refine (T.eg _).2 ⟨_, s, h3, hs, ?_⟩
      unfold swI intsN
      exact List.mem_map.2 ⟨x, List.mem_map.2 ⟨i, swept_mem.2 ⟨hi, hF, h4⟩, hz.symm⟩, rfl⟩
    · injection e2 with e2; subst e2
      rw [T.ey.2.2.1] at hF; cases hF
  · exfalso
    obtain ⟨g1, g2, g3, g4⟩ := J.ok.pg _ _ hs
    have p1 := Sp.addr_page g1 hi
    have p2 := Sp.addr_page (s := spn f k) (i := y) hk (by have := T.ey.2.1; rw [T.ek] at this; exact this)
    have e1 : s.addr i = (spn f k).addr y := by rw [← hz, T.ex, e0]
    rw [e1] at p1
    exact g4 _ p1.1 p1.2 ⟨⟨f, pp⟩, by rw [hl]; simp, p2.1, by have := p2.2; show _ < f + pp; show (spn f k).addr y / 64 < f + pp; have e2 : (spn f k).first = f := rfl; have e3 : (spn f k).k = k := rfl; rw [e2, e3] at this; omega⟩
end
end Go.Proofs.YtmafiagakoglkaaGreatDoor
