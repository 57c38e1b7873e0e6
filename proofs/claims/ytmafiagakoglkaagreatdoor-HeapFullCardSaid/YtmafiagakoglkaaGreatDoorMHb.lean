/- HeapApart: plain parts. -/
/- Package cache: what Alloc does where one run of pages is left and it is great enough: spans swept on the way (D), the span that serves, its place. Plain. -/
/- HeapSwept: plain parts: what stays through sweeps; marks; the pages suffice. -/
/- Sums over spans; what Drop takes away, told whole. Plain. -/
import Derived.Test.YtmafiagakoglkaaGreatDoorHpT
import Derived.Test.YtmafiagakoglkaaGreatDoorMZ
namespace Go.Proofs.YtmafiagakoglkaaGreatDoor
open Go.RowKit Go.Maps

theorem PreR.own_ {p q : Nat} {A A1 : HpA} (h : PreR p q A A1) : A1.a = A.a ∧ A1.P = A.P ∧ (∀ j, j ≠ q * 4 + 1 → A1.r j = A.r j) ∧ ∀ p' k', (p' ≠ p ∨ k' ≠ q) → A1.own p' k' = A.own p' k' := by
  rcases h with ⟨-, rfl⟩ | ⟨id, s, -, -, -, rfl⟩
  · exact ⟨rfl, rfl, fun _ _ => rfl, fun _ _ _ => rfl⟩
  · refine ⟨rfl, rfl, fun j hj => updV_other _ _ hj, fun p' k' h => ?_⟩
    show updV A.own p (updV (A.own p) q (-1)) p' k' = _
    unfold updV
    by_cases e : p' = p
    · subst e
      rw [if_pos rfl, if_neg (by rcases h with h | h; exact absurd rfl h; exact h)]
    · rw [if_neg e]
theorem page_free {N : Nat} {a : Ar} (ok : ArOk N a) {f : Nat} (h : Fr a.l f) : a.ob (f * 64) = none := by
  cases e : a.ob (f * 64) with
  | none => rfl
  | some xs =>
    obtain ⟨id, s, i, hs, hi, -, hx⟩ := (ok.ob (f * 64)).1 (by rw [e]; rfl)
    obtain ⟨hk, -, -, h4⟩ := ok.pg id s hs
    have h5 := Sp.addr_page hk hi
    rw [← hx, Nat.mul_div_cancel _ (by decide : 0 < 64)] at h5
    exact absurd h (h4 f h5.1 h5.2)
theorem updV2 {own : Nat → Nat → Int} {p q p' k' : Nat} {v : Int} : updV own p (updV (own p) q v) p' k' = if p' = p ∧ k' = q then v else own p' k' := by
  unfold updV
  by_cases e : p' = p
  · subst e
    by_cases e2 : k' = q
    · subst e2; simp
    · simp [e2]
  · simp [e]
theorem getD_set {O : List Int} {i j : Nat} {v : Int} (h : i < O.length) : (O.set i v).getD j 0 = if j = i then v else O.getD j 0 := by
  rw [List.getD_eq_getElem?_getD, List.getElem?_set, List.getD_eq_getElem?_getD]
  by_cases e : i = j
  · subst e; simp [h]
  · rw [if_neg e, if_neg (fun h => e h.symm)]
structure ApA (A : HpA) (i : Nat) (st O : List Int) : Prop where
  rows : ∀ j, j % 4 ≠ 1 → A.r j = []
  ser : ∃ m f pp, m ≤ i ∧ A.a.l = [⟨f, pp⟩] ∧ f + pp = 512 ∧ f ≤ 1 + 4 * m ∧ (∀ j, j < m → A.a.sp j ≠ none) ∧ (∀ j, m ≤ j → A.a.sp j = none) ∧ ∀ j, m ≤ j → O.getD j 0 = 0
  n : A.a.n = 512
  obs : ∀ x, x ∈ st ↔ (obI A.a x).isSome = true
  rise : Rise st
  len : st.length ≤ i
  w : ∀ x ∈ st, 0 ≤ x ∧ x < 16777216
  ol : O.length = 512
  ow : ∀ p k (id : Nat), p < A.P → k < 16 → A.own p k = id → O.getD id 0 = ((p + 1 : Nat) : Int)
theorem ApA.new (P : Nat) : ApA (hp0 512 P) 0 [] (List.replicate 512 0) :=
  ⟨fun _ _ => rfl, ⟨0, 1, 511, Nat.le_refl _, rfl, rfl, by decide, fun j h => by omega, fun j _ => rfl, fun j _ => by
    rw [List.getD_eq_getElem?_getD, List.getElem?_replicate]; split <;> rfl⟩, rfl, fun x => ⟨fun h => by simp at h, fun h => by
    unfold obI at h
    split at h <;> cases h⟩, List.Pairwise.nil, Nat.le_refl _, by simp, List.length_replicate .., fun p k id _ _ h => by have h' : (-1 : Int) = (id : Nat) := h; omega⟩
theorem obI_upd {a a' : Ar} {x0 : Nat} {xs : List Int} (e : a'.ob = updF a.ob x0 (some xs)) (y : Int) : (obI a' y).isSome = true ↔ y = (x0 : Nat) ∨ (obI a y).isSome = true := by
  unfold obI
  by_cases h0 : 0 ≤ y
  · rw [if_pos h0, if_pos h0, e]
    by_cases h1 : y.toNat = x0
    · rw [h1, updF_same]
      constructor
      · intro _; exact .inl (by omega)
      · intro _; rfl
    · rw [updF_other _ _ h1]
      constructor
      · exact .inr
      · rintro (h | h)
        · omega
        · exact h
  · rw [if_neg h0, if_neg h0]
    constructor
    · intro h; cases h
    · rintro (h | h)
      · omega
      · cases h
theorem ApA.step {A A' : HpA} {i N N' : Nat} {st O : List Int} (K : ApA A i st O) (I : HpI A none) (J : ArI N A.a) (J' : ArI N' A'.a) (hi : i < 100) {p k n x : Nat} {g : List Int} {c : Int} (hp : p < A.P) (hk : k < 16) (h : AlcR p k n false A x g c A') :
    c = 0 ∧ g = [] ∧ (x : Int) ∉ st ∧ x < 16777216 ∧ A'.P = A.P ∧ ∃ id s y, A'.a.sp id = some s ∧ s.k = k ∧ y < slK s.k ∧ s.F y = true ∧ x = s.addr y ∧ id < 512 ∧ (O.getD id 0 = 0 ∨ O.getD id 0 = ((p + 1 : Nat) : Int)) ∧ ApA A' (i + 1) (putL st (x : Nat)) (O.set id ((p + 1 : Nat) : Int)) := by
  obtain ⟨m, f, pp, hm, hl, hs512, hf, hlt, hge, hO⟩ := K.ser
  have done : ∀ (A' : HpA) (id : Nat) (s s' : Sp) (y m' f' pp' : Nat) (a0 : Ar), ArI N' A'.a → a0.ob = A.a.ob → a0.n = A.a.n → a0.sp id = some s → s'.k = s.k → s'.first = s.first → s'.F y = true → y < slK s.k → a0.ob (s.addr y) = none → A'.a.sp = updF a0.sp id (some s') → A'.a.ob = updF a0.ob (s.addr y) (some (List.replicate n 0)) → A'.a.n = a0.n → s.k = k → A'.P = A.P → (∀ j, j % 4 ≠ 1 → A'.r j = []) →
      m' ≤ i + 1 → A'.a.l = [⟨f', pp'⟩] → f' + pp' = 512 → f' ≤ 1 + 4 * m' → m ≤ m' → (∀ j, j < m' → a0.sp j ≠ none) → (∀ j, m' ≤ j → a0.sp j = none) → id < m' → (∀ j, m' ≤ j → O.getD j 0 = 0) →
      (O.getD id 0 = 0 ∨ O.getD id 0 = ((p + 1 : Nat) : Int)) → (∀ p' k' (id' : Nat), p' < A.P → k' < 16 → A'.own p' k' = id' → if id' = id then p' = p else O.getD id' 0 = ((p' + 1 : Nat) : Int)) →
      ((s.addr y : Nat) : Int) ∉ st ∧ s.addr y < 16777216 ∧ A'.P = A.P ∧ ∃ id s2 y2, A'.a.sp id = some s2 ∧ s2.k = k ∧ y2 < slK s2.k ∧ s2.F y2 = true ∧ s.addr y = s2.addr y2 ∧ id < 512 ∧ (O.getD id 0 = 0 ∨ O.getD id 0 = ((p + 1 : Nat) : Int)) ∧ ApA A' (i + 1) (putL st (s.addr y : Nat)) (O.set id ((p + 1 : Nat) : Int)) := by
    intro A' id s s' y m' f' pp' a0 J' e1 e2 hs hsk hsf hF hy hno e3 e4 e5 hk2 hP hrows hm' hl' hs' hf' hmm hlt' hge' hid hO' hOid how
    have hx1 : ((s.addr y : Nat) : Int) ∉ st := fun hx => by
      have := (K.obs _).1 hx
      rw [obI_nat, ← e1, hno] at this; cases this
    have hsp : A'.a.sp id = some s' := by rw [e3]; exact updF_same _ _ _
    have had : s.addr y = s'.addr y := by unfold Sp.addr; rw [hsk, hsf]
    have hxb : s.addr y < 16777216 := by
      obtain ⟨g1, g2, g3, -⟩ := J'.ok.pg id s' hsp
      have := Sp.addr_page g1 (i := y) (by rw [hsk]; exact hy)
      rw [e5, e2, K.n] at g3
      rw [had]; omega
    have hid512 : id < O.length := by rw [K.ol]; omega
    refine ⟨hx1, hxb, hP, id, s', y, hsp, hsk.trans hk2, by rw [hsk]; exact hy, hF, had, by omega, hOid, hrows, ⟨m', f', pp', hm', hl', hs', hf', fun j hj => ?_, fun j hj => ?_, fun j hj => ?_⟩, by rw [e5, e2, K.n], fun z => ?_, rising_putL K.rise, ?_, fun z hz => ?_, by rw [List.length_set]; exact K.ol, fun p' k' id' hp' hk' ho' => ?_⟩
    · rw [e3]
      by_cases e : j = id
      · rw [e, updF_same]; simp
      · rw [updF_other _ _ e]; exact hlt' j hj
    · rw [e3, updF_other _ _ (by omega)]; exact hge' j hj
    · rw [getD_set hid512, if_neg (by omega)]; exact hO' j hj
    · rw [obI_upd (a := a0) e4 z, mem_putL, K.obs z]
      have e : obI a0 z = obI A.a z := by unfold obI; rw [e1]
      rw [e]
      exact Or.comm
    · have := len_putL st ((s.addr y : Nat) : Int)
      have := K.len
      omega
    · rcases mem_putL.1 hz with h | h
      · exact K.w z h
      · omega
    · rw [hP] at hp'
      have h1 := how p' k' id' hp' hk' ho'
      rw [getD_set hid512]
      by_cases e : id' = id
      · rw [if_pos e] at h1 ⊢
        rw [h1]
      · rw [if_neg e] at h1 ⊢
        exact h1
  rcases Classical.em (∀ (id : Nat) s, A.own p k = id → A.a.sp id = some s → fullS s) with hfull | hnf
  · obtain ⟨A1, hpre, rfl, rfl, rfl, rfl⟩ := h.new hfull (K.rows _ (by omega)) (K.rows _ (by omega)) (K.rows _ (by omega)) hl hk (by have := (kF hk).2.2.2.2.2.1; omega) hlt (hge m (Nat.le_refl _))
    obtain ⟨h1, h2, h3, h4⟩ := hpre.own_
    have hpi := hpre.inv I hp hk
    have hpg := (kF hk).2.2.2.2.2.1
    have hfree : A.a.ob (f * 64) = none := page_free J.ok ⟨⟨f, pp⟩, by rw [hl]; simp, Nat.le_refl _, by show f < f + pp; omega⟩
    have ha : (spn f k).addr 0 = f * 64 := spn_addr f k
    have hd := done { A1 with a := allocA (spanA A.a [⟨f + pgK k, pp - pgK k⟩] m k f) m (spn f k) 0 n false, own := updV A1.own p (updV (A1.own p) k ((m : Nat) : Int)) } m (spn f k) (allocS (spn f k) 0 false) 0 (m + 1) (f + pgK k) (pp - pgK k) (spanA A.a [⟨f + pgK k, pp - pgK k⟩] m k f) J' rfl rfl (updF_same _ _ _) rfl rfl (by show setF (fun _ => false) 0 0 = true; unfold setF; simp) (kF hk).2.2.2.2.2.2.2.1 (by rw [ha]; exact hfree) rfl rfl rfl rfl h2
      (fun j hj => by show A1.r j = []; rw [h3 j (by omega)]; exact K.rows j hj) (by omega) rfl (by omega) (by omega) (Nat.le_succ _) (fun j hj => by
        show updF A.a.sp m _ j ≠ none
        by_cases e : j = m
        · rw [e, updF_same]; simp
        · rw [updF_other _ _ e]; exact hlt j (by omega)) (fun j hj => by
        show updF A.a.sp m _ j = none
        rw [updF_other _ _ (by omega)]; exact hge j (by omega)) (Nat.lt_succ_self _) (fun j hj => hO j (by omega)) (.inl (hO m (Nat.le_refl _))) (fun p' k' id' hp' hk' ho' => by
        have ho2 : updV A1.own p (updV (A1.own p) k ((m : Nat) : Int)) p' k' = (id' : Nat) := ho'
        rw [updV2] at ho2
        by_cases e : p' = p ∧ k' = k
        · rw [if_pos e] at ho2
          have : id' = m := by omega
          rw [if_pos this]; exact e.1
        · rw [if_neg e] at ho2
          have hne : p' ≠ p ∨ k' ≠ k := by
            by_cases e2 : p' = p
            · exact .inr (fun e3 => e ⟨e2, e3⟩)
            · exact .inl e2
          rw [h4 p' k' hne] at ho2
          have hne2 : id' ≠ m := fun e2 => by
            rcases I.o p' k' hp' hk' with h5 | ⟨id2, t, h5, ht, -⟩
            · omega
            · have : id2 = m := by omega
              rw [this, hge m (Nat.le_refl _)] at ht; cases ht
          rw [if_neg hne2]
          exact K.ow p' k' id' hp' hk' ho2)
    rw [ha] at hd
    exact ⟨rfl, rfl, hd⟩
  · obtain ⟨id, s, ho, hs, hf2⟩ : ∃ (id : Nat) (s : Sp), A.own p k = id ∧ A.a.sp id = some s ∧ ¬ fullS s := Classical.byContradiction fun hc => hnf fun id s h1 h2 => Classical.byContradiction fun h3 => hc ⟨id, s, h1, h2, h3⟩
    have hsk : s.k = k := by
      rcases I.o p k hp hk with h1 | ⟨id', s', h1, h2, h3⟩
      · omega
      · have : id' = id := by omega
        subst this
        rw [hs] at h2; injection h2 with h2; subst h2
        exact h3
    obtain ⟨y, hy, rfl, rfl, rfl, rfl⟩ := h.own ho hs hf2
    have hidm : id < m := by
      rcases Nat.lt_or_ge id m with h1 | h1
      · exact h1
      · rw [hge id h1] at hs; cases hs
    exact ⟨rfl, rfl, done _ id s (allocS s y false) y m f pp A.a J' rfl rfl hs rfl rfl (by show setF s.F y y = true; unfold setF; simp) hy.2.1 (J.fresh hs hy.2.1 hy.2.2.1) rfl rfl rfl hsk rfl K.rows (by omega) hl hs512 hf (Nat.le_refl _) hlt hge hidm hO (.inr (K.ow p k id hp hk ho)) (fun p' k' id' hp' hk' ho' => by
      by_cases e : id' = id
      · rw [if_pos e]
        subst e
        rcases I.oi p' p k' k hp' hp hk' hk (ho'.trans ho.symm) with h1 | h1
        · have ho2 : A.own p' k' = (id' : Nat) := ho'
          omega
        · exact h1.1
      · rw [if_neg e]; exact K.ow p' k' id' hp' hk' ho')⟩
end Go.Proofs.YtmafiagakoglkaaGreatDoor
namespace Go.Proofs.YtmafiagakoglkaaGreatDoor
open Go.RowKit Go.Maps

/-- A span, swept or as it was. -/
def Trn (D : Prop) (o o' : Option Sp) : Prop := (D ∧ ∃ s, o = some s ∧ o' = some (sweptS s)) ∨ (¬ D ∧ o' = o)
theorem Trn.rfl_ {D : Prop} {o : Option Sp} (h : ¬ D) : Trn D o o := .inr ⟨h, rfl⟩
structure SkD (k : Nat) (A B : HpA) (g : List Int) (D : Nat → Prop) : Prop where
  own : B.own = A.own
  P : B.P = A.P
  n : B.a.n = A.a.n
  d : ∀ i, D i → i ∈ A.r (k * 4 + 2) ∨ i ∈ A.r (k * 4 + 3)
  r : ∀ j z, 2 ≤ j % 4 → (z ∈ B.r j ↔ z ∈ A.r j ∧ ¬ D z)
  r0 : ∀ j z, j % 4 = 0 → z ∈ B.r j → z ∈ A.r j
  g : ∀ y, y ∈ g ↔ ∃ i s, D i ∧ A.a.sp i = some s ∧ y ∈ swI s
section
variable {k : Nat} {A B : HpA} {g : List Int}
theorem SkF.sum (h : SkF k A g B) (hk : k < 16) (I : HpI A none) : ∃ D, SkD k A B g D ∧ B.a.l = A.a.l ∧ (∀ i, Trn (D i) (A.a.sp i) (B.a.sp i)) := by
  induction h with
  | nil => exact ⟨fun _ => False, ⟨rfl, rfl, rfl, fun _ h => h.elim, fun j z _ => by simp, fun _ _ _ h => h, fun y => by simp⟩, rfl, fun _ => .inr ⟨id, rfl⟩⟩
  | snoc h h1 h2 h3 ih =>
    rename_i B g xs x s
    obtain ⟨D, K, hl, hsp⟩ := ih
    have IB := h.inv hk I
    have hx : x ∈ B.r (k * 4 + 3) := by rw [h1]; simp
    obtain ⟨hxA, hnD⟩ := (K.r (k * 4 + 3) x (by omega)).1 hx
    have hsA : A.a.sp x = some s := by
      rcases hsp x with ⟨hd, -⟩ | ⟨-, e⟩
      · exact absurd hd hnD
      · rw [← e]; exact h2
    have nd := IB.nd (k * 4 + 3)
    rw [h1, List.nodup_append] at nd
    have hxs : x ∉ xs := fun hm => nd.2.2 x hm x (by simp) rfl
    refine ⟨fun i => D i ∨ i = x, ⟨K.own, K.P, K.n, fun i hi => ?_, fun j z hj => ?_, fun j z hj hz => ?_, fun y => ?_⟩, hl, fun i => ?_⟩
    · rcases hi with hi | rfl
      · exact K.d i hi
      · exact .inr hxA
    · show z ∈ updV (updV B.r (k * 4 + 3) xs) (k * 4 + 1) _ j ↔ _
      rw [updV_other _ _ (by omega)]
      by_cases e : j = k * 4 + 3
      · rw [e, updV_same]
        have h5 := K.r (k * 4 + 3) z (by omega)
        rw [h1] at h5
        constructor
        · intro hz
          obtain ⟨h6, h7⟩ := h5.1 (List.mem_append_left _ hz)
          exact ⟨h6, fun h8 => h8.elim h7 (fun e2 => hxs (e2 ▸ hz))⟩
        · rintro ⟨h6, h7⟩
          rcases List.mem_append.1 (h5.2 ⟨h6, fun h => h7 (.inl h)⟩) with h8 | h8
          · exact h8
          · exact absurd (.inr (by simpa using h8)) h7
      · rw [updV_other _ _ e, K.r j z hj]
        constructor
        · rintro ⟨h6, h7⟩
          exact ⟨h6, fun h8 => h8.elim h7 (fun e2 => e (I.dj j (k * 4 + 3) x (e2 ▸ h6) hxA))⟩
        · rintro ⟨h6, h7⟩
          exact ⟨h6, fun h => h7 (.inl h)⟩
    · have hz' : z ∈ updV (updV B.r (k * 4 + 3) xs) (k * 4 + 1) (updV B.r (k * 4 + 3) xs (k * 4 + 1) ++ [x]) j := hz
      rw [updV_other _ _ (by omega), updV_other _ _ (by omega)] at hz'
      exact K.r0 j z hj hz'
    · rw [List.mem_append, K.g y]
      constructor
      · rintro (⟨i, t, h5, h6, h7⟩ | h5)
        · exact ⟨i, t, .inl h5, h6, h7⟩
        · exact ⟨x, s, .inr rfl, hsA, h5⟩
      · rintro ⟨i, t, h5 | h5, h6, h7⟩
        · exact .inl ⟨i, t, h5, h6, h7⟩
        · subst h5
          rw [hsA] at h6; injection h6 with h6; subst h6
          exact .inr h7
    · show Trn (D i ∨ i = x) (A.a.sp i) (updF B.a.sp x (some (sweptS s)) i)
      by_cases e : i = x
      · subst e
        rw [updF_same]
        exact .inl ⟨.inr rfl, s, hsA, rfl⟩
      · rw [updF_other _ _ e]
        rcases hsp i with ⟨h5, h6⟩ | ⟨h5, h6⟩
        · exact .inl ⟨.inl h5, h6⟩
        · exact .inr ⟨fun h => h.elim h5 e, h6⟩
/-- The span that seek gives: one that stood in a row, or a new one. -/
def SkGot (k : Nat) (A B : HpA) (f pp id : Nat) (D : Nat → Prop) : Prop :=
  (∃ s, A.a.sp id = some s ∧ (∃ j, id ∈ A.r j) ∧ Trn (D id) (some s) (B.a.sp id) ∧ B.a.l = A.a.l) ∨
  (A.a.sp id = none ∧ (∀ j, j < id → A.a.sp j ≠ none) ∧ A.r (k * 4) = [] ∧ ¬ D id ∧ B.a.sp id = some (spn f k) ∧ B.a.l = [⟨f + pgK k, pp - pgK k⟩])
theorem SeekR.sum {id : Nat} {ok : Bool} (h : SeekR k A id g ok B) (hk : k < 16) (I : HpI A none) {f pp : Nat} (hl : A.a.l = [⟨f, pp⟩]) (hp : pgK k < pp) :
    ok = true ∧ ∃ D, SkD k A B g D ∧ (∀ i, i ≠ id → Trn (D i) (A.a.sp i) (B.a.sp i)) ∧ SkGot k A B f pp id D := by
  have hpg := (kF hk).2.2.2.2.1
  cases h with
  | swept h =>
    rename_i xs
    obtain ⟨-, s, hs, -⟩ := I.r (k * 4) id (by rw [h]; simp)
    refine ⟨rfl, fun _ => False, ⟨rfl, rfl, rfl, fun _ h => h.elim, fun j z hj => ?_, fun j z hj hz => ?_, fun y => by simp⟩, fun i _ => .inr ⟨fun h => h, rfl⟩, .inl ⟨s, hs, ⟨k * 4, by rw [h]; simp⟩, .inr ⟨fun h => h, hs⟩, rfl⟩⟩
    · show z ∈ updV A.r (k * 4) xs j ↔ _
      rw [updV_other _ _ (by omega)]; simp
    · have hz' : z ∈ updV A.r (k * 4) xs j := hz
      by_cases e : j = k * 4
      · subst e
        rw [updV_same] at hz'
        rw [h]; exact List.mem_append_left _ hz'
      · rwa [updV_other _ _ e] at hz'
  | unswept h0 h1 h2 =>
    rename_i xs s
    have hx : id ∈ A.r (k * 4 + 2) := by rw [h1]; simp
    have nd := I.nd (k * 4 + 2)
    rw [h1, List.nodup_append] at nd
    have hxs : id ∉ xs := fun hm => nd.2.2 id hm id (by simp) rfl
    refine ⟨rfl, fun i => i = id, ⟨rfl, rfl, rfl, fun i h => .inl (h ▸ hx), fun j z hj => ?_, fun j z hj hz => ?_, fun y => ?_⟩, fun i hi => .inr ⟨hi, updF_other _ _ hi⟩, .inl ⟨s, h2, ⟨_, hx⟩, .inl ⟨rfl, s, rfl, updF_same _ _ _⟩, rfl⟩⟩
    · show z ∈ updV A.r (k * 4 + 2) xs j ↔ _
      by_cases e : j = k * 4 + 2
      · rw [e, updV_same, h1, List.mem_append]
        constructor
        · intro hz
          exact ⟨.inl hz, fun e2 => hxs (e2 ▸ hz)⟩
        · rintro ⟨h5 | h5, h6⟩
          · exact h5
          · exact absurd (by simpa using h5) h6
      · rw [updV_other _ _ e]
        constructor
        · intro hz
          exact ⟨hz, fun e2 => e (I.dj j (k * 4 + 2) id (e2 ▸ hz) hx)⟩
        · exact fun h => h.1
    · have hz' : z ∈ updV A.r (k * 4 + 2) xs j := hz
      rwa [updV_other _ _ (by omega)] at hz'
    · constructor
      · intro hy; exact ⟨id, s, rfl, h2, hy⟩
      · rintro ⟨i, t, rfl, h5, h6⟩
        rw [h2] at h5; injection h5 with h5; subst h5
        exact h6
  | full h0 h1 h2 h3 h4 h5 =>
    rename_i B g xs s
    obtain ⟨D, K, hlB, hsp⟩ := h2.sum hk I
    have IB := h2.inv hk I
    have hx : id ∈ B.r (k * 4 + 3) := by rw [h3]; simp
    obtain ⟨hxA, hnD⟩ := (K.r (k * 4 + 3) id (by omega)).1 hx
    have hsA : A.a.sp id = some s := by
      rcases hsp id with ⟨hd, -⟩ | ⟨-, e⟩
      · exact absurd hd hnD
      · rw [← e]; exact h4
    have nd := IB.nd (k * 4 + 3)
    rw [h3, List.nodup_append] at nd
    have hxs : id ∉ xs := fun hm => nd.2.2 id hm id (by simp) rfl
    refine ⟨rfl, fun i => D i ∨ i = id, ⟨K.own, K.P, K.n, fun i hi => ?_, fun j z hj => ?_, fun j z hj hz => ?_, fun y => ?_⟩, fun i hi => ?_, .inl ⟨s, hsA, ⟨_, hxA⟩, .inl ⟨.inr rfl, s, rfl, updF_same _ _ _⟩, hlB⟩⟩
    · rcases hi with hi | rfl
      · exact K.d i hi
      · exact .inr hxA
    · show z ∈ updV B.r (k * 4 + 3) xs j ↔ _
      by_cases e : j = k * 4 + 3
      · rw [e, updV_same]
        have h6 := K.r (k * 4 + 3) z (by omega)
        rw [h3] at h6
        constructor
        · intro hz
          obtain ⟨h7, h8⟩ := h6.1 (List.mem_append_left _ hz)
          exact ⟨h7, fun h9 => h9.elim h8 (fun e2 => hxs (e2 ▸ hz))⟩
        · rintro ⟨h7, h8⟩
          rcases List.mem_append.1 (h6.2 ⟨h7, fun h => h8 (.inl h)⟩) with h9 | h9
          · exact h9
          · exact absurd (.inr (by simpa using h9)) h8
      · rw [updV_other _ _ e, K.r j z hj]
        constructor
        · rintro ⟨h6, h7⟩
          exact ⟨h6, fun h8 => h8.elim h7 (fun e2 => e (I.dj j (k * 4 + 3) id (e2 ▸ h6) hxA))⟩
        · rintro ⟨h6, h7⟩
          exact ⟨h6, fun h => h7 (.inl h)⟩
    · have hz' : z ∈ updV B.r (k * 4 + 3) xs j := hz
      rw [updV_other _ _ (by omega)] at hz'
      exact K.r0 j z hj hz'
    · rw [List.mem_append, K.g y]
      constructor
      · rintro (⟨i, t, h6, h7, h8⟩ | h6)
        · exact ⟨i, t, .inl h6, h7, h8⟩
        · exact ⟨id, s, .inr rfl, hsA, h6⟩
      · rintro ⟨i, t, h6 | h6, h7, h8⟩
        · exact .inl ⟨i, t, h6, h7, h8⟩
        · subst h6
          rw [hsA] at h7; injection h7 with h7; subst h7
          exact .inr h8
    · show Trn (D i ∨ i = id) (A.a.sp i) (updF B.a.sp id (some (sweptS s)) i)
      rw [updF_other _ _ hi]
      rcases hsp i with ⟨h6, h7⟩ | ⟨h6, h7⟩
      · exact .inl ⟨.inl h6, h7⟩
      · exact .inr ⟨fun h => h.elim h6 hi, h7⟩
  | fresh h0 h1 h2 h3 h4 h5 h6 =>
    rename_i B f' l'
    obtain ⟨D, K, hlB, hsp⟩ := h2.sum hk I
    rw [hlB, hl] at h4
    obtain ⟨h7, -, h8⟩ := says_one hpg hp h4
    have h9 : f' = f := Int.ofNat.inj h7
    subst h9 h8
    have none_ : ∀ i, B.a.sp i = none ↔ A.a.sp i = none := fun i => by
      rcases hsp i with ⟨-, s, e1, e2⟩ | ⟨-, e⟩
      · rw [e1, e2]; simp
      · rw [e]
    have hnD : ¬ D id := fun hd => by
      rcases hsp id with ⟨-, s, e1, e2⟩ | ⟨h, -⟩
      · rw [h5] at e2; cases e2
      · exact h hd
    refine ⟨rfl, D, ⟨K.own, K.P, K.n, K.d, K.r, K.r0, K.g⟩, fun i hi => ?_, .inr ⟨(none_ id).1 h5, fun j hj h => h6 j hj ((none_ j).2 h), h0, hnD, updF_same _ _ _, rfl⟩⟩
    show Trn (D i) (A.a.sp i) (updF B.a.sp id _ i)
    rw [updF_other _ _ hi]; exact hsp i
  | again h0 h1 h2 h3 h4 h5 =>
    obtain ⟨D, K, hlB, hsp⟩ := h2.sum hk I
    rw [hlB, hl] at h4
    exact absurd (says_one hpg hp h4).2.1 h5
  | no h0 h1 h2 h3 h4 h5 =>
    obtain ⟨D, K, hlB, hsp⟩ := h2.sum hk I
    rw [hlB, hl] at h4
    exact absurd (says_one hpg hp h4).2.1 h5
end
/-- What Alloc does. -/
structure AlS (p k n : Nat) (black : Bool) (A : HpA) (x : Nat) (g : List Int) (A' : HpA) (f pp id : Nat) (s0 : Sp) (y : Nat) (D : Nat → Prop) : Prop where
  eP : A'.P = A.P
  eN : A'.a.n = A.a.n
  own : ∀ p' k', A'.own p' k' = if p' = p ∧ k' = k then ((id : Nat) : Int) else A.own p' k'
  d : ∀ i, D i → i ∈ A.r (k * 4 + 2) ∨ i ∈ A.r (k * 4 + 3)
  r : ∀ j z, 2 ≤ j % 4 → (z ∈ A'.r j ↔ z ∈ A.r j ∧ ¬ D z)
  r0 : ∀ j z, j % 4 = 0 → z ∈ A'.r j → z ∈ A.r j
  eg : ∀ y, y ∈ g ↔ ∃ i s, D i ∧ A.a.sp i = some s ∧ y ∈ swI s
  sp : ∀ i, i ≠ id → Trn (D i) (A.a.sp i) (A'.a.sp i)
  e0 : (∃ s, A.a.sp id = some s ∧ Trn (D id) (some s) (some s0) ∧ A'.a.l = A.a.l) ∨ (A.a.sp id = none ∧ (∀ j, j < id → A.a.sp j ≠ none) ∧ ¬ D id ∧ s0 = spn f k ∧ A'.a.l = [⟨f + pgK k, pp - pgK k⟩] ∧ A.r (k * 4) = [] ∧ ∀ (i : Nat) s, A.own p k = i → A.a.sp i = some s → fullS s)
  spid : A'.a.sp id = some (allocS s0 y black)
  ek : s0.k = k
  ey : PlcS s0 y
  ex : x = s0.addr y
  ob : A'.a.ob x = some (List.replicate n 0)
theorem AlcR.sum {p k n x : Nat} {black : Bool} {A A' : HpA} {g : List Int} {c : Int} (h : AlcR p k n black A x g c A') (I : HpI A none) (hp : p < A.P) (hk : k < 16) {f pp : Nat} (hl : A.a.l = [⟨f, pp⟩]) (hpp : pgK k < pp) {N : Nat} (J : ArI N A.a) :
    c = 0 ∧ ∃ id s0 y D, AlS p k n black A x g A' f pp id s0 y D := by
  cases h with
  | has h1 h2 h3 h4 =>
    rename_i id y s
    have hsk : s.k = k := by
      rcases I.o p k hp hk with h5 | ⟨id', s', h5, h6, h7⟩
      · omega
      · have : id' = id := by omega
        subst this
        rw [h2] at h6; injection h6 with h6; subst h6
        exact h7
    refine ⟨rfl, id, s, y, fun _ => False, rfl, rfl, fun p' k' => ?_, fun _ h => h.elim, fun j z _ => by simp, fun _ _ _ h => h, fun y => by simp, fun i hi => .inr ⟨fun h => h, updF_other _ _ hi⟩, .inl ⟨s, h2, .inr ⟨fun h => h, rfl⟩, rfl⟩, updF_same _ _ _, hsk, h4, rfl, updF_same _ _ _⟩
    show A.own p' k' = _
    split
    · next e => rw [e.1, e.2]; exact h1
    · rfl
  | got h1 h2 h3 h4 h5 =>
    rename_i A1 A2 id y s
    obtain ⟨I1, ho1, hP1, ha1⟩ := h1.inv I hp hk
    obtain ⟨e1, e2, e3, e4⟩ := h1.own_
    obtain ⟨-, D, K, hsp, hgot⟩ := h2.sum hk I1 (by rw [ha1]; exact hl) hpp
    have hr : ∀ j, 2 ≤ j % 4 → A1.r j = A.r j := fun j hj => e3 j (by omega)
    refine ⟨rfl, id, s, y, D, K.P.trans hP1, K.n.trans (by rw [ha1]), fun p' k' => ?_, fun i hi => ?_, fun j z hj => ?_, fun j z hj hz => ?_, fun y => ?_, fun i hi => ?_, ?_, updF_same _ _ _, h4, h5, rfl, updF_same _ _ _⟩
    · show updV A2.own p (updV (A2.own p) k _) p' k' = _
      rw [updV2]
      split
      · rfl
      · next hne =>
        rw [K.own]
        exact e4 p' k' (by
          by_cases e : p' = p
          · exact .inr fun e2 => hne ⟨e, e2⟩
          · exact .inl e)
    · have := K.d i hi
      rwa [hr _ (by omega), hr _ (by omega)] at this
    · have := K.r j z hj
      rwa [hr j hj] at this
    · have := K.r0 j z hj hz
      rwa [e3 j (by omega)] at this
    · have := K.g y
      rwa [ha1] at this
    · show Trn (D i) (A.a.sp i) (updF A2.a.sp id _ i)
      rw [updF_other _ _ hi]
      have := hsp i hi
      rwa [ha1] at this
    · rcases hgot with ⟨t, ht, hj, htr, hl2⟩ | ⟨ht, hall, hrow, hnd, hsp2, hl2⟩
      · rw [ha1] at ht hl2
        rw [h3] at htr
        exact .inl ⟨t, ht, htr, hl2⟩
      · rw [ha1] at ht hall
        rw [h3] at hsp2
        injection hsp2 with hsp2
        rw [e3 (k * 4) (by omega)] at hrow
        refine .inr ⟨ht, hall, hnd, hsp2, hl2, hrow, fun i t hi hti => ?_⟩
        rcases h1 with ⟨h6, -⟩ | ⟨id2, t2, h6, h7, h8, -⟩
        · omega
        · have : id2 = i := by omega
          subst this
          rw [hti] at h7; injection h7 with h7; subst h7
          exact h8
  | no h1 h2 =>
    rename_i A1
    obtain ⟨I1, ho1, hP1, ha1⟩ := h1.inv I hp hk
    obtain ⟨h3, -⟩ := h2.sum hk I1 (by rw [ha1]; exact hl) hpp
    cases h3
section
variable {p k n x : Nat} {black : Bool} {A A' : HpA} {g : List Int} {f pp id : Nat} {s0 : Sp} {y : Nat} {D : Nat → Prop} (T : AlS p k n black A x g A' f pp id s0 y D)
include T
/-- Where the place's span came from: what is used in it. -/
theorem AlS.from_ {i : Nat} (hi : s0.F i = true) : ∃ s, A.a.sp id = some s ∧ s.first = s0.first ∧ s.k = s0.k ∧ ((D id ∧ s.M i = true ∧ s0 = sweptS s) ∨ (¬ D id ∧ s0 = s)) := by
  rcases T.e0 with ⟨s, hs, ⟨h1, t, e1, e2⟩ | ⟨h1, e2⟩, -⟩ | ⟨-, -, -, rfl, -⟩
  · injection e1 with e1; subst e1
    injection e2 with e2; subst e2
    exact ⟨s, hs, rfl, rfl, .inl ⟨h1, hi, rfl⟩⟩
  · injection e2 with e2; subst e2
    exact ⟨s0, hs, rfl, rfl, .inr ⟨h1, rfl⟩⟩
  · cases hi
/-- Objects: the new one, and those that were not swept. -/
theorem AlS.obs {N N' : Nat} (J : ArI N A.a) (J' : ArI N' A'.a) (z : Nat) : (A'.a.ob z).isSome = true ↔ z = x ∨ ((A.a.ob z).isSome = true ∧ ((z : Nat) : Int) ∉ g) := by
  have notg : ∀ {i i' : Nat} {s : Sp}, A.a.sp i = some s → i' < slK s.k → s.addr i' = z → (¬ D i ∨ s.M i' = true) → ((z : Nat) : Int) ∉ g := fun {i i' s} hs hi' hz hd hg => by
    obtain ⟨i2, s2, hD, hs2, hm⟩ := (T.eg _).1 hg
    unfold swI intsN at hm
    obtain ⟨z2, hz2, e⟩ := List.mem_map.1 hm
    obtain ⟨i3, hi3, rfl⟩ := List.mem_map.1 hz2
    obtain ⟨h1, h2, h3⟩ := swept_mem.1 hi3
    have e2 : s.addr i' = s2.addr i3 := by omega
    have e3 := J.ok.other hs hs2 hi' h1 e2
    subst e3
    rw [hs] at hs2; injection hs2 with hs2; subst hs2
    have e4 := Sp.addr_inj (J.ok.pg _ _ hs).1 e2
    subst e4
    rcases hd with hd | hd
    · exact hd hD
    · rw [h3] at hd; cases hd
  rw [J'.ok.ob z]
  constructor
  · rintro ⟨id', s', i, hs', hi, hF, hz⟩
    by_cases e : id' = id
    · subst e
      rw [T.spid] at hs'; injection hs' with hs'; subst hs'
      have hF' : setF s0.F y i = true := hF
      by_cases e2 : i = y
      · left; rw [hz, e2, T.ex]; rfl
      · right
        unfold setF at hF'
        rw [if_neg e2] at hF'
        obtain ⟨s, hs, h1, h2, h3⟩ := T.from_ hF'
        have hz' : s.addr i = z := by rw [hz]; unfold Sp.addr; rw [h1, h2]; rfl
        have hi' : i < slK s.k := by rw [h2]; exact hi
        rcases h3 with ⟨h4, h5, -⟩ | ⟨h4, h5⟩
        · exact ⟨(J.ok.ob z).2 ⟨_, s, i, hs, hi', J.mf _ s i hs h5, hz'.symm⟩, notg hs hi' hz' (.inr h5)⟩
        · exact ⟨(J.ok.ob z).2 ⟨_, s, i, hs, hi', by rw [← h5]; exact hF', hz'.symm⟩, notg hs hi' hz' (.inl h4)⟩
    · right
      rcases T.sp id' e with ⟨h1, s, h2, h3⟩ | ⟨h1, h2⟩
      · rw [hs'] at h3; injection h3 with h3; subst h3
        have hF' : s.M i = true := hF
        have hi' : i < slK s.k := hi
        have hz' : s.addr i = z := hz.symm
        exact ⟨(J.ok.ob z).2 ⟨id', s, i, h2, hi', J.mf _ s i h2 hF', hz⟩, notg h2 hi' hz' (.inr hF')⟩
      · rw [h2] at hs'
        exact ⟨(J.ok.ob z).2 ⟨id', s', i, hs', hi, hF, hz⟩, notg hs' hi hz.symm (.inl h1)⟩
  · rintro (rfl | ⟨h1, h2⟩)
    · exact ⟨id, _, y, T.spid, T.ey.2.1, by show setF s0.F y y = true; unfold setF; simp, T.ex⟩
    · obtain ⟨id', s, i, hs, hi, hF, hz⟩ := (J.ok.ob z).1 h1
      have keep : D id' → s.M i = true := fun hD => by
        cases hM : s.M i with
        | true => rfl
        | false =>
          refine absurd ((T.eg _).2 ⟨id', s, hD, hs, ?_⟩) h2
          unfold swI intsN
          exact List.mem_map.2 ⟨z, List.mem_map.2 ⟨i, swept_mem.2 ⟨hi, hF, hM⟩, hz.symm⟩, rfl⟩
      by_cases e : id' = id
      · subst e
        rcases T.e0 with ⟨t, ht, htr, -⟩ | ⟨h3, -⟩
        · rw [hs] at ht; injection ht with ht; subst ht
          refine ⟨_, _, i, T.spid, ?_, ?_, ?_⟩
          · rcases htr with ⟨h3, t, e1, e2⟩ | ⟨h3, e2⟩
            · injection e1 with e1; subst e1; injection e2 with e2; subst e2; exact hi
            · injection e2 with e2; subst e2; exact hi
          · show setF s0.F y i = true
            unfold setF
            split
            · rfl
            · rcases htr with ⟨h3, t, e1, e2⟩ | ⟨h3, e2⟩
              · injection e1 with e1; subst e1; injection e2 with e2; subst e2; exact keep h3
              · injection e2 with e2; subst e2; exact hF
          · rcases htr with ⟨h3, t, e1, e2⟩ | ⟨h3, e2⟩
            · injection e1 with e1; subst e1; injection e2 with e2; subst e2; exact hz
            · injection e2 with e2; subst e2; exact hz
        · rw [hs] at h3; cases h3
      · rcases T.sp id' e with ⟨h3, t, h4, h5⟩ | ⟨h3, h4⟩
        · rw [hs] at h4; injection h4 with h4; subst h4
          exact ⟨id', _, i, h5, hi, keep h3, hz⟩
        · exact ⟨id', s, i, h4.trans hs, hi, hF, hz⟩
/-- The new one was not there, or has been swept. -/
theorem AlS.new_ {N : Nat} (J : ArI N A.a) (hk : k < 16) (hl : A.a.l = [⟨f, pp⟩]) (hpp : pgK k < pp) (hx : (A.a.ob x).isSome = true) : ((x : Nat) : Int) ∈ g := by
  obtain ⟨id', s, i, hs, hi, hF, hz⟩ := (J.ok.ob x).1 hx
  rcases T.e0 with ⟨t, ht, htr, -⟩ | ⟨h3, hall, hnd, e0, -⟩
  · have hft : s0.first = t.first ∧ s0.k = t.k := by
      rcases htr with ⟨h3, u, e1, e2⟩ | ⟨h3, e2⟩
      · injection e1 with e1; subst e1; injection e2 with e2; subst e2; exact ⟨rfl, rfl⟩
      · injection e2 with e2; subst e2; exact ⟨rfl, rfl⟩
    have e1 : s.addr i = t.addr y := by rw [← hz, T.ex]; unfold Sp.addr; rw [hft.1, hft.2]
    have hy : y < slK t.k := by rw [← hft.2]; exact T.ey.2.1
    have e2 := J.ok.other hs ht hi hy e1
    subst e2
    rw [hs] at ht; injection ht with ht; subst ht
    have e3 := Sp.addr_inj (J.ok.pg _ _ hs).1 e1
    subst e3
    rcases htr with ⟨h3, u, e1, e2⟩ | ⟨h3, e2⟩
    · injection e1 with e1; subst e1; injection e2 with e2; subst e2
      have h4 : s.M i = false := T.ey.2.2.1
      refine (T.eg _).2 ⟨_, s, h3, hs, ?_⟩
      unfold swI intsN
      exact List.mem_map.2 ⟨x, List.mem_map.2 ⟨i, swept_mem.2 ⟨hi, hF, h4⟩, hz.symm⟩, rfl⟩
    · injection e2 with e2; subst e2
      rw [T.ey.2.2.1] at hF; cases hF
  · exfalso
    obtain ⟨g1, g2, g3, g4⟩ := J.ok.pg _ _ hs
    have p1 := Sp.addr_page g1 hi
    have p2 := Sp.addr_page (s := spn f k) (i := y) hk (by have := T.ey.2.1; rw [T.ek] at this; exact this)
    have e1 : s.addr i = (spn f k).addr y := by rw [← hz, T.ex, e0]
    rw [e1] at p1
    exact g4 _ p1.1 p1.2 ⟨⟨f, pp⟩, by rw [hl]; simp, p2.1, by have := p2.2; show _ < f + pp; show (spn f k).addr y / 64 < f + pp; have e2 : (spn f k).first = f := rfl; have e3 : (spn f k).k = k := rfl; rw [e2, e3] at this; omega⟩
end
end Go.Proofs.YtmafiagakoglkaaGreatDoor
namespace Go.Proofs.YtmafiagakoglkaaGreatDoor
open Go.RowKit Go.Maps

/-- An object that is there, and is marked, or its span is not to be swept. -/
def Sty (A : HpA) (x : Nat) : Prop := ∃ id s i, A.a.sp id = some s ∧ i < slK s.k ∧ s.F i = true ∧ x = s.addr i ∧ (s.M i = true ∨ ∀ j, 2 ≤ j % 4 → id ∉ A.r j)
/-- An object that is there and is marked. -/
def Mkd (A : HpA) (x : Nat) : Prop := ∃ id s i, A.a.sp id = some s ∧ i < slK s.k ∧ s.F i = true ∧ x = s.addr i ∧ s.M i = true
theorem Mkd.sty {A B : HpA} {x : Nat} (h : Mkd A x) (e : B.a.sp = A.a.sp) : Sty B x := by
  obtain ⟨id, s, i, h1, h2, h3, h4, h5⟩ := h
  exact ⟨id, s, i, by rw [e]; exact h1, h2, h3, h4, .inl h5⟩
theorem Sty.ob {A : HpA} {x N : Nat} (h : Sty A x) (J : ArI N A.a) : (A.a.ob x).isSome = true := by
  obtain ⟨id, s, i, h1, h2, h3, h4, -⟩ := h
  exact (J.ok.ob x).2 ⟨id, s, i, h1, h2, h3, h4⟩
theorem allocS_F {s : Sp} {y i : Nat} {black : Bool} (h : s.F i = true) : (allocS s y black).F i = true := by
  show setF s.F y i = true
  unfold setF
  split
  · rfl
  · exact h
theorem allocS_M {s : Sp} {y i : Nat} {black : Bool} (h : s.M i = true) : (allocS s y black).M i = true := by
  cases black with
  | false => exact h
  | true =>
    show setF s.M y i = true
    unfold setF
    split
    · rfl
    · exact h
section
variable {p k n x : Nat} {black : Bool} {A A' : HpA} {g : List Int} {f pp id : Nat} {s0 : Sp} {y : Nat} {D : Nat → Prop} (T : AlS p k n black A x g A' f pp id s0 y D)
include T
theorem AlS.un {i : Nat} (h : D i) : ∃ j, 2 ≤ j % 4 ∧ i ∈ A.r j := by
  rcases T.d i h with h1 | h1
  · exact ⟨_, by omega, h1⟩
  · exact ⟨_, by omega, h1⟩
theorem AlS.keeps {i i' : Nat} {s : Sp} (hs : A.a.sp i = some s) (hi : i' < slK s.k) (hF : s.F i' = true) (hM : s.M i' = true ∨ ¬ D i) : ∃ s', A'.a.sp i = some s' ∧ s'.k = s.k ∧ s'.first = s.first ∧ s'.F i' = true ∧ (i ≠ id → ¬ D i → s' = s) ∧ (¬ D i → s.M i' = true → s'.M i' = true) := by
  by_cases e : i = id
  · subst e
    rcases T.e0 with ⟨t, ht, htr, -⟩ | ⟨h3, -⟩
    · rw [hs] at ht; injection ht with ht; subst ht
      rcases htr with ⟨h3, u, e1, e2⟩ | ⟨h3, e2⟩
      · injection e1 with e1; subst e1; injection e2 with e2; subst e2
        exact ⟨_, T.spid, rfl, rfl, allocS_F (s := sweptS s) (hM.resolve_right (fun h => h h3)), fun h => absurd rfl h, fun h => absurd h3 h⟩
      · injection e2 with e2; subst e2
        exact ⟨_, T.spid, rfl, rfl, allocS_F hF, fun h => absurd rfl h, fun _ h => allocS_M h⟩
    · rw [hs] at h3; cases h3
  · rcases T.sp i e with ⟨h3, t, h4, h5⟩ | ⟨h3, h4⟩
    · rw [hs] at h4; injection h4 with h4; subst h4
      exact ⟨_, h5, rfl, rfl, hM.resolve_right (fun h => h h3), fun _ h => absurd h3 h, fun h => absurd h3 h⟩
    · exact ⟨s, h4.trans hs, rfl, rfl, hF, fun _ _ => rfl, fun _ h => h⟩
theorem AlS.sty {N : Nat} (J : ArI N A.a) (hk : k < 16) (hl : A.a.l = [⟨f, pp⟩]) (hpp : pgK k < pp) {z : Nat} (h : Sty A z) : Sty A' z ∧ z ≠ x := by
  have hob := h.ob J
  obtain ⟨i, s, i', h1, h2, h3, h4, h5⟩ := h
  have hM : s.M i' = true ∨ ¬ D i := by
    rcases h5 with h5 | h5
    · exact .inl h5
    · exact .inr fun h => by
        obtain ⟨j, hj, hm⟩ := T.un h
        exact h5 j hj hm
  refine ⟨?_, fun e => ?_⟩
  · obtain ⟨s', e1, e2, e3, e4, e5, e6⟩ := T.keeps h1 h2 h3 hM
    refine ⟨i, s', i', e1, by rw [e2]; exact h2, e4, by rw [h4]; unfold Sp.addr; rw [e2, e3], ?_⟩
    by_cases hD : D i
    · exact .inr fun j hj hm => ((T.r j i hj).1 hm).2 hD
    · rcases h5 with h5 | h5
      · exact .inl (e6 hD h5)
      · exact .inr fun j hj hm => h5 j hj ((T.r j i hj).1 hm).1
  · subst e
    have hg := T.new_ J hk hl hpp hob
    obtain ⟨i2, s2, hD, hs2, hm⟩ := (T.eg _).1 hg
    unfold swI intsN at hm
    obtain ⟨z2, hz2, e⟩ := List.mem_map.1 hm
    obtain ⟨i3, hi3, rfl⟩ := List.mem_map.1 hz2
    obtain ⟨g1, g2, g3⟩ := swept_mem.1 hi3
    have e2 : s.addr i' = s2.addr i3 := by omega
    have e3 := J.ok.other h1 hs2 h2 g1 e2
    subst e3
    rw [h1] at hs2; injection hs2 with hs2; subst hs2
    have e4 := Sp.addr_inj (J.ok.pg _ _ h1).1 e2
    subst e4
    rcases hM with hM | hM
    · rw [g3] at hM; cases hM
    · exact hM hD
theorem AlS.mkd (h0 : ∀ j, 2 ≤ j % 4 → A.r j = []) {z : Nat} (h : Mkd A z) : Mkd A' z := by
  obtain ⟨i, s, i', h1, h2, h3, h4, h5⟩ := h
  have hD : ¬ D i := fun h => by
    obtain ⟨j, hj, hm⟩ := T.un h
    rw [h0 j hj] at hm; cases hm
  obtain ⟨s', e1, e2, e3, e4, e5, e6⟩ := T.keeps h1 h2 h3 (.inl h5)
  exact ⟨i, s', i', e1, by rw [e2]; exact h2, e4, by rw [h4]; unfold Sp.addr; rw [e2, e3], e6 hD h5⟩
theorem AlS.unz (h0 : ∀ j, 2 ≤ j % 4 → A.r j = []) : (∀ j, 2 ≤ j % 4 → A'.r j = []) ∧ g = [] := by
  refine ⟨fun j hj => List.eq_nil_iff_forall_not_mem.2 fun z hz => ?_, List.eq_nil_iff_forall_not_mem.2 fun z hz => ?_⟩
  · have := ((T.r j z hj).1 hz).1
    rw [h0 j hj] at this; cases this
  · obtain ⟨i, s, hD, -⟩ := (T.eg z).1 hz
    obtain ⟨j, hj, hm⟩ := T.un hD
    rw [h0 j hj] at hm; cases hm
end
/-- One run of pages is left; what has been taken is bounded. -/
def PgB (A : HpA) (n0 c m : Nat) : Prop := ∃ f pp, A.a.l = [⟨f, pp⟩] ∧ f + pp = n0 ∧ 1 ≤ f ∧ f ≤ 1 + c * m
theorem PgB.new (n0 P c : Nat) (h : 2 ≤ n0) : PgB (hp0 n0 P) n0 c 0 := by
  refine ⟨1, n0 - 1, ?_, by omega, Nat.le_refl _, by omega⟩
  show (newA n0).l = _
  show newL n0 = _
  unfold newL
  rw [if_pos (by omega)]
theorem pg3 {n q : Nat} (h : OfSays n q) (hn : n ≤ 128) : pgK q ≤ 3 := by
  have hq : q ≤ 13 := by
    rcases Nat.lt_or_ge 13 q with h1 | h1
    · have := h.2.2 13 h1
      have e : szK 13 = 128 := rfl
      omega
    · exact h1
  have key : ∀ q, q ≤ 13 → pgK q ≤ 3 := by decide
  exact key q hq
/-- All that a law wants to know of an Alloc, where pages suffice. -/
theorem AlcR.pgs {p k n x N n0 m cc : Nat} {black : Bool} {A A' : HpA} {g : List Int} {e : Int} (h : AlcR p k n black A x g e A') (I : HpI A none) (hp : p < A.P) (hk : k < 16) (J : ArI N A.a) (B : PgB A n0 cc m) (hc : pgK k ≤ cc) (hm : 1 + cc * m + cc < n0) :
    e = 0 ∧ PgB A' n0 cc (m + 1) ∧ ∃ f pp id s0 y D, A.a.l = [⟨f, pp⟩] ∧ pgK k < pp ∧ AlS p k n black A x g A' f pp id s0 y D := by
  obtain ⟨f, pp, hl, h1, h2, h3⟩ := B
  have hpp : pgK k < pp := by omega
  obtain ⟨he, id, s0, y, D, T⟩ := h.sum I hp hk hl hpp J
  refine ⟨he, ?_, f, pp, id, s0, y, D, hl, hpp, T⟩
  rcases T.e0 with ⟨s, -, -, e1⟩ | ⟨-, -, -, -, e1, -⟩
  · exact ⟨f, pp, e1.trans hl, h1, h2, by rw [Nat.mul_succ]; omega⟩
  · exact ⟨f + pgK k, pp - pgK k, e1, by omega, by omega, by rw [Nat.mul_succ]; omega⟩
/-- A span marked: the invariant stays. -/
theorem HpI.like {A : HpA} {z : Option Nat} (I : HpI A z) {a' : Ar} (h1 : ∀ y t, A.a.sp y = some t → ∃ t', a'.sp y = some t' ∧ t'.k = t.k ∧ (fullS t' ↔ fullS t)) (h2 : ∀ y t', a'.sp y = some t' → ∃ t, A.a.sp y = some t) : HpI { A with a := a' } z := by
  refine ⟨fun j x hx => ?_, I.nd, I.dj, fun p k hp hk => ?_, I.oi, I.ro, I.P, fun id hid => ?_, fun id s hs => ?_⟩
  · obtain ⟨h3, s, hs, h4, h5⟩ := I.r j x hx
    obtain ⟨t, ht, h6, h7⟩ := h1 x s hs
    exact ⟨h3, t, ht, h6.trans h4, h5.trans h7.symm⟩
  · rcases I.o p k hp hk with h3 | ⟨id, s, h3, hs, h4⟩
    · exact .inl h3
    · obtain ⟨t, ht, h6, -⟩ := h1 id s hs
      exact .inr ⟨id, t, h3, ht, h6.trans h4⟩
  · obtain ⟨⟨s, hs⟩, h3⟩ := I.zz id hid
    obtain ⟨t, ht, -⟩ := h1 id s hs
    exact ⟨⟨t, ht⟩, h3⟩
  · obtain ⟨t, ht⟩ := h2 id s hs
    exact I.all id t ht
def mrkA (A : HpA) (id : Nat) (s : Sp) (i : Nat) : HpA := { A with a := { A.a with sp := updF A.a.sp id (some (markS s i)) } }
theorem mrk_get {A : HpA} {id i : Nat} {s : Sp} (hs : A.a.sp id = some s) : (∀ y t, A.a.sp y = some t → ∃ t', (mrkA A id s i).a.sp y = some t' ∧ t'.k = t.k ∧ t'.first = t.first ∧ t'.F = t.F ∧ (fullS t' ↔ fullS t) ∧ ∀ j, t.M j = true → t'.M j = true) ∧ ∀ y t', (mrkA A id s i).a.sp y = some t' → ∃ t, A.a.sp y = some t := by
  refine ⟨fun y t ht => ?_, fun y t' ht => ?_⟩
  · by_cases e : y = id
    · subst e
      rw [hs] at ht; injection ht with ht; subst ht
      refine ⟨markS s i, updF_same _ _ _, rfl, rfl, rfl, Iff.rfl, fun j hj => ?_⟩
      show setF s.M i j = true
      unfold setF
      split
      · rfl
      · exact hj
    · exact ⟨t, (updF_other _ _ e).trans ht, rfl, rfl, rfl, Iff.rfl, fun _ h => h⟩
  · by_cases e : y = id
    · exact ⟨s, by rw [e]; exact hs⟩
    · exact ⟨t', (updF_other _ _ e).symm.trans ht⟩
theorem HpI.mark {A : HpA} {z : Option Nat} (I : HpI A z) {id i : Nat} {s : Sp} (hs : A.a.sp id = some s) : HpI (mrkA A id s i) z :=
  I.like (fun y t ht => by
    obtain ⟨t', h1, h2, -, -, h3, -⟩ := (mrk_get (i := i) hs).1 y t ht
    exact ⟨t', h1, h2, h3⟩) (mrk_get hs).2
theorem Sty.mark {A : HpA} {id i x : Nat} {s : Sp} (hs : A.a.sp id = some s) (h : Sty A x) : Sty (mrkA A id s i) x := by
  obtain ⟨id', t, i', h1, h2, h3, h4, h5⟩ := h
  obtain ⟨t', e1, e2, e3, e4, -, e5⟩ := (mrk_get (i := i) hs).1 id' t h1
  exact ⟨id', t', i', e1, by rw [e2]; exact h2, by rw [e4]; exact h3, by rw [h4]; unfold Sp.addr; rw [e2, e3], h5.imp (e5 i') fun g => g⟩
theorem Mkd.mark {A : HpA} {id i x : Nat} {s : Sp} (hs : A.a.sp id = some s) (h : Mkd A x) : Mkd (mrkA A id s i) x := by
  obtain ⟨id', t, i', h1, h2, h3, h4, h5⟩ := h
  obtain ⟨t', e1, e2, e3, e4, -, e5⟩ := (mrk_get (i := i) hs).1 id' t h1
  exact ⟨id', t', i', e1, by rw [e2]; exact h2, by rw [e4]; exact h3, by rw [h4]; unfold Sp.addr; rw [e2, e3], e5 i' h5⟩
theorem Mkd.new {A : HpA} {id i : Nat} {s : Sp} (hi : i < slK s.k) (hF : s.F i = true) : Mkd (mrkA A id s i) (s.addr i) :=
  ⟨id, markS s i, i, updF_same _ _ _, hi, hF, rfl, by show setF s.M i i = true; unfold setF; simp⟩
/-- Behind Begin each span waits. -/
theorem uns_pos {A : HpA} (I : HpI A none) (ho : ∀ p k, p < A.P → k < 16 → A.own p k = -1) (hr : ∀ j, j % 4 < 2 → A.r j = []) {id : Nat} {s : Sp} (hs : A.a.sp id = some s) : 0 < unsN A.r 16 := by
  rcases I.all id s hs with h | ⟨j, h⟩ | ⟨p, k, hp, hk, h⟩
  · cases h
  · have hj := (I.r j id h).1
    have h4 : 2 ≤ j % 4 := by
      rcases Nat.lt_or_ge (j % 4) 2 with h4 | h4
      · rw [hr j h4] at h; cases h
      · exact h4
    rcases Nat.eq_zero_or_pos (unsN A.r 16) with h0 | h0
    · obtain ⟨h2, h3⟩ := unsN_zero.1 h0 (j / 4) (by omega)
      have : j = j / 4 * 4 + 2 ∨ j = j / 4 * 4 + 3 := by omega
      rcases this with e | e
      · rw [e, h2] at h; cases h
      · rw [e, h3] at h; cases h
    · exact h0
  · have := ho p k hp hk; omega
theorem faO_all (own : Nat → Nat → Int) {P p k : Nat} (hp : p < P) (hk : k < 16) : faO own P p k = -1 := by
  unfold faO
  rw [if_pos hp]
  unfold flO
  rw [if_pos hk]
end Go.Proofs.YtmafiagakoglkaaGreatDoor
namespace Go.Proofs.YtmafiagakoglkaaGreatDoor
open Go.RowKit Go.Maps

def smO (φ : Option Sp → Nat) (f : Nat → Option Sp) : Nat → Nat
  | 0 => 0
  | n + 1 => smO φ f n + φ (f n)
section
variable {φ ψ : Option Sp → Nat} {f g : Nat → Option Sp}
theorem smO_le : ∀ {n : Nat}, (∀ j, j < n → φ (f j) ≤ ψ (g j)) → smO φ f n ≤ smO ψ g n
  | 0, _ => Nat.le_refl _
  | n + 1, h => by
    have h1 := smO_le (n := n) (fun j hj => h j (by omega))
    have h2 := h n (by omega)
    rw [smO, smO]; omega
theorem smO_ext {n : Nat} (h : ∀ j, j < n → φ (f j) = φ (g j)) : smO φ f n = smO φ g n :=
  Nat.le_antisymm (smO_le fun j hj => Nat.le_of_eq (h j hj)) (smO_le fun j hj => Nat.le_of_eq (h j hj).symm)
/-- Told apart at one place alone. -/
theorem smO_at {id : Nat} (h : ∀ j, j ≠ id → φ (g j) = φ (f j)) : ∀ {n : Nat}, id < n → smO φ g n + φ (f id) = smO φ f n + φ (g id)
  | 0, hn => by omega
  | n + 1, hn => by
    rw [smO, smO]
    by_cases e : id = n
    · subst e
      rw [smO_ext (φ := φ) (f := g) (g := f) (fun j hj => h j (by omega))]; omega
    · have h1 := smO_at h (n := n) (by omega)
      rw [h n (fun h => e h.symm)]; omega
theorem smO_nil : ∀ {n : Nat}, (∀ j, j < n → φ (f j) = 0) → smO φ f n = 0
  | 0, _ => rfl
  | n + 1, h => by rw [smO, smO_nil (n := n) (fun j hj => h j (by omega)), h n (by omega)]
theorem smO_one {id : Nat} (h : ∀ j, j ≠ id → φ (f j) = 0) : ∀ {n : Nat}, id < n → smO φ f n = φ (f id)
  | 0, hn => by omega
  | n + 1, hn => by
    rw [smO]
    by_cases e : id = n
    · subst e
      rw [smO_nil (fun j hj => h j (by omega)), Nat.zero_add]
    · rw [smO_one h (n := n) (by omega), h n (fun h => e h.symm)]; rfl
theorem smO_zero (h : ∀ j, φ (f j) = 0) (n : Nat) : smO φ f n = 0 := by
  induction n with
  | zero => rfl
  | succ n ih => rw [smO, ih, h n]
end
def pgO (o : Option Sp) : Nat := match o with | none => 0 | some s => pgK s.k
def isO (o : Option Sp) : Nat := match o with | none => 0 | some _ => 1
theorem livN_smO (f : Nat → Option Sp) : ∀ n, livN f n = smO spW f n
  | 0 => rfl
  | n + 1 => by rw [livN, smO, livN_smO f n]
theorem mem_waN {r : Nat → List Nat} {x : Nat} : ∀ {n : Nat}, x ∈ waN r n ↔ ∃ k, k < n ∧ (x ∈ r (k * 4 + 2) ∨ x ∈ r (k * 4 + 3))
  | 0 => ⟨fun h => (by cases h), fun ⟨k, hk, _⟩ => (by omega)⟩
  | n + 1 => by
    rw [waN, List.mem_append, List.mem_append, mem_waN (n := n)]
    constructor
    · rintro ((⟨k, hk, h⟩ | h) | h)
      · exact ⟨k, by omega, h⟩
      · exact ⟨n, by omega, .inl h⟩
      · exact ⟨n, by omega, .inr h⟩
    · rintro ⟨k, hk, h⟩
      by_cases e : k = n
      · subst e
        rcases h with h | h
        · exact .inl (.inr h)
        · exact .inr h
      · exact .inl (.inl ⟨k, by omega, h⟩)
theorem DelTo.other {r r1 : Nat → List Nat} {id x : Nat} (h : DelTo r id r1) (hx : x ≠ id) (j : Nat) : x ∈ r1 j ↔ x ∈ r j := by
  rcases h with ⟨rfl, -⟩ | ⟨i, -, -, -, rfl⟩
  · exact Iff.rfl
  · unfold delR updV
    split
    · next e => rw [e]; exact List.mem_erase_of_ne hx
    · exact Iff.rfl
/-- What Drop takes away. -/
def DrC (A : HpA) (y : Nat) : Prop := ∃ s, A.a.sp y = some s ∧ ¬ ownedI A y ∧ y ∉ waN A.r 16 ∧ cntF s.F (slK s.k) = 0
section
variable {l : List Int} {A B : HpA} {n : Nat}
theorem DrR.wa (h : DrR l A B n) {x : Nat} (hx : ((x : Nat) : Int) ∉ l) : x ∈ waN B.r 16 ↔ x ∈ waN A.r 16 := by
  induction h with
  | nil A => exact Iff.rfl
  | skip _ _ _ ih => exact ih (fun h => hx (List.mem_append_left _ h))
  | drop g1 g2 g3 g4 g5 g6 h2 ih =>
    rename_i B n y s l' r1
    rw [← ih (fun h => hx (List.mem_append_left _ h)), mem_waN, mem_waN]
    have hne : x ≠ y := fun e => hx (List.mem_append_right _ (by simp; omega))
    constructor
    · rintro ⟨k, hk, h⟩
      exact ⟨k, hk, h.imp (h2.other hne _).1 (h2.other hne _).1⟩
    · rintro ⟨k, hk, h⟩
      exact ⟨k, hk, h.imp (h2.other hne _).2 (h2.other hne _).2⟩
theorem ownedI_eq {A B : HpA} (e1 : B.own = A.own) (e2 : B.P = A.P) {x : Nat} : ownedI B x ↔ ownedI A x := by
  unfold ownedI; rw [e1, e2]
theorem DrR.spans (h : DrR l A B n) (hnd : l.Nodup) : ∀ y : Nat, ((((y : Nat) : Int) ∈ l ∧ DrC A y) → B.a.sp y = none) ∧ (¬ (((y : Nat) : Int) ∈ l ∧ DrC A y) → B.a.sp y = A.a.sp y) := by
  induction h with
  | nil A => exact fun y => ⟨fun h => (by cases h.1), fun _ => rfl⟩
  | skip h1 h2 h3 ih =>
    rename_i l A B n x s
    rw [List.nodup_append] at hnd
    have hxl : ((x : Nat) : Int) ∉ l := fun hm => hnd.2.2 _ hm _ (by simp) rfl
    have ih := ih hnd.1
    have hsA : A.a.sp x = some s := by rw [← h1.sp hxl]; exact h2
    have hno : ¬ DrC A x := fun ⟨t, ht, g1, g2, g3⟩ => by
      rw [hsA] at ht; injection ht with ht; subst ht
      rcases h3 with h3 | h3 | h3
      · exact g1 ((ownedI_eq h1.own.1 h1.own.2.1).1 h3)
      · exact g2 ((h1.wa hxl).1 h3)
      · omega
    intro y
    by_cases e : y = x
    · subst e
      exact ⟨fun h => absurd h.2 hno, fun _ => by rw [h2, hsA]⟩
    · refine ⟨fun h => (ih y).1 ⟨?_, h.2⟩, fun h => (ih y).2 (fun g => h ⟨List.mem_append_left _ g.1, g.2⟩)⟩
      rcases List.mem_append.1 h.1 with g | g
      · exact g
      · exact absurd (by simp at g; omega) e
  | drop h1 h2 h3 h4 h5 h6 h7 ih =>
    rename_i l A B n x s l' r1
    rw [List.nodup_append] at hnd
    have hxl : ((x : Nat) : Int) ∉ l := fun hm => hnd.2.2 _ hm _ (by simp) rfl
    have ih := ih hnd.1
    have hsA : A.a.sp x = some s := by rw [← h1.sp hxl]; exact h2
    intro y
    show (_ → updF B.a.sp x none y = none) ∧ (_ → updF B.a.sp x none y = A.a.sp y)
    by_cases e : y = x
    · subst e
      rw [updF_same]
      exact ⟨fun _ => rfl, fun h => absurd ⟨by simp, s, hsA, fun g => h3 ((ownedI_eq h1.own.1 h1.own.2.1).2 g), fun g => h4 ((h1.wa hxl).2 g), h5⟩ h⟩
    · rw [updF_other _ _ e]
      refine ⟨fun h => (ih y).1 ⟨?_, h.2⟩, fun h => (ih y).2 (fun g => h ⟨List.mem_append_left _ g.1, g.2⟩)⟩
      rcases List.mem_append.1 h.1 with g | g
      · exact g
      · exact absurd (by simp at g; omega) e
/-- Pages and spans are as many as ever. -/
theorem DrR.sums (h : DrR l A B n) {N : Nat} (hN : ∀ id s, A.a.sp id = some s → id < N) : (∀ id s, B.a.sp id = some s → id < N) ∧ sumR B.a.l + smO pgO B.a.sp N = sumR A.a.l + smO pgO A.a.sp N ∧ n + smO isO B.a.sp N = smO isO A.a.sp N := by
  induction h with
  | nil A => exact ⟨hN, rfl, by omega⟩
  | skip _ _ _ ih => exact ih hN
  | drop h1 h2 h3 h4 h5 h6 h7 ih =>
    rename_i l A B n x s l' r1
    obtain ⟨g1, g2, g3⟩ := ih hN
    have hx := g1 x s h2
    have e1 := smO_at (φ := pgO) (f := B.a.sp) (g := updF B.a.sp x none) (fun j hj => by rw [updF_other _ _ hj]) hx
    have e2 := smO_at (φ := isO) (f := B.a.sp) (g := updF B.a.sp x none) (fun j hj => by rw [updF_other _ _ hj]) hx
    rw [updF_same, h2] at e1 e2
    have hs : sumR l' = sumR B.a.l + pgK s.k := by
      rcases h6 with ⟨-, h6, -⟩ | ⟨-, ⟨-, h6, -⟩ | ⟨-, -, h6⟩⟩
      · cases h6
      · cases h6
      · rw [Int.toNat_natCast, Int.toNat_natCast] at h6
        rw [h6, backR_sum]
    have k1 : pgO (some s) = pgK s.k := rfl
    have k2 : pgO none = 0 := rfl
    have k3 : isO (some s) = 1 := rfl
    have k4 : isO none = 0 := rfl
    refine ⟨fun id t ht => ?_, ?_, ?_⟩
    · have ht' : updF B.a.sp x none id = some t := ht
      by_cases e : id = x
      · rw [e]; exact hx
      · rw [updF_other _ _ e] at ht'; exact g1 id t ht'
    · show sumR l' + smO pgO (updF B.a.sp x none) N = _
      omega
    · show n + 1 + smO isO (updF B.a.sp x none) N = _
      omega
end
theorem DrR.zero {l : List Int} {A B : HpA} {n : Nat} (h : DrR l A B n) : n = 0 → B = A := by
  induction h with
  | nil => exact fun _ => rfl
  | skip _ _ _ ih => exact ih
  | drop => exact fun h => by omega
/-- Spans listed: as many as there are. -/
theorem keys_cnt {f : Nat → Option Sp} {N : Nat} (hN : ∀ id s, f id = some s → id < N) : ∀ {ks : List Int}, ks.Nodup → (∀ x, x ∈ ks ↔ 0 ≤ x ∧ (f x.toNat).isSome = true) → ks.length = smO isO f N := by
  intro ks hnd hmem
  have h1 : (((List.range N).filter fun j => (f j).isSome).map fun j => ((j : Nat) : Int)).Perm ks := by
    refine (List.perm_ext_iff_of_nodup ?_ hnd).2 fun x => ?_
    · refine List.Pairwise.map _ (fun p q (h : p ≠ q) (e : (p : Int) = (q : Int)) => h (by omega)) ?_
      exact (List.nodup_range).filter _
    · rw [hmem x, List.mem_map]
      constructor
      · rintro ⟨j, hj, rfl⟩
        rw [List.mem_filter] at hj
        exact ⟨by omega, by rw [Int.toNat_natCast]; exact hj.2⟩
      · rintro ⟨h2, h3⟩
        obtain ⟨s, hs⟩ := Option.isSome_iff_exists.1 h3
        exact ⟨x.toNat, List.mem_filter.2 ⟨List.mem_range.2 (hN _ s hs), h3⟩, by omega⟩
  rw [← h1.length_eq, List.length_map]
  clear h1 hmem hnd hN
  induction N with
  | zero => rfl
  | succ N ih =>
    rw [List.range_succ, List.filter_append, List.length_append, ih, smO]
    congr 1
    cases e : f N with
    | none => simp [isO, e]
    | some s => simp [isO, e]
theorem spI_iff {a : Ar} {x : Int} : (spI a x).isSome = true ↔ 0 ≤ x ∧ (a.sp x.toNat).isSome = true := by
  unfold spI
  by_cases h : 0 ≤ x
  · rw [if_pos h]; exact ⟨fun g => ⟨h, g⟩, fun g => g.2⟩
  · rw [if_neg h]
    exact ⟨fun g => (by cases g), fun g => absurd g.1 h⟩
end Go.Proofs.YtmafiagakoglkaaGreatDoor
