/- HeapApart: plain parts. -/
import Derived.Test.YtmafiagakoglkaaGreatDoorHpT
import Derived.Test.YtmafiagakoglkaaGreatDoorMZ
namespace Go.Proofs.YtmafiagakoglkaaGreatDoor
open Go.RowKit Go.Maps

theorem PreR.own_ {p q : Nat} {A A1 : HpA} (h : PreR p q A A1) : A1.a = A.a ∧ A1.P = A.P ∧ (∀ j, j ≠ q * 4 + 1 → A1.r j = A.r j) ∧ ∀ p' k', (p' ≠ p ∨ k' ≠ q) → A1.own p' k' = A.own p' k' := by
  rcases h with ⟨-, rfl⟩ | ⟨id, s, -, -, -, rfl⟩
  · exact ⟨rfl, rfl, fun _ _ => rfl, fun _ _ _ => rfl⟩
  · refine ⟨rfl, rfl, fun j hj => updV_other _ _ hj, fun p' k' h => ?_⟩
    show updV A.own p (updV (A.own p) q (-1)) p' k' = _
    unfold updV
    by_cases e : p' = p
    · subst e
      rw [if_pos rfl, if_neg (by rcases h with h | h; exact absurd rfl h; exact h)]
    · rw [if_neg e]
theorem page_free {N : Nat} {a : Ar} (ok : ArOk N a) {f : Nat} (h : Fr a.l f) : a.ob (f * 64) = none := by
  cases e : a.ob (f * 64) with
  | none => rfl
  | some xs =>
    obtain ⟨id, s, i, hs, hi, -, hx⟩ := (ok.ob (f * 64)).1 (by rw [e]; rfl)
    obtain ⟨hk, -, -, h4⟩ := ok.pg id s hs
    have h5 := Sp.addr_page hk hi
    rw [← hx, Nat.mul_div_cancel _ (by decide : 0 < 64)] at h5
    exact absurd h (h4 f h5.1 h5.2)
theorem updV2 {own : Nat → Nat → Int} {p q p' k' : Nat} {v : Int} : updV own p (updV (own p) q v) p' k' = if p' = p ∧ k' = q then v else own p' k' := by
  unfold updV
  by_cases e : p' = p
  · subst e
    by_cases e2 : k' = q
    · subst e2; simp
    · simp [e2]
  · simp [e]
theorem getD_set {O : List Int} {i j : Nat} {v : Int} (h : i < O.length) : (O.set i v).getD j 0 = if j = i then v else O.getD j 0 := by
  rw [List.getD_eq_getElem?_getD, List.getElem?_set, List.getD_eq_getElem?_getD]
  by_cases e : i = j
  · subst e; simp [h]
  · rw [if_neg e, if_neg (fun h => e h.symm)]
structure ApA (A : HpA) (i : Nat) (st O : List Int) : Prop where
  rows : ∀ j, j % 4 ≠ 1 → A.r j = []
  ser : ∃ m f pp, m ≤ i ∧ A.a.l = [⟨f, pp⟩] ∧ f + pp = 512 ∧ f ≤ 1 + 4 * m ∧ (∀ j, j < m → A.a.sp j ≠ none) ∧ (∀ j, m ≤ j → A.a.sp j = none) ∧ ∀ j, m ≤ j → O.getD j 0 = 0
  n : A.a.n = 512
  obs : ∀ x, x ∈ st ↔ (obI A.a x).isSome = true
  rise : Rise st
  len : st.length ≤ i
  w : ∀ x ∈ st, 0 ≤ x ∧ x < 16777216
  ol : O.length = 512
  ow : ∀ p k (id : Nat), p < A.P → k < 16 → A.own p k = id → O.getD id 0 = ((p + 1 : Nat) : Int)
theorem ApA.new (P : Nat) : ApA (hp0 512 P) 0 [] (List.replicate 512 0) :=
  ⟨fun _ _ => rfl, ⟨0, 1, 511, Nat.le_refl _, rfl, rfl, by decide, fun j h => by omega, fun j _ => rfl, fun j _ => by
    rw [List.getD_eq_getElem?_getD, List.getElem?_replicate]; split <;> rfl⟩, rfl, fun x => ⟨fun h => by simp at h, fun h => by
    unfold obI at h
    split at h <;> cases h⟩, List.Pairwise.nil, Nat.le_refl _, by simp, List.length_replicate .., fun p k id _ _ h => by have h' : (-1 : Int) = (id : Nat) := h; omega⟩
theorem obI_upd {a a' : Ar} {x0 : Nat} {xs : List Int} (e : a'.ob = updF a.ob x0 (some xs)) (y : Int) : (obI a' y).isSome = true ↔ y = (x0 : Nat) ∨ (obI a y).isSome = true := by
  unfold obI
  by_cases h0 : 0 ≤ y
  · rw [if_pos h0, if_pos h0, e]
    by_cases h1 : y.toNat = x0
    · rw [h1, updF_same]
      constructor
      · intro _; exact .inl (by omega)
      · intro _; rfl
    · rw [updF_other _ _ h1]
      constructor
      · exact .inr
      · rintro (h | h)
        · omega
        · exact h
  · rw [if_neg h0, if_neg h0]
    constructor
    · intro h; cases h
    · rintro (h | h)
      · omega
      · cases h
theorem ApA.step {A A' : HpA} {i N N' : Nat} {st O : List Int} (K : ApA A i st O) (I : HpI A none) (J : ArI N A.a) (J' : ArI N' A'.a) (hi : i < 100) {p k n x : Nat} {g : List Int} {c : Int} (hp : p < A.P) (hk : k < 16) (h : AlcR p k n false A x g c A') :
    c = 0 ∧ g = [] ∧ (x : Int) ∉ st ∧ x < 16777216 ∧ A'.P = A.P ∧ ∃ id s y, A'.a.sp id = some s ∧ s.k = k ∧ y < slK s.k ∧ s.F y = true ∧ x = s.addr y ∧ id < 512 ∧ (O.getD id 0 = 0 ∨ O.getD id 0 = ((p + 1 : Nat) : Int)) ∧ ApA A' (i + 1) (putL st (x : Nat)) (O.set id ((p + 1 : Nat) : Int)) := by
  obtain ⟨m, f, pp, hm, hl, hs512, hf, hlt, hge, hO⟩ := K.ser
  have done : ∀ (A' : HpA) (id : Nat) (s s' : Sp) (y m' f' pp' : Nat) (a0 : Ar), ArI N' A'.a → a0.ob = A.a.ob → a0.n = A.a.n → a0.sp id = some s → s'.k = s.k → s'.first = s.first → s'.F y = true → y < slK s.k → a0.ob (s.addr y) = none → A'.a.sp = updF a0.sp id (some s') → A'.a.ob = updF a0.ob (s.addr y) (some (List.replicate n 0)) → A'.a.n = a0.n → s.k = k → A'.P = A.P → (∀ j, j % 4 ≠ 1 → A'.r j = []) →
      m' ≤ i + 1 → A'.a.l = [⟨f', pp'⟩] → f' + pp' = 512 → f' ≤ 1 + 4 * m' → m ≤ m' → (∀ j, j < m' → a0.sp j ≠ none) → (∀ j, m' ≤ j → a0.sp j = none) → id < m' → (∀ j, m' ≤ j → O.getD j 0 = 0) →
      (O.getD id 0 = 0 ∨ O.getD id 0 = ((p + 1 : Nat) : Int)) → (∀ p' k' (id' : Nat), p' < A.P → k' < 16 → A'.own p' k' = id' → if id' = id then p' = p else O.getD id' 0 = ((p' + 1 : Nat) : Int)) →
      ((s.addr y : Nat) : Int) ∉ st ∧ s.addr y < 16777216 ∧ A'.P = A.P ∧ ∃ id s2 y2, A'.a.sp id = some s2 ∧ s2.k = k ∧ y2 < slK s2.k ∧ s2.F y2 = true ∧ s.addr y = s2.addr y2 ∧ id < 512 ∧ (O.getD id 0 = 0 ∨ O.getD id 0 = ((p + 1 : Nat) : Int)) ∧ ApA A' (i + 1) (putL st (s.addr y : Nat)) (O.set id ((p + 1 : Nat) : Int)) := by
    intro A' id s s' y m' f' pp' a0 J' e1 e2 hs hsk hsf hF hy hno e3 e4 e5 hk2 hP hrows hm' hl' hs' hf' hmm hlt' hge' hid hO' hOid how
    have hx1 : ((s.addr y : Nat) : Int) ∉ st := fun hx => by
      have := (K.obs _).1 hx
      rw [obI_nat, ← e1, hno] at this; cases this
    have hsp : A'.a.sp id = some s' := by rw [e3]; exact updF_same _ _ _
    have had : s.addr y = s'.addr y := by unfold Sp.addr; rw [hsk, hsf]
    have hxb : s.addr y < 16777216 := by
      obtain ⟨g1, g2, g3, -⟩ := J'.ok.pg id s' hsp
      have := Sp.addr_page g1 (i := y) (by rw [hsk]; exact hy)
      rw [e5, e2, K.n] at g3
      rw [had]; omega
    have hid512 : id < O.length := by rw [K.ol]; omega
    refine ⟨hx1, hxb, hP, id, s', y, hsp, hsk.trans hk2, by rw [hsk]; exact hy, hF, had, by omega, hOid, hrows, ⟨m', f', pp', hm', hl', hs', hf', fun j hj => ?_, fun j hj => ?_, fun j hj => ?_⟩, by rw [e5, e2, K.n], fun z => ?_, rising_putL K.rise, ?_, fun z hz => ?_, by rw [List.length_set]; exact K.ol, fun p' k' id' hp' hk' ho' => ?_⟩
    · rw [e3]
      by_cases e : j = id
      · rw [e, updF_same]; simp
      · rw [updF_other _ _ e]; exact hlt' j hj
    · rw [e3, updF_other _ _ (by omega)]; exact hge' j hj
    · rw [getD_set hid512, if_neg (by omega)]; exact hO' j hj
    · rw [obI_upd (a := a0) e4 z, mem_putL, K.obs z]
      have e : obI a0 z = obI A.a z := by unfold obI; rw [e1]
      rw [e]
      exact Or.comm
    · have := len_putL st ((s.addr y : Nat) : Int)
      have := K.len
      omega
    · rcases mem_putL.1 hz with h | h
      · exact K.w z h
      · omega
    · rw [hP] at hp'
      have h1 := how p' k' id' hp' hk' ho'
      rw [getD_set hid512]
      by_cases e : id' = id
      · rw [if_pos e] at h1 ⊢
        rw [h1]
      · rw [if_neg e] at h1 ⊢
        exact h1
  rcases Classical.em (∀ (id : Nat) s, A.own p k = id → A.a.sp id = some s → fullS s) with hfull | hnf
  · obtain ⟨A1, hpre, rfl, rfl, rfl, rfl⟩ := h.new hfull (K.rows _ (by omega)) (K.rows _ (by omega)) (K.rows _ (by omega)) hl hk (by have := (kF hk).2.2.2.2.2.1; omega) hlt (hge m (Nat.le_refl _))
    obtain ⟨h1, h2, h3, h4⟩ := hpre.own_
    have hpi := hpre.inv I hp hk
    have hpg := (kF hk).2.2.2.2.2.1
    have hfree : A.a.ob (f * 64) = none := page_free J.ok ⟨⟨f, pp⟩, by rw [hl]; simp, Nat.le_refl _, by show f < f + pp; omega⟩
    have ha : (spn f k).addr 0 = f * 64 := spn_addr f k
    have hd := done { A1 with a := allocA (spanA A.a [⟨f + pgK k, pp - pgK k⟩] m k f) m (spn f k) 0 n false, own := updV A1.own p (updV (A1.own p) k ((m : Nat) : Int)) } m (spn f k) (allocS (spn f k) 0 false) 0 (m + 1) (f + pgK k) (pp - pgK k) (spanA A.a [⟨f + pgK k, pp - pgK k⟩] m k f) J' rfl rfl (updF_same _ _ _) rfl rfl (by show setF (fun _ => false) 0 0 = true; unfold setF; simp) (kF hk).2.2.2.2.2.2.2.1 (by rw [ha]; exact hfree) rfl rfl rfl rfl h2
      (fun j hj => by show A1.r j = []; rw [h3 j (by omega)]; exact K.rows j hj) (by omega) rfl (by omega) (by omega) (Nat.le_succ _) (fun j hj => by
        show updF A.a.sp m _ j ≠ none
        by_cases e : j = m
        · rw [e, updF_same]; simp
        · rw [updF_other _ _ e]; exact hlt j (by omega)) (fun j hj => by
        show updF A.a.sp m _ j = none
        rw [updF_other _ _ (by omega)]; exact hge j (by omega)) (Nat.lt_succ_self _) (fun j hj => hO j (by omega)) (.inl (hO m (Nat.le_refl _))) (fun p' k' id' hp' hk' ho' => by
        have ho2 : updV A1.own p (updV (A1.own p) k ((m : Nat) : Int)) p' k' = (id' : Nat) := ho'
        rw [updV2] at ho2
        by_cases e : p' = p ∧ k' = k
        · rw [if_pos e] at ho2
          have : id' = m := by omega
          rw [if_pos this]; exact e.1
        · rw [if_neg e] at ho2
          have hne : p' ≠ p ∨ k' ≠ k := by
            by_cases e2 : p' = p
            · exact .inr (fun e3 => e ⟨e2, e3⟩)
            · exact .inl e2
          rw [h4 p' k' hne] at ho2
          have hne2 : id' ≠ m := fun e2 => by
            rcases I.o p' k' hp' hk' with h5 | ⟨id2, t, h5, ht, -⟩
            · omega
            · have : id2 = m := by omega
              rw [this, hge m (Nat.le_refl _)] at ht; cases ht
          rw [if_neg hne2]
          exact K.ow p' k' id' hp' hk' ho2)
    rw [ha] at hd
    exact ⟨rfl, rfl, hd⟩
  · obtain ⟨id, s, ho, hs, hf2⟩ : ∃ (id : Nat) (s : Sp), A.own p k = id ∧ A.a.sp id = some s ∧ ¬ fullS s := Classical.byContradiction fun hc => hnf fun id s h1 h2 => Classical.byContradiction fun h3 => hc ⟨id, s, h1, h2, h3⟩
    have hsk : s.k = k := by
      rcases I.o p k hp hk with h1 | ⟨id', s', h1, h2, h3⟩
      · omega
      · have : id' = id := by omega
        subst this
        rw [hs] at h2; injection h2 with h2; subst h2
        exact h3
    obtain ⟨y, hy, rfl, rfl, rfl, rfl⟩ := h.own ho hs hf2
    have hidm : id < m := by
      rcases Nat.lt_or_ge id m with h1 | h1
      · exact h1
      · rw [hge id h1] at hs; cases hs
    exact ⟨rfl, rfl, done _ id s (allocS s y false) y m f pp A.a J' rfl rfl hs rfl rfl (by show setF s.F y y = true; unfold setF; simp) hy.2.1 (J.fresh hs hy.2.1 hy.2.2.1) rfl rfl rfl hsk rfl K.rows (by omega) hl hs512 hf (Nat.le_refl _) hlt hge hidm hO (.inr (K.ow p k id hp hk ho)) (fun p' k' id' hp' hk' ho' => by
      by_cases e : id' = id
      · rw [if_pos e]
        subst e
        rcases I.oi p' p k' k hp' hp hk' hk (ho'.trans ho.symm) with h1 | h1
        · have ho2 : A.own p' k' = (id' : Nat) := ho'
          omega
        · exact h1.1
      · rw [if_neg e]; exact K.ow p' k' id' hp' hk' ho')⟩
end Go.Proofs.YtmafiagakoglkaaGreatDoor
