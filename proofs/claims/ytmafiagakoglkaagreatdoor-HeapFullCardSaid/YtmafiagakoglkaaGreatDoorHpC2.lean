/- HeapCycles: plain parts: objects through marks and sweeps. -/
import Derived.Test.YtmafiagakoglkaaGreatDoorHpC1
import Derived.Test.YtmafiagakoglkaaGreatDoorHpSw
namespace Go.Proofs.YtmafiagakoglkaaGreatDoor
open Go.RowKit Go.Maps

theorem obI_iff {a : Ar} {z : Int} : (obI a z).isSome = true ↔ ∃ y : Nat, z = y ∧ (a.ob y).isSome = true := by
  unfold obI
  by_cases h : 0 ≤ z
  · rw [if_pos h]
    constructor
    · intro g; exact ⟨z.toNat, by omega, g⟩
    · rintro ⟨y, rfl, g⟩; rw [Int.toNat_natCast]; exact g
  · rw [if_neg h]
    constructor
    · intro g; cases g
    · rintro ⟨y, rfl, g⟩; omega
theorem not_some {o : Option (List Int)} : ¬ o.isSome = true ↔ o = none := by cases o <;> simp
theorem begin_rows {A : HpA} {r1 : Nat → List Nat} (I : HpI A none) (hun : ∀ j, 2 ≤ j % 4 → A.r j = []) (hF : FaR A.a A.own A.P A.r r1) (j : Nat) (hj : j % 4 < 2) : bgR r1 32 j = [] := by
  have hz : ∀ j, 2 ≤ j % 4 → r1 j = [] := fun j hj => List.eq_nil_iff_forall_not_mem.2 fun z hz => by
    have := hF.un hj hz
    rw [hun j hj] at this; cases this
  have h64 : ∀ j, 64 ≤ j → r1 j = [] := fun j hj => List.eq_nil_iff_forall_not_mem.2 fun z hz => by
    have := ((I.flushAll (Nat.le_refl _) hF).r j z hz).1
    omega
  rw [bgR_at hz h64, if_pos hj]
structure CyA (A : HpA) (cc : Nat → Nat) (t : Nat) (all : List Int) : Prop where
  K : PgC A cc t
  unz : ∀ j, 2 ≤ j % 4 → A.r j = []
  nm : ∀ id s y, A.a.sp id = some s → s.M y = false
  obs : ∀ x, x ∈ all ↔ (obI A.a x).isSome = true
  rise : Rise all
theorem CyA.new (P : Nat) : CyA (hp0 256 P) (fun _ => 0) 0 [] :=
  ⟨PgC.new P, fun _ _ => rfl, fun _ _ _ h => (by cases h), fun x => ⟨fun h => (by cases h), fun h => by
    obtain ⟨y, -, h⟩ := obI_iff.1 h
    cases h⟩, List.Pairwise.nil⟩
theorem addr_bd {N : Nat} {a : Ar} (ok : ArOk N a) (hn : a.n = 256) {id y : Nat} {s : Sp} (hs : a.sp id = some s) (hy : y < slK s.k) : s.addr y < 16384 := by
  obtain ⟨h1, h2, h3, -⟩ := ok.pg _ _ hs
  have := Sp.addr_page h1 hy
  omega
theorem obI_bd {N : Nat} {a : Ar} (ok : ArOk N a) (hn : a.n = 256) {x : Int} (hx : (obI a x).isSome = true) : 0 ≤ x ∧ x < 16384 := by
  obtain ⟨y, rfl, h⟩ := obI_iff.1 hx
  obtain ⟨id, s, i, hs, hi, -, rfl⟩ := (ok.ob y).1 h
  have := addr_bd ok hn hs hi
  omega
theorem CyA.step {A A' : HpA} {cc : Nat → Nat} {t N N' p k n x : Nat} {all g : List Int} {c : Int} (K : CyA A cc t all) (I : HpI A none) (J : ArI N A.a) (J' : ArI N' A'.a) (hN : N' ≤ 6000) (hP : A.P = 2) (h : AlcR p k n false A x g c A') (hp : p < 2) (hof : OfSays n k) (hn : n ≤ 64) (ht : t ≤ 96) :
    c = 0 ∧ g = [] ∧ (∃ c', CyA A' c' (t + 1) (putL all (x : Nat))) ∧ A'.P = A.P ∧ A'.a.n = A.a.n := by
  have hk : k ≤ 11 := by
    rcases Nat.lt_or_ge 11 k with h1 | h1
    · have := hof.2.2 11 h1
      have e : szK 11 = 64 := rfl
      omega
    · exact h1
  obtain ⟨rfl, K', f, pp, id, s0, y, D, hl, hpp, T⟩ := K.K.step K.unz I J J' hN hP h hp hk (pg3 hof (by omega)) ht
  obtain ⟨h1, h2⟩ := T.unz K.unz
  refine ⟨rfl, h2, ⟨_, K', h1, T.nm K.nm rfl, fun z => ?_, rising_putL K.rise⟩, T.eP, T.eN⟩
  rw [mem_putL, K.obs z, obI_iff, obI_iff]
  constructor
  · rintro (⟨z', rfl, h3⟩ | rfl)
    · exact ⟨z', rfl, (T.obs J J' z').2 (.inr ⟨h3, by rw [h2]; simp⟩)⟩
    · exact ⟨x, rfl, (T.obs J J' x).2 (.inl rfl)⟩
  · rintro ⟨z', rfl, h3⟩
    rcases (T.obs J J' z').1 h3 with rfl | ⟨h4, -⟩
    · exact .inr rfl
    · exact .inl ⟨z', rfl, h4⟩
/-- While marks are set. -/
structure CmA (A : HpA) (cc : Nat → Nat) (t : Nat) (all stay : List Int) : Prop where
  K : PgC A cc t
  unz : ∀ j, 2 ≤ j % 4 → A.r j = []
  mr : ∀ id s y, A.a.sp id = some s → y < slK s.k → s.F y = true → (s.M y = true ↔ ((s.addr y : Nat) : Int) ∈ stay)
  obs : ∀ x, x ∈ all ↔ (obI A.a x).isSome = true
  rise : Rise all
theorem CyA.mk0 {A : HpA} {cc : Nat → Nat} {t : Nat} {all : List Int} (K : CyA A cc t all) : CmA A cc t all [] :=
  ⟨K.K, K.unz, fun id s y hs _ _ => by rw [K.nm id s y hs]; simp, K.obs, K.rise⟩
theorem CmA.find {A : HpA} {cc : Nat → Nat} {t N : Nat} {all stay : List Int} (K : CmA A cc t all stay) (J : ArI N A.a) {x : Int} (hx : x ∈ all) : ∃ id s y, A.a.sp id = some s ∧ y < slK s.k ∧ s.F y = true ∧ x = ((s.addr y : Nat) : Int) := by
  obtain ⟨z, rfl, h⟩ := obI_iff.1 ((K.obs x).1 hx)
  obtain ⟨id, s, i, hs, hi, hF, rfl⟩ := (J.ok.ob z).1 h
  exact ⟨id, s, i, hs, hi, hF, rfl⟩
theorem CmA.mark {A : HpA} {cc : Nat → Nat} {t N : Nat} {all stay : List Int} (K : CmA A cc t all stay) (J : ArI N A.a) (hN : N ≤ 6000) {id y : Nat} {s : Sp} (hs : A.a.sp id = some s) (hy : y < slK s.k) (hF : s.F y = true) : CmA (mrkA A id s y) cc t all (stay ++ [((s.addr y : Nat) : Int)]) := by
  have hid := J.ok.top id s hs
  refine ⟨K.K.turn (s' := markS s y) hs (by omega) rfl rfl rfl (Nat.le_refl _) (K.K.nh id s hs), K.unz, fun i u z hu hz hFz => ?_, K.obs, K.rise⟩
  have hu' : updF A.a.sp id (some (markS s y)) i = some u := hu
  rw [List.mem_append, List.mem_singleton]
  by_cases e : i = id
  · subst e
    rw [updF_same] at hu'
    have e2 := Option.some.inj hu'
    subst e2
    have h1 := K.mr i s z hs hz hFz
    have h2 : ((markS s y).addr z : Nat) = s.addr z := rfl
    rw [h2, ← h1]
    show setF s.M y z = true ↔ _
    unfold setF
    by_cases e3 : z = y
    · subst e3; simp
    · rw [if_neg e3]
      constructor
      · exact .inl
      · rintro (h3 | h3)
        · exact h3
        · exact absurd (Sp.addr_inj (J.ok.pg _ _ hs).1 (by omega : s.addr z = s.addr y)) e3
  · rw [updF_other _ _ e] at hu'
    rw [K.mr i u z hu' hz hFz]
    constructor
    · exact .inl
    · rintro (h3 | h3)
      · exact h3
      · exact absurd (J.ok.other hu' hs hz hy (by omega)) e
/-- While spans are swept. -/
structure CsA (A : HpA) (cc : Nat → Nat) (t : Nat) (all stay dead : List Int) : Prop where
  K : PgC A cc t
  un : ∀ id s y, A.a.sp id = some s → y < slK s.k → s.F y = true → (∃ j, 2 ≤ j % 4 ∧ id ∈ A.r j) → (s.M y = true ↔ ((s.addr y : Nat) : Int) ∈ stay)
  sw : ∀ id s, A.a.sp id = some s → (∀ j, 2 ≤ j % 4 → id ∉ A.r j) → (∀ y, s.M y = false) ∧ ∀ y, y < slK s.k → s.F y = true → ((s.addr y : Nat) : Int) ∈ stay
  obs : ∀ x, x ∈ all ↔ (obI A.a x).isSome = true ∨ x ∈ dead
  dj : ∀ x, x ∈ dead → obI A.a x = none
  st : ∀ x, x ∈ stay → (obI A.a x).isSome = true
  rd : Rise dead
theorem CmA.begin {A A1 : HpA} {cc : Nat → Nat} {t : Nat} {all stay : List Int} (K : CmA A cc t all stay) (hst : ∀ x ∈ stay, x ∈ all) (ea : A1.a = A.a) (hw : ∀ id s, A.a.sp id = some s → ∃ j, 2 ≤ j % 4 ∧ id ∈ A1.r j) : CsA A1 cc t all stay [] := by
  refine ⟨?_, fun id s y hs hy hF _ => by rw [ea] at hs; exact K.mr id s y hs hy hF, fun id s hs hno => ?_, fun x => by rw [ea, K.obs x]; simp, fun _ h => (by cases h), fun x hx => by rw [ea]; exact (K.obs x).1 (hst x hx), List.Pairwise.nil⟩
  · have k := K.K
    exact ⟨by rw [ea]; exact k.l, by rw [ea]; exact k.pg, by rw [ea]; exact k.nh, by rw [ea]; exact k.us, by rw [ea]; exact k.nk, k.c12, k.t⟩
  · rw [ea] at hs
    obtain ⟨j, hj, hm⟩ := hw id s hs
    exact absurd hm (hno j hj)
theorem mem_swI {s : Sp} {z : Int} : z ∈ swI s ↔ ∃ i, i < slK s.k ∧ s.F i = true ∧ s.M i = false ∧ z = ((s.addr i : Nat) : Int) := by
  unfold swI intsN
  rw [List.mem_map]
  constructor
  · rintro ⟨y, hy, rfl⟩
    obtain ⟨i, hi, rfl⟩ := List.mem_map.1 hy
    obtain ⟨h1, h2, h3⟩ := swept_mem.1 hi
    exact ⟨i, h1, h2, h3, rfl⟩
  · rintro ⟨i, h1, h2, h3, rfl⟩
    exact ⟨_, List.mem_map.2 ⟨i, swept_mem.2 ⟨h1, h2, h3⟩, rfl⟩, rfl⟩
theorem obI_sweep {a : Ar} {id : Nat} {s : Sp} (z : Int) : (obI (sweepA a id s (sweptL s).length) z).isSome = true ↔ (obI a z).isSome = true ∧ z ∉ swI s := by
  rw [obI_iff, obI_iff]
  constructor
  · rintro ⟨y, rfl, h⟩
    have h' : (obT a s (sweptL s).length y).isSome = true := h
    unfold obT at h'
    split at h'
    · cases h'
    · next hno =>
      refine ⟨⟨y, rfl, h'⟩, fun hm => hno ?_⟩
      obtain ⟨i, h1, h2, h3, h4⟩ := mem_swI.1 hm
      exact addrT_all.2 ⟨i, h1, h2, h3, by omega⟩
  · rintro ⟨⟨y, rfl, h⟩, hno⟩
    refine ⟨y, rfl, ?_⟩
    show (obT a s (sweptL s).length y).isSome = true
    unfold obT
    rw [if_neg]
    · exact h
    · intro hm
      obtain ⟨i, h1, h2, h3, h4⟩ := addrT_all.1 hm
      exact hno (mem_swI.2 ⟨i, h1, h2, h3, by omega⟩)
theorem CsA.sweep {A : HpA} {cc : Nat → Nat} {t N j0 x k : Nat} {all stay dead dead' : List Int} {xs : List Nat} {s : Sp} {r' : Nat → List Nat} (K : CsA A cc t all stay dead) (I : HpI A none) (J : ArI N A.a) (hN : N ≤ 6000) (hj0 : 2 ≤ j0 % 4) (hr : A.r j0 = x :: xs) (hs : A.a.sp x = some s) (h : PutTo (sweepA A.a x s (sweptL s).length) (updV A.r j0 xs) k x r') (hrd : Rise dead') (hd : ∀ z, z ∈ dead' ↔ z ∈ dead ∨ z ∈ swI s) :
    CsA { A with a := sweepA A.a x s (sweptL s).length, r := r' } cc t all stay dead' := by
  have hx := J.ok.top x s hs
  have hxr : ∃ j, 2 ≤ j % 4 ∧ x ∈ A.r j := ⟨j0, hj0, by rw [hr]; simp⟩
  have get : ∀ {y u}, updF A.a.sp x (some (sweptS s)) y = some u → (y = x ∧ u = sweptS s) ∨ (y ≠ x ∧ A.a.sp y = some u) := fun {y u} ht => by
    by_cases e : y = x
    · rw [e, updF_same] at ht; exact .inl ⟨e, (Option.some.inj ht).symm⟩
    · rw [updF_other _ _ e] at ht; exact .inr ⟨e, ht⟩
  have hlen := swept_len (fun i => J.mf x s i hs)
  refine ⟨K.K.turn (s' := sweptS s) hs (by omega) rfl rfl rfl (by show cntF s.M _ ≤ _; omega) (fun y hy => by have hy' : y < 0 := hy; omega), fun id u y hu hy hF hj => ?_, fun id u hu hno => ?_, fun z => ?_, fun z hz => ?_, fun z hz => ?_, hrd⟩
  · rcases get hu with ⟨rfl, rfl⟩ | ⟨hne, hu'⟩
    · obtain ⟨j, hj, hm⟩ := hj
      exact absurd hm (swept_rows I hr h hj).2
    · obtain ⟨j, hj, hm⟩ := hj
      exact K.un id u y hu' hy hF ⟨j, hj, ((swept_rows I hr h hj).1 id hne).1 hm⟩
  · rcases get hu with ⟨rfl, rfl⟩ | ⟨hne, hu'⟩
    · refine ⟨fun _ => rfl, fun y hy hF => ?_⟩
      have hM : s.M y = true := hF
      exact (K.un id s y hs hy (J.mf id s y hs hM) hxr).1 hM
    · exact K.sw id u hu' fun j hj hm => hno j hj (((swept_rows I hr h hj).1 id hne).2 hm)
  · rw [hd z, obI_sweep, K.obs z]
    constructor
    · rintro (h1 | h1)
      · by_cases h2 : z ∈ swI s
        · exact .inr (.inr h2)
        · exact .inl ⟨h1, h2⟩
      · exact .inr (.inl h1)
    · rintro (h1 | h1 | h1)
      · exact .inl h1.1
      · exact .inr h1
      · obtain ⟨i, h3, h4, -, rfl⟩ := mem_swI.1 h1
        exact .inl (obI_iff.2 ⟨_, rfl, (J.ok.ob _).2 ⟨x, s, i, hs, h3, h4, rfl⟩⟩)
  · refine not_some.1 fun h1 => ?_
    obtain ⟨h2, h3⟩ := (obI_sweep z).1 h1
    rcases (hd z).1 hz with h4 | h4
    · rw [K.dj z h4] at h2; cases h2
    · exact h3 h4
  · refine (obI_sweep z).2 ⟨K.st z hz, fun h1 => ?_⟩
    obtain ⟨i, h3, h4, h5, rfl⟩ := mem_swI.1 h1
    rw [(K.un x s i hs h3 h4 hxr).2 hz] at h5; cases h5
theorem CsA.done {A : HpA} {cc : Nat → Nat} {t N : Nat} {all stay dead : List Int} (K : CsA A cc t all stay dead) (J : ArI N A.a) (hun : ∀ j, 2 ≤ j % 4 → A.r j = []) (ra : Rise all) (rs : Rise stay) : CyA A cc t stay ∧ dead.length + stay.length = all.length := by
  have hno : ∀ (id : Nat) j, 2 ≤ j % 4 → id ∉ A.r j := fun id j hj hm => by rw [hun j hj] at hm; cases hm
  have hobs : ∀ x, x ∈ stay ↔ (obI A.a x).isSome = true := fun x => ⟨K.st x, fun h => by
    obtain ⟨z, rfl, h⟩ := obI_iff.1 h
    obtain ⟨id, s, i, hs, hi, hF, rfl⟩ := (J.ok.ob z).1 h
    exact (K.sw id s hs (hno id)).2 i hi hF⟩
  refine ⟨⟨K.K, hun, fun id s y hs => (K.sw id s hs (hno id)).1 y, hobs, rs⟩, ?_⟩
  have hnd : (dead ++ stay).Nodup := by
    rw [List.nodup_append]
    exact ⟨rise_nodup K.rd, rise_nodup rs, fun a ha b hb e => by
      rw [e] at ha
      have h1 := K.st b hb
      rw [K.dj b ha] at h1; cases h1⟩
  have hp : (dead ++ stay).Perm all := (List.perm_ext_iff_of_nodup hnd (rise_nodup ra)).2 fun z => by
    rw [List.mem_append, K.obs z, hobs z]; exact Or.comm
  rw [← hp.length_eq, List.length_append]
end Go.Proofs.YtmafiagakoglkaaGreatDoor
