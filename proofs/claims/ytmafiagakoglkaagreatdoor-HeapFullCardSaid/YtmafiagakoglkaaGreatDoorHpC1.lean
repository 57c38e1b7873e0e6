/- HeapCycles: plain parts: spans of a class are as many as the objects made of it ask for; pages suffice. -/
import Derived.Test.YtmafiagakoglkaaGreatDoorHpD1
namespace Go.Proofs.YtmafiagakoglkaaGreatDoor
open Go.RowKit Go.Maps

def smK (f : Nat → Nat) : Nat → Nat
  | 0 => 0
  | n + 1 => smK f n + f n
theorem smK_add (f g : Nat → Nat) : ∀ n, smK (fun k => f k + g k) n = smK f n + smK g n
  | 0 => rfl
  | n + 1 => by rw [smK, smK, smK, smK_add f g n]; omega
theorem smK_le {f g : Nat → Nat} : ∀ {n : Nat}, (∀ k, k < n → f k ≤ g k) → smK f n ≤ smK g n
  | 0, _ => Nat.le_refl _
  | n + 1, h => by
    have h1 := smK_le (n := n) fun k hk => h k (by omega)
    have h2 := h n (by omega)
    rw [smK, smK]; omega
theorem smK_ext {f g : Nat → Nat} {n : Nat} (h : ∀ k, k < n → f k = g k) : smK f n = smK g n :=
  Nat.le_antisymm (smK_le fun k hk => Nat.le_of_eq (h k hk)) (smK_le fun k hk => Nat.le_of_eq (h k hk).symm)
theorem smK_upd {f : Nat → Nat} {q : Nat} : ∀ {n : Nat}, q < n → smK (updV f q (f q + 1)) n = smK f n + 1
  | 0, h => by omega
  | n + 1, h => by
    rw [smK, smK]
    by_cases e : q = n
    · subst e
      rw [updV_same, smK_ext (f := updV f q (f q + 1)) (g := f) (fun k hk => updV_other _ _ (by omega))]; omega
    · rw [updV_other _ _ (fun h => e h.symm), smK_upd (n := n) (by omega)]; omega
theorem smK_pick {g : Nat → Nat} {q : Nat} : ∀ {n : Nat}, smK (fun k => g k * if q = k then 1 else 0) n = if q < n then g q else 0
  | 0 => by simp [smK]
  | n + 1 => by
    rw [smK, smK_pick (n := n)]
    by_cases e : q = n
    · subst e; simp
    · rw [if_neg e]
      by_cases h : q < n
      · rw [if_pos h, if_pos (by omega)]; omega
      · rw [if_neg h, if_neg (by omega)]; omega
def nkO (k : Nat) (o : Option Sp) : Nat := match o with | none => 0 | some s => if s.k = k then 1 else 0
def ukO (k : Nat) (o : Option Sp) : Nat := match o with | none => 0 | some s => if s.k = k then cntF s.F (slK k) else 0
theorem pgO_split {o : Option Sp} (h : ∀ s, o = some s → s.k < 16) : pgO o = smK (fun k => pgK k * nkO k o) 16 := by
  cases o with
  | none => rfl
  | some s =>
    have h1 := smK_pick (g := pgK) (q := s.k) (n := 16)
    rw [if_pos (h s rfl)] at h1
    exact h1.symm
theorem pg_split {f : Nat → Option Sp} (h : ∀ id s, f id = some s → s.k < 16) : ∀ M, smO pgO f M = smK (fun k => pgK k * smO (nkO k) f M) 16
  | 0 => by
    have : smK (fun k => pgK k * smO (nkO k) f 0) 16 = smK (fun _ => 0) 16 := smK_ext fun k _ => rfl
    rw [this]; rfl
  | M + 1 => by
    rw [smO, pg_split h M, pgO_split (fun s hs => h M s hs), ← smK_add]
    exact smK_ext fun k _ => by rw [smO, Nat.mul_add]
/-- All spans of a class but one are full: their objects are that many. -/
theorem nk_us {f : Nat → Option Sp} {k z : Nat} (h : ∀ id s, f id = some s → s.k = k → id ≠ z → cntF s.F (slK k) = slK k) : ∀ M, smO (nkO k) f M * slK k ≤ smO (ukO k) f M + if z < M then slK k else 0
  | 0 => by simp [smO]
  | M + 1 => by
    have ih := nk_us h M
    rw [smO, smO, Nat.add_mul]
    have hu : M ≠ z → nkO k (f M) * slK k = ukO k (f M) := fun hz => by
      cases e : f M with
      | none => simp [nkO, ukO]
      | some s =>
        show (if s.k = k then 1 else 0) * slK k = if s.k = k then cntF s.F (slK k) else 0
        split
        · next hk => rw [h M s e hk hz, Nat.one_mul]
        · rw [Nat.zero_mul]
    by_cases e : M = z
    · subst e
      rw [if_neg (by omega)] at ih
      rw [if_pos (by omega)]
      have : nkO k (f M) ≤ 1 := by
        unfold nkO
        split
        · exact Nat.zero_le _
        · split <;> omega
      have : nkO k (f M) * slK k ≤ 1 * slK k := Nat.mul_le_mul_right _ this
      omega
    · have := hu e
      have e2 : (if z < M + 1 then slK k else 0) = if z < M then slK k else 0 := by
        by_cases h : z < M
        · rw [if_pos h, if_pos (by omega)]
        · rw [if_neg h, if_neg (by omega)]
      rw [e2]; omega
theorem cnt_all {F : Nat → Bool} : ∀ {n : Nat}, (∀ i, i < n → F i = true) → cntF F n = n
  | 0, _ => rfl
  | n + 1, h => by rw [cntF, cnt_all (n := n) (fun i hi => h i (by omega)), h n (by omega)]; simp
structure PgC (A : HpA) (c : Nat → Nat) (t : Nat) : Prop where
  l : ∃ f pp, A.a.l = [⟨f, pp⟩]
  pg : sumR A.a.l + smO pgO A.a.sp 6000 = 255
  nh : ∀ id s, A.a.sp id = some s → ∀ y, y < s.fr → s.F y = true
  us : ∀ k, k < 16 → smO (ukO k) A.a.sp 6000 ≤ c k
  nk : ∀ k, k < 16 → smO (nkO k) A.a.sp 6000 * slK k ≤ c k + 2 * slK k
  c12 : ∀ k, 12 ≤ k → c k = 0
  t : smK c 16 = t
theorem PgC.new (P : Nat) : PgC (hp0 256 P) (fun _ => 0) 0 :=
  ⟨⟨1, 255, rfl⟩, by
    rw [smO_zero (fun j => rfl)]
    have : (hp0 256 P).a.l = [⟨1, 255⟩] := rfl
    rw [this, sumR_one], fun _ _ h => (by cases h), fun k _ => by rw [smO_zero (fun j => rfl)]; exact Nat.le_refl _, fun k _ => by rw [smO_zero (fun j => rfl)]; omega, fun _ _ => rfl, rfl⟩
theorem PgC.room {A : HpA} {c : Nat → Nat} {t N : Nat} (K : PgC A c t) (J : ArI N A.a) : smO pgO A.a.sp 6000 ≤ 54 + t := by
  rw [pg_split (fun id s hs => (J.ok.pg id s hs).1)]
  have key : ∀ k : Fin 16, 1 ≤ slK k.val ∧ (k.val ≤ 11 → pgK k.val ≤ slK k.val) := by decide
  have h1 : smK (fun k => pgK k * smO (nkO k) A.a.sp 6000) 16 ≤ smK (fun k => 2 * pgK k + c k) 16 := smK_le fun k hk => by
    obtain ⟨k1, k2⟩ := key ⟨k, hk⟩
    have k1 : 1 ≤ slK k := k1
    have k2 : k ≤ 11 → pgK k ≤ slK k := k2
    have h2 := K.nk k hk
    generalize smO (nkO k) A.a.sp 6000 = n at h2 ⊢
    rcases Nat.lt_or_ge 2 n with h3 | h3
    · obtain ⟨d, rfl⟩ : ∃ d, n = 2 + d := ⟨n - 2, by omega⟩
      rw [Nat.add_mul] at h2
      have h4 : d * slK k ≤ c k := by omega
      rcases Nat.lt_or_ge 11 k with h5 | h5
      · rw [K.c12 k (by omega)] at h4
        have : d * 1 ≤ d * slK k := Nat.mul_le_mul_left _ k1
        have h6 : d = 0 := by omega
        rw [h6]; omega
      · have : d * pgK k ≤ d * slK k := Nat.mul_le_mul_left _ (k2 h5)
        rw [Nat.mul_comm, Nat.add_mul]; omega
    · have : pgK k * n ≤ pgK k * 2 := Nat.mul_le_mul_left _ h3
      omega
  rw [smK_add, K.t] at h1
  have h2 : smK (fun k => 2 * pgK k) 16 = 54 := by decide
  omega
theorem nkO_trn {D : Prop} {o o' : Option Sp} {k : Nat} (h : Trn D o o') : nkO k o' = nkO k o := by
  rcases h with ⟨-, s, rfl, rfl⟩ | ⟨-, rfl⟩ <;> rfl
theorem PgC.step {A A' : HpA} {cc : Nat → Nat} {t N N' p k n x : Nat} {g : List Int} {c : Int} (K : PgC A cc t) (hun : ∀ j, 2 ≤ j % 4 → A.r j = []) (I : HpI A none) (J : ArI N A.a) (J' : ArI N' A'.a) (hN : N' ≤ 6000) (hP : A.P = 2) (h : AlcR p k n false A x g c A') (hp : p < 2) (hk : k ≤ 11) (hk3 : pgK k ≤ 3) (ht : t ≤ 96) :
    c = 0 ∧ PgC A' (updV cc k (cc k + 1)) (t + 1) ∧ ∃ f pp id s0 y D, A.a.l = [⟨f, pp⟩] ∧ pgK k < pp ∧ AlS p k n false A x g A' f pp id s0 y D := by
  obtain ⟨f, pp, hl⟩ := K.l
  have hroom := K.room J
  have hpg := K.pg
  rw [hl, sumR_one] at hpg
  have hpp : pgK k < pp := by omega
  have hk16 : k < 16 := by omega
  obtain ⟨rfl, id, s0, y, D, T⟩ := h.sum I (by rw [hP]; exact hp) hk16 hl hpp J
  have hid : id < 6000 := Nat.lt_of_lt_of_le (J'.ok.top _ _ T.spid) hN
  have noD := T.noD hun
  have hother : ∀ i, i ≠ id → A'.a.sp i = A.a.sp i := fun i hi => by
    rcases T.sp i hi with ⟨hD, -⟩ | ⟨-, h4⟩
    · exact absurd hD (noD i)
    · exact h4
  have hsums := T.sums hl hpp hid
  have hF := cntF_flip (F := s0.F) T.ey.2.1
  rw [flip_set T.ey.2.2.1, T.ey.2.2.1] at hF
  simp only [Bool.false_eq_true, if_false] at hF
  have hF2 : cntF (setF s0.F y) (slK s0.k) = cntF s0.F (slK s0.k) + 1 := by omega
  have hU' : ukO k (A'.a.sp id) = cntF s0.F (slK k) + 1 := by
    rw [T.spid]
    show (if s0.k = k then cntF (setF s0.F y) (slK k) else 0) = _
    rw [if_pos T.ek]
    have := hF2
    rw [T.ek] at this; exact this
  have hUk : ∀ j, j ≠ k → ukO j (A'.a.sp id) = ukO j (A.a.sp id) := fun j hj => by
    have h1 : ukO j (A'.a.sp id) = 0 := by
      rw [T.spid]
      show (if s0.k = j then _ else 0) = 0
      rw [if_neg (by rw [T.ek]; exact fun e => hj e.symm)]
    rw [h1]
    rcases T.e0 with ⟨s, hs, ⟨hD, -⟩ | ⟨-, e2⟩, -⟩ | ⟨hs, -⟩
    · exact absurd hD (noD _)
    · injection e2 with e2
      rw [hs]
      show 0 = if s.k = j then _ else 0
      rw [if_neg (by rw [← e2, T.ek]; exact fun e => hj e.symm)]
    · rw [hs]; rfl
  have hU0 : ukO k (A.a.sp id) = cntF s0.F (slK k) := by
    rcases T.e0 with ⟨s, hs, ⟨hD, -⟩ | ⟨-, e2⟩, -⟩ | ⟨hs, -, -, e2, -⟩
    · exact absurd hD (noD _)
    · injection e2 with e2
      rw [hs]
      show (if s.k = k then _ else 0) = _
      rw [if_pos (by rw [← e2]; exact T.ek), e2]
    · rw [hs, e2]
      show 0 = cntF (fun _ => false) (slK k)
      rw [cnt_noF fun _ _ => rfl]
  have hus : ∀ j, smO (ukO j) A'.a.sp 6000 + ukO j (A.a.sp id) = smO (ukO j) A.a.sp 6000 + ukO j (A'.a.sp id) := fun j => smO_at (fun i hi => by rw [hother i hi]) hid
  have hnk : ∀ j, smO (nkO j) A'.a.sp 6000 + nkO j (A.a.sp id) = smO (nkO j) A.a.sp 6000 + nkO j (A'.a.sp id) := fun j => smO_at (fun i hi => by rw [hother i hi]) hid
  have hN' : ∀ j, nkO j (A'.a.sp id) = if k = j then 1 else 0 := fun j => by
    rw [T.spid]
    show (if s0.k = j then 1 else 0) = _
    rw [T.ek]
  refine ⟨rfl, ⟨?_, by rw [hsums.1]; exact K.pg, fun i s hs z hz => ?_, fun j hj => ?_, fun j hj => ?_, fun j hj => ?_, ?_⟩, f, pp, id, s0, y, D, hl, hpp, T⟩
  · rcases T.e0 with ⟨s, -, -, e⟩ | ⟨-, -, -, -, e, -⟩
    · exact ⟨f, pp, e.trans hl⟩
    · exact ⟨_, _, e⟩
  · by_cases e : i = id
    · subst e
      rw [T.spid] at hs; injection hs with hs; subst hs
      have hz' : z < y := hz
      refine allocS_F ?_
      rcases Nat.lt_or_ge z s0.fr with h1 | h1
      · rcases T.e0 with ⟨s, hs, ⟨hD, -⟩ | ⟨-, e2⟩, -⟩ | ⟨-, -, -, e2, -⟩
        · exact absurd hD (noD _)
        · have e2 := Option.some.inj e2
          rw [e2] at h1 ⊢
          exact K.nh _ s hs z h1
        · rw [e2] at h1
          have h1' : z < 0 := h1
          omega
      · exact T.ey.2.2.2 z h1 hz'
    · rw [hother i e] at hs
      exact K.nh i s hs z hz
  · have h1 := hus j
    have h2 := K.us j hj
    by_cases e : j = k
    · subst e
      rw [updV_same]
      rw [hU', hU0] at h1
      omega
    · rw [updV_other _ _ e]
      rw [hUk j e] at h1
      omega
  · have h1 := hnk j
    rw [hN' j] at h1
    have h2 := K.nk j hj
    by_cases e : j = k
    · subst e
      rw [updV_same]
      rw [if_pos rfl] at h1
      rcases T.e0 with ⟨s, hs, ⟨hD, -⟩ | ⟨-, e2⟩, -⟩ | ⟨hs, -, -, -, -, hrow, hown⟩
      · exact absurd hD (noD _)
      · have e2 := Option.some.inj e2
        have h3 : nkO j (A.a.sp id) = 1 := by
          rw [hs]
          show (if s.k = j then 1 else 0) = 1
          rw [if_pos (by rw [← e2]; exact T.ek)]
        have h4 : smO (nkO j) A'.a.sp 6000 = smO (nkO j) A.a.sp 6000 := by omega
        rw [h4]; omega
      · have h3 : nkO j (A.a.sp id) = 0 := by rw [hs]; rfl
        have h4 : smO (nkO j) A'.a.sp 6000 = smO (nkO j) A.a.sp 6000 + 1 := by omega
        rw [h4, Nat.add_mul, Nat.one_mul]
        have h5 := nk_us (f := A.a.sp) (k := j) (z := (A.own (1 - p) j).toNat) (fun i s hi hs2 hne => by
          have hfull : fullS s := by
            rcases I.all i s hi with h6 | ⟨q, h6⟩ | ⟨p', k', hp', hk', h6⟩
            · cases h6
            · obtain ⟨-, u, hu, h7, h8⟩ := I.r q i h6
              rw [hi] at hu; injection hu with hu; subst hu
              refine h8.1 ?_
              rcases Nat.lt_or_ge (q % 4) 2 with h9 | h9
              · rcases (by omega : q % 4 = 0 ∨ q % 4 = 1) with h10 | h10
                · have : q = j * 4 := by omega
                  rw [this, hrow] at h6; cases h6
                · omega
              · rw [hun q h9] at h6; cases h6
            · have hk2 : k' = j := by
                rcases I.o p' k' hp' hk' with h7 | ⟨i2, u, h7, hu, h8⟩
                · omega
                · have : i2 = i := by omega
                  subst this
                  rw [hi] at hu; injection hu with hu; subst hu
                  rw [← h8, hs2]
              subst hk2
              by_cases hpp' : p' = p
              · subst hpp'; exact hown i s h6 hi
              · rw [hP] at hp'
                have : p' = 1 - p := by omega
                rw [← this, h6, Int.toNat_natCast] at hne
                exact absurd rfl hne
          refine cnt_all fun z hz => ?_
          rcases Nat.lt_or_ge z s.fr with h9 | h9
          · exact K.nh i s hi z h9
          · exact hfull z h9 (by rw [hs2]; exact hz)) 6000
        have h6 := K.us j hj
        have h7 : (if (A.own (1 - p) j).toNat < 6000 then slK j else 0) ≤ slK j := by split <;> omega
        omega
    · rw [updV_other _ _ e]
      rw [if_neg (fun h => e h.symm)] at h1
      have h3 : nkO j (A.a.sp id) = 0 := by
        rcases T.e0 with ⟨s, hs, ⟨hD, -⟩ | ⟨-, e2⟩, -⟩ | ⟨hs, -⟩
        · exact absurd hD (noD _)
        · have e2 := Option.some.inj e2
          rw [hs]
          show (if s.k = j then 1 else 0) = 0
          rw [if_neg (by rw [← e2, T.ek]; exact fun h => e h.symm)]
        · rw [hs]; rfl
      have h4 : smO (nkO j) A'.a.sp 6000 = smO (nkO j) A.a.sp 6000 := by omega
      rw [h4]; exact h2
  · rw [updV_other _ _ (by omega)]; exact K.c12 j hj
  · rw [smK_upd hk16, K.t]
/-- One span turned: its class and pages stay, its objects are not more, no hole ahead of where it is filled. -/
theorem PgC.turn {A B : HpA} {cc : Nat → Nat} {t x : Nat} {s s' : Sp} (K : PgC A cc t) (hs : A.a.sp x = some s) (hx : x < 6000) (e : B.a.sp = updF A.a.sp x (some s')) (hl : B.a.l = A.a.l) (hk : s'.k = s.k) (hc : cntF s'.F (slK s.k) ≤ cntF s.F (slK s.k)) (hn : ∀ y, y < s'.fr → s'.F y = true) : PgC B cc t := by
  have hat : ∀ φ : Option Sp → Nat, smO φ B.a.sp 6000 + φ (some s) = smO φ A.a.sp 6000 + φ (some s') := fun φ => by
    have := smO_at (φ := φ) (f := A.a.sp) (g := B.a.sp) (id := x) (fun j hj => by rw [e, updF_other _ _ hj]) hx
    rw [hs, e, updF_same] at this
    rw [e]; exact this
  have hn0 : ∀ k, nkO k (some s') = nkO k (some s) := fun k => by
    show (if s'.k = k then 1 else 0) = if s.k = k then 1 else 0
    rw [hk]
  have hu0 : ∀ k, ukO k (some s') ≤ ukO k (some s) := fun k => by
    show (if s'.k = k then _ else 0) ≤ if s.k = k then _ else 0
    rw [hk]
    split
    · next h => rw [← h]; exact hc
    · exact Nat.le_refl _
  have hp0 : pgO (some s') = pgO (some s) := by show pgK s'.k = pgK s.k; rw [hk]
  refine ⟨by rw [hl]; exact K.l, ?_, fun i u hu z hz => ?_, fun k hk => ?_, fun k hk => ?_, K.c12, K.t⟩
  · have := hat pgO
    have := K.pg
    rw [hl]; omega
  · rw [e] at hu
    by_cases e2 : i = x
    · rw [e2, updF_same] at hu; injection hu with hu; subst hu
      exact hn z hz
    · rw [updF_other _ _ e2] at hu
      exact K.nh i u hu z hz
  · have := hat (ukO k)
    have := hu0 k
    have := K.us k hk
    omega
  · have h1 := hat (nkO k)
    rw [hn0 k] at h1
    have h2 : smO (nkO k) B.a.sp 6000 = smO (nkO k) A.a.sp 6000 := by omega
    rw [h2]; exact K.nk k hk
end Go.Proofs.YtmafiagakoglkaaGreatDoor
