/- HeapDrops: plain parts. -/
import Derived.Test.YtmafiagakoglkaaGreatDoorMHb
namespace Go.Proofs.YtmafiagakoglkaaGreatDoor
open Go.RowKit Go.Maps

theorem pgO_trn {D : Prop} {o o' : Option Sp} (h : Trn D o o') : pgO o' = pgO o := by
  rcases h with ⟨-, s, rfl, rfl⟩ | ⟨-, rfl⟩ <;> rfl
theorem isO_trn {D : Prop} {o o' : Option Sp} (h : Trn D o o') : isO o' = isO o := by
  rcases h with ⟨-, s, rfl, rfl⟩ | ⟨-, rfl⟩ <;> rfl
theorem sumR_one (f p : Nat) : sumR [⟨f, p⟩] = p := by simp [sumR]
section
variable {p k n x : Nat} {black : Bool} {A A' : HpA} {g : List Int} {f pp id : Nat} {s0 : Sp} {y : Nat} {D : Nat → Prop} (T : AlS p k n black A x g A' f pp id s0 y D)
include T
/-- Pages stay as many; spans, too, or one more. -/
theorem AlS.sums (hl : A.a.l = [⟨f, pp⟩]) (hpp : pgK k < pp) {N : Nat} (hN : id < N) : sumR A'.a.l + smO pgO A'.a.sp N = sumR A.a.l + smO pgO A.a.sp N ∧ (smO isO A'.a.sp N = smO isO A.a.sp N ∨ smO isO A'.a.sp N = smO isO A.a.sp N + 1) := by
  have e1 := smO_at (φ := pgO) (f := A.a.sp) (g := A'.a.sp) (fun j hj => pgO_trn (T.sp j hj)) hN
  have e2 := smO_at (φ := isO) (f := A.a.sp) (g := A'.a.sp) (fun j hj => isO_trn (T.sp j hj)) hN
  rw [T.spid] at e1 e2
  have k1 : pgO (some (allocS s0 y black)) = pgK s0.k := rfl
  have k2 : isO (some (allocS s0 y black)) = 1 := rfl
  have k3 : pgO none = 0 := rfl
  have k4 : isO none = 0 := rfl
  rcases T.e0 with ⟨s, hs, htr, e⟩ | ⟨hs, -, -, h0, e, -⟩
  · rw [hs] at e1 e2
    have h5 : pgO (some s0) = pgO (some s) := pgO_trn htr
    have k5 : pgO (some s0) = pgK s0.k := rfl
    have k6 : isO (some s) = 1 := rfl
    rw [e]
    exact ⟨by omega, .inl (by omega)⟩
  · rw [hs] at e1 e2
    rw [e, hl, sumR_one, sumR_one]
    have k5 : pgK s0.k = pgK k := by rw [T.ek]
    exact ⟨by omega, .inr (by omega)⟩
theorem AlS.nm (h : ∀ id s y, A.a.sp id = some s → s.M y = false) : black = false → ∀ id s y, A'.a.sp id = some s → s.M y = false := by
  rintro rfl i t z ht
  by_cases e : i = id
  · subst e
    rw [T.spid] at ht; injection ht with ht; subst ht
    show s0.M z = false
    rcases T.e0 with ⟨s, hs, ⟨-, u, -, e2⟩ | ⟨-, e2⟩, -⟩ | ⟨-, -, -, e2, -⟩
    · injection e2 with e2; rw [e2]; rfl
    · injection e2 with e2; rw [e2]; exact h _ s z hs
    · rw [e2]; rfl
  · rcases T.sp i e with ⟨-, s, -, h2⟩ | ⟨-, h2⟩
    · rw [ht] at h2; injection h2 with h2; rw [h2]; rfl
    · rw [h2] at ht; exact h i t z ht
theorem AlS.noD (h0 : ∀ j, 2 ≤ j % 4 → A.r j = []) (i : Nat) : ¬ D i := fun h => by
  obtain ⟨j, hj, hm⟩ := T.un h
  rw [h0 j hj] at hm; cases hm
end
/-- While the P fills. -/
structure DfA (A : HpA) (m : Nat) : Prop where
  unz : ∀ j, 2 ≤ j % 4 → A.r j = []
  B : PgB A 256 3 m
  ne : ∀ id s, A.a.sp id = some s → 0 < cntF s.F (slK s.k)
  nm : ∀ id s y, A.a.sp id = some s → s.M y = false
  pg : sumR A.a.l + smO pgO A.a.sp 6000 = 255
theorem DfA.new : DfA (hp0 256 1) 0 := ⟨fun _ _ => rfl, PgB.new 256 1 3 (by decide), fun _ _ h => (by cases h), fun _ _ _ h => (by cases h), by
  rw [smO_zero (fun j => rfl)]
  have : (hp0 256 1).a.l = [⟨1, 255⟩] := rfl
  rw [this, sumR_one]⟩
theorem DfA.step {A A' : HpA} {m N N' p k n x : Nat} {g : List Int} {c : Int} (K : DfA A m) (I : HpI A none) (J : ArI N A.a) (J' : ArI N' A'.a) (hN : N' ≤ 6000) (h : AlcR p k n false A x g c A') (hp : p < A.P) (hk : k < 16) (h3 : pgK k ≤ 3) (hm : m ≤ 60) : c = 0 ∧ g = [] ∧ DfA A' (m + 1) := by
  obtain ⟨rfl, B', f, pp, id, s0, y, D, hl, hpp, T⟩ := h.pgs I hp hk J K.B h3 (by omega)
  have hid := J'.ok.top _ _ T.spid
  obtain ⟨h1, h2⟩ := T.unz K.unz
  refine ⟨rfl, h2, h1, B', fun i s hs => ?_, T.nm K.nm rfl, ?_⟩
  · by_cases e : i = id
    · subst e
      rw [T.spid] at hs; injection hs with hs; subst hs
      exact cnt_pos (i := y) T.ey.2.1 (by show setF s0.F y y = true; unfold setF; simp)
    · rcases T.sp i e with ⟨hD, -⟩ | ⟨-, h4⟩
      · exact absurd hD (T.noD K.unz i)
      · rw [h4] at hs; exact K.ne i s hs
  · rw [(T.sums hl hpp (by omega : id < 6000)).1]; exact K.pg
/-- While spans are swept, nothing being marked. -/
structure DsA (A : HpA) (S : Nat) : Prop where
  nm : ∀ id s y, A.a.sp id = some s → s.M y = false
  sw : ∀ id s, A.a.sp id = some s → (∀ j, 2 ≤ j % 4 → id ∉ A.r j) → cntF s.F (slK s.k) = 0
  own : ∀ p k, p < A.P → k < 16 → A.own p k = -1
  B : PgB A 256 3 30
  pg : sumR A.a.l + smO pgO A.a.sp 6000 = 255
  cnt : smO isO A.a.sp 6000 = S
theorem PgB.up {A : HpA} {n0 c m m' : Nat} (h : PgB A n0 c m) (hm : m ≤ m') : PgB A n0 c m' := by
  obtain ⟨f, pp, h1, h2, h3, h4⟩ := h
  have := Nat.mul_le_mul_left c hm
  exact ⟨f, pp, h1, h2, h3, by omega⟩
/-- Behind Begin all spans wait. -/
theorem all_wait {A : HpA} (I : HpI A none) (ho : ∀ p k, p < A.P → k < 16 → A.own p k = -1) (hr : ∀ j, j % 4 < 2 → A.r j = []) {id : Nat} {s : Sp} (hs : A.a.sp id = some s) : ∃ j, 2 ≤ j % 4 ∧ id ∈ A.r j := by
  rcases I.all id s hs with h | ⟨j, h⟩ | ⟨p, k, hp, hk, h⟩
  · cases h
  · refine ⟨j, ?_, h⟩
    rcases Nat.lt_or_ge (j % 4) 2 with h4 | h4
    · rw [hr j h4] at h; cases h
    · exact h4
  · have := ho p k hp hk; omega
theorem DfA.begin {A A1 : HpA} {m : Nat} (K : DfA A m) (hm : m ≤ 30) (I : HpI A1 none) (ea : A1.a = A.a) (ho : ∀ p k, p < A1.P → k < 16 → A1.own p k = -1) (hr : ∀ j, j % 4 < 2 → A1.r j = []) : DsA A1 (smO isO A.a.sp 6000) := by
  refine ⟨by rw [ea]; exact K.nm, fun id s hs hno => ?_, ho, ?_, by rw [ea]; exact K.pg, by rw [ea]⟩
  · obtain ⟨j, hj, h⟩ := all_wait I ho hr hs
    exact absurd h (hno j hj)
  · have := K.B.up hm
    unfold PgB at this ⊢
    rw [ea]; exact this
theorem PutTo.other {a : Ar} {r r' : Nat → List Nat} {k id x j : Nat} (h : PutTo a r k id r') (hx : x ≠ id) (hj : 2 ≤ j % 4) : x ∈ r' j ↔ x ∈ r j := by
  obtain ⟨r1, full, hd, -, rfl⟩ := h
  have := sd_le full
  rw [updV_other _ _ (by omega)]
  exact hd.other hx j
theorem PutTo.uns {a : Ar} {r r' : Nat → List Nat} {k id j : Nat} (h : PutTo a r k id r') (hn : ∀ i, id ∉ r i) (hj : 2 ≤ j % 4) : r' j = r j := by
  obtain ⟨r1, full, hd, -, rfl⟩ := h
  have := sd_le full
  rw [updV_other _ _ (by omega), hd.none_ hn]
/-- Rows behind one Sweep. -/
theorem swept_rows {A : HpA} {j0 x : Nat} {xs : List Nat} {a : Ar} {k : Nat} {r' : Nat → List Nat} (I : HpI A none) (hr : A.r j0 = x :: xs) (h : PutTo a (updV A.r j0 xs) k x r') {j : Nat} (hj : 2 ≤ j % 4) : (∀ y, y ≠ x → (y ∈ r' j ↔ y ∈ A.r j)) ∧ x ∉ r' j := by
  have hx : ∀ i, x ∉ updV A.r j0 xs i := fun i hi => by
    have h1 := I.take (j := j0) (x := x) (xs := xs) (by rw [hr])
    exact (h1.zz x rfl).2.1 i hi
  rw [h.uns hx hj]
  refine ⟨fun y hy => ?_, hx j⟩
  unfold updV
  split
  · next e => rw [e, hr, List.mem_cons]; exact ⟨.inr, fun g => g.resolve_left hy⟩
  · exact Iff.rfl
theorem cnt_noF {F : Nat → Bool} : ∀ {n : Nat}, (∀ i, i < n → F i = false) → cntF F n = 0
  | 0, _ => rfl
  | n + 1, h => by rw [cntF, cnt_noF (n := n) (fun i hi => h i (by omega)), h n (by omega)]; simp
theorem DsA.sweep {A : HpA} {S j0 x k : Nat} {xs : List Nat} {s : Sp} {r' : Nat → List Nat} (K : DsA A S) (I : HpI A none) (hr : A.r j0 = x :: xs) (hs : A.a.sp x = some s) (h : PutTo (sweepA A.a x s (sweptL s).length) (updV A.r j0 xs) k x r') (hx : x < 6000) : DsA { A with a := sweepA A.a x s (sweptL s).length, r := r' } S := by
  have get : ∀ {y t}, updF A.a.sp x (some (sweptS s)) y = some t → (y = x ∧ t = sweptS s) ∨ (y ≠ x ∧ A.a.sp y = some t) := fun {y t} ht => by
    by_cases e : y = x
    · rw [e, updF_same] at ht; injection ht with ht; exact .inl ⟨e, ht.symm⟩
    · rw [updF_other _ _ e] at ht; exact .inr ⟨e, ht⟩
  have e1 := smO_at (φ := pgO) (f := A.a.sp) (g := updF A.a.sp x (some (sweptS s))) (fun j hj => by rw [updF_other _ _ hj]) hx
  have e2 := smO_at (φ := isO) (f := A.a.sp) (g := updF A.a.sp x (some (sweptS s))) (fun j hj => by rw [updF_other _ _ hj]) hx
  rw [updF_same, hs] at e1 e2
  have k1 : pgO (some (sweptS s)) = pgO (some s) := rfl
  have k2 : isO (some (sweptS s)) = isO (some s) := rfl
  refine ⟨fun id t y ht => ?_, fun id t ht hno => ?_, K.own, K.B, ?_, ?_⟩
  · rcases get ht with ⟨-, rfl⟩ | ⟨-, h1⟩
    · rfl
    · exact K.nm id t y h1
  · rcases get ht with ⟨-, rfl⟩ | ⟨hne, h1⟩
    · exact cnt_noF fun i _ => K.nm x s i hs
    · exact K.sw id t h1 fun j hj hm => hno j hj (((swept_rows I hr h hj).1 id hne).2 hm)
  · show sumR A.a.l + smO pgO (updF A.a.sp x (some (sweptS s))) 6000 = 255
    have := K.pg
    omega
  · show smO isO (updF A.a.sp x (some (sweptS s))) 6000 = S
    have := K.cnt
    omega
theorem cnt_one {F : Nat → Bool} {y : Nat} : ∀ {n : Nat}, y < n → (∀ i, i < n → F i = decide (i = y)) → cntF F n = 1
  | 0, h, _ => by omega
  | n + 1, h, hF => by
    rw [cntF, hF n (by omega)]
    by_cases e : n = y
    · subst e
      rw [cnt_noF (n := n) (fun i hi => by rw [hF i (by omega)]; exact decide_eq_false (by omega))]
      simp
    · rw [cnt_one (n := n) (by omega) (fun i hi => hF i (by omega))]
      simp [e]
theorem cnt_zero {F : Nat → Bool} : ∀ {n : Nat}, cntF F n = 0 → ∀ i, i < n → F i = false
  | 0, _, i, hi => by omega
  | n + 1, h, i, hi => by
    rw [cntF] at h
    by_cases e : i = n
    · subst e
      cases hF : F i with
      | false => rfl
      | true => rw [hF] at h; simp at h
    · exact cnt_zero (n := n) (by omega) i (by omega)
/-- At the end: one object, of one span. -/
structure DgA (A : HpA) (id : Nat) (S : Nat) : Prop where
  sp : ∃ s, A.a.sp id = some s ∧ s.k = 0 ∧ cntF s.F (slK s.k) = 1
  z : ∀ i s, i ≠ id → A.a.sp i = some s → cntF s.F (slK s.k) = 0
  unz : ∀ j, 2 ≤ j % 4 → A.r j = []
  own : ∀ i, ownedI A i → i = id
  oid : ownedI A id
  pg : sumR A.a.l + smO pgO A.a.sp 6000 = 255
  cnt : smO isO A.a.sp 6000 = S ∨ smO isO A.a.sp 6000 = S + 1
  live : A.a.live = 1
theorem DsA.last {A A' : HpA} {S N N' k n x : Nat} {g : List Int} {c : Int} (K : DsA A S) (hun : ∀ j, 2 ≤ j % 4 → A.r j = []) (I : HpI A none) (hP : A.P = 1) (J : ArI N A.a) (J' : ArI N' A'.a) (hN : N' ≤ 6000) (h : AlcR 0 k n false A x g c A') (hk : k = 0) : c = 0 ∧ (∃ id, DgA A' id S) ∧ A'.a.ob x = some (List.replicate n 0) := by
  subst hk
  obtain ⟨rfl, B', f, pp, id, s0, y, D, hl, hpp, T⟩ := h.pgs I (by omega) (by decide) J K.B (by decide) (by omega)
  have hid := J'.ok.top _ _ T.spid
  have hz : ∀ i s, A.a.sp i = some s → cntF s.F (slK s.k) = 0 := fun i s hs => K.sw i s hs fun j hj hm => by rw [hun j hj] at hm; cases hm
  have hsum := T.sums hl hpp (by omega : id < 6000)
  have hF0 : ∀ i, i < slK s0.k → s0.F i = false := fun i hi => by
    rcases T.e0 with ⟨s, hs, ⟨hD, -⟩ | ⟨-, e2⟩, -⟩ | ⟨-, -, -, e2, -⟩
    · exact absurd hD (T.noD hun _)
    · injection e2 with e2; rw [e2] at hi ⊢; exact cnt_zero (hz _ s hs) i hi
    · rw [e2]; rfl
  have hone : cntF (allocS s0 y false).F (slK s0.k) = 1 := cnt_one T.ey.2.1 fun i hi => by
    show setF s0.F y i = _
    unfold setF
    by_cases e : i = y
    · rw [if_pos e, decide_eq_true e]
    · rw [if_neg e, hF0 i hi, decide_eq_false e]
  have hoth : ∀ i s, i ≠ id → A'.a.sp i = some s → cntF s.F (slK s.k) = 0 := fun i s hi hs => by
    rcases T.sp i hi with ⟨hD, -⟩ | ⟨-, h4⟩
    · exact absurd hD (T.noD hun i)
    · rw [h4] at hs; exact hz i s hs
  have hk0 : s0.k = 0 := T.ek
  refine ⟨rfl, ⟨id, ⟨_, T.spid, hk0, hone⟩, hoth, (T.unz hun).1, fun i hi => ?_, ⟨0, 0, by rw [T.eP, hP]; decide, by decide, by rw [T.own, if_pos ⟨rfl, rfl⟩]⟩, ?_, ?_, ?_⟩, T.ob⟩
  · obtain ⟨p, q, hp, hq, ho⟩ := hi
    rw [T.own] at ho
    rw [T.eP] at hp
    split at ho
    · omega
    · have := K.own p q hp hq; omega
  · rw [hsum.1]; exact K.pg
  · have := K.cnt
    rcases hsum.2 with h1 | h1
    · left; omega
    · right; omega
  · rw [J'.lv, livN_smO, smO_one (id := id) (fun j hj => ?_) hid, T.spid]
    · show cntF (allocS s0 y false).F (slK s0.k) * szK s0.k = 1
      rw [hone, hk0]; rfl
    · cases e : A'.a.sp j with
      | none => rfl
      | some s => show cntF s.F (slK s.k) * szK s.k = 0; rw [hoth j s hj e, Nat.zero_mul]
/-- What is left behind the second Drop. -/
theorem DgA.drop {A B : HpA} {id S n N : Nat} {ks : List Int} (K : DgA A id S) (J : ArI N A.a) (hN : N ≤ 6000) (h : DrR ks A B n) (hr : Rise ks) (hm : ∀ x, x ∈ ks ↔ (spI A.a x).isSome = true) : DgA B id 0 ∧ (n = S ∨ n + 1 = S) ∧ (∀ i s, B.a.sp i = some s → i = id) ∧ smO isO B.a.sp 6000 = 1 := by
  have hnd := rise_nodup hr
  have hsp := h.spans hnd
  have htop : ∀ id s, A.a.sp id = some s → id < 6000 := fun id s hs => Nat.lt_of_lt_of_le (J.ok.top id s hs) hN
  obtain ⟨h1, h2, h3⟩ := h.sums htop
  obtain ⟨s, hs, hsk, hs1⟩ := K.sp
  have hB : B.a.sp id = some s := by
    rw [(hsp id).2 (fun g => by obtain ⟨t, ht, -, -, g4⟩ := g.2; rw [hs] at ht; injection ht with ht; subst ht; omega)]; exact hs
  have hother : ∀ i, i ≠ id → B.a.sp i = none := fun i hi => by
    cases e : A.a.sp i with
    | none =>
      rw [(hsp i).2 (fun g => by obtain ⟨t, ht, -⟩ := g.2; rw [e] at ht; cases ht)]; exact e
    | some t =>
      refine (hsp i).1 ⟨(hm _).2 (spI_iff.2 ⟨by omega, by rw [Int.toNat_natCast, e]; rfl⟩), t, e, fun ho => hi (K.own i ho), fun hw => ?_, K.z i t hi e⟩
      obtain ⟨q, hq, h4⟩ := mem_waN.1 hw
      rw [K.unz _ (by omega), K.unz _ (by omega)] at h4
      rcases h4 with h4 | h4 <;> cases h4
  have hid := htop id s hs
  have hc1 : smO isO B.a.sp 6000 = 1 := by
    rw [smO_one (id := id) (fun j hj => by rw [hother j hj]; rfl) hid, hB]; rfl
  have hrB : ∀ {l A B n}, DrR l A B n → (∀ j, 2 ≤ j % 4 → A.r j = []) → ∀ j, 2 ≤ j % 4 → B.r j = [] := fun {l A B n} h h0 => by
    induction h with
    | nil A => exact h0
    | skip _ _ _ ih => exact ih h0
    | drop _ _ _ _ _ _ h2 ih =>
      intro j hj
      refine List.eq_nil_iff_forall_not_mem.2 fun z hz => ?_
      have := h2.mem hz
      rw [ih h0 j hj] at this; cases this
  have hown := fun x => (ownedI_eq (A := A) (B := B) h.own.1 h.own.2.1 : ownedI B x ↔ _)
  have hcnt := K.cnt
  refine ⟨⟨⟨s, hB, hsk, hs1⟩, fun i t hi ht => ?_, hrB h K.unz, fun i hi => K.own i ((hown i).1 hi), (hown id).2 K.oid, by rw [h2]; exact K.pg, .inr hc1, by rw [h.own.2.2.2.2]; exact K.live⟩, by omega, fun i t ht => ?_, hc1⟩
  · rw [hother i hi] at ht; cases ht
  · exact Classical.byContradiction fun hi => by rw [hother i hi] at ht; cases ht
/-- Nothing to take away. -/
theorem DrR.stays {A B : HpA} {n N : Nat} {ks : List Int} (h : DrR ks A B n) (hr : Rise ks) (J : ArI N A.a) (hno : ∀ y, ¬ DrC A y) : n = 0 ∧ B.a.sp = A.a.sp ∧ sumR B.a.l = sumR A.a.l := by
  have hsp := h.spans (rise_nodup hr)
  have e : B.a.sp = A.a.sp := funext fun y => (hsp y).2 fun g => hno y g.2
  obtain ⟨h1, h2, h3⟩ := h.sums J.ok.top
  rw [e] at h2 h3
  exact ⟨by omega, e, by omega⟩
theorem DgA.noC {A : HpA} {id S : Nat} (K : DgA A id S) (h1 : ∀ i s, A.a.sp i = some s → i = id) (y : Nat) : ¬ DrC A y := fun ⟨s, hs, _, _, h⟩ => by
  obtain ⟨t, ht, -, h2⟩ := K.sp
  have := h1 y s hs
  subst this
  rw [hs] at ht; injection ht with ht; subst ht
  omega
theorem DfA.noC {A : HpA} {m : Nat} (K : DfA A m) (y : Nat) : ¬ DrC A y := fun ⟨s, hs, _, _, h⟩ => by have := K.ne y s hs; omega
theorem unsN_ext {r r' : Nat → List Nat} : ∀ {n : Nat}, (∀ j, 2 ≤ j % 4 → r' j = r j) → unsN r' n = unsN r n
  | 0, _ => rfl
  | n + 1, h => by rw [unsN, unsN, unsN_ext (n := n) h, h _ (by omega), h _ (by omega)]
theorem unsN_take {r : Nat → List Nat} {k f x : Nat} {xs : List Nat} (hf : f < 2) (hr : r (k * 4 + 2 + f) = x :: xs) : ∀ {n : Nat}, (n ≤ k → unsN (updV r (k * 4 + 2 + f) xs) n = unsN r n) ∧ (k < n → unsN (updV r (k * 4 + 2 + f) xs) n + 1 = unsN r n)
  | 0 => ⟨fun _ => rfl, fun h => by omega⟩
  | n + 1 => by
    obtain ⟨h1, h2⟩ := unsN_take hf hr (n := n)
    rw [unsN, unsN]
    refine ⟨fun h => ?_, fun h => ?_⟩
    · rw [h1 (by omega), updV_other _ _ (by omega), updV_other _ _ (by omega)]
    · by_cases e : n = k
      · subst e
        rw [h1 (Nat.le_refl _)]
        rcases (by omega : f = 0 ∨ f = 1) with rfl | rfl
        · have e0 : r (n * 4 + 2) = x :: xs := hr
          rw [show n * 4 + 2 + 0 = n * 4 + 2 from rfl, updV_same, updV_other _ _ (by omega), e0, List.length_cons]; omega
        · have e0 : r (n * 4 + 3) = x :: xs := hr
          rw [show n * 4 + 2 + 1 = n * 4 + 3 from rfl, updV_same, updV_other _ _ (by omega), e0, List.length_cons]; omega
      · rw [updV_other _ _ (by omega), updV_other _ _ (by omega)]
        have := h2 (by omega)
        omega
/-- One span fewer waits. -/
theorem swept_uns {A : HpA} {k f x : Nat} {xs : List Nat} {a : Ar} {r' : Nat → List Nat} (I : HpI A none) (hk : k < 16) (hf : f < 2) (hr : A.r (k * 4 + 2 + f) = x :: xs) (h : PutTo a (updV A.r (k * 4 + 2 + f) xs) k x r') : unsN r' 16 + 1 = unsN A.r 16 := by
  have hx : ∀ i, x ∉ updV A.r (k * 4 + 2 + f) xs i := fun i hi => by
    have h1 := I.take (j := k * 4 + 2 + f) (x := x) (xs := xs) (by rw [hr])
    exact (h1.zz x rfl).2.1 i hi
  rw [unsN_ext (fun j hj => h.uns hx hj)]
  exact (unsN_take hf hr).2 hk
end Go.Proofs.YtmafiagakoglkaaGreatDoor
