/- Package cache: Begin, Unswept, Arena. -/
/- Package cache: Drop, fresh. -/
/- Package cache: what seek keeps; its closure that sweeps. -/
import Derived.Test.YtcnchgbngcnijaaGreatDoorMHi
import Derived.Test.YtcnchgbngcnijaaGreatDoorMOb
namespace Go.Proofs.YtcnchgbngcnijaaGreatDoor
open Go.RowKit Go.Maps

/-- Where a heap lies stays, as far as its own parts go. -/
structure HpE (H' H : HpH) : Prop where
  gh : H'.gh = H.gh
  gp : H'.gp = H.gp
  ga : H'.ah.ga = H.ah.ga
theorem HpE.refl (H : HpH) : HpE H H := ⟨rfl, rfl, rfl⟩
theorem HpE.trans {H H' H'' : HpH} (h : HpE H'' H') (k : HpE H' H) : HpE H'' H := ⟨h.gh.trans k.gh, h.gp.trans k.gp, h.ga.trans k.ga⟩
/-- A step of a heap. -/
def HpTo (W w w' : World) (H : HpH) (A A' : HpA) (N b : Nat) : Prop := ∃ H', HpE H' H ∧ HpS W w' H' A' N b ∧ StP (HpF H A) (HpF H' A') w w'
def HbPost (W w : World) (H : HpH) (A : HpA) (N b : Nat) (e : Ending) (w' : World) : Prop :=
  (0 < unsN A.r 16 ∧ e = .returned (.int .i64 5) ∧ Chg [] w w') ∨
  (unsN A.r 16 = 0 ∧ e = .returned (.int .i64 0) ∧ ∃ r1, FaR A.a A.own A.P A.r r1 ∧ HpI { A with r := bgR r1 32, own := faO A.own A.P } none ∧ HpTo W w w' H A { A with r := bgR r1 32, own := faO A.own A.P } N b)
def HbRel (W w0 : World) (H : HpH) (A : HpA) (N b gk : Nat) (idx : Value) (w : World) : Prop :=
  ∃ p r' v', gk + p = A.P + 1 ∧ p ≤ A.P ∧ idx = .int .i64 (p : Nat) ∧ FaR A.a A.own p A.r r' ∧ HpS W w { H with v := v' } { A with r := r', own := faO A.own p } N b ∧ StP (HpF H A) (HpF { H with v := v' } { A with r := r', own := faO A.own p }) w0 w
set_option maxHeartbeats 6400000 in
set_option maxRecDepth 100000 in
theorem hbegin_ok (W w : World) (H : HpH) (A : HpA) (N b : Nat) (Q : HpS W w H A N b) (I : HpI A none) (T0 : Tab W) (hN : N ≤ 6000) : Calls Tryz.prog 28 #[.pointer (some ⟨H.gh, 0, none⟩)] w (HbPost W w H A N b) := by
  have b1 : w.cell? ⟨H.gh, 1, none⟩ = some (.pointer (some ⟨H.gc, 0, none⟩)) := Q.hb.cellv 1 rfl
  have b2 : w.cell? ⟨H.gh, 2, none⟩ = some H.vo := Q.hb.cellv 2 rfl
  have hgh := Q.hb.lt
  have B := I.B Q.S.I.ok hN
  obtain ⟨Bv, cv, hvo⟩ := Q.vo_sl
  rw [hvo] at b2
  have hP := I.P
  have e0 : ({ A with r := A.r, own := faO A.own 0 } : HpA) = A := by rw [faO_zero]
  have HQ := Lib.hid (And.intro Q (And.intro T0 (And.intro B (And.intro I e0)))); clear Q T0 B I hvo e0
  go_enter Tryz.func28, Tryz.ntmps28
  go_wp2_with fail
  refine (cunswept_ok w H.gc H.gl H.v A.r HQ.out.1.C (fun j => Nat.le_trans (HQ.out.2.2.1.l j) (by decide))).mono ?_
  rintro e w1 ⟨rfl, c1⟩
  have b2 : w1.cell? ⟨H.gh, 2, none⟩ = some (.slice Bv A.P cv) := c1.cellv hgh (by simp) b2
  have hu := unsN_le HQ.out.2.2.1.l 16
  obtain ⟨u, hu0⟩ : ∃ u, u = unsN A.r 16 := ⟨_, rfl⟩
  rw [← hu0] at hu ⊢
  have HC := Lib.hid (And.intro c1 hu0); clear c1 hu0 b1
  by_cases h0 : 0 < u
  · have h0' : (0 : Int) < (u : Int) := by omega
    go_wp2_with fail
    go_ret
    exact .inl ⟨by rw [← HC.out.2]; exact h0, rfl, HC.out.1⟩
  · obtain rfl : u = 0 := by omega
    clear hu h0
    go_wp2_with fail
    go_loopg [19] (A.P + 1) (fun gk idx wr => HbRel W w H A N b gk idx wr)
    case atStart => exact ⟨0, A.r, H.v, by omega, by omega, rfl, rfl, by rw [HQ.out.2.2.2.2]; exact HQ.out.1.chg0 HC.out.1, by rw [HQ.out.2.2.2.2]; exact (StP.refl _ _).then0 HC.out.1⟩
    case round =>
      clear b2
      obtain ⟨p, r1, v1, hgk, hp, rfl, hF, Q1, t1⟩ := hrel
      have J := HQ.out.2.2.2.1.flushAll hp hF
      have b1 : wr.cell? ⟨H.gh, 1, none⟩ = some (.pointer (some ⟨H.gc, 0, none⟩)) := Q1.hb.cellv 1 rfl
      have HX := Lib.hid (And.intro hF (And.intro Q1 (And.intro t1 J))); clear hF Q1 t1 J
      by_cases ep : p < A.P
      · have hp' : (p : Int) < (A.P : Int) := by omega
        have hp0 : (0 : Int) ≤ (p : Int) := by omega
        go_wp2_with fail
        refine (flush_ok W wr { H with v := v1 } { A with r := r1, own := faO A.own p } N b HX.out.2.1 HQ.out.2.1 (HX.out.2.2.2.B HX.out.2.1.S.I.ok hN) p ep).mono ?_
        rintro e w2 ⟨rfl, v2, r2, hF2, Q2, t2⟩
        have eo : faO A.own p p = A.own p := faO_at _ _
        have e4 : ({ A with r := r2, own := updV (faO A.own p) p (flO (faO A.own p p) 16) } : HpA) = { A with r := r2, own := faO A.own (p + 1) } := by rw [eo, faO_set]
        have Q3 : HpS W w2 { H with v := v2 } { A with r := r2, own := faO A.own (p + 1) } N b := by rw [← e4]; exact Q2
        have t3 : StP (HpF H A) (HpF { H with v := v2 } { A with r := r2, own := faO A.own (p + 1) }) w w2 := by rw [← e4]; exact HX.out.2.2.1.trans t2
        have F3 : FlR A.a (A.own p) 16 r1 r2 := by rw [← eo]; exact hF2
        have HY := Lib.hid (And.intro Q3 (And.intro t3 F3)); clear Q3 t3 F3 Q2 t2 hF2 e4 eo
        go_wp2_with fail
        go_roundg (A.P - p)
        case measure => omega
        case rel => exact ⟨p + 1, r2, v2, by omega, by omega, by go_num, ⟨r1, HX.out.1, HY.out.2.2⟩, HY.out.1, HY.out.2.1⟩
      · obtain rfl : p = A.P := by omega
        have hp' : ¬ (A.P : Int) < (A.P : Int) := by omega
        clear ep
        go_wp2_with fail
        have B1 := HX.out.2.2.2.B HX.out.2.1.S.I.ok hN
        refine (cbegin_ok wr H.gc H.gl v1 r1 HX.out.2.1.C B1.l B1.x).mono ?_
        rintro e w2 ⟨rfl, v2, I2, s2⟩
        have Q3 := HX.out.2.1.central I2 s2
        have t3 := HX.out.2.2.1.trans (st_central (H := { H with v := v1 }) (A := { A with r := r1, own := faO A.own A.P }) (r' := bgR r1 32) s2)
        have J3 := HX.out.2.2.2.begin (fun j hj => by
          rw [List.eq_nil_iff_forall_not_mem]
          intro x hx
          have h1 := HX.out.1.un hj hx
          rw [HQ.out.2.2.2.1.unz HC.out.2.symm hj] at h1
          cases h1)
        have HZ := Lib.hid (And.intro Q3 (And.intro t3 J3)); clear Q3 t3 J3 I2 s2 B1
        go_wp2_with fail
        go_ret
        exact .inr ⟨HC.out.2.symm, rfl, r1, HX.out.1, HZ.out.2.2, { H with v := v2 }, ⟨rfl, rfl, rfl⟩, HZ.out.1, HZ.out.2.1⟩
section
variable {W w : World} {H : HpH} {A : HpA} {N b : Nat} (Q : HpS W w H A N b)
include Q
set_option maxHeartbeats 400000 in
theorem harena_ok : Calls Tryz.prog 24 #[.pointer (some ⟨H.gh, 0, none⟩)] w (QuPost (.pointer (some ⟨H.ah.ga, 0, none⟩)) w) := by
  have b0 : w.cell? ⟨H.gh, 0, none⟩ = some (.pointer (some ⟨H.ah.ga, 0, none⟩)) := Q.hb.cellv 0 rfl
  clear Q
  go_enter Tryz.func24, Tryz.ntmps24
  go_wp2_with fail
  go_ret
  exact ⟨rfl, rfl⟩
set_option maxHeartbeats 400000 in
theorem hunswept_ok (hl : ∀ j, (A.r j).length ≤ 100000) : Calls Tryz.prog 41 #[.pointer (some ⟨H.gh, 0, none⟩)] w (NwPost (.int .i64 (unsN A.r 16 : Nat)) w) := by
  have b1 : w.cell? ⟨H.gh, 1, none⟩ = some (.pointer (some ⟨H.gc, 0, none⟩)) := Q.hb.cellv 1 rfl
  have HQ := Lib.hid (And.intro Q hl); clear Q hl
  go_enter Tryz.func41, Tryz.ntmps41
  go_wp2_with fail
  refine (cunswept_ok w H.gc H.gl H.v A.r HQ.out.1.C HQ.out.2).mono ?_
  rintro e w1 ⟨rfl, c1⟩
  have HC := Lib.hid c1; clear c1
  go_wp2_with fail
  go_ret
  exact ⟨rfl, HC.out⟩
end
end Go.Proofs.YtcnchgbngcnijaaGreatDoor
namespace Go.Proofs.YtcnchgbngcnijaaGreatDoor
open Go.RowKit Go.Maps

def ownedI (A : HpA) (x : Nat) : Prop := ∃ p k, p < A.P ∧ k < 16 ∧ A.own p k = (x : Nat)
/-- Spans without objects taken away, one by one. -/
inductive DrR : List Int → HpA → HpA → Nat → Prop
  | nil (A : HpA) : DrR [] A A 0
  | skip {l : List Int} {A B : HpA} {n x : Nat} {s : Sp} : DrR l A B n → B.a.sp x = some s → (ownedI B x ∨ x ∈ waN B.r 16 ∨ 0 < cntF s.F (slK s.k)) → DrR (l ++ [((x : Nat) : Int)]) A B n
  | drop {l : List Int} {A B : HpA} {n x : Nat} {s : Sp} {l' : List R} {r1 : Nat → List Nat} : DrR l A B n → B.a.sp x = some s → ¬ ownedI B x → x ∉ waN B.r 16 → cntF s.F (slK s.k) = 0 → FreeSays B.a.n B.a.l (s.first : Nat) (pgK s.k : Nat) 0 l' → DelTo B.r x r1 → DrR (l ++ [((x : Nat) : Int)]) A { B with a := dropA B.a x s l', r := r1 } (n + 1)
theorem HpI.drop {A : HpA} (I : HpI A none) {x : Nat} {s : Sp} {l' : List R} {r1 : Nat → List Nat} (hno : ¬ ownedI A x) (hd : DelTo A.r x r1) : HpI { A with a := dropA A.a x s l', r := r1 } none := by
  have hr : ∀ j, x ∉ r1 j := fun j hj => by
    rcases hd with ⟨rfl, h⟩ | ⟨i, hi, h1, h2, rfl⟩
    · exact h j (I.r j x hj).1 hj
    · unfold delR updV at hj
      split at hj
      · next e => exact ((List.Nodup.mem_erase_iff (I.nd i)).1 hj).1 rfl
      · next e => exact e (I.dj _ _ x hj h1)
  have hother : ∀ j y, y ≠ x → (y ∈ r1 j ↔ y ∈ A.r j) := fun j y hne => by
    rcases hd with ⟨rfl, h⟩ | ⟨i, hi, h1, h2, rfl⟩
    · exact Iff.rfl
    · unfold delR updV
      split
      · next e => rw [e]; exact List.mem_erase_of_ne hne
      · exact Iff.rfl
  have sp : ∀ y, y ≠ x → (dropA A.a x s l').sp y = A.a.sp y := fun y h => updF_other _ _ h
  refine ⟨fun j y hy => ?_, fun j => ?_, fun i j y hi hj => I.dj i j y (hd.mem hi) (hd.mem hj), fun p k hp hk => ?_, I.oi, fun p k id hp hk hid j hj => I.ro p k id hp hk hid j (hd.mem hj), I.P, fun _ h => (by cases h), fun id t ht => ?_⟩
  · obtain ⟨h1, t, ht, h2⟩ := I.r j y (hd.mem hy)
    exact ⟨h1, t, (sp y (fun e => hr j (e ▸ hy))).trans ht, h2⟩
  · rcases hd with ⟨rfl, h⟩ | ⟨i, hi, h1, h2, rfl⟩
    · exact I.nd j
    · show (delR A.r x i j).Nodup
      unfold delR updV
      split
      · exact (I.nd i).erase _
      · exact I.nd j
  · rcases I.o p k hp hk with h | ⟨id, t, h, ht, h2⟩
    · exact .inl h
    · exact .inr ⟨id, t, h, (sp id (fun e => hno ⟨p, k, hp, hk, e ▸ h⟩)).trans ht, h2⟩
  · have hne : id ≠ x := fun e => by
      have ht2 : updF A.a.sp x none id = some t := ht
      rw [e, updF_same] at ht2; cases ht2
    have ht2 : A.a.sp id = some t := (sp id hne).symm.trans ht
    rcases I.all id t ht2 with h | ⟨j, h⟩ | h
    · cases h
    · exact .inr (.inl ⟨j, (hother j id hne).2 h⟩)
    · exact .inr (.inr h)
section
variable {l : List Int} {A B : HpA} {n : Nat}
theorem DrR.inv (h : DrR l A B n) (I : HpI A none) : HpI B none := by
  induction h with
  | nil A => exact I
  | skip _ _ _ ih => exact ih I
  | drop _ _ h1 _ _ _ h2 ih => exact (ih I).drop h1 h2
theorem DrR.len (h : DrR l A B n) : n ≤ l.length := by
  induction h with
  | nil A => exact Nat.le_refl _
  | skip _ _ _ ih => rw [List.length_append]; omega
  | drop _ _ h1 _ _ _ h2 ih => rw [List.length_append]; simp; omega
theorem DrR.own (h : DrR l A B n) : B.own = A.own ∧ B.P = A.P ∧ B.a.n = A.a.n ∧ B.a.ob = A.a.ob ∧ B.a.live = A.a.live := by
  induction h with
  | nil A => exact ⟨rfl, rfl, rfl, rfl, rfl⟩
  | skip _ _ _ ih => exact ih
  | drop _ _ h1 _ _ _ h2 ih => exact ih
theorem DrR.sp (h : DrR l A B n) {y : Nat} (hy : ((y : Nat) : Int) ∉ l) : B.a.sp y = A.a.sp y := by
  induction h with
  | nil A => rfl
  | skip _ _ _ ih => exact ih (fun h => hy (List.mem_append_left _ h))
  | drop _ _ h1 _ _ _ h2 ih =>
    rw [← ih (fun h => hy (List.mem_append_left _ h))]
    exact updF_other _ _ (fun e => hy (List.mem_append_right _ (by simp; omega)))
end
theorem rise_len {ks : List Int} (h : Rise ks) {N : Nat} (hN : ∀ x ∈ ks, 0 ≤ x ∧ x < N) : ks.length ≤ N := by
  have h1 : (ks.map Int.toNat).Nodup := by
    refine List.Pairwise.map _ (R := fun a b => a ≠ b ∧ 0 ≤ a ∧ 0 ≤ b) (fun a b h e => by omega) ?_
    have h2 := rise_nodup h
    refine List.Pairwise.imp_of_mem (fun {a b} ha hb hne => ⟨hne, (hN a ha).1, (hN b hb).1⟩) h2
  have := nodup_le (N := N) h1 (fun x hx => by
    obtain ⟨y, hy, rfl⟩ := List.mem_map.1 hx
    have := hN y hy
    omega)
  rwa [List.length_map] at this
def DpPost (W w : World) (H : HpH) (A : HpA) (N b : Nat) (e : Ending) (w' : World) : Prop :=
  ∃ ks B n, Rise ks ∧ (∀ x, x ∈ ks ↔ (spI A.a x).isSome = true) ∧ DrR ks A B n ∧ e = .returned (.int .i64 (n : Nat)) ∧ HpI B none ∧ HpTo W w w' H A B N b
def DpRel (W w0 : World) (H : HpH) (A : HpA) (N b gk : Nat) (ks : List Int) (v : Value) (idx nv : Value) (w : World) : Prop :=
  ∃ i n B H', gk + i = ks.length + 1 ∧ i ≤ ks.length ∧ idx = .int .i64 (i : Nat) ∧ nv = .int .i64 (n : Nat) ∧ DrR (ks.take i) A B n ∧ HpE H' H ∧ HpS W w H' B N b ∧ StP (HpF H A) (HpF H' B) w0 w ∧ LsP W (HpF H' B) w v ks
set_option maxHeartbeats 6400000 in
set_option maxRecDepth 100000 in
theorem hdrop_ok (W w : World) (H : HpH) (A : HpA) (N b : Nat) (Q : HpS W w H A N b) (I : HpI A none) (hN : N ≤ 6000) (hb : b ≤ 1000000) : Calls Tryz.prog 33 #[.pointer (some ⟨H.gh, 0, none⟩)] w (DpPost W w H A N b) := by
  have b0 : w.cell? ⟨H.gh, 0, none⟩ = some (.pointer (some ⟨H.ah.ga, 0, none⟩)) := Q.hb.cellv 0 rfl
  have HQ := Lib.hid (And.intro Q I); clear Q I
  go_enter Tryz.func33, Tryz.ntmps33
  go_wp2_with fail
  refine (s_spans HQ.out.1.S hb).mono ?_
  rintro e w1 ⟨v, ks, rfl, O, c1, f1, hrise, hks0⟩
  have hks : ∀ x, x ∈ ks ↔ (spI A.a x).isSome = true := hks0
  clear hks0
  have hkl : ks.length ≤ 6000 := Nat.le_trans (rise_len hrise (N := N) (fun x hx => by
    have h1 := (hks x).1 hx
    unfold spI at h1
    split at h1
    · next h0 =>
      obtain ⟨s, hs⟩ := Option.isSome_iff_exists.1 h1
      have := HQ.out.1.S.I.ok.top _ s hs
      exact ⟨h0, by omega⟩
    · cases h1)) hN
  obtain ⟨Av, cv, rfl⟩ := O.slice
  have L : LsP W (HpF H A) w1 (.slice Av ks.length cv) ks := ⟨O, fun k hk hF => by
    have h1 := f1 k hk
    have h2 := HQ.out.1.lt hF
    omega, fun k hk => Nat.le_trans HQ.out.1.S.c.size (f1 k hk)⟩
  have HL := Lib.hid (And.intro L (And.intro c1 (And.intro hrise hks))); clear L c1 O f1 hrise hks b0
  go_wp2_with fail
  go_loopg [14, 3] (ks.length + 1) (fun gk idx nv wr => DpRel W w H A N b gk ks (.slice Av ks.length cv) idx nv wr)
  case atStart => exact ⟨0, 0, A, H, by omega, by omega, rfl, rfl, .nil A, HpE.refl _, HQ.out.1.chg0 HL.out.2.1, (StP.refl _ _).then0 HL.out.2.1, HL.out.1⟩
  case round =>
    obtain ⟨i, n, B, H1, hgk, hi, rfl, rfl, hD, hgh, Q1, t1, L1⟩ := hrel
    have hn := hD.len
    rw [List.length_take] at hn
    by_cases ei : i < ks.length
    · obtain ⟨y, hy⟩ : ∃ y, ks[i]? = some y := ⟨_, List.getElem?_eq_getElem ei⟩
      have hym : y ∈ ks := List.mem_of_getElem? hy
      obtain ⟨id, s0, rfl, hs0⟩ : ∃ (id : Nat) (s : Sp), y = id ∧ A.a.sp id = some s := by
        have h1 := (HL.out.2.2.2 y).1 hym
        unfold spI at h1
        split at h1
        · next h0 =>
          obtain ⟨s, hs⟩ := Option.isSome_iff_exists.1 h1
          exact ⟨y.toNat, s, by omega, hs⟩
        · cases h1
      have hnt : ((id : Nat) : Int) ∉ ks.take i := fun hm => by
        have h1 := rise_nodup HL.out.2.2.1
        rw [← List.take_append_drop i ks] at h1
        rw [List.nodup_append] at h1
        have h2 : ((id : Nat) : Int) ∈ ks.drop i := by
          rw [List.mem_iff_getElem?]
          exact ⟨0, by rw [List.getElem?_drop]; exact hy⟩
        exact h1.2.2 _ hm _ h2 rfl
      have hs : B.a.sp id = some s0 := (hD.sp hnt).trans hs0
      obtain ⟨s, rfl⟩ : ∃ s, s = s0 := ⟨_, rfl⟩
      obtain ⟨g, hgA, cx, -⟩ := L1.o.cell hy
      subst hgA
      have hi' : (i : Int) < (ks.length : Int) := by omega
      have hi0 : (0 : Int) ≤ (i : Int) := by omega
      have J1 := hD.inv HQ.out.2
      have B1 := J1.B Q1.S.I.ok hN
      have b0 : wr.cell? ⟨H.gh, 0, none⟩ = some (.pointer (some ⟨H1.ah.ga, 0, none⟩)) := by rw [← hgh.gh]; exact Q1.hb.cellv 0 rfl
      have hid2 : id ≤ 1000000 := by have := Q1.S.I.ok.top id s hs; omega
      have htk : ks.take (i + 1) = ks.take i ++ [((id : Nat) : Int)] := take_succ_get hy
      have HX := Lib.hid (And.intro hD (And.intro hgh (And.intro Q1 (And.intro t1 (And.intro L1 (And.intro J1 (And.intro B1 (And.intro hs htk)))))))); clear hD hgh Q1 t1 L1 J1 B1 hs htk hs0 hym hy hnt
      go_wp2_with fail
      have k1 := owned_ok HX.out.2.2.1 HX.out.2.2.2.2.2.1.P (id : Nat)
      rw [HX.out.2.1.gh] at k1
      refine k1.mono ?_
      rintro e w2 ⟨bo, rfl, hw2, hbo⟩
      subst hw2
      clear k1
      cases bo with
      | true =>
        have HO := Lib.hid (hbo.1 rfl); clear hbo
        go_wp2_with fail
        go_roundg (ks.length - i)
        case measure => omega
        case rel => exact ⟨i + 1, n, B, H1, by omega, by omega, by go_num, rfl, by rw [HX.out.2.2.2.2.2.2.2.2]; exact .skip HX.out.1 HX.out.2.2.2.2.2.2.2.1 (.inl HO.out), HX.out.2.1, HX.out.2.2.1, HX.out.2.2.2.1, HX.out.2.2.2.2.1⟩
      | false =>
        have HO := Lib.hid (fun h => absurd (hbo.2 h) (by decide) : ¬ ownedI B id); clear hbo
        go_wp2_with fail
        have k1 := unswept_ok HX.out.2.2.1 HX.out.2.2.2.2.2.2.1 id
        rw [HX.out.2.1.gh] at k1
        refine k1.mono ?_
        rintro e w3 ⟨rfl, c3⟩
        clear k1
        by_cases hw : id ∈ waN B.r 16
        · rw [decide_eq_true hw]
          have HW := Lib.hid (And.intro hw c3); clear hw c3
          go_wp2_with fail
          go_roundg (ks.length - i)
          case measure => omega
          case rel => exact ⟨i + 1, n, B, H1, by omega, by omega, by go_num, rfl, by rw [HX.out.2.2.2.2.2.2.2.2]; exact .skip HX.out.1 HX.out.2.2.2.2.2.2.2.1 (.inr (.inl HW.out.1)), HX.out.2.1, HX.out.2.2.1.chg0 HW.out.2, HX.out.2.2.2.1.then0 HW.out.2, HX.out.2.2.2.2.1.chg0 HW.out.2⟩
        · rw [decide_eq_false hw]
          have b0 : w3.cell? ⟨H.gh, 0, none⟩ = some (.pointer (some ⟨H1.ah.ga, 0, none⟩)) := by rw [← HX.out.2.1.gh]; exact (HX.out.2.2.1.chg0 c3).hb.cellv 0 rfl
          have HW := Lib.hid (And.intro hw c3); clear hw c3
          go_wp2_with fail
          by_cases hc : cntF s.F (slK s.k) = 0
          · refine (s_drop_yes (HX.out.2.2.1.chg0 HW.out.2).S HX.out.2.2.2.2.2.2.2.1 (by omega) hc).mono ?_
            rintro e w4 ⟨h4, l4, rfl, hfs, S4, st4⟩
            have Q4 := (HX.out.2.2.1.chg0 HW.out.2).arena S4 st4
            have t4 := (HX.out.2.2.2.1.then0 HW.out.2).trans (st_arena st4)
            have L4 := (HX.out.2.2.2.2.1.chg0 HW.out.2).st (st_arena st4)
            have b1 : w4.cell? ⟨H.gh, 1, none⟩ = some (.pointer (some ⟨H1.gc, 0, none⟩)) := by rw [← HX.out.2.1.gh]; exact Q4.hb.cellv 1 rfl
            have HG := Lib.hid S4.ga
            have HY := Lib.hid (And.intro Q4 (And.intro t4 (And.intro L4 (And.intro hfs hc)))); clear Q4 t4 L4 S4 st4 hfs b0 hc
            go_wp2_with fail
            refine (cdel_ok w4 H1.gc H1.gl H1.v B.r HY.out.1.C id hid2 (fun j => Nat.le_trans (HX.out.2.2.2.2.2.2.1.l j) (by decide)) HX.out.2.2.2.2.2.2.1.x).mono ?_
            rintro e w5 hdl
            obtain ⟨bo, r1, v1, rfl, hdt, I5, s5⟩ : ∃ (bo : Bool) (r1 : Nat → List Nat) (v1 : Nat → Value), e = .returned (.bool bo) ∧ DelTo B.r id r1 ∧ IsCe w5 H1.gc H1.gl v1 r1 ∧ StP (CeF H1.gc H1.gl H1.v) (CeF H1.gc H1.gl v1) w4 w5 := by
              rcases hdl with ⟨h1, he, c5⟩ | ⟨j, hj, h1, h2, he, v1, I5, s5⟩
              · exact ⟨false, B.r, H1.v, he, .inl ⟨rfl, h1⟩, HY.out.1.C.chg0 c5, (StP.refl _ _).then0 c5⟩
              · exact ⟨true, _, v1, he, .inr ⟨j, hj, h1, h2, rfl⟩, I5, s5⟩
            clear hdl
            have Q5 := HY.out.1.central I5 s5
            have t5 := HY.out.2.1.trans (st_central (H := { H1 with ah := h4 }) (A := { B with a := dropA B.a id s l4 }) (r' := r1) s5)
            have L5 := HY.out.2.2.1.st (st_central (H := { H1 with ah := h4 }) (A := { B with a := dropA B.a id s l4 }) (r' := r1) s5)
            have HZ := Lib.hid (And.intro Q5 (And.intro t5 (And.intro L5 hdt))); clear Q5 t5 L5 I5 s5 hdt b1
            go_wp2_with fail
            go_roundg (ks.length - i)
            case measure => omega
            case rel => exact ⟨i + 1, n + 1, { B with a := dropA B.a id s l4, r := r1 }, { H1 with ah := h4, v := v1 }, by omega, by omega, by go_num, by go_num, by rw [HX.out.2.2.2.2.2.2.2.2]; exact .drop HX.out.1 HX.out.2.2.2.2.2.2.2.1 HO.out HW.out.1 HY.out.2.2.2.2 HY.out.2.2.2.1 HZ.out.2.2.2, ⟨HX.out.2.1.gh, HX.out.2.1.gp, HG.out.trans HX.out.2.1.ga⟩, HZ.out.1, HZ.out.2.1, HZ.out.2.2.1⟩
          · refine (s_drop_no (HX.out.2.2.1.chg0 HW.out.2).S HX.out.2.2.2.2.2.2.2.1 (by omega) (by omega)).mono ?_
            rintro e w4 ⟨rfl, c4⟩
            have HC := Lib.hid (And.intro hc c4); clear hc c4
            go_wp2_with fail
            go_roundg (ks.length - i)
            case measure => omega
            case rel => exact ⟨i + 1, n, B, H1, by omega, by omega, by go_num, rfl, by rw [HX.out.2.2.2.2.2.2.2.2]; exact .skip HX.out.1 HX.out.2.2.2.2.2.2.2.1 (.inr (.inr (Nat.pos_of_ne_zero HC.out.1))), HX.out.2.1, (HX.out.2.2.1.chg0 HW.out.2).chg0 HC.out.2, (HX.out.2.2.2.1.then0 HW.out.2).then0 HC.out.2, (HX.out.2.2.2.2.1.chg0 HW.out.2).chg0 HC.out.2⟩
    · obtain rfl : i = ks.length := by omega
      have hi' : ¬ (ks.length : Int) < (ks.length : Int) := by omega
      rw [List.take_length] at hD
      have HX := Lib.hid (And.intro hD (And.intro hgh (And.intro Q1 t1))); clear hD hgh Q1 t1 L1 ei
      go_wp2_with fail
      go_ret
      exact ⟨ks, B, n, HL.out.2.2.1, HL.out.2.2.2, HX.out.1, rfl, HX.out.1.inv HQ.out.2, H1, HX.out.2.1, HX.out.2.2.1, HX.out.2.2.2⟩
def FrPost (W w : World) (H : HpH) (A : HpA) (N b k : Nat) (e : Ending) (w' : World) : Prop :=
  ∃ x c l', AllocSays A.a.l (pgK k : Nat) x c l' ∧
    ((c ≠ 0 ∧ e = .returned (.tuple #[.int .i64 0, .bool false]) ∧ HpTo W w w' H A A N b) ∨
     (c = 0 ∧ ∃ (f id : Nat), x = f ∧ A.a.sp id = none ∧ (∀ j, j < id → A.a.sp j ≠ none) ∧ id ≤ N ∧ e = .returned (.tuple #[.int .i64 (id : Nat), .bool true]) ∧ HpTo W w w' H A { A with a := spanA A.a l' id k f } (N + 1) (b + 6)))
set_option maxHeartbeats 1600000 in
set_option maxRecDepth 100000 in
theorem hfresh_ok (W w : World) (H : HpH) (A : HpA) (N b : Nat) (Q : HpS W w H A N b) (hN : N ≤ 6000) (hb : b ≤ 1000000) (k : Nat) (hk : k < 16) : Calls Tryz.prog 125 #[.pointer (some ⟨H.gh, 0, none⟩), .int .i64 (k : Nat)] w (FrPost W w H A N b k) := by
  have b0 : w.cell? ⟨H.gh, 0, none⟩ = some (.pointer (some ⟨H.ah.ga, 0, none⟩)) := Q.hb.cellv 0 rfl
  have HQ := Lib.hid Q; clear Q
  go_enter Tryz.func125, Tryz.ntmps125
  go_wp2_with fail
  refine (s_span HQ.out.S hb (by omega) k hk).mono ?_
  rintro e w1 ⟨x, c, l', hs, ⟨hc, rfl, h', S', st⟩ | ⟨rfl, f, id, h', hx, hn, hall, hid, rfl, S', st⟩⟩
  · have Q1 := HQ.out.arena S' st
    have t1 := st_arena (H := H) (A := A) st
    have hc2 : (c == 0) = false := by rw [beq_eq_false_iff_ne]; exact hc
    have HG := Lib.hid S'.ga
    have HX := Lib.hid (And.intro hs (And.intro hc (And.intro Q1 t1))); clear hs hc Q1 t1 S' st b0
    go_wp2_with fail
    go_ret2
    exact ⟨x, c, l', HX.out.1, .inl ⟨HX.out.2.1, rfl, { H with ah := h' }, ⟨rfl, rfl, HG.out⟩, HX.out.2.2.1, HX.out.2.2.2⟩⟩
  · have Q1 := HQ.out.arena S' st
    have t1 := st_arena (H := H) (A := A) st
    have HG := Lib.hid S'.ga
    have HX := Lib.hid (And.intro hs (And.intro hx (And.intro hn (And.intro hall (And.intro hid (And.intro Q1 t1)))))); clear hs hx hn hall hid Q1 t1 S' st b0
    go_wp2_with fail
    go_ret2
    exact ⟨x, 0, l', HX.out.1, .inr ⟨rfl, f, id, HX.out.2.1, HX.out.2.2.1, HX.out.2.2.2.1, HX.out.2.2.2.2.1, rfl, { H with ah := h' }, ⟨rfl, rfl, HG.out⟩, HX.out.2.2.2.2.2.1, HX.out.2.2.2.2.2.2⟩⟩
end Go.Proofs.YtcnchgbngcnijaaGreatDoor
namespace Go.Proofs.YtcnchgbngcnijaaGreatDoor
open Go.RowKit Go.Maps

theorem StP.then_new {F F' : Nat → Prop} {w0 w w' : World} {S : List Nat} (s : StP F F' w0 w) (c : Chg S w w') (hS : ∀ k ∈ S, w0.heap.size ≤ k) : StP F F' w0 w' :=
  ⟨c.os.trans s.os, c.tape.trans s.tape, c.output.trans s.output, Nat.le_trans s.size c.size, fun k hk hn => (c.block k (Nat.lt_of_lt_of_le hk s.size) (fun hm => by have := hS k hm; omega)).trans (s.block k hk hn), s.fr⟩
theorem HpS.far {W w w' : World} {H : HpH} {A : HpA} {N b : Nat} {S : List Nat} (Q : HpS W w H A N b) (c : Chg S w w') (nf : ∀ k ∈ S, ¬ HpF H A k) (new : ∀ k ∈ S, W.heap.size ≤ k) : HpS W w' H A N b := by
  have nA : ∀ k, ArF H.ah A.a k → k ∉ S := fun k hk hm => nf k hm (.inl hk)
  have nC : ∀ k, CeF H.gc H.gl H.v k → k ∉ S := fun k hk hm => nf k hm (.inr (.inl hk))
  have nO : ∀ k, OwF H A.P k → k ∉ S := fun k hk hm => nf k hm (.inr (.inr hk))
  exact ⟨c.blk Q.hb (nO _ (.inl rfl)), ⟨Q.S.M.chg c nA, Q.S.I, Q.S.far, Q.S.c.new c new, rfl, Q.S.m⟩, Q.C.chg c nC, own_chg Q.o c (fun k hk => nO k (.inr (.inl (mem_fpv.2 hk)))), fun p hp => c.blk (Q.g p hp) (nO _ (.inr (.inr ⟨p, hp, rfl⟩))), Q.inj, Q.d1, Q.d2, Q.n1, Q.n2⟩
structure SkS (W w0 w : World) (H0 : HpH) (A0 : HpA) (H : HpH) (A : HpA) (N b g2 g5 : Nat) (vg : Value) (gone : List Int) : Prop where
  gh : HpE H H0
  Q : HpS W w H A N b
  t : StP (HpF H0 A0) (HpF H A) w0 w
  L : LsP W (HpF H A) w vg gone
  ln : ∀ k ∈ fpv vg, w0.heap.size ≤ k
  b2 : Blk w g2 43 #[.pointer (some ⟨H0.gh, 0, none⟩)]
  b5 : Blk w g5 33 #[vg]
  n2 : w0.heap.size ≤ g2
  n5 : w0.heap.size ≤ g5
  f2 : ¬ HpF H A g2
  f5 : ¬ HpF H A g5
  e2 : g2 ∉ fpv vg
  e5 : g5 ∉ fpv vg
  wn : W.heap.size ≤ w0.heap.size
  cap : gone.length + A.a.live ≤ 100000000
section
variable {W w0 w w' : World} {H0 H : HpH} {A0 A : HpA} {N b g2 g5 : Nat} {vg : Value} {gone : List Int}
theorem SkS.ne (K : SkS W w0 w H0 A0 H A N b g2 g5 vg gone) : g2 ≠ g5 := K.b2.ne_ K.b5 (by decide)
/-- The heap turned, the boxes and the list stay. -/
theorem SkS.step (K : SkS W w0 w H0 A0 H A N b g2 g5 vg gone) {H' : HpH} {A' : HpA} {N' b' : Nat} (gh : HpE H' H) (Q : HpS W w' H' A' N' b') (t : StP (HpF H A) (HpF H' A') w w') (hl : A'.a.live ≤ A.a.live) : SkS W w0 w' H0 A0 H' A' N' b' g2 g5 vg gone := by
  obtain ⟨S, c, hS⟩ := t.chg
  refine ⟨gh.trans K.gh, Q, K.t.trans t, K.L.st t, K.ln, c.blk K.b2 (fun h => K.f2 (hS _ h)), c.blk K.b5 (fun h => K.f5 (hS _ h)), K.n2, K.n5, fun hF => ?_, fun hF => ?_, K.e2, K.e5, K.wn, by have := K.cap; omega⟩
  · rcases t.fr _ hF with h | h
    · exact K.f2 h
    · have := K.b2.lt; omega
  · rcases t.fr _ hF with h | h
    · exact K.f5 h
    · have := K.b5.lt; omega
theorem SkS.chg0 (K : SkS W w0 w H0 A0 H A N b g2 g5 vg gone) (c : Chg [] w w') : SkS W w0 w' H0 A0 H A N b g2 g5 vg gone :=
  K.step (HpE.refl _) (K.Q.chg0 c) ((StP.refl _ _).then0 c) (Nat.le_refl _)
/-- The list turned, and told in its box. -/
theorem SkS.list (K : SkS W w0 w H0 A0 H A N b g2 g5 vg gone) {v' : Value} {l' : List Int} (O : OwnI 3 w' v' l') (s : Stp (fpv vg) (fpv v') w w') (hl : l'.length + A.a.live ≤ 100000000) : SkS W w0 (w'.setCell ⟨g5, 0, none⟩ v') H0 A0 H A N b g2 g5 v' l' := by
  have hW : W.heap.size ≤ w.heap.size := K.Q.S.c.size
  have L1 := K.L.push (fun k hk => K.Q.lt hk) hW O s
  have Q1 := K.Q.stp K.L s
  have e5 : g5 ∉ fpv v' := fun h => by
    rcases s.f _ h with h1 | h1
    · exact K.e5 h1
    · have := K.b5.lt; omega
  have e2 : g2 ∉ fpv v' := fun h => by
    rcases s.f _ h with h1 | h1
    · exact K.e2 h1
    · have := K.b2.lt; omega
  have c : Chg [g5] w' (w'.setCell ⟨g5, 0, none⟩ v') := (Chg.refl _ w').setCell (.inl (by simp)) _
  have b5 := (s.c.blk K.b5 K.e5).set_ 0 v'
  have b2 := c.blk (s.c.blk K.b2 K.e2) (by simpa using K.ne)
  refine ⟨K.gh, Q1.far c (fun k hk => by have : k = g5 := (by simpa using hk); rw [this]; exact K.f5) (fun k hk => by have : k = g5 := (by simpa using hk); rw [this]; exact Nat.le_trans K.wn K.n5), (K.t.then_new s.c K.ln).then_new c (fun k hk => by have : k = g5 := (by simpa using hk); rw [this]; exact K.n5), ⟨L1.o.chg c (fun k hk hm => e5 (by have : k = g5 := (by simpa using hm); rw [← this]; exact hk)), L1.nf, L1.new⟩, fun k hk => ?_, b2, b5, K.n2, K.n5, K.f2, K.f5, e2, e5, K.wn, hl⟩
  rcases s.f k hk with h1 | h1
  · exact K.ln k h1
  · exact Nat.le_trans K.t.size h1
end
theorem slty5 : SlTy Tryz.prog 33 3 := slty
theorem sweptL_len (s : Sp) (h : s.k < 16) : (sweptL s).length ≤ 64 := by
  unfold sweptL allN
  have h1 := List.length_filter_le (fun i => !(s.M i)) ((List.range (slK s.k)).filter s.F)
  have h2 := List.length_filter_le s.F (List.range (slK s.k))
  have h3 := (kF h).2.2.2.2.2.2.2.2
  simp only [List.length_range] at h2
  omega
set_option maxHeartbeats 3200000 in
set_option maxRecDepth 100000 in
theorem sksweep_ok (W w0 w : World) (H0 H : HpH) (A0 A : HpA) (N b g2 g5 : Nat) (vg : Value) (gone : List Int) (K : SkS W w0 w H0 A0 H A N b g2 g5 vg gone) (T0 : Tab W) (hN : N ≤ 6000) (id : Nat) (s : Sp) (hs : A.a.sp id = some s) :
    Calls Tryz.prog 122 #[.int .i64 (id : Nat), .pointer (some ⟨g2, 0, none⟩), .pointer (some ⟨g5, 0, none⟩)] w fun e w' => e = .returned (.tuple #[]) ∧ ∃ H' vg', SkS W w0 w' H0 A0 H' { A with a := sweepA A.a id s (sweptL s).length } N b g2 g5 vg' (gone ++ intsN ((sweptL s).map s.addr)) := by
  have b2 : w.cell? ⟨g2, 0, none⟩ = some (.pointer (some ⟨H0.gh, 0, none⟩)) := K.b2.cellv 0 rfl
  have b0 : w.cell? ⟨H0.gh, 0, none⟩ = some (.pointer (some ⟨H.ah.ga, 0, none⟩)) := by rw [← K.gh.gh]; exact K.Q.hb.cellv 0 rfl
  have hk := (K.Q.S.I.ok.pg id s hs).1
  have hsl := K.Q.S.I.swept_le hs
  have hsz := (kF hk).2.2.1
  have hll : (sweptL s).length ≤ 64 := sweptL_len s hk
  have HK := Lib.hid (And.intro K (And.intro T0 (And.intro hs (And.intro hsl hsz)))); clear K T0 hs hsl hsz hk
  go_enter Tryz.func122, Tryz.ntmps122
  go_wp2_with fail
  refine (s_sweep HK.out.1.Q.S HK.out.2.1 hN HK.out.2.2.1).mono ?_
  rintro e w1 ⟨u, h1, rfl, O1, f1, nf1, S1, st1⟩
  have Q1 := HK.out.1.Q.arena S1 st1
  have t1 := st_arena (H := H) (A := A) st1
  have hlive : (sweepA A.a id s (sweptL s).length).live ≤ A.a.live := Nat.sub_le _ _
  have K1 : SkS W w0 w1 H0 A0 { H with ah := h1 } { A with a := sweepA A.a id s (sweptL s).length } N b g2 g5 vg gone := HK.out.1.step ⟨rfl, rfl, S1.ga⟩ Q1 t1 hlive
  have hcap : (gone ++ intsN ((sweptL s).map s.addr)).length + (sweepA A.a id s (sweptL s).length).live ≤ 100000000 := by
    have h3 := HK.out.1.cap
    have h4 := HK.out.2.2.2.1
    have h5 := HK.out.2.2.2.2
    have h6 : (sweptL s).length ≤ (sweptL s).length * szK s.k := Nat.le_mul_of_pos_right _ h5
    rw [List.length_append]
    have h7 : (intsN ((sweptL s).map s.addr)).length = (sweptL s).length := by unfold intsN; simp
    have h8 : (sweepA A.a id s (sweptL s).length).live = A.a.live - (sweptL s).length * szK s.k := rfl
    omega
  have hnl : ∀ y ∈ intsN ((sweptL s).map s.addr), WfI y := fun y hy => by
    unfold intsN at hy
    obtain ⟨z, hz, rfl⟩ := List.mem_map.1 hy
    obtain ⟨i, hi, rfl⟩ := List.mem_map.1 hz
    have hi2 : i < slK s.k := by
      unfold sweptL allN at hi
      exact List.mem_range.1 (List.mem_filter.1 (List.mem_filter.1 hi).1).1
    obtain ⟨g1, g2, g3, -⟩ := HK.out.1.Q.S.I.ok.pg id s HK.out.2.2.1
    have := Sp.addr_page g1 hi2
    have := HK.out.1.Q.S.I.ok.n
    unfold WfI; omega
  have hlen7 : (intsN ((sweptL s).map s.addr)).length = (sweptL s).length := by unfold intsN; simp
  have SL := O1.sl hnl (by rw [hlen7]; unfold maxLen; omega)
  obtain ⟨ys, hys⟩ : ∃ ys, ys = intsN ((sweptL s).map s.addr) := ⟨_, rfl⟩
  rw [← hys] at SL hcap O1 hlen7
  have HE := Lib.hid hys
  have b5 : w1.cell? ⟨g5, 0, none⟩ = some vg := K1.b5.cellv 0 rfl
  have z5 : g5 < w1.heap.size := K1.b5.lt
  obtain ⟨Ag, ng, cg, hvg⟩ := K1.L.o.slice'
  subst hvg
  obtain ⟨Au, nu, cu, hvu⟩ := O1.slice'
  subst hvu
  have hll2 : gone.length + ys.length ≤ 1000000000000 := by rw [List.length_append] at hcap; omega
  have HX := Lib.hid (And.intro K1 (And.intro SL hcap)); clear K1 SL hcap hnl hlen7 hys O1 f1 nf1 S1 st1 Q1 t1 hlive b2 b0
  obtain ⟨m, hm⟩ : ∃ m, m = gone.length + ys.length := ⟨_, rfl⟩
  have HM := Lib.hid hm
  clear hm
  go_wp2_with (at_builtin; refine wpList_cat_n m (by exact HM.out.symm) rfl _ _ rfl slty5 rfl HX.out.1.L.o rfl HX.out.2.1 (by rw [HM.out]; exact hll2) ?_; intro A4 c4 w4 O4 s4; have q5 : w4.cell? ⟨g5, 0, none⟩ = some (.slice Ag ng cg) := s4.c.cellv z5 HX.out.1.e5 b5; have q6 : w4.frozen? ⟨g5, 0, none⟩ = false := (s4.c.blk HX.out.1.b5 HX.out.1.e5).frozen 0)
  have K2 := HX.out.1.list O4 s4 HX.out.2.2
  have HZ := Lib.hid K2; clear K2 O4 s4 q5 q6 b5
  go_wp2_with fail
  go_end0
  rw [← HE.out]
  exact ⟨rfl, { H with ah := h1 }, _, HZ.out⟩
end Go.Proofs.YtcnchgbngcnijaaGreatDoor
