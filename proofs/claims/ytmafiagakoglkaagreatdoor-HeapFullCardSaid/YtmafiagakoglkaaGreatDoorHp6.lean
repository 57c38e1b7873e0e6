/- Package cache: Drop, fresh. -/
import Derived.Test.YtmafiagakoglkaaGreatDoorHp5
import Derived.Test.YtmafiagakoglkaaGreatDoorSps
namespace Go.Proofs.YtmafiagakoglkaaGreatDoor
open Go.RowKit Go.Maps

def ownedI (A : HpA) (x : Nat) : Prop := ∃ p k, p < A.P ∧ k < 16 ∧ A.own p k = (x : Nat)
/-- Spans without objects taken away, one by one. -/
inductive DrR : List Int → HpA → HpA → Nat → Prop
  | nil (A : HpA) : DrR [] A A 0
  | skip {l : List Int} {A B : HpA} {n x : Nat} {s : Sp} : DrR l A B n → B.a.sp x = some s → (ownedI B x ∨ x ∈ waN B.r 16 ∨ 0 < cntF s.F (slK s.k)) → DrR (l ++ [((x : Nat) : Int)]) A B n
  | drop {l : List Int} {A B : HpA} {n x : Nat} {s : Sp} {l' : List R} {r1 : Nat → List Nat} : DrR l A B n → B.a.sp x = some s → ¬ ownedI B x → x ∉ waN B.r 16 → cntF s.F (slK s.k) = 0 → FreeSays B.a.n B.a.l (s.first : Nat) (pgK s.k : Nat) 0 l' → DelTo B.r x r1 → DrR (l ++ [((x : Nat) : Int)]) A { B with a := dropA B.a x s l', r := r1 } (n + 1)
theorem HpI.drop {A : HpA} (I : HpI A none) {x : Nat} {s : Sp} {l' : List R} {r1 : Nat → List Nat} (hno : ¬ ownedI A x) (hd : DelTo A.r x r1) : HpI { A with a := dropA A.a x s l', r := r1 } none := by
  have hr : ∀ j, x ∉ r1 j := fun j hj => by
    rcases hd with ⟨rfl, h⟩ | ⟨i, hi, h1, h2, rfl⟩
    · exact h j (I.r j x hj).1 hj
    · unfold delR updV at hj
      split at hj
      · next e => exact ((List.Nodup.mem_erase_iff (I.nd i)).1 hj).1 rfl
      · next e => exact e (I.dj _ _ x hj h1)
  have hother : ∀ j y, y ≠ x → (y ∈ r1 j ↔ y ∈ A.r j) := fun j y hne => by
    rcases hd with ⟨rfl, h⟩ | ⟨i, hi, h1, h2, rfl⟩
    · exact Iff.rfl
    · unfold delR updV
      split
      · next e => rw [e]; exact List.mem_erase_of_ne hne
      · exact Iff.rfl
  have sp : ∀ y, y ≠ x → (dropA A.a x s l').sp y = A.a.sp y := fun y h => updF_other _ _ h
  refine ⟨fun j y hy => ?_, fun j => ?_, fun i j y hi hj => I.dj i j y (hd.mem hi) (hd.mem hj), fun p k hp hk => ?_, I.oi, fun p k id hp hk hid j hj => I.ro p k id hp hk hid j (hd.mem hj), I.P, fun _ h => (by cases h), fun id t ht => ?_⟩
  · obtain ⟨h1, t, ht, h2⟩ := I.r j y (hd.mem hy)
    exact ⟨h1, t, (sp y (fun e => hr j (e ▸ hy))).trans ht, h2⟩
  · rcases hd with ⟨rfl, h⟩ | ⟨i, hi, h1, h2, rfl⟩
    · exact I.nd j
    · show (delR A.r x i j).Nodup
      unfold delR updV
      split
      · exact (I.nd i).erase _
      · exact I.nd j
  · rcases I.o p k hp hk with h | ⟨id, t, h, ht, h2⟩
    · exact .inl h
    · exact .inr ⟨id, t, h, (sp id (fun e => hno ⟨p, k, hp, hk, e ▸ h⟩)).trans ht, h2⟩
  · have hne : id ≠ x := fun e => by
      have ht2 : updF A.a.sp x none id = some t := ht
      rw [e, updF_same] at ht2; cases ht2
    have ht2 : A.a.sp id = some t := (sp id hne).symm.trans ht
    rcases I.all id t ht2 with h | ⟨j, h⟩ | h
    · cases h
    · exact .inr (.inl ⟨j, (hother j id hne).2 h⟩)
    · exact .inr (.inr h)
section
variable {l : List Int} {A B : HpA} {n : Nat}
theorem DrR.inv (h : DrR l A B n) (I : HpI A none) : HpI B none := by
  induction h with
  | nil A => exact I
  | skip _ _ _ ih => exact ih I
  | drop _ _ h1 _ _ _ h2 ih => exact (ih I).drop h1 h2
theorem DrR.len (h : DrR l A B n) : n ≤ l.length := by
  induction h with
  | nil A => exact Nat.le_refl _
  | skip _ _ _ ih => rw [List.length_append]; omega
  | drop _ _ h1 _ _ _ h2 ih => rw [List.length_append]; simp; omega
theorem DrR.own (h : DrR l A B n) : B.own = A.own ∧ B.P = A.P ∧ B.a.n = A.a.n ∧ B.a.ob = A.a.ob ∧ B.a.live = A.a.live := by
  induction h with
  | nil A => exact ⟨rfl, rfl, rfl, rfl, rfl⟩
  | skip _ _ _ ih => exact ih
  | drop _ _ h1 _ _ _ h2 ih => exact ih
theorem DrR.sp (h : DrR l A B n) {y : Nat} (hy : ((y : Nat) : Int) ∉ l) : B.a.sp y = A.a.sp y := by
  induction h with
  | nil A => rfl
  | skip _ _ _ ih => exact ih (fun h => hy (List.mem_append_left _ h))
  | drop _ _ h1 _ _ _ h2 ih =>
    rw [← ih (fun h => hy (List.mem_append_left _ h))]
    exact updF_other _ _ (fun e => hy (List.mem_append_right _ (by simp; omega)))
end
theorem rise_len {ks : List Int} (h : Rise ks) {N : Nat} (hN : ∀ x ∈ ks, 0 ≤ x ∧ x < N) : ks.length ≤ N := by
  have h1 : (ks.map Int.toNat).Nodup := by
    refine List.Pairwise.map _ (R := fun a b => a ≠ b ∧ 0 ≤ a ∧ 0 ≤ b) (fun a b h e => by omega) ?_
    have h2 := rise_nodup h
    refine List.Pairwise.imp_of_mem (fun {a b} ha hb hne => ⟨hne, (hN a ha).1, (hN b hb).1⟩) h2
  have := nodup_le (N := N) h1 (fun x hx => by
    obtain ⟨y, hy, rfl⟩ := List.mem_map.1 hx
    have := hN y hy
    omega)
  rwa [List.length_map] at this
def DpPost (W w : World) (H : HpH) (A : HpA) (N b : Nat) (e : Ending) (w' : World) : Prop :=
  ∃ ks B n, Rise ks ∧ (∀ x, x ∈ ks ↔ (spI A.a x).isSome = true) ∧ DrR ks A B n ∧ e = .returned (.int .i64 (n : Nat)) ∧ HpI B none ∧ HpTo W w w' H A B N b
def DpRel (W w0 : World) (H : HpH) (A : HpA) (N b gk : Nat) (ks : List Int) (v : Value) (idx nv : Value) (w : World) : Prop :=
  ∃ i n B H', gk + i = ks.length + 1 ∧ i ≤ ks.length ∧ idx = .int .i64 (i : Nat) ∧ nv = .int .i64 (n : Nat) ∧ DrR (ks.take i) A B n ∧ HpE H' H ∧ HpS W w H' B N b ∧ StP (HpF H A) (HpF H' B) w0 w ∧ LsP W (HpF H' B) w v ks
set_option maxHeartbeats 6400000 in
set_option maxRecDepth 100000 in
theorem hdrop_ok (W w : World) (H : HpH) (A : HpA) (N b : Nat) (Q : HpS W w H A N b) (I : HpI A none) (hN : N ≤ 6000) (hb : b ≤ 1000000) : Calls Tryz.prog 23 #[.pointer (some ⟨H.gh, 0, none⟩)] w (DpPost W w H A N b) := by
  have b0 : w.cell? ⟨H.gh, 0, none⟩ = some (.pointer (some ⟨H.ah.ga, 0, none⟩)) := Q.hb.cellv 0 rfl
  have HQ := Lib.hid (And.intro Q I); clear Q I
  go_enter Tryz.func23, Tryz.ntmps23
  go_wp2_with fail
  refine (s_spans HQ.out.1.S hb).mono ?_
  rintro e w1 ⟨v, ks, rfl, O, c1, f1, hrise, hks0⟩
  have hks : ∀ x, x ∈ ks ↔ (spI A.a x).isSome = true := hks0
  clear hks0
  have hkl : ks.length ≤ 6000 := Nat.le_trans (rise_len hrise (N := N) (fun x hx => by
    have h1 := (hks x).1 hx
    unfold spI at h1
    split at h1
    · next h0 =>
      obtain ⟨s, hs⟩ := Option.isSome_iff_exists.1 h1
      have := HQ.out.1.S.I.ok.top _ s hs
      exact ⟨h0, by omega⟩
    · cases h1)) hN
  obtain ⟨Av, cv, rfl⟩ := O.slice
  have L : LsP W (HpF H A) w1 (.slice Av ks.length cv) ks := ⟨O, fun k hk hF => by
    have h1 := f1 k hk
    have h2 := HQ.out.1.lt hF
    omega, fun k hk => Nat.le_trans HQ.out.1.S.c.size (f1 k hk)⟩
  have HL := Lib.hid (And.intro L (And.intro c1 (And.intro hrise hks))); clear L c1 O f1 hrise hks b0
  go_wp2_with fail
  go_loopg [14, 3] (ks.length + 1) (fun gk idx nv wr => DpRel W w H A N b gk ks (.slice Av ks.length cv) idx nv wr)
  case atStart => exact ⟨0, 0, A, H, by omega, by omega, rfl, rfl, .nil A, HpE.refl _, HQ.out.1.chg0 HL.out.2.1, (StP.refl _ _).then0 HL.out.2.1, HL.out.1⟩
  case round =>
    obtain ⟨i, n, B, H1, hgk, hi, rfl, rfl, hD, hgh, Q1, t1, L1⟩ := hrel
    have hn := hD.len
    rw [List.length_take] at hn
    by_cases ei : i < ks.length
    · obtain ⟨y, hy⟩ : ∃ y, ks[i]? = some y := ⟨_, List.getElem?_eq_getElem ei⟩
      have hym : y ∈ ks := List.mem_of_getElem? hy
      obtain ⟨id, s0, rfl, hs0⟩ : ∃ (id : Nat) (s : Sp), y = id ∧ A.a.sp id = some s := by
        have h1 := (HL.out.2.2.2 y).1 hym
        unfold spI at h1
        split at h1
        · next h0 =>
          obtain ⟨s, hs⟩ := Option.isSome_iff_exists.1 h1
          exact ⟨y.toNat, s, by omega, hs⟩
        · cases h1
      have hnt : ((id : Nat) : Int) ∉ ks.take i := fun hm => by
        have h1 := rise_nodup HL.out.2.2.1
        rw [← List.take_append_drop i ks] at h1
        rw [List.nodup_append] at h1
        have h2 : ((id : Nat) : Int) ∈ ks.drop i := by
          rw [List.mem_iff_getElem?]
          exact ⟨0, by rw [List.getElem?_drop]; exact hy⟩
        exact h1.2.2 _ hm _ h2 rfl
      have hs : B.a.sp id = some s0 := (hD.sp hnt).trans hs0
      obtain ⟨s, rfl⟩ : ∃ s, s = s0 := ⟨_, rfl⟩
      obtain ⟨g, hgA, cx, -⟩ := L1.o.cell hy
      subst hgA
      have hi' : (i : Int) < (ks.length : Int) := by omega
      have hi0 : (0 : Int) ≤ (i : Int) := by omega
      have J1 := hD.inv HQ.out.2
      have B1 := J1.B Q1.S.I.ok hN
      have b0 : wr.cell? ⟨H.gh, 0, none⟩ = some (.pointer (some ⟨H1.ah.ga, 0, none⟩)) := by rw [← hgh.gh]; exact Q1.hb.cellv 0 rfl
      have hid2 : id ≤ 1000000 := by have := Q1.S.I.ok.top id s hs; omega
      have htk : ks.take (i + 1) = ks.take i ++ [((id : Nat) : Int)] := take_succ_get hy
      have HX := Lib.hid (And.intro hD (And.intro hgh (And.intro Q1 (And.intro t1 (And.intro L1 (And.intro J1 (And.intro B1 (And.intro hs htk)))))))); clear hD hgh Q1 t1 L1 J1 B1 hs htk hs0 hym hy hnt
      go_wp2_with fail
      have k1 := owned_ok HX.out.2.2.1 HX.out.2.2.2.2.2.1.P (id : Nat)
      rw [HX.out.2.1.gh] at k1
      refine k1.mono ?_
      rintro e w2 ⟨bo, rfl, hw2, hbo⟩
      subst hw2
      clear k1
      cases bo with
      | true =>
        have HO := Lib.hid (hbo.1 rfl); clear hbo
        go_wp2_with fail
        go_roundg (ks.length - i)
        case measure => omega
        case rel => exact ⟨i + 1, n, B, H1, by omega, by omega, by go_num, rfl, by rw [HX.out.2.2.2.2.2.2.2.2]; exact .skip HX.out.1 HX.out.2.2.2.2.2.2.2.1 (.inl HO.out), HX.out.2.1, HX.out.2.2.1, HX.out.2.2.2.1, HX.out.2.2.2.2.1⟩
      | false =>
        have HO := Lib.hid (fun h => absurd (hbo.2 h) (by decide) : ¬ ownedI B id); clear hbo
        go_wp2_with fail
        have k1 := unswept_ok HX.out.2.2.1 HX.out.2.2.2.2.2.2.1 id
        rw [HX.out.2.1.gh] at k1
        refine k1.mono ?_
        rintro e w3 ⟨rfl, c3⟩
        clear k1
        by_cases hw : id ∈ waN B.r 16
        · rw [decide_eq_true hw]
          have HW := Lib.hid (And.intro hw c3); clear hw c3
          go_wp2_with fail
          go_roundg (ks.length - i)
          case measure => omega
          case rel => exact ⟨i + 1, n, B, H1, by omega, by omega, by go_num, rfl, by rw [HX.out.2.2.2.2.2.2.2.2]; exact .skip HX.out.1 HX.out.2.2.2.2.2.2.2.1 (.inr (.inl HW.out.1)), HX.out.2.1, HX.out.2.2.1.chg0 HW.out.2, HX.out.2.2.2.1.then0 HW.out.2, HX.out.2.2.2.2.1.chg0 HW.out.2⟩
        · rw [decide_eq_false hw]
          have b0 : w3.cell? ⟨H.gh, 0, none⟩ = some (.pointer (some ⟨H1.ah.ga, 0, none⟩)) := by rw [← HX.out.2.1.gh]; exact (HX.out.2.2.1.chg0 c3).hb.cellv 0 rfl
          have HW := Lib.hid (And.intro hw c3); clear hw c3
          go_wp2_with fail
          by_cases hc : cntF s.F (slK s.k) = 0
          · refine (s_drop_yes (HX.out.2.2.1.chg0 HW.out.2).S HX.out.2.2.2.2.2.2.2.1 (by omega) hc).mono ?_
            rintro e w4 ⟨h4, l4, rfl, hfs, S4, st4⟩
            have Q4 := (HX.out.2.2.1.chg0 HW.out.2).arena S4 st4
            have t4 := (HX.out.2.2.2.1.then0 HW.out.2).trans (st_arena st4)
            have L4 := (HX.out.2.2.2.2.1.chg0 HW.out.2).st (st_arena st4)
            have b1 : w4.cell? ⟨H.gh, 1, none⟩ = some (.pointer (some ⟨H1.gc, 0, none⟩)) := by rw [← HX.out.2.1.gh]; exact Q4.hb.cellv 1 rfl
            have HG := Lib.hid S4.ga
            have HY := Lib.hid (And.intro Q4 (And.intro t4 (And.intro L4 (And.intro hfs hc)))); clear Q4 t4 L4 S4 st4 hfs b0 hc
            go_wp2_with fail
            refine (cdel_ok w4 H1.gc H1.gl H1.v B.r HY.out.1.C id hid2 (fun j => Nat.le_trans (HX.out.2.2.2.2.2.2.1.l j) (by decide)) HX.out.2.2.2.2.2.2.1.x).mono ?_
            rintro e w5 hdl
            obtain ⟨bo, r1, v1, rfl, hdt, I5, s5⟩ : ∃ (bo : Bool) (r1 : Nat → List Nat) (v1 : Nat → Value), e = .returned (.bool bo) ∧ DelTo B.r id r1 ∧ IsCe w5 H1.gc H1.gl v1 r1 ∧ StP (CeF H1.gc H1.gl H1.v) (CeF H1.gc H1.gl v1) w4 w5 := by
              rcases hdl with ⟨h1, he, c5⟩ | ⟨j, hj, h1, h2, he, v1, I5, s5⟩
              · exact ⟨false, B.r, H1.v, he, .inl ⟨rfl, h1⟩, HY.out.1.C.chg0 c5, (StP.refl _ _).then0 c5⟩
              · exact ⟨true, _, v1, he, .inr ⟨j, hj, h1, h2, rfl⟩, I5, s5⟩
            clear hdl
            have Q5 := HY.out.1.central I5 s5
            have t5 := HY.out.2.1.trans (st_central (H := { H1 with ah := h4 }) (A := { B with a := dropA B.a id s l4 }) (r' := r1) s5)
            have L5 := HY.out.2.2.1.st (st_central (H := { H1 with ah := h4 }) (A := { B with a := dropA B.a id s l4 }) (r' := r1) s5)
            have HZ := Lib.hid (And.intro Q5 (And.intro t5 (And.intro L5 hdt))); clear Q5 t5 L5 I5 s5 hdt b1
            go_wp2_with fail
            go_roundg (ks.length - i)
            case measure => omega
            case rel => exact ⟨i + 1, n + 1, { B with a := dropA B.a id s l4, r := r1 }, { H1 with ah := h4, v := v1 }, by omega, by omega, by go_num, by go_num, by rw [HX.out.2.2.2.2.2.2.2.2]; exact .drop HX.out.1 HX.out.2.2.2.2.2.2.2.1 HO.out HW.out.1 HY.out.2.2.2.2 HY.out.2.2.2.1 HZ.out.2.2.2, ⟨HX.out.2.1.gh, HX.out.2.1.gp, HG.out.trans HX.out.2.1.ga⟩, HZ.out.1, HZ.out.2.1, HZ.out.2.2.1⟩
          · refine (s_drop_no (HX.out.2.2.1.chg0 HW.out.2).S HX.out.2.2.2.2.2.2.2.1 (by omega) (by omega)).mono ?_
            rintro e w4 ⟨rfl, c4⟩
            have HC := Lib.hid (And.intro hc c4); clear hc c4
            go_wp2_with fail
            go_roundg (ks.length - i)
            case measure => omega
            case rel => exact ⟨i + 1, n, B, H1, by omega, by omega, by go_num, rfl, by rw [HX.out.2.2.2.2.2.2.2.2]; exact .skip HX.out.1 HX.out.2.2.2.2.2.2.2.1 (.inr (.inr (Nat.pos_of_ne_zero HC.out.1))), HX.out.2.1, (HX.out.2.2.1.chg0 HW.out.2).chg0 HC.out.2, (HX.out.2.2.2.1.then0 HW.out.2).then0 HC.out.2, (HX.out.2.2.2.2.1.chg0 HW.out.2).chg0 HC.out.2⟩
    · obtain rfl : i = ks.length := by omega
      have hi' : ¬ (ks.length : Int) < (ks.length : Int) := by omega
      rw [List.take_length] at hD
      have HX := Lib.hid (And.intro hD (And.intro hgh (And.intro Q1 t1))); clear hD hgh Q1 t1 L1 ei
      go_wp2_with fail
      go_ret
      exact ⟨ks, B, n, HL.out.2.2.1, HL.out.2.2.2, HX.out.1, rfl, HX.out.1.inv HQ.out.2, H1, HX.out.2.1, HX.out.2.2.1, HX.out.2.2.2⟩
def FrPost (W w : World) (H : HpH) (A : HpA) (N b k : Nat) (e : Ending) (w' : World) : Prop :=
  ∃ x c l', AllocSays A.a.l (pgK k : Nat) x c l' ∧
    ((c ≠ 0 ∧ e = .returned (.tuple #[.int .i64 0, .bool false]) ∧ HpTo W w w' H A A N b) ∨
     (c = 0 ∧ ∃ (f id : Nat), x = f ∧ A.a.sp id = none ∧ (∀ j, j < id → A.a.sp j ≠ none) ∧ id ≤ N ∧ e = .returned (.tuple #[.int .i64 (id : Nat), .bool true]) ∧ HpTo W w w' H A { A with a := spanA A.a l' id k f } (N + 1) (b + 6)))
set_option maxHeartbeats 1600000 in
set_option maxRecDepth 100000 in
theorem hfresh_ok (W w : World) (H : HpH) (A : HpA) (N b : Nat) (Q : HpS W w H A N b) (hN : N ≤ 6000) (hb : b ≤ 1000000) (k : Nat) (hk : k < 16) : Calls Tryz.prog 97 #[.pointer (some ⟨H.gh, 0, none⟩), .int .i64 (k : Nat)] w (FrPost W w H A N b k) := by
  have b0 : w.cell? ⟨H.gh, 0, none⟩ = some (.pointer (some ⟨H.ah.ga, 0, none⟩)) := Q.hb.cellv 0 rfl
  have HQ := Lib.hid Q; clear Q
  go_enter Tryz.func97, Tryz.ntmps97
  go_wp2_with fail
  refine (s_span HQ.out.S hb (by omega) k hk).mono ?_
  rintro e w1 ⟨x, c, l', hs, ⟨hc, rfl, h', S', st⟩ | ⟨rfl, f, id, h', hx, hn, hall, hid, rfl, S', st⟩⟩
  · have Q1 := HQ.out.arena S' st
    have t1 := st_arena (H := H) (A := A) st
    have hc2 : (c == 0) = false := by rw [beq_eq_false_iff_ne]; exact hc
    have HG := Lib.hid S'.ga
    have HX := Lib.hid (And.intro hs (And.intro hc (And.intro Q1 t1))); clear hs hc Q1 t1 S' st b0
    go_wp2_with fail
    go_ret2
    exact ⟨x, c, l', HX.out.1, .inl ⟨HX.out.2.1, rfl, { H with ah := h' }, ⟨rfl, rfl, HG.out⟩, HX.out.2.2.1, HX.out.2.2.2⟩⟩
  · have Q1 := HQ.out.arena S' st
    have t1 := st_arena (H := H) (A := A) st
    have HG := Lib.hid S'.ga
    have HX := Lib.hid (And.intro hs (And.intro hx (And.intro hn (And.intro hall (And.intro hid (And.intro Q1 t1)))))); clear hs hx hn hall hid Q1 t1 S' st b0
    go_wp2_with fail
    go_ret2
    exact ⟨x, 0, l', HX.out.1, .inr ⟨rfl, f, id, HX.out.2.1, HX.out.2.2.1, HX.out.2.2.2.1, HX.out.2.2.2.2.1, rfl, { H with ah := h' }, ⟨rfl, rfl, HG.out⟩, HX.out.2.2.2.2.2.1, HX.out.2.2.2.2.2.2⟩⟩
end Go.Proofs.YtmafiagakoglkaaGreatDoor
