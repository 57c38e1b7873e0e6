/- The walk of HeapPlays. -/
import Derived.Test.YtcnchgbngcnijaaGreatDoorMHz
import Derived.Test.YtcnchgbngcnijaaGreatDoorMHa
import Derived.Test.YtcnchgbngcnijaaGreatDoorMOb
import Derived.Deep.CutBlock
namespace Go.Proofs.YtcnchgbngcnijaaGreatDoor
open Go.RowKit Go.Maps

def Hy5Rel (W : World) (gh ga rg rc P n mm gk : Nat) (idx : Value) (w : World) : Prop := ∃ i, gk + i = mm + 1 ∧ i ≤ mm ∧ idx = .int .i64 (i : Nat) ∧ HyS W gh ga rg rc P n i w
theorem HyS.upto {W w : World} {gh ga rg rc P n i j : Nat} (S : HyS W gh ga rg rc P n i w) (hj : i ≤ j) : HyS W gh ga rg rc P n j w := by
  obtain ⟨H, h, A, N, b, M, m, h1, h2, h3, h4, h5, h6, T⟩ := S
  exact ⟨H, h, A, N, b, M, m, by omega, by omega, by omega, by omega, h5, h6, T⟩
set_option maxHeartbeats 6400000 in
set_option maxRecDepth 100000 in
theorem hplays_any (z ps : Int) (A0 : Option Addr) (c0 : Nat) (xs : List Op9) (W : World) (T0 : Tab W) (hA : Ops9At W W.heap.size A0 xs) (hl : xs.length ≤ maxLen) : Calls Tryz.prog 9 #[.int .i64 z, .int .i64 ps, .slice A0 xs.length c0] W (NwPost (.bool true) W) := by
  unfold maxLen at hl
  have HA := Lib.hid (And.intro hA T0); clear hA T0
  go_enter Tryz.func9, Tryz.ntmps9
  go_upto_region 1 with fail
  go_cut [17] from 12 to 17 (fun v wc => ∃ b, v = .bool b ∧ (b = false → ¬ (2048 < z ∧ z ≤ 16777216)) ∧ wc = W)
  case first =>
    by_cases h1 : 2048 < z
    · have d1 : decide (2048 < z) = true := decide_eq_true h1
      by_cases h2 : z ≤ 16777216
      · have d2 : decide (z ≤ 16777216) = true := decide_eq_true h2
        go_wp2_with fail
        go_meet
        exact ⟨_, rfl, fun h => absurd h (by simp), rfl⟩
      · have d2 : decide (z ≤ 16777216) = false := decide_eq_false h2
        have HX := Lib.hid h2; clear h2
        go_wp2_with fail
        go_meet
        exact ⟨_, rfl, fun _ h => (by have := HX.out; omega), rfl⟩
    · have d1 : decide (2048 < z) = false := decide_eq_false h1
      have HX := Lib.hid h1; clear h1
      go_wp2_with fail
      go_meet
      exact ⟨_, rfl, fun _ h => (by have := HX.out; omega), rfl⟩
  case rest =>
    obtain ⟨b, rfl, hb, rfl⟩ := hcut
    have HB := Lib.hid hb; clear hb
    obtain ⟨W, rfl⟩ : ∃ wz : World, wz = wc := ⟨_, rfl⟩
    go_upto_if 17 with fail
    go_cut [0] from 12 to 17 (fun v wc => ∃ K : Int, v = .int .i64 K ∧ ¬ (2048 < K ∧ K ≤ 16777216) ∧ wc = W)
    case first =>
      cases b
      · have HK := Lib.hid (HB.out rfl)
        clear HB
        go_wp2_with fail
        go_meet
        exact ⟨z, rfl, HK.out, rfl⟩
      · go_wp2_with fail
        go_meet
        exact ⟨2048, rfl, by omega, rfl⟩
    case rest =>
      obtain ⟨K, rfl, hK, rfl⟩ := hcut
      obtain ⟨W, rfl⟩ : ∃ wz : World, wz = wc := ⟨_, rfl⟩
      clear HB
      by_cases hok : ¬ okW K ∨ ps < 1 ∨ 64 < ps
      · have KA := hnew_bad W K ps hok
        have KR := fun (w : World) => rhnew_bad w K ps hok (fun h => by have := h.2.1; omega)
        have HK := Lib.hid (And.intro KA KR); clear KA KR hok hK
        go_wp2_with fail
        refine HK.out.1.mono ?_
        rintro e w1 ⟨rfl, c1⟩
        have H1 := Lib.hid c1; clear c1
        go_wp2_with fail
        refine (HK.out.2 w1).mono ?_
        rintro e w2 ⟨rfl, c2⟩
        have H2 := Lib.hid (H1.out.trans c2); clear c2 H1
        go_wp2_with fail
        refine (told9_ok w2 (HA.out.2.chg H2.out (by simp))).mono ?_
        rintro e w3 ⟨rfl, c3⟩
        have H3 := Lib.hid (H2.out.trans c3); clear c3 H2
        go_wp2_with fail
        go_ret
        exact ⟨rfl, H3.out⟩
      · have hk1 : okW K := Classical.byContradiction fun h => hok (.inl h)
        have hp1 : ¬ (ps < 1 ∨ 64 < ps) := fun h => hok (.inr h)
        clear hok
        obtain ⟨n, rfl, hn4, hn32⟩ := hk1.pages (by have := hk1.2.1; omega)
        obtain ⟨P, rfl⟩ : ∃ P : Nat, ps = P := ⟨ps.toNat, by omega⟩
        have hP1 : 1 ≤ P := by omega
        have hP2 : P ≤ 64 := by omega
        have KS := hnew_ok W n P ((n * 64 : Nat) : Int) rfl hn4 (by omega) hP1 hP2
        have KR := fun (w : World) => rhnew_ok w n P hn4 (by omega) hP1 hP2
        obtain ⟨zz, hzz⟩ : ∃ zz : Int, zz = ((n * 64 : Nat) : Int) := ⟨_, rfl⟩
        rw [← hzz] at KS KR ⊢
        have HK := Lib.hid (And.intro KS KR); clear KS KR hzz hk1 hp1 hK
        go_wp2_with fail
        refine HK.out.1.mono ?_
        rintro e w1 ⟨H, rfl, Q⟩
        have H1 := Lib.hid Q; clear Q
        go_wp2_with fail
        refine (HK.out.2 w1).mono ?_
        rintro e w2 ⟨h, rfl, R, c2, F⟩
        have S := HyS.start H1.out c2 R F hP2
        have KA := harena_ok (H1.out.chg0 c2)
        clear HK H1 R c2 F
        generalize H.gh = gh at *
        generalize H.ah.ga = ga at *
        generalize h.g = rg at *
        generalize h.gc = rc at *
        have HS := Lib.hid S; clear S
        go_wp2_with fail
        refine KA.mono ?_
        rintro e w3 ⟨rfl, hw⟩
        have hw' := hw.symm; clear hw; subst hw'
        clear KA
        obtain ⟨mm, hmm⟩ : ∃ mm, mm = min xs.length 80 := ⟨_, rfl⟩
        have hm1 : mm ≤ 80 := by omega
        have hm2 : mm ≤ xs.length := by omega
        have hm3 : mm = xs.length ∨ mm = 80 := by omega
        have HM := Lib.hid hm3; clear hmm hm3
        go_upto_block 0 with fail
        go_cut [10] from 49 to 76 (fun _ wd => HyS W gh ga rg rc P n 80 wd)
        case first =>
          go_wp2_with fail
          go_loopg [10] (mm + 1) (fun gk idx wr => Hy5Rel W gh ga rg rc P n mm gk idx wr)
          case atStart => exact ⟨0, by omega, by omega, rfl, HS.out⟩
          case round =>
            clear HS
            obtain ⟨i, hgk, hin, rfl, S3⟩ := hrel
            by_cases e : i < mm
            · obtain ⟨cR, hrl, cW⟩ := S3.cells
              obtain ⟨o, ho⟩ : ∃ o, xs[i]? = some o := ⟨_, List.getElem?_eq_getElem (by omega)⟩
              obtain ⟨owf, bo, off, rfl, hbb, i0, i1, i2, i3⟩ := HA.out.1 i o ho
              have hi1 : (i : Int) < (xs.length : Int) := by omega
              have hi2 : (i : Int) < 80 := by omega
              have hi3 : i < xs.length := by omega
              have hi4 : i < 80 := by omega
              have hi0 : (0 : Int) ≤ (i : Int) := by omega
              have HP := Lib.hid (And.intro S3 owf); clear S3 owf ho
              go_upto_region 12 with fail
              refine wp_region_takes (fuel := 12) 15 (fun w' => Chg [] W w' ∧ w'.cell? ⟨rg, 1, none⟩ = some (.pointer (some ⟨rc, 0, none⟩))) [0, 1, 2, 3, 4, 5] (by kernel_rfl) (by kernel_rfl) (fun _ _ _ _ _ h => h) (⟨cW.drew, cR⟩) ?_
              simp only [List.filterMap_cons, List.filterMap_nil, List.getElem?_cons_zero, List.getElem?_cons_succ]
              iterate 6
                refine wpTake_step (fun K hK => ?_)
                rw [if_pos (by rfl)]
                refine ⟨?_, fun w' hS' => ?_, ?_⟩
                rotate_left 1
                focus
                  have z0 := hS'.1.cellv hbb (by simp) i0
                  have z1 := hS'.1.cellv hbb (by simp) i1
                  have z2 := hS'.1.cellv hbb (by simp) i2
                  have z3 := hS'.1.cellv hbb (by simp) i3
                  have z4 := hS'.2
                  go_simp
                  try with_reducible rfl
                  done
                simp only [Act.put, List.setIfInBounds_toArray, List.set_cons_zero, List.set_cons_succ]
                refine hK _ ?_
                clear hK K
              refine wpTake_nil ?_
              generalize hx0 : wr.drew = x0
              have D0 : Chg [] wr x0 := by rw [← hx0]; exact (Chg.refl [] wr).drew
              clear hx0
              refine wpAnyS_ready (rs := [6]) (by kernel_rfl) (by simp) ?_
              refine AllReadyS.one (by simp only [List.getElem?_toArray, List.getElem?_cons_zero, List.getElem?_cons_succ]; rfl) (fun K hK => ?_)
              rw [if_pos (by rfl)]
              go_simp
              go_at_call 40
              refine (both9_ok (HP.out.1.chg0 D0) (by omega) HA.out.2 o HP.out.2).mono ?_
              rintro e w' ⟨rfl, S4⟩
              dsimp only
              obtain ⟨q1, q2, q3⟩ := S4.cells
              obtain ⟨u, KU1, KU2⟩ := S4.uns (by omega)
              refine hK _ _ (⟨q3, q1⟩) ?_
              clear hK K
              try simp only [Act.put, List.setIfInBounds_toArray, List.set_cons_zero, List.set_cons_succ]
              refine wpAnyS_more (fuel := 4) [7, 8, 9, 11, 12, 13, 14] (by kernel_rfl) (fun _ _ _ _ _ h => h) ⟨q3, q1⟩ ?_
              simp only [List.filterMap_cons, List.filterMap_nil, List.getElem?_cons_zero, List.getElem?_cons_succ]
              iterate 7
                refine wpTake_step (fun K hK => ?_)
                rw [if_pos (by rfl)]
                refine ⟨?_, fun w' hS' => ?_, ?_⟩
                rotate_left 1
                focus
                  have z0 := hS'.1.cellv hbb (by simp) i0
                  have z1 := hS'.1.cellv hbb (by simp) i1
                  have z2 := hS'.1.cellv hbb (by simp) i2
                  have z3 := hS'.1.cellv hbb (by simp) i3
                  have z4 := hS'.2
                  go_simp
                  try with_reducible rfl
                  done
                simp only [Act.put, List.setIfInBounds_toArray, List.set_cons_zero, List.set_cons_succ]
                refine hK _ ?_
                clear hK K
              refine wpTake_nil ?_
              refine wpAnyS_ready (rs := [10]) (by kernel_rfl) (by simp) ?_
              refine AllReadyS.one (by simp only [List.getElem?_toArray, List.getElem?_cons_zero, List.getElem?_cons_succ]; rfl) (fun K hK => ?_)
              rw [if_pos (by rfl)]
              go_simp
              go_at_call 41
              refine (KU1 w' (Chg.refl _ _)).mono ?_
              rintro e w5 ⟨rfl, c5⟩
              dsimp only
              refine hK _ _ (⟨q3.trans c5, c5.cellv q2 (by simp) q1⟩) ?_
              clear hK K
              try simp only [Act.put, List.setIfInBounds_toArray, List.set_cons_zero, List.set_cons_succ]
              refine wpAnyS_tail 15 3 (by kernel_rfl) rfl ?_
              simp only [List.drop_succ_cons, List.drop_zero]
              have KV := KU2 w5 c5
              have huu : (((u : Nat) : Int) != ((u : Nat) : Int)) = false := by simp
              have HS := Lib.hid (And.intro S4 c5)
              clear S4 KU1 KU2
              go_wp2_with fail
              refine KV.mono ?_
              rintro e w6 ⟨rfl, c6⟩
              have HC := Lib.hid c6
              clear KV c6 c5 q1 q3
              go_wp2_with fail
              go_roundg (mm - i)
              case measure => omega
              case rel => exact ⟨i + 1, by omega, by omega, by go_num, (HS.out.1.chg0 HS.out.2).chg0 HC.out⟩
            · have HP := Lib.hid S3; clear S3
              by_cases h60 : i < xs.length
              · have d1 : decide ((i : Int) < (xs.length : Int)) = true := decide_eq_true (by omega)
                have d2 : decide ((i : Int) < 80) = false := decide_eq_false (by have := HM.out; omega)
                have d1' : decide (i < xs.length) = true := decide_eq_true h60
                have d2' : decide (i < 80) = false := decide_eq_false (by have := HM.out; omega)
                go_wp2_with fail
                go_meet
                exact HP.out.upto (by omega)
              · have d1 : decide ((i : Int) < (xs.length : Int)) = false := decide_eq_false (by omega)
                have d1' : decide (i < xs.length) = false := decide_eq_false h60
                go_wp2_with fail
                go_meet
                exact HP.out.upto (by omega)
        case rest =>
          obtain ⟨H, h, A, N, b, M, m, hN, hb, hM, hm, hP, hn, T⟩ := hcut
          obtain ⟨w5, rfl⟩ : ∃ V : World, V = wc := ⟨_, rfl⟩
          obtain ⟨ids, RM⟩ := T.R.M
          obtain ⟨Ai, ci, hvi⟩ := RM.i.slice
          obtain ⟨nid, hnid⟩ : ∃ nid, nid = (intsN ids).length := ⟨_, rfl⟩
          rw [← hnid] at hvi
          have b0 : w5.cell? ⟨h.g, 0, none⟩ = some (.pointer (some ⟨h.ra.g, 0, none⟩)) := T.R.b.cellv 0 rfl
          have hrl : h.g < w5.heap.size := T.R.b.lt
          rw [T.rg] at b0 hrl
          have b1 : w5.cell? ⟨h.ra.g, 0, none⟩ = some (.pointer (some ⟨h.ra.gp, 0, none⟩)) := RM.b.cellv 0 rfl
          have b2 : w5.cell? ⟨h.ra.g, 1, none⟩ = some h.ra.vi := RM.b.cellv 1 rfl
          rw [hvi] at b2
          have hra : h.ra.g < w5.heap.size := RM.b.lt
          have Oi := RM.i
          rw [hvi] at Oi
          have hlen := RM.len_le T.Q.S.I.ok
          have hok := T.Q.S.I.ok.ok
          have hnn := T.Q.S.I.ok.n
          obtain ⟨F, hF1, hF2⟩ := RM.P
          have TS := T.Q.S
          rw [T.ga] at TS
          have KA := harena_ok T.Q
          rw [T.gh, T.ga] at KA
          have HT := Lib.hid (And.intro T (And.intro TS (And.intro RM (And.intro Oi (And.intro hok (And.intro hF1 hF2)))))); clear T TS RM Oi hvi hnid hok hF1 hF2 HM
          clear HS
          go_wp2_with fail
          refine KA.mono ?_
          rintro e w6 ⟨rfl, hw⟩
          have hw' := hw.symm; clear hw; subst hw'
          clear KA
          go_upto_region 15 with fail
          have raL : ∀ x, Chg [] w5 x → Calls Tryz.prog 19 #[.pointer (some ⟨h.ra.g, 0, none⟩)] x (NwPost (.int .i64 (A.a.live : Nat)) x) := fun x D => by
            have h1 := ralive_ok x h.ra A.a ids (HT.out.2.2.1.chg0 D) (by omega)
            rw [HT.out.2.2.1.live HT.out.1.Q.S.I] at h1
            exact h1
          have raF : ∀ x, Chg [] w5 x → Calls Tryz.prog 21 #[.pointer (some ⟨h.ra.gp, 0, none⟩)] x (NwPost (.int .i64 (sumR A.a.l : Nat)) x) := fun x D => by
            have P := HT.out.2.2.2.2.2.1.chg0 D
            have h1 := rleft_ok x h.ra.gp A.a.n F ⟨_, _, P.b1, P.b2⟩ hnn
            have es : ((List.range A.a.n).filter F).length = sumR A.a.l := by rw [← runs_sum, runs_eq HT.out.2.2.2.2.1 HT.out.2.2.2.2.2.2]
            refine h1.mono ?_
            rintro e x' ⟨rfl, c⟩
            rw [es]
            exact ⟨rfl, c⟩
          have raL := Lib.hid raL
          have raF := Lib.hid raF
          refine wp_region_takes (fuel := 47) 45 (fun w' => Chg [] w5 w') [] (by kernel_rfl) (by kernel_rfl) (fun _ _ _ _ _ h => h) ((Chg.refl [] w5).drew) ?_
          simp only [List.filterMap_cons, List.filterMap_nil, List.getElem?_cons_zero, List.getElem?_cons_succ]
          refine wpTake_nil ?_
          generalize hx0 : w5.drew = x0
          have D0 : Chg [] w5 x0 := by rw [← hx0]; exact (Chg.refl [] w5).drew
          clear hx0
          refine wpAnyS_ready (rs := [0]) (by kernel_rfl) (by simp) ?_
          refine AllReadyS.one (by simp only [List.getElem?_toArray, List.getElem?_cons_zero, List.getElem?_cons_succ]; rfl) (fun K hK => ?_)
          rw [if_pos (by rfl)]
          go_simp
          go_at_call 22
          refine (told9_ok _ (HA.out.2.chg ((HT.out.1.chg0 D0).Q.S.c) (by simp))).mono ?_
          rintro e x1 ⟨rfl, c1⟩
          dsimp only
          have D1 := D0.trans c1
          refine hK _ _ (D1) ?_
          clear hK K
          try simp only [Act.put, List.setIfInBounds_toArray, List.set_cons_zero, List.set_cons_succ]
          refine wpAnyS_more (fuel := 40) [1, 2, 4, 5, 6, 7] (by kernel_rfl) (fun _ _ _ _ _ h => h) D1 ?_
          simp only [List.filterMap_cons, List.filterMap_nil, List.getElem?_cons_zero, List.getElem?_cons_succ]
          iterate 6
            refine wpTake_step (fun K hK => ?_)
            rw [if_pos (by rfl)]
            refine ⟨?_, fun w' hS' => ?_, ?_⟩
            rotate_left 1
            focus
              have yb0 := hS'.cellv hrl (by simp) b0
              have yb1 := hS'.cellv hra (by simp) b1
              have yb2 := hS'.cellv hra (by simp) b2
              go_simp
              try with_reducible rfl
              done
            simp only [Act.put, List.setIfInBounds_toArray, List.set_cons_zero, List.set_cons_succ]
            refine hK _ ?_
            clear hK K
          refine wpTake_nil ?_
          refine wpAnyS_ready (rs := [3]) (by kernel_rfl) (by simp) ?_
          refine AllReadyS.one (by simp only [List.getElem?_toArray, List.getElem?_cons_zero, List.getElem?_cons_succ]; rfl) (fun K hK => ?_)
          rw [if_pos (by rfl)]
          go_simp
          go_at_call 16
          refine (s_objects (HT.out.2.1.chg0 D1) (by omega)).mono ?_
          rintro e x2 ⟨v2, ks2, rfl, O2, c2, -, r2, m2⟩
          dsimp only
          have D2 := D1.trans c2
          obtain ⟨A2, n2, rfl⟩ := O2.slice
          obtain ⟨l2, hl2⟩ : ∃ l2, l2 = ks2.length := ⟨_, rfl⟩
          rw [← hl2] at O2 ⊢
          have P2 := Lib.hid (And.intro O2 (And.intro r2 m2))
          clear O2 hl2 r2 m2
          refine hK _ _ (D2) ?_
          clear hK K
          try simp only [Act.put, List.setIfInBounds_toArray, List.set_cons_zero, List.set_cons_succ]
          refine wpAnyS_ready (rs := [8]) (by kernel_rfl) (by simp) ?_
          refine AllReadyS.one (by simp only [List.getElem?_toArray, List.getElem?_cons_zero, List.getElem?_cons_succ]; rfl) (fun K hK => ?_)
          rw [if_pos (by rfl)]
          go_simp
          go_at_call 17
          refine (raobjects_ok _ h.ra A.a ids (HT.out.2.2.1.chg0 D2) (by omega)).mono ?_
          rintro e x3 ⟨v3, ks3, rfl, O3, X3, -, c3⟩
          dsimp only
          have D3 := D2.trans c3
          obtain ⟨A3, n3, rfl⟩ := O3.slice
          obtain ⟨l3, hl3⟩ : ∃ l3, l3 = ks3.length := ⟨_, rfl⟩
          rw [← hl3] at O3 ⊢
          have e3 : ks2 = ks3 := rise_ext P2.out.2.1 X3.r (fun y => by rw [P2.out.2.2, X3.m]; exact (HT.out.2.2.1.seen HT.out.1.Q.S.I.ok y).symm)
          have P3 := Lib.hid (And.intro (P2.out.1.chg0 c3) (And.intro O3 e3))
          clear O3 hl3 X3 e3
          refine hK _ _ (D3) ?_
          clear hK K
          try simp only [Act.put, List.setIfInBounds_toArray, List.set_cons_zero, List.set_cons_succ]
          refine wpAnyS_ready (rs := [9]) (by kernel_rfl) (by simp) ?_
          refine AllReadyS.one (by simp only [List.getElem?_toArray, List.getElem?_cons_zero, List.getElem?_cons_succ]; rfl) (fun K hK => ?_)
          rw [if_pos (by rfl)]
          go_simp
          go_at_call 14
          refine (ints_ok _ _ _ ks2 ks3 P3.out.1.rd P3.out.2.1.rd).mono ?_
          intro e x4 hbd
          obtain ⟨rfl, c4⟩ := hbd.chg
          rw [decide_eq_true P3.out.2.2]
          dsimp only
          have D4 := D3.trans c4
          clear hbd
          refine hK _ _ (D4) ?_
          clear hK K
          try simp only [Act.put, List.setIfInBounds_toArray, List.set_cons_zero, List.set_cons_succ]
          refine wpAnyS_more (fuel := 30) [10, 11, 12, 14, 15, 16, 17] (by kernel_rfl) (fun _ _ _ _ _ h => h) D4 ?_
          simp only [List.filterMap_cons, List.filterMap_nil, List.getElem?_cons_zero, List.getElem?_cons_succ]
          iterate 7
            refine wpTake_step (fun K hK => ?_)
            rw [if_pos (by rfl)]
            refine ⟨?_, fun w' hS' => ?_, ?_⟩
            rotate_left 1
            focus
              have yb0 := hS'.cellv hrl (by simp) b0
              have yb1 := hS'.cellv hra (by simp) b1
              have yb2 := hS'.cellv hra (by simp) b2
              go_simp
              try with_reducible rfl
              done
            simp only [Act.put, List.setIfInBounds_toArray, List.set_cons_zero, List.set_cons_succ]
            refine hK _ ?_
            clear hK K
          refine wpTake_nil ?_
          refine wpAnyS_ready (rs := [13]) (by kernel_rfl) (by simp) ?_
          refine AllReadyS.one (by simp only [List.getElem?_toArray, List.getElem?_cons_zero, List.getElem?_cons_succ]; rfl) (fun K hK => ?_)
          rw [if_pos (by rfl)]
          go_simp
          go_at_call 18
          refine (s_live (HT.out.2.1.chg0 D4)).mono ?_
          rintro e x5 ⟨rfl, hx5⟩
          subst hx5
          have c5 := Chg.refl [] x5
          dsimp only
          have D5 := D4.trans c5
          refine hK _ _ (D5) ?_
          clear hK K
          try simp only [Act.put, List.setIfInBounds_toArray, List.set_cons_zero, List.set_cons_succ]
          refine wpAnyS_ready (rs := [18]) (by kernel_rfl) (by simp) ?_
          refine AllReadyS.one (by simp only [List.getElem?_toArray, List.getElem?_cons_zero, List.getElem?_cons_succ]; rfl) (fun K hK => ?_)
          rw [if_pos (by rfl)]
          go_simp
          go_at_call 19
          refine (raL.out _ D5).mono ?_
          rintro e x6 ⟨rfl, c6⟩
          dsimp only
          have D6 := D5.trans c6
          refine hK _ _ (D6) ?_
          clear hK K
          try simp only [Act.put, List.setIfInBounds_toArray, List.set_cons_zero, List.set_cons_succ]
          refine wpAnyS_more (fuel := 17) [19, 20, 21, 22, 24, 25, 26, 27, 28, 29, 30] (by kernel_rfl) (fun _ _ _ _ _ h => h) D6 ?_
          simp only [List.filterMap_cons, List.filterMap_nil, List.getElem?_cons_zero, List.getElem?_cons_succ]
          iterate 11
            refine wpTake_step (fun K hK => ?_)
            rw [if_pos (by rfl)]
            refine ⟨?_, fun w' hS' => ?_, ?_⟩
            rotate_left 1
            focus
              have yb0 := hS'.cellv hrl (by simp) b0
              have yb1 := hS'.cellv hra (by simp) b1
              have yb2 := hS'.cellv hra (by simp) b2
              go_simp
              try with_reducible rfl
              done
            simp only [Act.put, List.setIfInBounds_toArray, List.set_cons_zero, List.set_cons_succ]
            refine hK _ ?_
            clear hK K
          refine wpTake_nil ?_
          refine wpAnyS_ready (rs := [23]) (by kernel_rfl) (by simp) ?_
          refine AllReadyS.one (by simp only [List.getElem?_toArray, List.getElem?_cons_zero, List.getElem?_cons_succ]; rfl) (fun K hK => ?_)
          rw [if_pos (by rfl)]
          go_simp
          go_at_call 20
          refine (s_left (HT.out.2.1.chg0 D6) (okn_len6 HT.out.2.2.2.2.1 hnn) (okn_sum HT.out.2.2.2.2.1 hnn)).mono ?_
          rintro e x7 ⟨rfl, c7⟩
          dsimp only
          have D7 := D6.trans c7
          refine hK _ _ (D7) ?_
          clear hK K
          try simp only [Act.put, List.setIfInBounds_toArray, List.set_cons_zero, List.set_cons_succ]
          refine wpAnyS_ready (rs := [31]) (by kernel_rfl) (by simp) ?_
          refine AllReadyS.one (by simp only [List.getElem?_toArray, List.getElem?_cons_zero, List.getElem?_cons_succ]; rfl) (fun K hK => ?_)
          rw [if_pos (by rfl)]
          go_simp
          go_at_call 21
          refine (raF.out _ D7).mono ?_
          rintro e x8 ⟨rfl, c8⟩
          dsimp only
          have D8 := D7.trans c8
          refine hK _ _ (D8) ?_
          clear hK K
          try simp only [Act.put, List.setIfInBounds_toArray, List.set_cons_zero, List.set_cons_succ]
          refine wpAnyS_more (fuel := 4) [32, 33, 34, 35, 37, 38, 39, 40, 41, 42, 43] (by kernel_rfl) (fun _ _ _ _ _ h => h) D8 ?_
          simp only [List.filterMap_cons, List.filterMap_nil, List.getElem?_cons_zero, List.getElem?_cons_succ]
          iterate 11
            refine wpTake_step (fun K hK => ?_)
            rw [if_pos (by rfl)]
            refine ⟨?_, fun w' hS' => ?_, ?_⟩
            rotate_left 1
            focus
              have yb0 := hS'.cellv hrl (by simp) b0
              have yb1 := hS'.cellv hra (by simp) b1
              have yb2 := hS'.cellv hra (by simp) b2
              go_simp
              try with_reducible rfl
              done
            simp only [Act.put, List.setIfInBounds_toArray, List.set_cons_zero, List.set_cons_succ]
            refine hK _ ?_
            clear hK K
          refine wpTake_nil ?_
          refine wpAnyS_ready (rs := [36]) (by kernel_rfl) (by simp) ?_
          refine AllReadyS.one (by simp only [List.getElem?_toArray, List.getElem?_cons_zero, List.getElem?_cons_succ]; rfl) (fun K hK => ?_)
          rw [if_pos (by rfl)]
          go_simp
          go_at_call 15
          refine (s_spans (HT.out.2.1.chg0 D8) (by omega)).mono ?_
          rintro e x9 ⟨v1, ks1, rfl, O1, c9, -, r1, m1⟩
          dsimp only
          have D9 := D8.trans c9
          obtain ⟨A1, n1, rfl⟩ := O1.slice
          obtain ⟨l1, hl1⟩ : ∃ l1, l1 = ks1.length := ⟨_, rfl⟩
          rw [← hl1] at O1 ⊢
          have e1 := HT.out.2.2.1.spans r1 m1
          have P1 := Lib.hid (And.intro O1 e1)
          clear O1 e1 hl1 r1 m1
          refine hK _ _ (D9) ?_
          clear hK K
          try simp only [Act.put, List.setIfInBounds_toArray, List.set_cons_zero, List.set_cons_succ]
          refine wpAnyS_ready (rs := [44]) (by kernel_rfl) (by simp) ?_
          refine AllReadyS.one (by simp only [List.getElem?_toArray, List.getElem?_cons_zero, List.getElem?_cons_succ]; rfl) (fun K hK => ?_)
          rw [if_pos (by rfl)]
          go_simp
          go_at_call 14
          refine (ints_ok _ _ _ ks1 (intsN ids) P1.out.1.rd (HT.out.2.2.2.1.chg0 D9).rd).mono ?_
          intro e x10 hbd
          obtain ⟨rfl, c10⟩ := hbd.chg
          rw [decide_eq_true P1.out.2]
          dsimp only
          have D10 := D9.trans c10
          clear hbd
          refine hK _ _ (D10) ?_
          clear hK K
          try simp only [Act.put, List.setIfInBounds_toArray, List.set_cons_zero, List.set_cons_succ]
          refine wpAnyS_tail 45 2 (by kernel_rfl) rfl ?_
          simp only [List.drop_succ_cons, List.drop_zero]
          have HX := Lib.hid D10
          go_wp2_with fail
          go_ret
          exact ⟨by simp, HT.out.1.Q.S.c.trans HX.out⟩
end Go.Proofs.YtcnchgbngcnijaaGreatDoor
