/- The walk of ArenaPlays. Printed by wip/genap7.py. -/
import Derived.Test.YtmafiagakoglkaaGreatDoorAp6
import Derived.Test.YtmafiagakoglkaaGreatDoorAp2
import Derived.Test.YtmafiagakoglkaaGreatDoorSps
import Derived.Deep.CutBlock
namespace Go.Proofs.YtmafiagakoglkaaGreatDoor
open Go.RowKit Go.Maps

def Ap7 (W : World) (g rg i : Nat) (w : World) : Prop := ∃ h hr a ids N b m, N ≤ i ∧ b ≤ 6 * i ∧ m ≤ 256 * i ∧ a.n ≤ 200 ∧ ApT W g rg h hr a ids N b m w
def Ap7Rel (W : World) (g rg mm gk : Nat) (idx : Value) (w : World) : Prop := ∃ i, gk + i = mm + 1 ∧ i ≤ mm ∧ idx = .int .i64 (i : Nat) ∧ Ap7 W g rg i w
set_option maxHeartbeats 6400000 in
set_option maxRecDepth 100000 in
theorem aplays_any (z : Int) (A0 : Option Addr) (c0 : Nat) (xs : List Op7) (W : World) (T0 : Tab W) (hA : Ops7At W W.heap.size A0 xs) (hl : xs.length ≤ maxLen) : Calls Tryz.prog 9 #[.int .i64 z, .slice A0 xs.length c0] W (TdPost W) := by
  unfold maxLen at hl
  have HA := Lib.hid (And.intro hA T0); clear hA T0
  go_enter Tryz.func9, Tryz.ntmps9
  go_upto_region 1 with fail
  go_cut [14] from 9 to 14 (fun v wc => ∃ b, v = .bool b ∧ (b = false → ¬ (2048 < z ∧ z ≤ 16777216)) ∧ wc = W)
  case first =>
    by_cases h1 : 2048 < z
    · have d1 : decide (2048 < z) = true := decide_eq_true h1
      by_cases h2 : z ≤ 16777216
      · have d2 : decide (z ≤ 16777216) = true := decide_eq_true h2
        go_wp2_with fail
        go_meet
        exact ⟨_, rfl, fun h => absurd h (by simp), rfl⟩
      · have d2 : decide (z ≤ 16777216) = false := decide_eq_false h2
        have HX := Lib.hid h2; clear h2
        go_wp2_with fail
        go_meet
        exact ⟨_, rfl, fun _ h => (by have := HX.out; omega), rfl⟩
    · have d1 : decide (2048 < z) = false := decide_eq_false h1
      have HX := Lib.hid h1; clear h1
      go_wp2_with fail
      go_meet
      exact ⟨_, rfl, fun _ h => (by have := HX.out; omega), rfl⟩
  case rest =>
    obtain ⟨b, rfl, hb, rfl⟩ := hcut
    have HB := Lib.hid hb; clear hb
    obtain ⟨W, rfl⟩ : ∃ wz : World, wz = wc := ⟨_, rfl⟩
    go_upto_if 14 with fail
    go_cut [0] from 9 to 14 (fun v wc => ∃ K : Int, v = .int .i64 K ∧ ¬ (2048 < K ∧ K ≤ 16777216) ∧ wc = W)
    case first =>
      cases b
      · have HK := Lib.hid (HB.out rfl)
        clear HB
        go_wp2_with fail
        go_meet
        exact ⟨z, rfl, HK.out, rfl⟩
      · go_wp2_with fail
        go_meet
        exact ⟨2048, rfl, by omega, rfl⟩
    case rest =>
      obtain ⟨K, rfl, hK, rfl⟩ := hcut
      obtain ⟨W, rfl⟩ : ∃ wz : World, wz = wc := ⟨_, rfl⟩
      clear HB
      by_cases hok : okW K
      · have hle : K ≤ 2048 := by have := hok.2.1; omega
        obtain ⟨n, rfl, hn4, hn32⟩ := hok.pages hle
        have KS := s_new W n ((n * 64 : Nat) : Int) rfl hn4 (by omega)
        have KR := fun (w : World) => ranew_ok w n hn4 (by omega)
        obtain ⟨zz, hzz⟩ : ∃ zz : Int, zz = ((n * 64 : Nat) : Int) := ⟨_, rfl⟩
        rw [← hzz] at KS KR ⊢
        have HK := Lib.hid (And.intro KS KR); clear KS KR hzz hok hK hle
        go_wp2_with fail
        refine HK.out.1.mono ?_
        rintro e w1 ⟨g, h, rfl, S⟩
        have H1 := Lib.hid S; clear S
        go_wp2_with fail
        refine (HK.out.2 w1).mono ?_
        rintro e w2 ⟨hr, rfl, M, c2, F, hm⟩
        have T := ApT.start H1.out M c2 F hm
        have HT := Lib.hid T; clear T M c2 F hm H1 HK
        generalize hrg : hr.g = rg at HT ⊢
        clear hrg
        obtain ⟨mm, hmm⟩ : ∃ mm, mm = min xs.length 60 := ⟨_, rfl⟩
        have hm1 : mm ≤ 60 := by omega
        have hm2 : mm ≤ xs.length := by omega
        have hm3 : mm = xs.length ∨ mm = 60 := by omega
        have HM := Lib.hid hm3; clear hmm hm3
        have hn200 : (newA n).n ≤ 200 := by show n ≤ 200; omega
        have HN := Lib.hid hn200; clear hn200
        go_upto_block 0 with fail
        go_cut [8] from 39 to 56 (fun _ wd => Ap7 W g rg 60 wd)
        case first =>
          go_wp2_with fail
          go_loopg [8] (mm + 1) (fun gk idx wr => Ap7Rel W g rg mm gk idx wr)
          case atStart => exact ⟨0, by omega, by omega, rfl, h, hr, _, [], 0, 0, 0, by omega, by omega, by omega, HN.out, HT.out⟩
          case round =>
            clear HT HN
            obtain ⟨i, hgk, hin, rfl, hP⟩ := hrel
            by_cases e : i < mm
            · obtain ⟨h, hr, a, ids, N, b, m, hN, hb, hm, han, T⟩ := hP
              obtain ⟨o, ho⟩ : ∃ o, xs[i]? = some o := ⟨_, List.getElem?_eq_getElem (by omega)⟩
              obtain ⟨owf, bo, off, rfl, hbb, i0, i1, i2, i3, i4, i5, i6, i7, i8⟩ := HA.out.1.chg T.S.c i o ho
              have hi1 : (i : Int) < (xs.length : Int) := by omega
              have hi2 : (i : Int) < 60 := by omega
              have hi3 : i < xs.length := by omega
              have hi4 : i < 60 := by omega
              have hi0 : (0 : Int) ≤ (i : Int) := by omega
              have KB := both7_ok T HA.out.2 (by omega) (by omega) (by omega) han o owf
              have HP := Lib.hid (And.intro KB ho); clear ho KB T owf
              go_wp2_with fail
              refine HP.out.1.mono ?_
              rintro e w5 ⟨rfl, h', hr', a', ids', N', b', m', q1, q2, q3, q4, T'⟩
              have H5 := Lib.hid (And.intro T' q4); clear T' q4 i0 i1 i2 i3 i4 i5 i6 i7 i8
              go_wp2_with fail
              go_roundg (mm - i)
              case measure => omega
              case rel => exact ⟨i + 1, by omega, by omega, by go_num, h', hr', a', ids', N', b', m', by omega, by omega, by omega, by rw [H5.out.2]; exact han, H5.out.1⟩
            · have hP60 : Ap7 W g rg 60 wr := by
                obtain ⟨h, hr, a, ids, N, b, m, hN, hb, hm, han, T⟩ := hP
                exact ⟨h, hr, a, ids, N, b, m, by omega, by omega, by omega, han, T⟩
              have HP := Lib.hid hP60; clear hP60 hP
              by_cases h60 : i < xs.length
              · have d1 : decide ((i : Int) < (xs.length : Int)) = true := decide_eq_true (by omega)
                have d2 : decide ((i : Int) < 60) = false := decide_eq_false (by have := HM.out; omega)
                have d1' : decide (i < xs.length) = true := decide_eq_true h60
                have d2' : decide (i < 60) = false := decide_eq_false (by have := HM.out; omega)
                go_wp2_with fail
                go_meet
                exact HP.out
              · have d1 : decide ((i : Int) < (xs.length : Int)) = false := decide_eq_false (by omega)
                have d1' : decide (i < xs.length) = false := decide_eq_false h60
                go_wp2_with fail
                go_meet
                exact HP.out
        case rest =>
          obtain ⟨h, hr, a, ids, N, b, m, hN, hb, hm, han, T⟩ := hcut
          obtain ⟨w5, rfl⟩ : ∃ V : World, V = wc := ⟨_, rfl⟩
          obtain ⟨Ai, ci, hvi⟩ := T.M.i.slice
          obtain ⟨nid, hnid⟩ : ∃ nid, nid = (intsN ids).length := ⟨_, rfl⟩
          rw [← hnid] at hvi
          have b0 : w5.cell? ⟨hr.g, 0, none⟩ = some (.pointer (some ⟨hr.gp, 0, none⟩)) := T.M.b.cellv 0 rfl
          have b1 : w5.cell? ⟨hr.g, 1, none⟩ = some hr.vi := T.M.b.cellv 1 rfl
          rw [hvi] at b1
          rw [T.rg] at b0 b1
          have hrl : rg < w5.heap.size := by rw [← T.rg]; exact T.M.b.lt
          have Oi := T.M.i
          rw [hvi] at Oi
          have hlen := T.len
          have hok := T.S.I.ok.ok
          have hnn := T.S.I.ok.n
          obtain ⟨F, hP, hF⟩ := T.M.P
          have HT := Lib.hid (And.intro T (And.intro Oi (And.intro hok (And.intro hP hF)))); clear T Oi hvi hnid hok hP hF
          go_upto_region 14 with fail
          have raL : ∀ x, Chg [] w5 x → Calls Tryz.prog 37 #[.pointer (some ⟨rg, 0, none⟩)] x (NwPost (.int .i64 (a.live : Nat)) x) := fun x D => by
            have h1 := ralive_ok x hr a ids (HT.out.1.M.chg0 D) (by omega)
            rw [HT.out.1.M.live HT.out.1.S.I, HT.out.1.rg] at h1
            exact h1
          have raF : ∀ x, Chg [] w5 x → Calls Tryz.prog 38 #[.pointer (some ⟨hr.gp, 0, none⟩)] x (NwPost (.int .i64 (sumR a.l : Nat)) x) := fun x D => by
            have P := HT.out.2.2.2.1.chg0 D
            have h1 := rleft_ok x hr.gp a.n F ⟨_, _, P.b1, P.b2⟩ hnn
            have es : ((List.range a.n).filter F).length = sumR a.l := by rw [← runs_sum, runs_eq HT.out.2.2.1 HT.out.2.2.2.2]
            refine h1.mono ?_
            rintro e x' ⟨rfl, c⟩
            rw [es]
            exact ⟨rfl, c⟩
          have raL := Lib.hid raL
          have raF := Lib.hid raF
          refine wp_region_takes (fuel := 35) 34 (fun w' => Chg [] w5 w') [] (by kernel_rfl) (by kernel_rfl) (fun _ _ _ _ _ h => h) ((Chg.refl [] w5).drew) ?_
          simp only [List.filterMap_cons, List.filterMap_nil, List.getElem?_cons_zero, List.getElem?_cons_succ]
          refine wpTake_nil ?_
          generalize hx0 : w5.drew = x0
          have D0 : Chg [] w5 x0 := by rw [← hx0]; exact (Chg.refl [] w5).drew
          clear hx0
          refine wpAnyS_ready (rs := [0]) (by kernel_rfl) (by simp) ?_
          refine AllReadyS.cons (by simp only [List.getElem?_toArray, List.getElem?_cons_zero, List.getElem?_cons_succ]; rfl) (fun K hK => ?_) ?_
          · rw [if_pos (by rfl)]
            go_simp
            go_at_call 41
            refine (told_ok _ (HA.out.2.chg ((HT.out.1.chg0 D0).S.c) (by simp))).mono ?_
            rintro e x1 ⟨rfl, c1⟩
            dsimp only
            have D1 := D0.trans c1
            refine hK _ _ (D1) ?_
            clear hK K
            try simp only [Act.put, List.setIfInBounds_toArray, List.set_cons_zero, List.set_cons_succ]
            refine wpAnyS_more (fuel := 28) [1, 2, 4, 5, 6, 7] (by kernel_rfl) (fun _ _ _ _ _ h => h) D1 ?_
            simp only [List.filterMap_cons, List.filterMap_nil, List.getElem?_cons_zero, List.getElem?_cons_succ]
            refine wpTake_step (fun K hK => ?_)
            rw [if_pos (by rfl)]
            refine ⟨?_, fun w' hS' => ?_, ?_⟩
            rotate_left 1
            focus
              have yb0 := hS'.cellv hrl (by simp) b0
              have yb1 := hS'.cellv hrl (by simp) b1
              go_simp
              try with_reducible rfl
              done
            simp only [Act.put, List.setIfInBounds_toArray, List.set_cons_zero, List.set_cons_succ]
            refine hK _ ?_
            clear hK K
            refine wpTake_step (fun K hK => ?_)
            rw [if_pos (by rfl)]
            refine ⟨?_, fun w' hS' => ?_, ?_⟩
            rotate_left 1
            focus
              have yb0 := hS'.cellv hrl (by simp) b0
              have yb1 := hS'.cellv hrl (by simp) b1
              go_simp
              try with_reducible rfl
              done
            simp only [Act.put, List.setIfInBounds_toArray, List.set_cons_zero, List.set_cons_succ]
            refine hK _ ?_
            clear hK K
            refine wpTake_step (fun K hK => ?_)
            rw [if_pos (by rfl)]
            refine ⟨?_, fun w' hS' => ?_, ?_⟩
            rotate_left 1
            focus
              have yb0 := hS'.cellv hrl (by simp) b0
              have yb1 := hS'.cellv hrl (by simp) b1
              go_simp
              try with_reducible rfl
              done
            simp only [Act.put, List.setIfInBounds_toArray, List.set_cons_zero, List.set_cons_succ]
            refine hK _ ?_
            clear hK K
            refine wpTake_step (fun K hK => ?_)
            rw [if_pos (by rfl)]
            refine ⟨?_, fun w' hS' => ?_, ?_⟩
            rotate_left 1
            focus
              have yb0 := hS'.cellv hrl (by simp) b0
              have yb1 := hS'.cellv hrl (by simp) b1
              go_simp
              try with_reducible rfl
              done
            simp only [Act.put, List.setIfInBounds_toArray, List.set_cons_zero, List.set_cons_succ]
            refine hK _ ?_
            clear hK K
            refine wpTake_step (fun K hK => ?_)
            rw [if_pos (by rfl)]
            refine ⟨?_, fun w' hS' => ?_, ?_⟩
            rotate_left 1
            focus
              have yb0 := hS'.cellv hrl (by simp) b0
              have yb1 := hS'.cellv hrl (by simp) b1
              go_simp
              try with_reducible rfl
              done
            simp only [Act.put, List.setIfInBounds_toArray, List.set_cons_zero, List.set_cons_succ]
            refine hK _ ?_
            clear hK K
            refine wpTake_step (fun K hK => ?_)
            rw [if_pos (by rfl)]
            refine ⟨?_, fun w' hS' => ?_, ?_⟩
            rotate_left 1
            focus
              have yb0 := hS'.cellv hrl (by simp) b0
              have yb1 := hS'.cellv hrl (by simp) b1
              go_simp
              try with_reducible rfl
              done
            simp only [Act.put, List.setIfInBounds_toArray, List.set_cons_zero, List.set_cons_succ]
            refine hK _ ?_
            clear hK K
            refine wpTake_nil ?_
            refine wpAnyS_ready (rs := [3]) (by kernel_rfl) (by simp) ?_
            refine AllReadyS.cons (by simp only [List.getElem?_toArray, List.getElem?_cons_zero, List.getElem?_cons_succ]; rfl) (fun K hK => ?_) ?_
            · rw [if_pos (by rfl)]
              go_simp
              go_at_call 24
              refine (s_spans (HT.out.1.chg0 D1).S (by omega)).mono ?_
              rintro e x2 ⟨v1, ks1, rfl, O1, c2, -, r1, m1⟩
              dsimp only
              have D2 := D1.trans c2
              obtain ⟨A1, n1, rfl⟩ := O1.slice
              obtain ⟨l1, hl1⟩ : ∃ l1, l1 = ks1.length := ⟨_, rfl⟩
              rw [← hl1] at O1 ⊢
              have e1 := HT.out.1.M.spans r1 m1
              have P1 := Lib.hid (And.intro O1 e1)
              clear O1 e1 hl1 r1 m1
              refine hK _ _ (D2) ?_
              clear hK K
              try simp only [Act.put, List.setIfInBounds_toArray, List.set_cons_zero, List.set_cons_succ]
              refine wpAnyS_ready (rs := [8]) (by kernel_rfl) (by simp) ?_
              refine AllReadyS.cons (by simp only [List.getElem?_toArray, List.getElem?_cons_zero, List.getElem?_cons_succ]; rfl) (fun K hK => ?_) ?_
              · rw [if_pos (by rfl)]
                go_simp
                go_at_call 21
                refine (ints_ok _ _ _ ks1 (intsN ids) P1.out.1.rd (HT.out.2.1.chg0 D2).rd).mono ?_
                intro e x3 hbd
                obtain ⟨rfl, c3⟩ := hbd.chg
                rw [decide_eq_true P1.out.2]
                dsimp only
                have D3 := D2.trans c3
                clear hbd
                refine hK _ _ (D3) ?_
                clear hK K
                try simp only [Act.put, List.setIfInBounds_toArray, List.set_cons_zero, List.set_cons_succ]
                refine wpAnyS_more (fuel := 22) [9, 10, 11, 13] (by kernel_rfl) (fun _ _ _ _ _ h => h) D3 ?_
                simp only [List.filterMap_cons, List.filterMap_nil, List.getElem?_cons_zero, List.getElem?_cons_succ]
                refine wpTake_step (fun K hK => ?_)
                rw [if_pos (by rfl)]
                refine ⟨?_, fun w' hS' => ?_, ?_⟩
                rotate_left 1
                focus
                  have yb0 := hS'.cellv hrl (by simp) b0
                  have yb1 := hS'.cellv hrl (by simp) b1
                  go_simp
                  try with_reducible rfl
                  done
                simp only [Act.put, List.setIfInBounds_toArray, List.set_cons_zero, List.set_cons_succ]
                refine hK _ ?_
                clear hK K
                refine wpTake_step (fun K hK => ?_)
                rw [if_pos (by rfl)]
                refine ⟨?_, fun w' hS' => ?_, ?_⟩
                rotate_left 1
                focus
                  have yb0 := hS'.cellv hrl (by simp) b0
                  have yb1 := hS'.cellv hrl (by simp) b1
                  go_simp
                  try with_reducible rfl
                  done
                simp only [Act.put, List.setIfInBounds_toArray, List.set_cons_zero, List.set_cons_succ]
                refine hK _ ?_
                clear hK K
                refine wpTake_step (fun K hK => ?_)
                rw [if_pos (by rfl)]
                refine ⟨?_, fun w' hS' => ?_, ?_⟩
                rotate_left 1
                focus
                  have yb0 := hS'.cellv hrl (by simp) b0
                  have yb1 := hS'.cellv hrl (by simp) b1
                  go_simp
                  try with_reducible rfl
                  done
                simp only [Act.put, List.setIfInBounds_toArray, List.set_cons_zero, List.set_cons_succ]
                refine hK _ ?_
                clear hK K
                refine wpTake_step (fun K hK => ?_)
                rw [if_pos (by rfl)]
                refine ⟨?_, fun w' hS' => ?_, ?_⟩
                rotate_left 1
                focus
                  have yb0 := hS'.cellv hrl (by simp) b0
                  have yb1 := hS'.cellv hrl (by simp) b1
                  go_simp
                  try with_reducible rfl
                  done
                simp only [Act.put, List.setIfInBounds_toArray, List.set_cons_zero, List.set_cons_succ]
                refine hK _ ?_
                clear hK K
                refine wpTake_nil ?_
                refine wpAnyS_ready (rs := [12]) (by kernel_rfl) (by simp) ?_
                refine AllReadyS.cons (by simp only [List.getElem?_toArray, List.getElem?_cons_zero, List.getElem?_cons_succ]; rfl) (fun K hK => ?_) ?_
                · rw [if_pos (by rfl)]
                  go_simp
                  go_at_call 22
                  refine (s_objects (HT.out.1.chg0 D3).S (by omega)).mono ?_
                  rintro e x4 ⟨v2, ks2, rfl, O2, c4, -, r2, m2⟩
                  dsimp only
                  have D4 := D3.trans c4
                  obtain ⟨A2, n2, rfl⟩ := O2.slice
                  obtain ⟨l2, hl2⟩ : ∃ l2, l2 = ks2.length := ⟨_, rfl⟩
                  rw [← hl2] at O2 ⊢
                  have P2 := Lib.hid (And.intro O2 (And.intro r2 m2))
                  clear O2 hl2 r2 m2
                  refine hK _ _ (D4) ?_
                  clear hK K
                  try simp only [Act.put, List.setIfInBounds_toArray, List.set_cons_zero, List.set_cons_succ]
                  refine wpAnyS_ready (rs := [14]) (by kernel_rfl) (by simp) ?_
                  refine AllReadyS.cons (by simp only [List.getElem?_toArray, List.getElem?_cons_zero, List.getElem?_cons_succ]; rfl) (fun K hK => ?_) ?_
                  · rw [if_pos (by rfl)]
                    go_simp
                    go_at_call 36
                    refine ((HT.out.1.chg0 D4).objs (by omega)).mono ?_
                    rintro e x5 ⟨v3, ks3, rfl, O3, X3, -, c5⟩
                    dsimp only
                    have D5 := D4.trans c5
                    obtain ⟨A3, n3, rfl⟩ := O3.slice
                    obtain ⟨l3, hl3⟩ : ∃ l3, l3 = ks3.length := ⟨_, rfl⟩
                    rw [← hl3] at O3 ⊢
                    have e3 : ks2 = ks3 := rise_ext P2.out.2.1 X3.r (fun y => by rw [P2.out.2.2, X3.m]; exact (HT.out.1.M.seen HT.out.1.S.I.ok y).symm)
                    have P3 := Lib.hid (And.intro (P2.out.1.chg0 c5) (And.intro O3 e3))
                    clear O3 hl3 X3 e3
                    refine hK _ _ (D5) ?_
                    clear hK K
                    try simp only [Act.put, List.setIfInBounds_toArray, List.set_cons_zero, List.set_cons_succ]
                    refine wpAnyS_ready (rs := [15]) (by kernel_rfl) (by simp) ?_
                    refine AllReadyS.cons (by simp only [List.getElem?_toArray, List.getElem?_cons_zero, List.getElem?_cons_succ]; rfl) (fun K hK => ?_) ?_
                    · rw [if_pos (by rfl)]
                      go_simp
                      go_at_call 21
                      refine (ints_ok _ _ _ ks2 ks3 P3.out.1.rd P3.out.2.1.rd).mono ?_
                      intro e x6 hbd
                      obtain ⟨rfl, c6⟩ := hbd.chg
                      rw [decide_eq_true P3.out.2.2]
                      dsimp only
                      have D6 := D5.trans c6
                      clear hbd
                      refine hK _ _ (D6) ?_
                      clear hK K
                      try simp only [Act.put, List.setIfInBounds_toArray, List.set_cons_zero, List.set_cons_succ]
                      refine wpAnyS_more (fuel := 15) [16, 17, 18, 20] (by kernel_rfl) (fun _ _ _ _ _ h => h) D6 ?_
                      simp only [List.filterMap_cons, List.filterMap_nil, List.getElem?_cons_zero, List.getElem?_cons_succ]
                      refine wpTake_step (fun K hK => ?_)
                      rw [if_pos (by rfl)]
                      refine ⟨?_, fun w' hS' => ?_, ?_⟩
                      rotate_left 1
                      focus
                        have yb0 := hS'.cellv hrl (by simp) b0
                        have yb1 := hS'.cellv hrl (by simp) b1
                        go_simp
                        try with_reducible rfl
                        done
                      simp only [Act.put, List.setIfInBounds_toArray, List.set_cons_zero, List.set_cons_succ]
                      refine hK _ ?_
                      clear hK K
                      refine wpTake_step (fun K hK => ?_)
                      rw [if_pos (by rfl)]
                      refine ⟨?_, fun w' hS' => ?_, ?_⟩
                      rotate_left 1
                      focus
                        have yb0 := hS'.cellv hrl (by simp) b0
                        have yb1 := hS'.cellv hrl (by simp) b1
                        go_simp
                        try with_reducible rfl
                        done
                      simp only [Act.put, List.setIfInBounds_toArray, List.set_cons_zero, List.set_cons_succ]
                      refine hK _ ?_
                      clear hK K
                      refine wpTake_step (fun K hK => ?_)
                      rw [if_pos (by rfl)]
                      refine ⟨?_, fun w' hS' => ?_, ?_⟩
                      rotate_left 1
                      focus
                        have yb0 := hS'.cellv hrl (by simp) b0
                        have yb1 := hS'.cellv hrl (by simp) b1
                        go_simp
                        try with_reducible rfl
                        done
                      simp only [Act.put, List.setIfInBounds_toArray, List.set_cons_zero, List.set_cons_succ]
                      refine hK _ ?_
                      clear hK K
                      refine wpTake_step (fun K hK => ?_)
                      rw [if_pos (by rfl)]
                      refine ⟨?_, fun w' hS' => ?_, ?_⟩
                      rotate_left 1
                      focus
                        have yb0 := hS'.cellv hrl (by simp) b0
                        have yb1 := hS'.cellv hrl (by simp) b1
                        go_simp
                        try with_reducible rfl
                        done
                      simp only [Act.put, List.setIfInBounds_toArray, List.set_cons_zero, List.set_cons_succ]
                      refine hK _ ?_
                      clear hK K
                      refine wpTake_nil ?_
                      refine wpAnyS_ready (rs := [19]) (by kernel_rfl) (by simp) ?_
                      refine AllReadyS.cons (by simp only [List.getElem?_toArray, List.getElem?_cons_zero, List.getElem?_cons_succ]; rfl) (fun K hK => ?_) ?_
                      · rw [if_pos (by rfl)]
                        go_simp
                        go_at_call 26
                        refine (s_live (HT.out.1.chg0 D6).S).mono ?_
                        rintro e x7 ⟨rfl, hx7⟩
                        subst hx7
                        have c7 := Chg.refl [] x7
                        dsimp only
                        have D7 := D6.trans c7
                        refine hK _ _ (D7) ?_
                        clear hK K
                        try simp only [Act.put, List.setIfInBounds_toArray, List.set_cons_zero, List.set_cons_succ]
                        refine wpAnyS_ready (rs := [21]) (by kernel_rfl) (by simp) ?_
                        refine AllReadyS.cons (by simp only [List.getElem?_toArray, List.getElem?_cons_zero, List.getElem?_cons_succ]; rfl) (fun K hK => ?_) ?_
                        · rw [if_pos (by rfl)]
                          go_simp
                          go_at_call 37
                          refine (raL.out _ D7).mono ?_
                          rintro e x8 ⟨rfl, c8⟩
                          dsimp only
                          have D8 := D7.trans c8
                          refine hK _ _ (D8) ?_
                          clear hK K
                          try simp only [Act.put, List.setIfInBounds_toArray, List.set_cons_zero, List.set_cons_succ]
                          refine wpAnyS_more (fuel := 5) [22, 23, 24, 25, 27, 28, 29, 30] (by kernel_rfl) (fun _ _ _ _ _ h => h) D8 ?_
                          simp only [List.filterMap_cons, List.filterMap_nil, List.getElem?_cons_zero, List.getElem?_cons_succ]
                          refine wpTake_step (fun K hK => ?_)
                          rw [if_pos (by rfl)]
                          refine ⟨?_, fun w' hS' => ?_, ?_⟩
                          rotate_left 1
                          focus
                            have yb0 := hS'.cellv hrl (by simp) b0
                            have yb1 := hS'.cellv hrl (by simp) b1
                            go_simp
                            try with_reducible rfl
                            done
                          simp only [Act.put, List.setIfInBounds_toArray, List.set_cons_zero, List.set_cons_succ]
                          refine hK _ ?_
                          clear hK K
                          refine wpTake_step (fun K hK => ?_)
                          rw [if_pos (by rfl)]
                          refine ⟨?_, fun w' hS' => ?_, ?_⟩
                          rotate_left 1
                          focus
                            have yb0 := hS'.cellv hrl (by simp) b0
                            have yb1 := hS'.cellv hrl (by simp) b1
                            go_simp
                            try with_reducible rfl
                            done
                          simp only [Act.put, List.setIfInBounds_toArray, List.set_cons_zero, List.set_cons_succ]
                          refine hK _ ?_
                          clear hK K
                          refine wpTake_step (fun K hK => ?_)
                          rw [if_pos (by rfl)]
                          refine ⟨?_, fun w' hS' => ?_, ?_⟩
                          rotate_left 1
                          focus
                            have yb0 := hS'.cellv hrl (by simp) b0
                            have yb1 := hS'.cellv hrl (by simp) b1
                            go_simp
                            try with_reducible rfl
                            done
                          simp only [Act.put, List.setIfInBounds_toArray, List.set_cons_zero, List.set_cons_succ]
                          refine hK _ ?_
                          clear hK K
                          refine wpTake_step (fun K hK => ?_)
                          rw [if_pos (by rfl)]
                          refine ⟨?_, fun w' hS' => ?_, ?_⟩
                          rotate_left 1
                          focus
                            have yb0 := hS'.cellv hrl (by simp) b0
                            have yb1 := hS'.cellv hrl (by simp) b1
                            go_simp
                            try with_reducible rfl
                            done
                          simp only [Act.put, List.setIfInBounds_toArray, List.set_cons_zero, List.set_cons_succ]
                          refine hK _ ?_
                          clear hK K
                          refine wpTake_step (fun K hK => ?_)
                          rw [if_pos (by rfl)]
                          refine ⟨?_, fun w' hS' => ?_, ?_⟩
                          rotate_left 1
                          focus
                            have yb0 := hS'.cellv hrl (by simp) b0
                            have yb1 := hS'.cellv hrl (by simp) b1
                            go_simp
                            try with_reducible rfl
                            done
                          simp only [Act.put, List.setIfInBounds_toArray, List.set_cons_zero, List.set_cons_succ]
                          refine hK _ ?_
                          clear hK K
                          refine wpTake_step (fun K hK => ?_)
                          rw [if_pos (by rfl)]
                          refine ⟨?_, fun w' hS' => ?_, ?_⟩
                          rotate_left 1
                          focus
                            have yb0 := hS'.cellv hrl (by simp) b0
                            have yb1 := hS'.cellv hrl (by simp) b1
                            go_simp
                            try with_reducible rfl
                            done
                          simp only [Act.put, List.setIfInBounds_toArray, List.set_cons_zero, List.set_cons_succ]
                          refine hK _ ?_
                          clear hK K
                          refine wpTake_step (fun K hK => ?_)
                          rw [if_pos (by rfl)]
                          refine ⟨?_, fun w' hS' => ?_, ?_⟩
                          rotate_left 1
                          focus
                            have yb0 := hS'.cellv hrl (by simp) b0
                            have yb1 := hS'.cellv hrl (by simp) b1
                            go_simp
                            try with_reducible rfl
                            done
                          simp only [Act.put, List.setIfInBounds_toArray, List.set_cons_zero, List.set_cons_succ]
                          refine hK _ ?_
                          clear hK K
                          refine wpTake_step (fun K hK => ?_)
                          rw [if_pos (by rfl)]
                          refine ⟨?_, fun w' hS' => ?_, ?_⟩
                          rotate_left 1
                          focus
                            have yb0 := hS'.cellv hrl (by simp) b0
                            have yb1 := hS'.cellv hrl (by simp) b1
                            go_simp
                            try with_reducible rfl
                            done
                          simp only [Act.put, List.setIfInBounds_toArray, List.set_cons_zero, List.set_cons_succ]
                          refine hK _ ?_
                          clear hK K
                          refine wpTake_nil ?_
                          refine wpAnyS_ready (rs := [26]) (by kernel_rfl) (by simp) ?_
                          refine AllReadyS.cons (by simp only [List.getElem?_toArray, List.getElem?_cons_zero, List.getElem?_cons_succ]; rfl) (fun K hK => ?_) ?_
                          · rw [if_pos (by rfl)]
                            go_simp
                            go_at_call 28
                            refine (s_left (HT.out.1.chg0 D8).S (okn_len6 HT.out.2.2.1 hnn) (okn_sum HT.out.2.2.1 hnn)).mono ?_
                            rintro e x9 ⟨rfl, c9⟩
                            dsimp only
                            have D9 := D8.trans c9
                            refine hK _ _ (D9) ?_
                            clear hK K
                            try simp only [Act.put, List.setIfInBounds_toArray, List.set_cons_zero, List.set_cons_succ]
                            refine wpAnyS_ready (rs := [31]) (by kernel_rfl) (by simp) ?_
                            refine AllReadyS.cons (by simp only [List.getElem?_toArray, List.getElem?_cons_zero, List.getElem?_cons_succ]; rfl) (fun K hK => ?_) ?_
                            · rw [if_pos (by rfl)]
                              go_simp
                              go_at_call 38
                              refine (raF.out _ D9).mono ?_
                              rintro e x10 ⟨rfl, c10⟩
                              dsimp only
                              have D10 := D9.trans c10
                              refine hK _ _ (D10) ?_
                              clear hK K
                              try simp only [Act.put, List.setIfInBounds_toArray, List.set_cons_zero, List.set_cons_succ]
                              refine wpAnyS_more (fuel := 1) [32, 33] (by kernel_rfl) (fun _ _ _ _ _ h => h) D10 ?_
                              simp only [List.filterMap_cons, List.filterMap_nil, List.getElem?_cons_zero, List.getElem?_cons_succ]
                              refine wpTake_step (fun K hK => ?_)
                              rw [if_pos (by rfl)]
                              refine ⟨?_, fun w' hS' => ?_, ?_⟩
                              rotate_left 1
                              focus
                                have yb0 := hS'.cellv hrl (by simp) b0
                                have yb1 := hS'.cellv hrl (by simp) b1
                                go_simp
                                try with_reducible rfl
                                done
                              simp only [Act.put, List.setIfInBounds_toArray, List.set_cons_zero, List.set_cons_succ]
                              refine hK _ ?_
                              clear hK K
                              refine wpTake_step (fun K hK => ?_)
                              rw [if_pos (by rfl)]
                              refine ⟨?_, fun w' hS' => ?_, ?_⟩
                              rotate_left 1
                              focus
                                have yb0 := hS'.cellv hrl (by simp) b0
                                have yb1 := hS'.cellv hrl (by simp) b1
                                go_simp
                                try with_reducible rfl
                                done
                              simp only [Act.put, List.setIfInBounds_toArray, List.set_cons_zero, List.set_cons_succ]
                              refine hK _ ?_
                              clear hK K
                              refine wpTake_nil ?_
                              refine wpAnyS_tail 34 1 (by kernel_rfl) rfl ?_
                              simp only [List.drop_succ_cons, List.drop_zero]
                              have HX := Lib.hid D10
                              go_wp2_with fail
                              go_ret
                              exact ⟨by simp, HT.out.1.S.c.trans HX.out⟩
                            exact AllReadyS.nil
                          exact AllReadyS.nil
                        exact AllReadyS.nil
                      exact AllReadyS.nil
                    exact AllReadyS.nil
                  exact AllReadyS.nil
                exact AllReadyS.nil
              exact AllReadyS.nil
            exact AllReadyS.nil
          exact AllReadyS.nil
      · have KA := anew_bad W K hok
        have KR := fun (w : World) => ranew_bad w K hok
        have HK := Lib.hid (And.intro KA KR); clear KA KR hok hK
        go_wp2_with fail
        refine HK.out.1.mono ?_
        rintro e w1 ⟨rfl, c1⟩
        have H1 := Lib.hid c1; clear c1
        go_wp2_with fail
        refine (HK.out.2 w1).mono ?_
        rintro e w2 ⟨rfl, c2⟩
        have H2 := Lib.hid (H1.out.trans c2); clear c2 H1
        go_wp2_with fail
        refine (told_ok w2 (HA.out.2.chg H2.out (by simp))).mono ?_
        rintro e w3 ⟨rfl, c3⟩
        have H3 := Lib.hid (H2.out.trans c3); clear c3 H2
        go_wp2_with fail
        go_ret
        exact ⟨rfl, H3.out⟩
end Go.Proofs.YtmafiagakoglkaaGreatDoor
