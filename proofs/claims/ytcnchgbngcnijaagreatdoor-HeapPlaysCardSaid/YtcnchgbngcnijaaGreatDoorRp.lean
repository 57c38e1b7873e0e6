/- The document's arena (treadmillref5): the walk of Span. Printed by wip/gencat.py. -/
import Derived.Test.YtcnchgbngcnijaaGreatDoorMRl
import Derived.Test.YtcnchgbngcnijaaGreatDoorMOw
import Derived.Deep.CutBlock
namespace Go.Proofs.YtcnchgbngcnijaaGreatDoor
open Go.RowKit Go.Maps

set_option maxHeartbeats 6400000 in
set_option maxRecDepth 100000 in
theorem raspan_ok (w : World) (h : RaH) (a : Ar) (ids : List Nat) (M : RaM w h a ids) (hl : ids.length ≤ 100000) (N : Nat) (hN : N ≤ 100000) (ok : ArOk N a) (han : a.n ≤ 200) (k : Int) : Calls Tryz.prog 50 #[.pointer (some ⟨h.g, 0, none⟩), .int .i64 k] w (RspPost h a ids k w) := by
  have HM := Lib.hid (And.intro M ok); clear M ok
  go_enter Tryz.func50, Tryz.ntmps50
  go_wp2_with fail
  refine (rsize_ok w k).mono ?_
  rintro e w1 ⟨rfl, c1⟩
  by_cases hk : isK k
  · obtain ⟨q, rfl⟩ : ∃ q : Nat, k = q := ⟨k.toNat, by have := hk.1; omega⟩
    have hq : q < 16 := by have := hk.2; omega
    obtain ⟨_, _, h3, h4, h5, h6, _⟩ := kF hq
    rw [szI_nat hq]
    have hz : ((szK q : Int) == 0) = false := by rw [beq_eq_false_iff_ne]; omega
    have hz2 : (szK q == 0) = false := by rw [beq_eq_false_iff_ne]; omega
    have HC := Lib.hid (And.intro (HM.out.1.chg0 c1) c1); clear c1 hk
    go_upto_region 3 with fail
    clear hz hz2
    obtain ⟨F, hP, hF⟩ := HC.out.1.P
    have k1 : Chg [] w1 w1.drew := (Chg.refl [] w1).drew
    have b0 : w1.cell? ⟨h.g, 0, none⟩ = some (.pointer (some ⟨h.gp, 0, none⟩)) := HC.out.1.b.cellv 0 rfl
    have hga := HC.out.1.b.lt
    have hgA : h.g ∉ [h.A] := fun hm => hP.b2.ne_ HC.out.1.b (by decide) (by simpa using hm : h.g = h.A).symm
    have HP := Lib.hid (And.intro hP hF); clear hP hF
    go_cut [6, 7] from 15 to 23 (fun v v' wd => ∃ x c l' F', v = .int .i64 x ∧ v' = .int .i64 c ∧ AllocSays a.l (pgK q : Nat) x c l' ∧ SayF a.n l' F' ∧ RfA wd h.gp h.A h.c a.n F' ∧ Chg [h.A] w1 wd)
    case first =>
      go_region_held3 (fun w' => w'.cell? ⟨h.g, 0, none⟩ = some (.pointer (some ⟨h.gp, 0, none⟩))) (go_keep)
        (first
          | (go_at_call 36; refine (rpages_ok _ q hq).mono ?_; rintro e w' ⟨rfl, C⟩; have D := Chg.trans (S := []) (a := w1) (by repeat (first | assumption | exact Chg.refl [] w1 | refine Chg.drew ?_)) C; have z1 : w'.cell? ⟨h.g, 0, none⟩ = some (.pointer (some ⟨h.gp, 0, none⟩)) := D.cellv hga (by simp) b0)
          | (go_at_call 100; refine (ralloc_ok _ h.gp h.A h.c a.n F a.l (HP.out.1.chg0 (by assumption : Chg [] w1 _)) HM.out.2.ok HP.out.2 han (pgK q : Nat)).mono ?_; rintro e w' ⟨x, c, l', F', rfl, hs, hF', P', st⟩; have D2 := (Chg.mono (T := [h.A]) (by assumption : Chg [] w1 _) (by simp)).trans st; have z2 : w'.cell? ⟨h.g, 0, none⟩ = some (.pointer (some ⟨h.gp, 0, none⟩)) := D2.cellv hga hgA b0; have HA := Lib.hid (And.intro hs (And.intro hF' (And.intro P' D2))); clear hs hF' P' st D2))
      go_wp2_with fail
      go_meet
      exact ⟨_, _, _, _, rfl, rfl, HA.out⟩
    case rest =>
      obtain ⟨x, c, l', F', rfl, rfl, hs, hF', P', C2⟩ := hcut
      obtain ⟨w2, rfl⟩ : ∃ W : World, W = wc := ⟨_, rfl⟩
      have M2 := HC.out.1.pages C2 P' hF'
      have H2 := Lib.hid (And.intro M2 (And.intro hs (And.intro hF' (And.intro P' ((HC.out.2.mono (by simp)).trans C2))))); clear M2 hs hF' P' C2 HP
      by_cases hc : c = 0
      · subst hc
        obtain ⟨f, rfl⟩ : ∃ f : Nat, x = f := by
          rcases H2.out.2.1 with ⟨h1, _⟩ | ⟨_, _, _, h1, _⟩ | ⟨_, r, _, h1, _⟩
          · omega
          · omega
          · exact ⟨r.f, h1⟩
        have hf : 1 ≤ f ∧ f ≤ 262144 := by
          rcases H2.out.2.1 with ⟨_, h1, h2, _⟩ | ⟨_, _, _, h2, _⟩ | ⟨_, r, hr, h1, _⟩
          · omega
          · omega
          · have hb := HM.out.2.ok.bd r hr.1
            have h2 := hr.2.1
            rw [Int.toNat_natCast] at h2
            omega
        have hf1 := hf.1
        have hf2 := hf.2
        clear hf
        go_wp2_with fail
        go_loopg [8] (N + 1) (fun gk idx wr => RspR1 w2 a N gk idx wr)
        case atStart => exact ⟨0, by omega, by omega, rfl, by intro j hj; omega, rfl⟩
        case round =>
          obtain ⟨id, hgk, hiN, rfl, hall, rfl⟩ := hrel
          have HX := Lib.hid hall; clear hall
          go_wp2_with fail
          refine (rafind_ok wr h { a with l := l' } ids H2.out.1 hl (id : Nat)).mono ?_
          rintro e w3 ⟨r, hr, rfl, rfl⟩
          rcases H2.out.1.find hr with ⟨rfl, hno⟩ | ⟨j, id', s, rfl, hj, hid', hsp, hx⟩
          · have hnone : a.sp id = none := by
              have h1 := hno
              unfold spI at h1
              rw [if_pos (by omega), Int.toNat_natCast] at h1
              exact h1
            have HY := Lib.hid (And.intro hnone hr); clear hnone hno hr hgk
            go_upto_block 2 with fail
            have b1 : w3.cell? ⟨h.g, 1, none⟩ = some h.vi := H2.out.1.b.cellv 1 rfl
            obtain ⟨Ai, ci, hvi⟩ := H2.out.1.i.slice
            have hlen : (intsN ids).length = ids.length := by unfold intsN; rw [List.length_map]
            rw [hlen] at hvi
            have Mi := H2.out.1.i
            rw [hvi] at b1 Mi
            obtain ⟨n, hn⟩ : ∃ n, n = ids.length := ⟨_, rfl⟩
            have hln : n ≤ 100000 := by rw [hn]; exact hl
            rw [← hn] at b1
            have HI := Lib.hid (And.intro Mi hn); clear Mi hvi hlen hn
            have hn2 : ids.length = n := HI.out.2.symm
            have HN := Lib.hid hn2; clear hn2
            go_cut [9] from 33 to 52 (fun v wd => ∃ i : Nat, v = .int .i64 (i : Nat) ∧ i ≤ n ∧ ((∀ y ∈ ids.take i, y < id) ∧ ∀ y ∈ ids.drop i, id < y) ∧ wd = w3)
            case first =>
              go_wp2_with fail
              go_loopg [9] (n + 1) (fun gk idx wr => RspR2 w3 ids id gk idx wr)
              case atStart => exact ⟨0, by have := HN.out; omega, by omega, rfl, by intro j y hj; omega, rfl⟩
              case round =>
                obtain ⟨i, hgk, hin, rfl, hlow, rfl⟩ := hrel
                rw [HN.out] at hgk hin
                have HL := Lib.hid hlow; clear hlow
                by_cases hlt : i < n
                · obtain ⟨y, hy⟩ : ∃ y, ids[i]? = some y := ⟨_, List.getElem?_eq_getElem (by rw [HN.out]; exact hlt)⟩
                  have hz : (intsN ids)[i]? = some (y : Int) := by unfold intsN; rw [List.getElem?_map, hy]; rfl
                  obtain ⟨g, rfl, q1, -, -⟩ := HI.out.1.cell hz
                  have hi' : (i : Int) < (n : Int) := by omega
                  have hi0 : (0 : Int) ≤ (i : Int) := by omega
                  have HZ := Lib.hid hy; clear hy hz
                  by_cases hyid : y < id
                  · have hy' : (y : Int) < (id : Int) := by omega
                    go_wp2_with fail
                    go_roundg (n - i)
                    case measure => omega
                    case rel => exact ⟨i + 1, by rw [HN.out]; omega, by rw [HN.out]; omega, by go_num, fun j y' hj hj' => by
                      by_cases e2 : j = i
                      · subst e2
                        rw [HZ.out] at hj'
                        cases hj'
                        exact hyid
                      · exact HL.out j y' (by omega) hj', rfl⟩
                  · have hy' : decide ((y : Int) < (id : Int)) = false := decide_eq_false (by omega)
                    have hy2 : decide (y < id) = false := decide_eq_false (by omega)
                    have hsplit := ids_split H2.out.1.rise (by rw [HN.out]; exact hin) HL.out (fun y' hy' => by rw [HZ.out] at hy'; cases hy'; omega) (fun hm => by
                      have h1 := (H2.out.1.mem id).1 hm
                      have h2 : ({ a with l := l' } : Ar).sp id = none := HY.out.1
                      rw [h2] at h1; cases h1)
                    have HS := Lib.hid hsplit; clear hsplit hyid
                    go_wp2_with fail
                    go_meet
                    exact ⟨i, rfl, hin, HS.out, rfl⟩
                · obtain rfl : i = n := by omega
                  have hi' : decide ((i : Int) < (i : Int)) = false := decide_eq_false (by omega)
                  have hsplit := ids_split H2.out.1.rise (by rw [HN.out]; exact hin) HL.out (fun y' hy' => by
                    have h1 := (List.getElem?_eq_some_iff.1 hy').1
                    rw [HN.out] at h1; omega) (fun hm => by
                      have h1 := (H2.out.1.mem id).1 hm
                      have h2 : ({ a with l := l' } : Ar).sp id = none := HY.out.1
                      rw [h2] at h1; cases h1)
                  have HS := Lib.hid hsplit; clear hsplit
                  go_wp2_with fail
                  go_meet
                  exact ⟨i, rfl, hin, HS.out, rfl⟩
            case rest =>
              obtain ⟨i, rfl, hin, hsplit, rfl⟩ := hcut
              have HS := Lib.hid hsplit; clear hsplit
              go_wp2_with fail
              refine (rsnew_ok wc f q hq hf1 hf2).mono ?_
              rintro e w5 ⟨b, rfl, I5, c5, fb⟩
              have B := (H2.out.1.chg0 c5).b
              have H5 := Lib.hid (And.intro I5 (And.intro c5 fb)); clear I5 c5 fb
              replace B := Lib.hid B
              have hlenI := HN
              have M5 := Lib.hid (H2.out.1.chg0 H5.out.2.1)
              clear b1
              go_upto_region 13 with fail
              go_cut [] from 56 to 76 (fun wd => CatPost 3 w5 h.g 40 #[.pointer (some ⟨h.gp, 0, none⟩), h.vi, h.vs, h.vl, .map (some h.bw)] 1 (insT i (.int .i64 (id : Nat)) ((intsN ids).map (Value.int .i64))) wd)
              case first =>
                have one : ∀ y ∈ ((intsN ids).map (Value.int .i64)), y.oneCell' = true := fun y hy => by
                  obtain ⟨_, _, rfl⟩ := List.mem_map.1 hy
                  rfl
                have hlen : (((intsN ids).map (Value.int .i64))).length = n := by unfold intsN; rw [List.length_map, List.length_map]; exact hlenI.out
                have hle : i ≤ (((intsN ids).map (Value.int .i64))).length := by rw [hlen]; exact hin
                have hle3 : i ≤ (((intsN ids).map (Value.int .i64))).length := by rw [hlen]; exact hin
                obtain ⟨Af, cf, hvf⟩ := (M5.out.i.v).slice
                have Of := M5.out.i.v
                rw [hlen] at hvf
                rw [hvf] at Of
                have bF := B.out.cellv 1 rfl
                rw [hvf] at bF
                have hcap0 := Of.capN
                rw [hlen] at hcap0
                have hcap : i ≤ cf := Nat.le_trans hin hcap0
                have hdle : i ≤ n := hin
                have hgW := B.out.lt
                have U1 := rd_take Of one hle
                have U3 := rd_drop Of one hle3
                obtain ⟨u1, hu1⟩ : ∃ u, u = sliced Af 0 i cf 1 := ⟨_, rfl⟩
                obtain ⟨u3, hu3⟩ : ∃ u, u = sliced Af i n cf 1 := ⟨_, rfl⟩
                rw [← hu1] at U1
                rw [← hu3] at U3
                have U1 := Lib.hid U1
                have U3 := Lib.hid U3
                have Hu1 := Lib.hid hu1
                have Hu3 := Lib.hid hu3
                clear Of one hle hle3 hvf hu1 hu3
                refine wp_region_takes (fuel := 8) 19 (fun w' => Chg [] w5 w') [0, 2, 3, 4, 5, 6, 7, 9, 12, 13, 14, 15, 16, 17] (by kernel_rfl) (by kernel_rfl) (fun _ _ _ _ _ h => h) ((Chg.refl [] w5).drew) ?_
                simp only [List.filterMap_cons, List.filterMap_nil, List.getElem?_cons_zero, List.getElem?_cons_succ]
                iterate 6
                  refine wpTake_step (fun K hK => ?_)
                  rw [if_pos (by rfl)]
                  refine ⟨?_, fun w' hS' => ?_, ?_⟩
                  rotate_left 1
                  focus
                    have yF := hS'.cellv hgW (by simp) bF
                    go_simp
                    try with_reducible rfl
                    done
                  simp only [Act.put, List.setIfInBounds_toArray, List.set_cons_zero, List.set_cons_succ]
                  refine hK _ ?_
                  clear hK K
                refine wpTake_step (fun K hK => ?_)
                rw [if_pos (by rfl)]
                refine ⟨u1, fun w' _ => ?_, ?_⟩
                focus (rw [Hu1.out]; exact run_take_v slvI _ _ (by rfl) (by rfl) (by rfl) hcap)
                simp only [Act.put, List.setIfInBounds_toArray, List.set_cons_zero, List.set_cons_succ]
                refine hK _ ?_
                clear hK K
                iterate 6
                  refine wpTake_step (fun K hK => ?_)
                  rw [if_pos (by rfl)]
                  refine ⟨?_, fun w' hS' => ?_, ?_⟩
                  rotate_left 1
                  focus
                    have yF := hS'.cellv hgW (by simp) bF
                    go_simp
                    try with_reducible rfl
                    done
                  simp only [Act.put, List.setIfInBounds_toArray, List.set_cons_zero, List.set_cons_succ]
                  refine hK _ ?_
                  clear hK K
                refine wpTake_step (fun K hK => ?_)
                rw [if_pos (by rfl)]
                refine ⟨u3, fun w' _ => ?_, ?_⟩
                focus (rw [Hu3.out]; exact run_drop_v slvI _ _ (by rfl) (by rfl) (by rfl) hdle)
                simp only [Act.put, List.setIfInBounds_toArray, List.set_cons_zero, List.set_cons_succ]
                refine hK _ ?_
                clear hK K
                refine wpTake_nil ?_
                generalize hx0 : w5.drew = x0
                have D0 : Chg [] w5 x0 := by rw [← hx0]; exact (Chg.refl [] w5).drew
                clear hx0
                refine wpAnyS_ready (rs := [1, 10]) (by kernel_rfl) (by simp) ?_
                refine AllReadyS.cons (by simp only [List.getElem?_toArray, List.getElem?_cons_zero, List.getElem?_cons_succ]; rfl) (fun K hK => ?_) ?_
                · refine step_lit0 slvI (by rfl) (by rfl) ?_
                  intro v1 x1 O1 c1 F1
                  have D1 := D0.trans c1
                  have G1 := F1
                  replace F1 : ∀ j ∈ fpv v1, w5.heap.size ≤ j := fun j hj => Nat.le_trans D0.size (G1 j hj)
                  refine hK _ _ (D1) ?_
                  clear hK K
                  try simp only [Act.put, List.setIfInBounds_toArray, List.set_cons_zero, List.set_cons_succ]
                  refine wpAnyS_ready (rs := [8, 10]) (by kernel_rfl) (by simp) ?_
                  refine AllReadyS.cons (by simp only [List.getElem?_toArray, List.getElem?_cons_zero, List.getElem?_cons_succ]; rfl) (fun K hK => ?_) ?_
                  · refine step_cat_f (W := w5) i (by simp only [List.length_append, List.length_nil, List.length_take, List.length_drop, List.length_singleton, List.length_cons]; omega) (by rfl) _ _ (by rfl) slvI (by rfl) O1 D1 F1 (by rfl) (U1.out.chg D1 (Nat.le_refl _) (by simp)) (by omega) ?_
                    intro v2 x2 O2 c2 D2 P2 F2
                    refine hK _ _ (D2) ?_
                    clear hK K
                    try simp only [Act.put, List.setIfInBounds_toArray, List.set_cons_zero, List.set_cons_succ]
                    refine wpAnyS_ready (rs := [10]) (by kernel_rfl) (by simp) ?_
                    refine AllReadyS.one (by simp only [List.getElem?_toArray, List.getElem?_cons_zero, List.getElem?_cons_succ]; rfl) (fun K hK => ?_)
                    refine step_lit1 (x := (.int .i64 (id : Nat))) slvI (by rfl) (by rfl) (by rfl) (by rfl) ?_
                    intro b1 x3 X3 c3 hb1
                    have D3 := D2.trans c3
                    have N3 : b1 ∉ fpv v2 := fun hm => by have h1 := O2.lt hm; omega
                    have O3 := O2.chg0 c3
                    have F3 := F2
                    refine hK _ _ (D3) ?_
                    clear hK K
                    try simp only [Act.put, List.setIfInBounds_toArray, List.set_cons_zero, List.set_cons_succ]
                    refine wpAnyS_ready (rs := [11]) (by kernel_rfl) (by simp) ?_
                    refine AllReadyS.one (by simp only [List.getElem?_toArray, List.getElem?_cons_zero, List.getElem?_cons_succ]; rfl) (fun K hK => ?_)
                    refine step_cat_f (W := w5) (i + 1) (by simp only [List.length_append, List.length_nil, List.length_take, List.length_drop, List.length_singleton, List.length_cons]; omega) (by rfl) _ _ (by rfl) slvI (by rfl) O3 D3 F3 (by rfl) (RdV.one_ X3 rfl) (by omega) ?_
                    intro v4 x4 O4 c4 D4 P4 F4
                    refine hK _ _ (D4) ?_
                    clear hK K
                    try simp only [Act.put, List.setIfInBounds_toArray, List.set_cons_zero, List.set_cons_succ]
                    refine wpAnyS_ready (rs := [18]) (by kernel_rfl) (by simp) ?_
                    refine AllReadyS.one (by simp only [List.getElem?_toArray, List.getElem?_cons_zero, List.getElem?_cons_succ]; rfl) (fun K hK => ?_)
                    refine step_cat_f (W := w5) (n + 1) (by simp only [List.length_append, List.length_nil, List.length_take, List.length_drop, List.length_singleton, List.length_cons]; omega) (by rfl) _ _ (by rfl) slvI (by rfl) O4 D4 F4 (by rfl) (U3.out.chg D4 (Nat.le_refl _) (by simp)) (by omega) ?_
                    intro v5 x5 O5 c5 D5 P5 F5
                    refine hK _ _ (D5) ?_
                    clear hK K
                    try simp only [Act.put, List.setIfInBounds_toArray, List.set_cons_zero, List.set_cons_succ]
                    refine wpAnyS_tail 19 3 (by kernel_rfl) rfl ?_
                    simp only [List.drop_succ_cons, List.drop_zero]
                    have O9 := O5
                    rw [List.nil_append] at O9
                    obtain ⟨A9, c9, e8⟩ := O9.slice
                    obtain ⟨N9, e9⟩ : ∃ N9, v5 = .slice A9 N9 c9 := ⟨_, e8⟩
                    clear e8
                    have yF := D5.cellv hgW (by simp) bF
                    have zF := (D5.blk B.out (by simp)).frozen 1
                    have HF9 := Lib.hid (And.intro O9 (And.intro D5 F5))
                    clear O9 D0 D1 D2 D3 D4 D5
                    subst e9
                    go_wp2_with fail
                    go_meet
                    exact cat_done B.out HF9.out.2.1 HF9.out.1 HF9.out.2.2
                  refine AllReadyS.one (by simp only [List.getElem?_toArray, List.getElem?_cons_zero, List.getElem?_cons_succ]; rfl) (fun K hK => ?_)
                  refine step_lit1 (x := (.int .i64 (id : Nat))) slvI (by rfl) (by rfl) (by rfl) (by rfl) ?_
                  intro b1 x2 X2 c2 hb1
                  have D2 := D1.trans c2
                  have N2 : b1 ∉ fpv v1 := fun hm => by have h1 := O1.lt hm; omega
                  have O2 := O1.chg0 c2
                  have F2 := F1
                  refine hK _ _ (D2) ?_
                  clear hK K
                  try simp only [Act.put, List.setIfInBounds_toArray, List.set_cons_zero, List.set_cons_succ]
                  refine wpAnyS_ready (rs := [8]) (by kernel_rfl) (by simp) ?_
                  refine AllReadyS.one (by simp only [List.getElem?_toArray, List.getElem?_cons_zero, List.getElem?_cons_succ]; rfl) (fun K hK => ?_)
                  refine step_cat_f (W := w5) i (by simp only [List.length_append, List.length_nil, List.length_take, List.length_drop, List.length_singleton, List.length_cons]; omega) (by rfl) _ _ (by rfl) slvI (by rfl) O2 D2 F2 (by rfl) (U1.out.chg D2 (Nat.le_refl _) (by simp)) (by omega) ?_
                  intro v3 x3 O3 c3 D3 P3 F3
                  have N3 : b1 ∉ fpv v3 := fun hm => (P3 _ hm).elim N2 (fun h1 => by have h2 := X2.lt; omega)
                  have X3 := c3.blk X2 N2
                  refine hK _ _ (D3) ?_
                  clear hK K
                  try simp only [Act.put, List.setIfInBounds_toArray, List.set_cons_zero, List.set_cons_succ]
                  refine wpAnyS_ready (rs := [11]) (by kernel_rfl) (by simp) ?_
                  refine AllReadyS.one (by simp only [List.getElem?_toArray, List.getElem?_cons_zero, List.getElem?_cons_succ]; rfl) (fun K hK => ?_)
                  refine step_cat_f (W := w5) (i + 1) (by simp only [List.length_append, List.length_nil, List.length_take, List.length_drop, List.length_singleton, List.length_cons]; omega) (by rfl) _ _ (by rfl) slvI (by rfl) O3 D3 F3 (by rfl) (RdV.one_ X3 rfl) (by omega) ?_
                  intro v4 x4 O4 c4 D4 P4 F4
                  refine hK _ _ (D4) ?_
                  clear hK K
                  try simp only [Act.put, List.setIfInBounds_toArray, List.set_cons_zero, List.set_cons_succ]
                  refine wpAnyS_ready (rs := [18]) (by kernel_rfl) (by simp) ?_
                  refine AllReadyS.one (by simp only [List.getElem?_toArray, List.getElem?_cons_zero, List.getElem?_cons_succ]; rfl) (fun K hK => ?_)
                  refine step_cat_f (W := w5) (n + 1) (by simp only [List.length_append, List.length_nil, List.length_take, List.length_drop, List.length_singleton, List.length_cons]; omega) (by rfl) _ _ (by rfl) slvI (by rfl) O4 D4 F4 (by rfl) (U3.out.chg D4 (Nat.le_refl _) (by simp)) (by omega) ?_
                  intro v5 x5 O5 c5 D5 P5 F5
                  refine hK _ _ (D5) ?_
                  clear hK K
                  try simp only [Act.put, List.setIfInBounds_toArray, List.set_cons_zero, List.set_cons_succ]
                  refine wpAnyS_tail 19 3 (by kernel_rfl) rfl ?_
                  simp only [List.drop_succ_cons, List.drop_zero]
                  have O9 := O5
                  rw [List.nil_append] at O9
                  obtain ⟨A9, c9, e8⟩ := O9.slice
                  obtain ⟨N9, e9⟩ : ∃ N9, v5 = .slice A9 N9 c9 := ⟨_, e8⟩
                  clear e8
                  have yF := D5.cellv hgW (by simp) bF
                  have zF := (D5.blk B.out (by simp)).frozen 1
                  have HF9 := Lib.hid (And.intro O9 (And.intro D5 F5))
                  clear O9 D0 D1 D2 D3 D4 D5
                  subst e9
                  go_wp2_with fail
                  go_meet
                  exact cat_done B.out HF9.out.2.1 HF9.out.1 HF9.out.2.2
                refine AllReadyS.one (by simp only [List.getElem?_toArray, List.getElem?_cons_zero, List.getElem?_cons_succ]; rfl) (fun K hK => ?_)
                refine step_lit1 (x := (.int .i64 (id : Nat))) slvI (by rfl) (by rfl) (by rfl) (by rfl) ?_
                intro b1 x1 X1 c1 hb1
                have D1 := D0.trans c1
                refine hK _ _ (D1) ?_
                clear hK K
                try simp only [Act.put, List.setIfInBounds_toArray, List.set_cons_zero, List.set_cons_succ]
                refine wpAnyS_ready (rs := [1]) (by kernel_rfl) (by simp) ?_
                refine AllReadyS.one (by simp only [List.getElem?_toArray, List.getElem?_cons_zero, List.getElem?_cons_succ]; rfl) (fun K hK => ?_)
                refine step_lit0 slvI (by rfl) (by rfl) ?_
                intro v2 x2 O2 c2 F2
                have D2 := D1.trans c2
                have G2 := F2
                replace F2 : ∀ j ∈ fpv v2, w5.heap.size ≤ j := fun j hj => Nat.le_trans D1.size (G2 j hj)
                have N2 : b1 ∉ fpv v2 := fun hm => by have h1 := G2 _ hm; have h2 := X1.lt; omega
                have X2 := c2.blk X1 (by simp)
                refine hK _ _ (D2) ?_
                clear hK K
                try simp only [Act.put, List.setIfInBounds_toArray, List.set_cons_zero, List.set_cons_succ]
                refine wpAnyS_ready (rs := [8]) (by kernel_rfl) (by simp) ?_
                refine AllReadyS.one (by simp only [List.getElem?_toArray, List.getElem?_cons_zero, List.getElem?_cons_succ]; rfl) (fun K hK => ?_)
                refine step_cat_f (W := w5) i (by simp only [List.length_append, List.length_nil, List.length_take, List.length_drop, List.length_singleton, List.length_cons]; omega) (by rfl) _ _ (by rfl) slvI (by rfl) O2 D2 F2 (by rfl) (U1.out.chg D2 (Nat.le_refl _) (by simp)) (by omega) ?_
                intro v3 x3 O3 c3 D3 P3 F3
                have N3 : b1 ∉ fpv v3 := fun hm => (P3 _ hm).elim N2 (fun h1 => by have h2 := X2.lt; omega)
                have X3 := c3.blk X2 N2
                refine hK _ _ (D3) ?_
                clear hK K
                try simp only [Act.put, List.setIfInBounds_toArray, List.set_cons_zero, List.set_cons_succ]
                refine wpAnyS_ready (rs := [11]) (by kernel_rfl) (by simp) ?_
                refine AllReadyS.one (by simp only [List.getElem?_toArray, List.getElem?_cons_zero, List.getElem?_cons_succ]; rfl) (fun K hK => ?_)
                refine step_cat_f (W := w5) (i + 1) (by simp only [List.length_append, List.length_nil, List.length_take, List.length_drop, List.length_singleton, List.length_cons]; omega) (by rfl) _ _ (by rfl) slvI (by rfl) O3 D3 F3 (by rfl) (RdV.one_ X3 rfl) (by omega) ?_
                intro v4 x4 O4 c4 D4 P4 F4
                refine hK _ _ (D4) ?_
                clear hK K
                try simp only [Act.put, List.setIfInBounds_toArray, List.set_cons_zero, List.set_cons_succ]
                refine wpAnyS_ready (rs := [18]) (by kernel_rfl) (by simp) ?_
                refine AllReadyS.one (by simp only [List.getElem?_toArray, List.getElem?_cons_zero, List.getElem?_cons_succ]; rfl) (fun K hK => ?_)
                refine step_cat_f (W := w5) (n + 1) (by simp only [List.length_append, List.length_nil, List.length_take, List.length_drop, List.length_singleton, List.length_cons]; omega) (by rfl) _ _ (by rfl) slvI (by rfl) O4 D4 F4 (by rfl) (U3.out.chg D4 (Nat.le_refl _) (by simp)) (by omega) ?_
                intro v5 x5 O5 c5 D5 P5 F5
                refine hK _ _ (D5) ?_
                clear hK K
                try simp only [Act.put, List.setIfInBounds_toArray, List.set_cons_zero, List.set_cons_succ]
                refine wpAnyS_tail 19 3 (by kernel_rfl) rfl ?_
                simp only [List.drop_succ_cons, List.drop_zero]
                have O9 := O5
                rw [List.nil_append] at O9
                obtain ⟨A9, c9, e8⟩ := O9.slice
                obtain ⟨N9, e9⟩ : ∃ N9, v5 = .slice A9 N9 c9 := ⟨_, e8⟩
                clear e8
                have yF := D5.cellv hgW (by simp) bF
                have zF := (D5.blk B.out (by simp)).frozen 1
                have HF9 := Lib.hid (And.intro O9 (And.intro D5 F5))
                clear O9 D0 D1 D2 D3 D4 D5
                subst e9
                go_wp2_with fail
                go_meet
                exact cat_done B.out HF9.out.2.1 HF9.out.1 HF9.out.2.2
              case rest =>
                obtain ⟨vi, Oi, fi, B6, c6⟩ := hcut
                obtain ⟨w6, rfl⟩ : ∃ W : World, W = wc := ⟨_, rfl⟩
                clear B
                have B := Lib.hid (show Blk w6 h.g 40 #[.pointer (some ⟨h.gp, 0, none⟩), vi, h.vs, h.vl, .map (some h.bw)] from B6)
                have OS6 := M5.out.s.chg c6 (fun k hk hm => M5.out.s.ne_blk M5.out.b (by decide) ((show k = h.g by simpa using hm) ▸ hk))
                have OL6 := M5.out.l.chg c6 (fun k hk hm => M5.out.l.ne_blk M5.out.b (by decide) ((show k = h.g by simpa using hm) ▸ hk))
                have hgb : ∀ k ∈ b.l, k ∉ [h.g] := fun k hk hm => by
                  have h1 := H5.out.2.2 k hk
                  have h2 := H2.out.1.b.lt
                  have h3 : k = h.g := by simpa using hm
                  rw [h3] at h1
                  exact absurd h2 (Nat.not_lt.2 h1)
                have I6 := H5.out.1.chg c6 hgb
                have H6 := Lib.hid (And.intro Oi (And.intro fi (And.intro c6 (And.intro I6 OL6)))); clear Oi fi c6 I6 OL6 B6
                have HB := Lib.hid hgb; clear hgb
                have OS6 := Lib.hid OS6
                go_upto_region 14 with fail
                go_cut [] from 77 to 97 (fun wd => CatPost 97 w6 h.g 40 #[.pointer (some ⟨h.gp, 0, none⟩), vi, h.vs, h.vl, .map (some h.bw)] 2 (insT i (.pointer (some ⟨b.g, 0, none⟩)) (ids.map (raP h))) wd)
                case first =>
                  have one : ∀ y ∈ (ids.map (raP h)), y.oneCell' = true := fun y hy => by
                    obtain ⟨_, _, rfl⟩ := List.mem_map.1 hy
                    rfl
                  have hlen : ((ids.map (raP h))).length = n := by rw [List.length_map]; exact hlenI.out
                  have hle : i ≤ ((ids.map (raP h))).length := by rw [hlen]; exact hin
                  have hle3 : i ≤ ((ids.map (raP h))).length := by rw [hlen]; exact hin
                  obtain ⟨Af, cf, hvf⟩ := (OS6.out).slice
                  have Of := OS6.out
                  rw [hlen] at hvf
                  rw [hvf] at Of
                  have bF := B.out.cellv 2 rfl
                  rw [hvf] at bF
                  have hcap0 := Of.capN
                  rw [hlen] at hcap0
                  have hcap : i ≤ cf := Nat.le_trans hin hcap0
                  have hdle : i ≤ n := hin
                  have hgW := B.out.lt
                  have U1 := rd_take Of one hle
                  have U3 := rd_drop Of one hle3
                  obtain ⟨u1, hu1⟩ : ∃ u, u = sliced Af 0 i cf 1 := ⟨_, rfl⟩
                  obtain ⟨u3, hu3⟩ : ∃ u, u = sliced Af i n cf 1 := ⟨_, rfl⟩
                  rw [← hu1] at U1
                  rw [← hu3] at U3
                  have U1 := Lib.hid U1
                  have U3 := Lib.hid U3
                  have Hu1 := Lib.hid hu1
                  have Hu3 := Lib.hid hu3
                  clear Of one hle hle3 hvf hu1 hu3
                  refine wp_region_takes (fuel := 8) 19 (fun w' => Chg [] w6 w') [0, 2, 3, 4, 5, 6, 7, 9, 12, 13, 14, 15, 16, 17] (by kernel_rfl) (by kernel_rfl) (fun _ _ _ _ _ h => h) ((Chg.refl [] w6).drew) ?_
                  simp only [List.filterMap_cons, List.filterMap_nil, List.getElem?_cons_zero, List.getElem?_cons_succ]
                  iterate 6
                    refine wpTake_step (fun K hK => ?_)
                    rw [if_pos (by rfl)]
                    refine ⟨?_, fun w' hS' => ?_, ?_⟩
                    rotate_left 1
                    focus
                      have yF := hS'.cellv hgW (by simp) bF
                      go_simp
                      try with_reducible rfl
                      done
                    simp only [Act.put, List.setIfInBounds_toArray, List.set_cons_zero, List.set_cons_succ]
                    refine hK _ ?_
                    clear hK K
                  refine wpTake_step (fun K hK => ?_)
                  rw [if_pos (by rfl)]
                  refine ⟨u1, fun w' _ => ?_, ?_⟩
                  focus (rw [Hu1.out]; exact run_take_v slvS _ _ (by rfl) (by rfl) (by rfl) hcap)
                  simp only [Act.put, List.setIfInBounds_toArray, List.set_cons_zero, List.set_cons_succ]
                  refine hK _ ?_
                  clear hK K
                  iterate 6
                    refine wpTake_step (fun K hK => ?_)
                    rw [if_pos (by rfl)]
                    refine ⟨?_, fun w' hS' => ?_, ?_⟩
                    rotate_left 1
                    focus
                      have yF := hS'.cellv hgW (by simp) bF
                      go_simp
                      try with_reducible rfl
                      done
                    simp only [Act.put, List.setIfInBounds_toArray, List.set_cons_zero, List.set_cons_succ]
                    refine hK _ ?_
                    clear hK K
                  refine wpTake_step (fun K hK => ?_)
                  rw [if_pos (by rfl)]
                  refine ⟨u3, fun w' _ => ?_, ?_⟩
                  focus (rw [Hu3.out]; exact run_drop_v slvS _ _ (by rfl) (by rfl) (by rfl) hdle)
                  simp only [Act.put, List.setIfInBounds_toArray, List.set_cons_zero, List.set_cons_succ]
                  refine hK _ ?_
                  clear hK K
                  refine wpTake_nil ?_
                  generalize hx0 : w6.drew = x0
                  have D0 : Chg [] w6 x0 := by rw [← hx0]; exact (Chg.refl [] w6).drew
                  clear hx0
                  refine wpAnyS_ready (rs := [1, 10]) (by kernel_rfl) (by simp) ?_
                  refine AllReadyS.cons (by simp only [List.getElem?_toArray, List.getElem?_cons_zero, List.getElem?_cons_succ]; rfl) (fun K hK => ?_) ?_
                  · refine step_lit0 slvS (by rfl) (by rfl) ?_
                    intro v1 x1 O1 c1 F1
                    have D1 := D0.trans c1
                    have G1 := F1
                    replace F1 : ∀ j ∈ fpv v1, w6.heap.size ≤ j := fun j hj => Nat.le_trans D0.size (G1 j hj)
                    refine hK _ _ (D1) ?_
                    clear hK K
                    try simp only [Act.put, List.setIfInBounds_toArray, List.set_cons_zero, List.set_cons_succ]
                    refine wpAnyS_ready (rs := [8, 10]) (by kernel_rfl) (by simp) ?_
                    refine AllReadyS.cons (by simp only [List.getElem?_toArray, List.getElem?_cons_zero, List.getElem?_cons_succ]; rfl) (fun K hK => ?_) ?_
                    · refine step_cat_f (W := w6) i (by simp only [List.length_append, List.length_nil, List.length_take, List.length_drop, List.length_singleton, List.length_cons]; omega) (by rfl) _ _ (by rfl) slvS (by rfl) O1 D1 F1 (by rfl) (U1.out.chg D1 (Nat.le_refl _) (by simp)) (by omega) ?_
                      intro v2 x2 O2 c2 D2 P2 F2
                      refine hK _ _ (D2) ?_
                      clear hK K
                      try simp only [Act.put, List.setIfInBounds_toArray, List.set_cons_zero, List.set_cons_succ]
                      refine wpAnyS_ready (rs := [10]) (by kernel_rfl) (by simp) ?_
                      refine AllReadyS.one (by simp only [List.getElem?_toArray, List.getElem?_cons_zero, List.getElem?_cons_succ]; rfl) (fun K hK => ?_)
                      refine step_lit1 (x := (.pointer (some ⟨b.g, 0, none⟩))) slvS (by rfl) (by rfl) (by rfl) (by rfl) ?_
                      intro b1 x3 X3 c3 hb1
                      have D3 := D2.trans c3
                      have N3 : b1 ∉ fpv v2 := fun hm => by have h1 := O2.lt hm; omega
                      have O3 := O2.chg0 c3
                      have F3 := F2
                      refine hK _ _ (D3) ?_
                      clear hK K
                      try simp only [Act.put, List.setIfInBounds_toArray, List.set_cons_zero, List.set_cons_succ]
                      refine wpAnyS_ready (rs := [11]) (by kernel_rfl) (by simp) ?_
                      refine AllReadyS.one (by simp only [List.getElem?_toArray, List.getElem?_cons_zero, List.getElem?_cons_succ]; rfl) (fun K hK => ?_)
                      refine step_cat_f (W := w6) (i + 1) (by simp only [List.length_append, List.length_nil, List.length_take, List.length_drop, List.length_singleton, List.length_cons]; omega) (by rfl) _ _ (by rfl) slvS (by rfl) O3 D3 F3 (by rfl) (RdV.one_ X3 rfl) (by omega) ?_
                      intro v4 x4 O4 c4 D4 P4 F4
                      refine hK _ _ (D4) ?_
                      clear hK K
                      try simp only [Act.put, List.setIfInBounds_toArray, List.set_cons_zero, List.set_cons_succ]
                      refine wpAnyS_ready (rs := [18]) (by kernel_rfl) (by simp) ?_
                      refine AllReadyS.one (by simp only [List.getElem?_toArray, List.getElem?_cons_zero, List.getElem?_cons_succ]; rfl) (fun K hK => ?_)
                      refine step_cat_f (W := w6) (n + 1) (by simp only [List.length_append, List.length_nil, List.length_take, List.length_drop, List.length_singleton, List.length_cons]; omega) (by rfl) _ _ (by rfl) slvS (by rfl) O4 D4 F4 (by rfl) (U3.out.chg D4 (Nat.le_refl _) (by simp)) (by omega) ?_
                      intro v5 x5 O5 c5 D5 P5 F5
                      refine hK _ _ (D5) ?_
                      clear hK K
                      try simp only [Act.put, List.setIfInBounds_toArray, List.set_cons_zero, List.set_cons_succ]
                      refine wpAnyS_tail 19 3 (by kernel_rfl) rfl ?_
                      simp only [List.drop_succ_cons, List.drop_zero]
                      have O9 := O5
                      rw [List.nil_append] at O9
                      obtain ⟨A9, c9, e8⟩ := O9.slice
                      obtain ⟨N9, e9⟩ : ∃ N9, v5 = .slice A9 N9 c9 := ⟨_, e8⟩
                      clear e8
                      have yF := D5.cellv hgW (by simp) bF
                      have zF := (D5.blk B.out (by simp)).frozen 2
                      have HF9 := Lib.hid (And.intro O9 (And.intro D5 F5))
                      clear O9 D0 D1 D2 D3 D4 D5
                      subst e9
                      go_wp2_with fail
                      go_meet
                      exact cat_done B.out HF9.out.2.1 HF9.out.1 HF9.out.2.2
                    refine AllReadyS.one (by simp only [List.getElem?_toArray, List.getElem?_cons_zero, List.getElem?_cons_succ]; rfl) (fun K hK => ?_)
                    refine step_lit1 (x := (.pointer (some ⟨b.g, 0, none⟩))) slvS (by rfl) (by rfl) (by rfl) (by rfl) ?_
                    intro b1 x2 X2 c2 hb1
                    have D2 := D1.trans c2
                    have N2 : b1 ∉ fpv v1 := fun hm => by have h1 := O1.lt hm; omega
                    have O2 := O1.chg0 c2
                    have F2 := F1
                    refine hK _ _ (D2) ?_
                    clear hK K
                    try simp only [Act.put, List.setIfInBounds_toArray, List.set_cons_zero, List.set_cons_succ]
                    refine wpAnyS_ready (rs := [8]) (by kernel_rfl) (by simp) ?_
                    refine AllReadyS.one (by simp only [List.getElem?_toArray, List.getElem?_cons_zero, List.getElem?_cons_succ]; rfl) (fun K hK => ?_)
                    refine step_cat_f (W := w6) i (by simp only [List.length_append, List.length_nil, List.length_take, List.length_drop, List.length_singleton, List.length_cons]; omega) (by rfl) _ _ (by rfl) slvS (by rfl) O2 D2 F2 (by rfl) (U1.out.chg D2 (Nat.le_refl _) (by simp)) (by omega) ?_
                    intro v3 x3 O3 c3 D3 P3 F3
                    have N3 : b1 ∉ fpv v3 := fun hm => (P3 _ hm).elim N2 (fun h1 => by have h2 := X2.lt; omega)
                    have X3 := c3.blk X2 N2
                    refine hK _ _ (D3) ?_
                    clear hK K
                    try simp only [Act.put, List.setIfInBounds_toArray, List.set_cons_zero, List.set_cons_succ]
                    refine wpAnyS_ready (rs := [11]) (by kernel_rfl) (by simp) ?_
                    refine AllReadyS.one (by simp only [List.getElem?_toArray, List.getElem?_cons_zero, List.getElem?_cons_succ]; rfl) (fun K hK => ?_)
                    refine step_cat_f (W := w6) (i + 1) (by simp only [List.length_append, List.length_nil, List.length_take, List.length_drop, List.length_singleton, List.length_cons]; omega) (by rfl) _ _ (by rfl) slvS (by rfl) O3 D3 F3 (by rfl) (RdV.one_ X3 rfl) (by omega) ?_
                    intro v4 x4 O4 c4 D4 P4 F4
                    refine hK _ _ (D4) ?_
                    clear hK K
                    try simp only [Act.put, List.setIfInBounds_toArray, List.set_cons_zero, List.set_cons_succ]
                    refine wpAnyS_ready (rs := [18]) (by kernel_rfl) (by simp) ?_
                    refine AllReadyS.one (by simp only [List.getElem?_toArray, List.getElem?_cons_zero, List.getElem?_cons_succ]; rfl) (fun K hK => ?_)
                    refine step_cat_f (W := w6) (n + 1) (by simp only [List.length_append, List.length_nil, List.length_take, List.length_drop, List.length_singleton, List.length_cons]; omega) (by rfl) _ _ (by rfl) slvS (by rfl) O4 D4 F4 (by rfl) (U3.out.chg D4 (Nat.le_refl _) (by simp)) (by omega) ?_
                    intro v5 x5 O5 c5 D5 P5 F5
                    refine hK _ _ (D5) ?_
                    clear hK K
                    try simp only [Act.put, List.setIfInBounds_toArray, List.set_cons_zero, List.set_cons_succ]
                    refine wpAnyS_tail 19 3 (by kernel_rfl) rfl ?_
                    simp only [List.drop_succ_cons, List.drop_zero]
                    have O9 := O5
                    rw [List.nil_append] at O9
                    obtain ⟨A9, c9, e8⟩ := O9.slice
                    obtain ⟨N9, e9⟩ : ∃ N9, v5 = .slice A9 N9 c9 := ⟨_, e8⟩
                    clear e8
                    have yF := D5.cellv hgW (by simp) bF
                    have zF := (D5.blk B.out (by simp)).frozen 2
                    have HF9 := Lib.hid (And.intro O9 (And.intro D5 F5))
                    clear O9 D0 D1 D2 D3 D4 D5
                    subst e9
                    go_wp2_with fail
                    go_meet
                    exact cat_done B.out HF9.out.2.1 HF9.out.1 HF9.out.2.2
                  refine AllReadyS.one (by simp only [List.getElem?_toArray, List.getElem?_cons_zero, List.getElem?_cons_succ]; rfl) (fun K hK => ?_)
                  refine step_lit1 (x := (.pointer (some ⟨b.g, 0, none⟩))) slvS (by rfl) (by rfl) (by rfl) (by rfl) ?_
                  intro b1 x1 X1 c1 hb1
                  have D1 := D0.trans c1
                  refine hK _ _ (D1) ?_
                  clear hK K
                  try simp only [Act.put, List.setIfInBounds_toArray, List.set_cons_zero, List.set_cons_succ]
                  refine wpAnyS_ready (rs := [1]) (by kernel_rfl) (by simp) ?_
                  refine AllReadyS.one (by simp only [List.getElem?_toArray, List.getElem?_cons_zero, List.getElem?_cons_succ]; rfl) (fun K hK => ?_)
                  refine step_lit0 slvS (by rfl) (by rfl) ?_
                  intro v2 x2 O2 c2 F2
                  have D2 := D1.trans c2
                  have G2 := F2
                  replace F2 : ∀ j ∈ fpv v2, w6.heap.size ≤ j := fun j hj => Nat.le_trans D1.size (G2 j hj)
                  have N2 : b1 ∉ fpv v2 := fun hm => by have h1 := G2 _ hm; have h2 := X1.lt; omega
                  have X2 := c2.blk X1 (by simp)
                  refine hK _ _ (D2) ?_
                  clear hK K
                  try simp only [Act.put, List.setIfInBounds_toArray, List.set_cons_zero, List.set_cons_succ]
                  refine wpAnyS_ready (rs := [8]) (by kernel_rfl) (by simp) ?_
                  refine AllReadyS.one (by simp only [List.getElem?_toArray, List.getElem?_cons_zero, List.getElem?_cons_succ]; rfl) (fun K hK => ?_)
                  refine step_cat_f (W := w6) i (by simp only [List.length_append, List.length_nil, List.length_take, List.length_drop, List.length_singleton, List.length_cons]; omega) (by rfl) _ _ (by rfl) slvS (by rfl) O2 D2 F2 (by rfl) (U1.out.chg D2 (Nat.le_refl _) (by simp)) (by omega) ?_
                  intro v3 x3 O3 c3 D3 P3 F3
                  have N3 : b1 ∉ fpv v3 := fun hm => (P3 _ hm).elim N2 (fun h1 => by have h2 := X2.lt; omega)
                  have X3 := c3.blk X2 N2
                  refine hK _ _ (D3) ?_
                  clear hK K
                  try simp only [Act.put, List.setIfInBounds_toArray, List.set_cons_zero, List.set_cons_succ]
                  refine wpAnyS_ready (rs := [11]) (by kernel_rfl) (by simp) ?_
                  refine AllReadyS.one (by simp only [List.getElem?_toArray, List.getElem?_cons_zero, List.getElem?_cons_succ]; rfl) (fun K hK => ?_)
                  refine step_cat_f (W := w6) (i + 1) (by simp only [List.length_append, List.length_nil, List.length_take, List.length_drop, List.length_singleton, List.length_cons]; omega) (by rfl) _ _ (by rfl) slvS (by rfl) O3 D3 F3 (by rfl) (RdV.one_ X3 rfl) (by omega) ?_
                  intro v4 x4 O4 c4 D4 P4 F4
                  refine hK _ _ (D4) ?_
                  clear hK K
                  try simp only [Act.put, List.setIfInBounds_toArray, List.set_cons_zero, List.set_cons_succ]
                  refine wpAnyS_ready (rs := [18]) (by kernel_rfl) (by simp) ?_
                  refine AllReadyS.one (by simp only [List.getElem?_toArray, List.getElem?_cons_zero, List.getElem?_cons_succ]; rfl) (fun K hK => ?_)
                  refine step_cat_f (W := w6) (n + 1) (by simp only [List.length_append, List.length_nil, List.length_take, List.length_drop, List.length_singleton, List.length_cons]; omega) (by rfl) _ _ (by rfl) slvS (by rfl) O4 D4 F4 (by rfl) (U3.out.chg D4 (Nat.le_refl _) (by simp)) (by omega) ?_
                  intro v5 x5 O5 c5 D5 P5 F5
                  refine hK _ _ (D5) ?_
                  clear hK K
                  try simp only [Act.put, List.setIfInBounds_toArray, List.set_cons_zero, List.set_cons_succ]
                  refine wpAnyS_tail 19 3 (by kernel_rfl) rfl ?_
                  simp only [List.drop_succ_cons, List.drop_zero]
                  have O9 := O5
                  rw [List.nil_append] at O9
                  obtain ⟨A9, c9, e8⟩ := O9.slice
                  obtain ⟨N9, e9⟩ : ∃ N9, v5 = .slice A9 N9 c9 := ⟨_, e8⟩
                  clear e8
                  have yF := D5.cellv hgW (by simp) bF
                  have zF := (D5.blk B.out (by simp)).frozen 2
                  have HF9 := Lib.hid (And.intro O9 (And.intro D5 F5))
                  clear O9 D0 D1 D2 D3 D4 D5
                  subst e9
                  go_wp2_with fail
                  go_meet
                  exact cat_done B.out HF9.out.2.1 HF9.out.1 HF9.out.2.2
                case rest =>
                  obtain ⟨vs, Os, fs, B7, c7⟩ := hcut
                  obtain ⟨w7, rfl⟩ : ∃ W : World, W = wc := ⟨_, rfl⟩
                  clear B
                  have B := Lib.hid (show Blk w7 h.g 40 #[.pointer (some ⟨h.gp, 0, none⟩), vi, vs, h.vl, .map (some h.bw)] from B7)
                  have OL7 := H6.out.2.2.2.2.chg c7 (fun k hk hm => M5.out.l.ne_blk M5.out.b (by decide) ((show k = h.g by simpa using hm) ▸ hk))
                  have I7 := H6.out.2.2.2.1.chg c7 HB.out
                  have bU : w7.cell? ⟨b.g, 2, none⟩ = some (.slice (some ⟨b.u, 0, none⟩) (slK q) (slK q)) := I7.hb.cellv 2 rfl
                  have hgU := I7.hb.lt
                  have hmk : slK q ≤ 1000000 := by have := (kF hq).2.2.2.2.2.2.2.2; omega
                  have H7 := Lib.hid (And.intro Os (And.intro fs c7)); clear Os fs c7 I7 B7
                  have OL7 := Lib.hid (show OwnV 33 w7 h.vl (ids.map (raL h a)) from OL7)
                  go_upto_region 15 with fail
                  go_cut [] from 98 to 123 (fun wd => CatPost2 w7 h.g #[.pointer (some ⟨h.gp, 0, none⟩), vi, vs, h.vl, .map (some h.bw)] 3 (slK q) i (ids.map (raL h a)) wd)
                  case first =>
                    have one : ∀ y ∈ (ids.map (raL h a)), y.oneCell' = true := fun y hy => by
                      obtain ⟨_, _, rfl⟩ := List.mem_map.1 hy
                      rfl
                    have hlen : ((ids.map (raL h a))).length = n := by rw [List.length_map]; exact hlenI.out
                    have hle : i ≤ ((ids.map (raL h a))).length := by rw [hlen]; exact hin
                    have hle3 : i ≤ ((ids.map (raL h a))).length := by rw [hlen]; exact hin
                    obtain ⟨Af, cf, hvf⟩ := (OL7.out).slice
                    have Of := OL7.out
                    rw [hlen] at hvf
                    rw [hvf] at Of
                    have bF := B.out.cellv 3 rfl
                    rw [hvf] at bF
                    have hcap0 := Of.capN
                    rw [hlen] at hcap0
                    have hcap : i ≤ cf := Nat.le_trans hin hcap0
                    have hdle : i ≤ n := hin
                    have hgW := B.out.lt
                    have U1 := rd_take Of one hle
                    have U3 := rd_drop Of one hle3
                    obtain ⟨u1, hu1⟩ : ∃ u, u = sliced Af 0 i cf 1 := ⟨_, rfl⟩
                    obtain ⟨u3, hu3⟩ : ∃ u, u = sliced Af i n cf 1 := ⟨_, rfl⟩
                    rw [← hu1] at U1
                    rw [← hu3] at U3
                    have U1 := Lib.hid U1
                    have U3 := Lib.hid U3
                    have Hu1 := Lib.hid hu1
                    have Hu3 := Lib.hid hu3
                    clear Of one hle hle3 hvf hu1 hu3
                    refine wp_region_takes (fuel := 9) 24 (fun w' => Chg [] w7 w') [0, 2, 3, 4, 5, 6, 7, 9, 10, 11, 12, 13, 17, 18, 19, 20, 21, 22] (by kernel_rfl) (by kernel_rfl) (fun _ _ _ _ _ h => h) ((Chg.refl [] w7).drew) ?_
                    simp only [List.filterMap_cons, List.filterMap_nil, List.getElem?_cons_zero, List.getElem?_cons_succ]
                    iterate 6
                      refine wpTake_step (fun K hK => ?_)
                      rw [if_pos (by rfl)]
                      refine ⟨?_, fun w' hS' => ?_, ?_⟩
                      rotate_left 1
                      focus
                        have yF := hS'.cellv hgW (by simp) bF
                        have yU := hS'.cellv hgU (by simp) bU
                        go_simp
                        try with_reducible rfl
                        done
                      simp only [Act.put, List.setIfInBounds_toArray, List.set_cons_zero, List.set_cons_succ]
                      refine hK _ ?_
                      clear hK K
                    refine wpTake_step (fun K hK => ?_)
                    rw [if_pos (by rfl)]
                    refine ⟨u1, fun w' _ => ?_, ?_⟩
                    focus (rw [Hu1.out]; exact run_take_v slvL _ _ (by rfl) (by rfl) (by rfl) hcap)
                    simp only [Act.put, List.setIfInBounds_toArray, List.set_cons_zero, List.set_cons_succ]
                    refine hK _ ?_
                    clear hK K
                    iterate 10
                      refine wpTake_step (fun K hK => ?_)
                      rw [if_pos (by rfl)]
                      refine ⟨?_, fun w' hS' => ?_, ?_⟩
                      rotate_left 1
                      focus
                        have yF := hS'.cellv hgW (by simp) bF
                        have yU := hS'.cellv hgU (by simp) bU
                        go_simp
                        try with_reducible rfl
                        done
                      simp only [Act.put, List.setIfInBounds_toArray, List.set_cons_zero, List.set_cons_succ]
                      refine hK _ ?_
                      clear hK K
                    refine wpTake_step (fun K hK => ?_)
                    rw [if_pos (by rfl)]
                    refine ⟨u3, fun w' _ => ?_, ?_⟩
                    focus (rw [Hu3.out]; exact run_drop_v slvL _ _ (by rfl) (by rfl) (by rfl) hdle)
                    simp only [Act.put, List.setIfInBounds_toArray, List.set_cons_zero, List.set_cons_succ]
                    refine hK _ ?_
                    clear hK K
                    refine wpTake_nil ?_
                    generalize hx0 : w7.drew = x0
                    have D0 : Chg [] w7 x0 := by rw [← hx0]; exact (Chg.refl [] w7).drew
                    clear hx0
                    refine wpAnyS_ready (rs := [1, 14]) (by kernel_rfl) (by simp) ?_
                    refine AllReadyS.cons (by simp only [List.getElem?_toArray, List.getElem?_cons_zero, List.getElem?_cons_succ]; rfl) (fun K hK => ?_) ?_
                    · refine step_lit0 slvL (by rfl) (by rfl) ?_
                      intro v1 x1 O1 c1 F1
                      have D1 := D0.trans c1
                      have G1 := F1
                      replace F1 : ∀ j ∈ fpv v1, w7.heap.size ≤ j := fun j hj => Nat.le_trans D0.size (G1 j hj)
                      refine hK _ _ (D1) ?_
                      clear hK K
                      try simp only [Act.put, List.setIfInBounds_toArray, List.set_cons_zero, List.set_cons_succ]
                      refine wpAnyS_ready (rs := [8, 14]) (by kernel_rfl) (by simp) ?_
                      refine AllReadyS.cons (by simp only [List.getElem?_toArray, List.getElem?_cons_zero, List.getElem?_cons_succ]; rfl) (fun K hK => ?_) ?_
                      · refine step_cat_f (W := w7) i (by simp only [List.length_append, List.length_nil, List.length_take, List.length_drop, List.length_singleton, List.length_cons]; omega) (by rfl) _ _ (by rfl) slvL (by rfl) O1 D1 F1 (by rfl) (U1.out.chg D1 (Nat.le_refl _) (by simp)) (by omega) ?_
                        intro v2 x2 O2 c2 D2 P2 F2
                        refine hK _ _ (D2) ?_
                        clear hK K
                        try simp only [Act.put, List.setIfInBounds_toArray, List.set_cons_zero, List.set_cons_succ]
                        refine wpAnyS_ready (rs := [14]) (by kernel_rfl) (by simp) ?_
                        refine AllReadyS.one (by simp only [List.getElem?_toArray, List.getElem?_cons_zero, List.getElem?_cons_succ]; rfl) (fun K hK => ?_)
                        refine step_make slvI rfl (by rfl) (by rfl) (by rfl) (by rfl) hmk ?_
                        intro gL x3 L3 c3 hgL
                        have D3 := D2.trans c3
                        have hgLW : w7.heap.size ≤ gL := by have := D2.size; omega
                        have O3 := O2.chg0 c3
                        have F3 := F2
                        refine hK _ _ (D3) ?_
                        clear hK K
                        try simp only [Act.put, List.setIfInBounds_toArray, List.set_cons_zero, List.set_cons_succ]
                        refine wpAnyS_ready (rs := [15]) (by kernel_rfl) (by simp) ?_
                        refine AllReadyS.one (by simp only [List.getElem?_toArray, List.getElem?_cons_zero, List.getElem?_cons_succ]; rfl) (fun K hK => ?_)
                        refine step_lit1 (x := (.slice (some ⟨gL, 0, none⟩) (slK q) (slK q))) slvL (by rfl) (by rfl) (by rfl) (by rfl) ?_
                        intro b1 x4 X4 c4 hb1
                        have D4 := D3.trans c4
                        have N4 : b1 ∉ fpv v2 := fun hm => by have h1 := O3.lt hm; omega
                        have O4 := O3.chg0 c4
                        have F4 := F3
                        have L4 := c4.blk L3 (by simp)
                        refine hK _ _ (D4) ?_
                        clear hK K
                        try simp only [Act.put, List.setIfInBounds_toArray, List.set_cons_zero, List.set_cons_succ]
                        refine wpAnyS_ready (rs := [16]) (by kernel_rfl) (by simp) ?_
                        refine AllReadyS.one (by simp only [List.getElem?_toArray, List.getElem?_cons_zero, List.getElem?_cons_succ]; rfl) (fun K hK => ?_)
                        refine step_cat_f (W := w7) (i + 1) (by simp only [List.length_append, List.length_nil, List.length_take, List.length_drop, List.length_singleton, List.length_cons]; omega) (by rfl) _ _ (by rfl) slvL (by rfl) O4 D4 F4 (by rfl) (RdV.one_ X4 rfl) (by omega) ?_
                        intro v5 x5 O5 c5 D5 P5 F5
                        have L5 := c5.blk L4 (fun hm => O4.ne_blk L4 (by decide) hm)
                        refine hK _ _ (D5) ?_
                        clear hK K
                        try simp only [Act.put, List.setIfInBounds_toArray, List.set_cons_zero, List.set_cons_succ]
                        refine wpAnyS_ready (rs := [23]) (by kernel_rfl) (by simp) ?_
                        refine AllReadyS.one (by simp only [List.getElem?_toArray, List.getElem?_cons_zero, List.getElem?_cons_succ]; rfl) (fun K hK => ?_)
                        refine step_cat_f (W := w7) (n + 1) (by simp only [List.length_append, List.length_nil, List.length_take, List.length_drop, List.length_singleton, List.length_cons]; omega) (by rfl) _ _ (by rfl) slvL (by rfl) O5 D5 F5 (by rfl) (U3.out.chg D5 (Nat.le_refl _) (by simp)) (by omega) ?_
                        intro v6 x6 O6 c6 D6 P6 F6
                        have L6 := c6.blk L5 (fun hm => O5.ne_blk L5 (by decide) hm)
                        refine hK _ _ (D6) ?_
                        clear hK K
                        try simp only [Act.put, List.setIfInBounds_toArray, List.set_cons_zero, List.set_cons_succ]
                        refine wpAnyS_tail 24 3 (by kernel_rfl) rfl ?_
                        simp only [List.drop_succ_cons, List.drop_zero]
                        have O9 := O6
                        rw [List.nil_append] at O9
                        obtain ⟨A9, c9, e8⟩ := O9.slice
                        obtain ⟨N9, e9⟩ : ∃ N9, v6 = .slice A9 N9 c9 := ⟨_, e8⟩
                        clear e8
                        have yF := D6.cellv hgW (by simp) bF
                        have zF := (D6.blk B.out (by simp)).frozen 3
                        have HF9 := Lib.hid (And.intro O9 (And.intro D6 (And.intro F6 (And.intro L6 hgLW))))
                        clear O9 D0 D1 D2 D3 D4 D5 D6
                        subst e9
                        go_wp2_with fail
                        go_meet
                        exact ⟨gL, cat_done B.out HF9.out.2.1 HF9.out.1 HF9.out.2.2.1, ((Chg.refl [h.g] _).setCell (.inl (by simp)) _).blk HF9.out.2.2.2.1 (fun hm => HF9.out.2.2.2.1.ne_ (HF9.out.2.1.blk B.out (by simp)) (by decide) (by simpa using hm)), HF9.out.2.2.2.2⟩
                      refine AllReadyS.one (by simp only [List.getElem?_toArray, List.getElem?_cons_zero, List.getElem?_cons_succ]; rfl) (fun K hK => ?_)
                      refine step_make slvI rfl (by rfl) (by rfl) (by rfl) (by rfl) hmk ?_
                      intro gL x2 L2 c2 hgL
                      have D2 := D1.trans c2
                      have hgLW : w7.heap.size ≤ gL := by have := D1.size; omega
                      have O2 := O1.chg0 c2
                      have F2 := F1
                      refine hK _ _ (D2) ?_
                      clear hK K
                      try simp only [Act.put, List.setIfInBounds_toArray, List.set_cons_zero, List.set_cons_succ]
                      refine wpAnyS_ready (rs := [8, 15]) (by kernel_rfl) (by simp) ?_
                      refine AllReadyS.cons (by simp only [List.getElem?_toArray, List.getElem?_cons_zero, List.getElem?_cons_succ]; rfl) (fun K hK => ?_) ?_
                      · refine step_cat_f (W := w7) i (by simp only [List.length_append, List.length_nil, List.length_take, List.length_drop, List.length_singleton, List.length_cons]; omega) (by rfl) _ _ (by rfl) slvL (by rfl) O2 D2 F2 (by rfl) (U1.out.chg D2 (Nat.le_refl _) (by simp)) (by omega) ?_
                        intro v3 x3 O3 c3 D3 P3 F3
                        have L3 := c3.blk L2 (fun hm => O2.ne_blk L2 (by decide) hm)
                        refine hK _ _ (D3) ?_
                        clear hK K
                        try simp only [Act.put, List.setIfInBounds_toArray, List.set_cons_zero, List.set_cons_succ]
                        refine wpAnyS_ready (rs := [15]) (by kernel_rfl) (by simp) ?_
                        refine AllReadyS.one (by simp only [List.getElem?_toArray, List.getElem?_cons_zero, List.getElem?_cons_succ]; rfl) (fun K hK => ?_)
                        refine step_lit1 (x := (.slice (some ⟨gL, 0, none⟩) (slK q) (slK q))) slvL (by rfl) (by rfl) (by rfl) (by rfl) ?_
                        intro b1 x4 X4 c4 hb1
                        have D4 := D3.trans c4
                        have N4 : b1 ∉ fpv v3 := fun hm => by have h1 := O3.lt hm; omega
                        have O4 := O3.chg0 c4
                        have F4 := F3
                        have L4 := c4.blk L3 (by simp)
                        refine hK _ _ (D4) ?_
                        clear hK K
                        try simp only [Act.put, List.setIfInBounds_toArray, List.set_cons_zero, List.set_cons_succ]
                        refine wpAnyS_ready (rs := [16]) (by kernel_rfl) (by simp) ?_
                        refine AllReadyS.one (by simp only [List.getElem?_toArray, List.getElem?_cons_zero, List.getElem?_cons_succ]; rfl) (fun K hK => ?_)
                        refine step_cat_f (W := w7) (i + 1) (by simp only [List.length_append, List.length_nil, List.length_take, List.length_drop, List.length_singleton, List.length_cons]; omega) (by rfl) _ _ (by rfl) slvL (by rfl) O4 D4 F4 (by rfl) (RdV.one_ X4 rfl) (by omega) ?_
                        intro v5 x5 O5 c5 D5 P5 F5
                        have L5 := c5.blk L4 (fun hm => O4.ne_blk L4 (by decide) hm)
                        refine hK _ _ (D5) ?_
                        clear hK K
                        try simp only [Act.put, List.setIfInBounds_toArray, List.set_cons_zero, List.set_cons_succ]
                        refine wpAnyS_ready (rs := [23]) (by kernel_rfl) (by simp) ?_
                        refine AllReadyS.one (by simp only [List.getElem?_toArray, List.getElem?_cons_zero, List.getElem?_cons_succ]; rfl) (fun K hK => ?_)
                        refine step_cat_f (W := w7) (n + 1) (by simp only [List.length_append, List.length_nil, List.length_take, List.length_drop, List.length_singleton, List.length_cons]; omega) (by rfl) _ _ (by rfl) slvL (by rfl) O5 D5 F5 (by rfl) (U3.out.chg D5 (Nat.le_refl _) (by simp)) (by omega) ?_
                        intro v6 x6 O6 c6 D6 P6 F6
                        have L6 := c6.blk L5 (fun hm => O5.ne_blk L5 (by decide) hm)
                        refine hK _ _ (D6) ?_
                        clear hK K
                        try simp only [Act.put, List.setIfInBounds_toArray, List.set_cons_zero, List.set_cons_succ]
                        refine wpAnyS_tail 24 3 (by kernel_rfl) rfl ?_
                        simp only [List.drop_succ_cons, List.drop_zero]
                        have O9 := O6
                        rw [List.nil_append] at O9
                        obtain ⟨A9, c9, e8⟩ := O9.slice
                        obtain ⟨N9, e9⟩ : ∃ N9, v6 = .slice A9 N9 c9 := ⟨_, e8⟩
                        clear e8
                        have yF := D6.cellv hgW (by simp) bF
                        have zF := (D6.blk B.out (by simp)).frozen 3
                        have HF9 := Lib.hid (And.intro O9 (And.intro D6 (And.intro F6 (And.intro L6 hgLW))))
                        clear O9 D0 D1 D2 D3 D4 D5 D6
                        subst e9
                        go_wp2_with fail
                        go_meet
                        exact ⟨gL, cat_done B.out HF9.out.2.1 HF9.out.1 HF9.out.2.2.1, ((Chg.refl [h.g] _).setCell (.inl (by simp)) _).blk HF9.out.2.2.2.1 (fun hm => HF9.out.2.2.2.1.ne_ (HF9.out.2.1.blk B.out (by simp)) (by decide) (by simpa using hm)), HF9.out.2.2.2.2⟩
                      refine AllReadyS.one (by simp only [List.getElem?_toArray, List.getElem?_cons_zero, List.getElem?_cons_succ]; rfl) (fun K hK => ?_)
                      refine step_lit1 (x := (.slice (some ⟨gL, 0, none⟩) (slK q) (slK q))) slvL (by rfl) (by rfl) (by rfl) (by rfl) ?_
                      intro b1 x3 X3 c3 hb1
                      have D3 := D2.trans c3
                      have N3 : b1 ∉ fpv v1 := fun hm => by have h1 := O2.lt hm; omega
                      have O3 := O2.chg0 c3
                      have F3 := F2
                      have L3 := c3.blk L2 (by simp)
                      refine hK _ _ (D3) ?_
                      clear hK K
                      try simp only [Act.put, List.setIfInBounds_toArray, List.set_cons_zero, List.set_cons_succ]
                      refine wpAnyS_ready (rs := [8]) (by kernel_rfl) (by simp) ?_
                      refine AllReadyS.one (by simp only [List.getElem?_toArray, List.getElem?_cons_zero, List.getElem?_cons_succ]; rfl) (fun K hK => ?_)
                      refine step_cat_f (W := w7) i (by simp only [List.length_append, List.length_nil, List.length_take, List.length_drop, List.length_singleton, List.length_cons]; omega) (by rfl) _ _ (by rfl) slvL (by rfl) O3 D3 F3 (by rfl) (U1.out.chg D3 (Nat.le_refl _) (by simp)) (by omega) ?_
                      intro v4 x4 O4 c4 D4 P4 F4
                      have N4 : b1 ∉ fpv v4 := fun hm => (P4 _ hm).elim N3 (fun h1 => by have h2 := X3.lt; omega)
                      have X4 := c4.blk X3 N3
                      have L4 := c4.blk L3 (fun hm => O3.ne_blk L3 (by decide) hm)
                      refine hK _ _ (D4) ?_
                      clear hK K
                      try simp only [Act.put, List.setIfInBounds_toArray, List.set_cons_zero, List.set_cons_succ]
                      refine wpAnyS_ready (rs := [16]) (by kernel_rfl) (by simp) ?_
                      refine AllReadyS.one (by simp only [List.getElem?_toArray, List.getElem?_cons_zero, List.getElem?_cons_succ]; rfl) (fun K hK => ?_)
                      refine step_cat_f (W := w7) (i + 1) (by simp only [List.length_append, List.length_nil, List.length_take, List.length_drop, List.length_singleton, List.length_cons]; omega) (by rfl) _ _ (by rfl) slvL (by rfl) O4 D4 F4 (by rfl) (RdV.one_ X4 rfl) (by omega) ?_
                      intro v5 x5 O5 c5 D5 P5 F5
                      have L5 := c5.blk L4 (fun hm => O4.ne_blk L4 (by decide) hm)
                      refine hK _ _ (D5) ?_
                      clear hK K
                      try simp only [Act.put, List.setIfInBounds_toArray, List.set_cons_zero, List.set_cons_succ]
                      refine wpAnyS_ready (rs := [23]) (by kernel_rfl) (by simp) ?_
                      refine AllReadyS.one (by simp only [List.getElem?_toArray, List.getElem?_cons_zero, List.getElem?_cons_succ]; rfl) (fun K hK => ?_)
                      refine step_cat_f (W := w7) (n + 1) (by simp only [List.length_append, List.length_nil, List.length_take, List.length_drop, List.length_singleton, List.length_cons]; omega) (by rfl) _ _ (by rfl) slvL (by rfl) O5 D5 F5 (by rfl) (U3.out.chg D5 (Nat.le_refl _) (by simp)) (by omega) ?_
                      intro v6 x6 O6 c6 D6 P6 F6
                      have L6 := c6.blk L5 (fun hm => O5.ne_blk L5 (by decide) hm)
                      refine hK _ _ (D6) ?_
                      clear hK K
                      try simp only [Act.put, List.setIfInBounds_toArray, List.set_cons_zero, List.set_cons_succ]
                      refine wpAnyS_tail 24 3 (by kernel_rfl) rfl ?_
                      simp only [List.drop_succ_cons, List.drop_zero]
                      have O9 := O6
                      rw [List.nil_append] at O9
                      obtain ⟨A9, c9, e8⟩ := O9.slice
                      obtain ⟨N9, e9⟩ : ∃ N9, v6 = .slice A9 N9 c9 := ⟨_, e8⟩
                      clear e8
                      have yF := D6.cellv hgW (by simp) bF
                      have zF := (D6.blk B.out (by simp)).frozen 3
                      have HF9 := Lib.hid (And.intro O9 (And.intro D6 (And.intro F6 (And.intro L6 hgLW))))
                      clear O9 D0 D1 D2 D3 D4 D5 D6
                      subst e9
                      go_wp2_with fail
                      go_meet
                      exact ⟨gL, cat_done B.out HF9.out.2.1 HF9.out.1 HF9.out.2.2.1, ((Chg.refl [h.g] _).setCell (.inl (by simp)) _).blk HF9.out.2.2.2.1 (fun hm => HF9.out.2.2.2.1.ne_ (HF9.out.2.1.blk B.out (by simp)) (by decide) (by simpa using hm)), HF9.out.2.2.2.2⟩
                    refine AllReadyS.one (by simp only [List.getElem?_toArray, List.getElem?_cons_zero, List.getElem?_cons_succ]; rfl) (fun K hK => ?_)
                    refine step_make slvI rfl (by rfl) (by rfl) (by rfl) (by rfl) hmk ?_
                    intro gL x1 L1 c1 hgL
                    have D1 := D0.trans c1
                    have hgLW : w7.heap.size ≤ gL := by have := D0.size; omega
                    refine hK _ _ (D1) ?_
                    clear hK K
                    try simp only [Act.put, List.setIfInBounds_toArray, List.set_cons_zero, List.set_cons_succ]
                    refine wpAnyS_ready (rs := [1, 15]) (by kernel_rfl) (by simp) ?_
                    refine AllReadyS.cons (by simp only [List.getElem?_toArray, List.getElem?_cons_zero, List.getElem?_cons_succ]; rfl) (fun K hK => ?_) ?_
                    · refine step_lit0 slvL (by rfl) (by rfl) ?_
                      intro v2 x2 O2 c2 F2
                      have D2 := D1.trans c2
                      have G2 := F2
                      replace F2 : ∀ j ∈ fpv v2, w7.heap.size ≤ j := fun j hj => Nat.le_trans D1.size (G2 j hj)
                      have L2 := c2.blk L1 (by simp)
                      refine hK _ _ (D2) ?_
                      clear hK K
                      try simp only [Act.put, List.setIfInBounds_toArray, List.set_cons_zero, List.set_cons_succ]
                      refine wpAnyS_ready (rs := [8, 15]) (by kernel_rfl) (by simp) ?_
                      refine AllReadyS.cons (by simp only [List.getElem?_toArray, List.getElem?_cons_zero, List.getElem?_cons_succ]; rfl) (fun K hK => ?_) ?_
                      · refine step_cat_f (W := w7) i (by simp only [List.length_append, List.length_nil, List.length_take, List.length_drop, List.length_singleton, List.length_cons]; omega) (by rfl) _ _ (by rfl) slvL (by rfl) O2 D2 F2 (by rfl) (U1.out.chg D2 (Nat.le_refl _) (by simp)) (by omega) ?_
                        intro v3 x3 O3 c3 D3 P3 F3
                        have L3 := c3.blk L2 (fun hm => O2.ne_blk L2 (by decide) hm)
                        refine hK _ _ (D3) ?_
                        clear hK K
                        try simp only [Act.put, List.setIfInBounds_toArray, List.set_cons_zero, List.set_cons_succ]
                        refine wpAnyS_ready (rs := [15]) (by kernel_rfl) (by simp) ?_
                        refine AllReadyS.one (by simp only [List.getElem?_toArray, List.getElem?_cons_zero, List.getElem?_cons_succ]; rfl) (fun K hK => ?_)
                        refine step_lit1 (x := (.slice (some ⟨gL, 0, none⟩) (slK q) (slK q))) slvL (by rfl) (by rfl) (by rfl) (by rfl) ?_
                        intro b1 x4 X4 c4 hb1
                        have D4 := D3.trans c4
                        have N4 : b1 ∉ fpv v3 := fun hm => by have h1 := O3.lt hm; omega
                        have O4 := O3.chg0 c4
                        have F4 := F3
                        have L4 := c4.blk L3 (by simp)
                        refine hK _ _ (D4) ?_
                        clear hK K
                        try simp only [Act.put, List.setIfInBounds_toArray, List.set_cons_zero, List.set_cons_succ]
                        refine wpAnyS_ready (rs := [16]) (by kernel_rfl) (by simp) ?_
                        refine AllReadyS.one (by simp only [List.getElem?_toArray, List.getElem?_cons_zero, List.getElem?_cons_succ]; rfl) (fun K hK => ?_)
                        refine step_cat_f (W := w7) (i + 1) (by simp only [List.length_append, List.length_nil, List.length_take, List.length_drop, List.length_singleton, List.length_cons]; omega) (by rfl) _ _ (by rfl) slvL (by rfl) O4 D4 F4 (by rfl) (RdV.one_ X4 rfl) (by omega) ?_
                        intro v5 x5 O5 c5 D5 P5 F5
                        have L5 := c5.blk L4 (fun hm => O4.ne_blk L4 (by decide) hm)
                        refine hK _ _ (D5) ?_
                        clear hK K
                        try simp only [Act.put, List.setIfInBounds_toArray, List.set_cons_zero, List.set_cons_succ]
                        refine wpAnyS_ready (rs := [23]) (by kernel_rfl) (by simp) ?_
                        refine AllReadyS.one (by simp only [List.getElem?_toArray, List.getElem?_cons_zero, List.getElem?_cons_succ]; rfl) (fun K hK => ?_)
                        refine step_cat_f (W := w7) (n + 1) (by simp only [List.length_append, List.length_nil, List.length_take, List.length_drop, List.length_singleton, List.length_cons]; omega) (by rfl) _ _ (by rfl) slvL (by rfl) O5 D5 F5 (by rfl) (U3.out.chg D5 (Nat.le_refl _) (by simp)) (by omega) ?_
                        intro v6 x6 O6 c6 D6 P6 F6
                        have L6 := c6.blk L5 (fun hm => O5.ne_blk L5 (by decide) hm)
                        refine hK _ _ (D6) ?_
                        clear hK K
                        try simp only [Act.put, List.setIfInBounds_toArray, List.set_cons_zero, List.set_cons_succ]
                        refine wpAnyS_tail 24 3 (by kernel_rfl) rfl ?_
                        simp only [List.drop_succ_cons, List.drop_zero]
                        have O9 := O6
                        rw [List.nil_append] at O9
                        obtain ⟨A9, c9, e8⟩ := O9.slice
                        obtain ⟨N9, e9⟩ : ∃ N9, v6 = .slice A9 N9 c9 := ⟨_, e8⟩
                        clear e8
                        have yF := D6.cellv hgW (by simp) bF
                        have zF := (D6.blk B.out (by simp)).frozen 3
                        have HF9 := Lib.hid (And.intro O9 (And.intro D6 (And.intro F6 (And.intro L6 hgLW))))
                        clear O9 D0 D1 D2 D3 D4 D5 D6
                        subst e9
                        go_wp2_with fail
                        go_meet
                        exact ⟨gL, cat_done B.out HF9.out.2.1 HF9.out.1 HF9.out.2.2.1, ((Chg.refl [h.g] _).setCell (.inl (by simp)) _).blk HF9.out.2.2.2.1 (fun hm => HF9.out.2.2.2.1.ne_ (HF9.out.2.1.blk B.out (by simp)) (by decide) (by simpa using hm)), HF9.out.2.2.2.2⟩
                      refine AllReadyS.one (by simp only [List.getElem?_toArray, List.getElem?_cons_zero, List.getElem?_cons_succ]; rfl) (fun K hK => ?_)
                      refine step_lit1 (x := (.slice (some ⟨gL, 0, none⟩) (slK q) (slK q))) slvL (by rfl) (by rfl) (by rfl) (by rfl) ?_
                      intro b1 x3 X3 c3 hb1
                      have D3 := D2.trans c3
                      have N3 : b1 ∉ fpv v2 := fun hm => by have h1 := O2.lt hm; omega
                      have O3 := O2.chg0 c3
                      have F3 := F2
                      have L3 := c3.blk L2 (by simp)
                      refine hK _ _ (D3) ?_
                      clear hK K
                      try simp only [Act.put, List.setIfInBounds_toArray, List.set_cons_zero, List.set_cons_succ]
                      refine wpAnyS_ready (rs := [8]) (by kernel_rfl) (by simp) ?_
                      refine AllReadyS.one (by simp only [List.getElem?_toArray, List.getElem?_cons_zero, List.getElem?_cons_succ]; rfl) (fun K hK => ?_)
                      refine step_cat_f (W := w7) i (by simp only [List.length_append, List.length_nil, List.length_take, List.length_drop, List.length_singleton, List.length_cons]; omega) (by rfl) _ _ (by rfl) slvL (by rfl) O3 D3 F3 (by rfl) (U1.out.chg D3 (Nat.le_refl _) (by simp)) (by omega) ?_
                      intro v4 x4 O4 c4 D4 P4 F4
                      have N4 : b1 ∉ fpv v4 := fun hm => (P4 _ hm).elim N3 (fun h1 => by have h2 := X3.lt; omega)
                      have X4 := c4.blk X3 N3
                      have L4 := c4.blk L3 (fun hm => O3.ne_blk L3 (by decide) hm)
                      refine hK _ _ (D4) ?_
                      clear hK K
                      try simp only [Act.put, List.setIfInBounds_toArray, List.set_cons_zero, List.set_cons_succ]
                      refine wpAnyS_ready (rs := [16]) (by kernel_rfl) (by simp) ?_
                      refine AllReadyS.one (by simp only [List.getElem?_toArray, List.getElem?_cons_zero, List.getElem?_cons_succ]; rfl) (fun K hK => ?_)
                      refine step_cat_f (W := w7) (i + 1) (by simp only [List.length_append, List.length_nil, List.length_take, List.length_drop, List.length_singleton, List.length_cons]; omega) (by rfl) _ _ (by rfl) slvL (by rfl) O4 D4 F4 (by rfl) (RdV.one_ X4 rfl) (by omega) ?_
                      intro v5 x5 O5 c5 D5 P5 F5
                      have L5 := c5.blk L4 (fun hm => O4.ne_blk L4 (by decide) hm)
                      refine hK _ _ (D5) ?_
                      clear hK K
                      try simp only [Act.put, List.setIfInBounds_toArray, List.set_cons_zero, List.set_cons_succ]
                      refine wpAnyS_ready (rs := [23]) (by kernel_rfl) (by simp) ?_
                      refine AllReadyS.one (by simp only [List.getElem?_toArray, List.getElem?_cons_zero, List.getElem?_cons_succ]; rfl) (fun K hK => ?_)
                      refine step_cat_f (W := w7) (n + 1) (by simp only [List.length_append, List.length_nil, List.length_take, List.length_drop, List.length_singleton, List.length_cons]; omega) (by rfl) _ _ (by rfl) slvL (by rfl) O5 D5 F5 (by rfl) (U3.out.chg D5 (Nat.le_refl _) (by simp)) (by omega) ?_
                      intro v6 x6 O6 c6 D6 P6 F6
                      have L6 := c6.blk L5 (fun hm => O5.ne_blk L5 (by decide) hm)
                      refine hK _ _ (D6) ?_
                      clear hK K
                      try simp only [Act.put, List.setIfInBounds_toArray, List.set_cons_zero, List.set_cons_succ]
                      refine wpAnyS_tail 24 3 (by kernel_rfl) rfl ?_
                      simp only [List.drop_succ_cons, List.drop_zero]
                      have O9 := O6
                      rw [List.nil_append] at O9
                      obtain ⟨A9, c9, e8⟩ := O9.slice
                      obtain ⟨N9, e9⟩ : ∃ N9, v6 = .slice A9 N9 c9 := ⟨_, e8⟩
                      clear e8
                      have yF := D6.cellv hgW (by simp) bF
                      have zF := (D6.blk B.out (by simp)).frozen 3
                      have HF9 := Lib.hid (And.intro O9 (And.intro D6 (And.intro F6 (And.intro L6 hgLW))))
                      clear O9 D0 D1 D2 D3 D4 D5 D6
                      subst e9
                      go_wp2_with fail
                      go_meet
                      exact ⟨gL, cat_done B.out HF9.out.2.1 HF9.out.1 HF9.out.2.2.1, ((Chg.refl [h.g] _).setCell (.inl (by simp)) _).blk HF9.out.2.2.2.1 (fun hm => HF9.out.2.2.2.1.ne_ (HF9.out.2.1.blk B.out (by simp)) (by decide) (by simpa using hm)), HF9.out.2.2.2.2⟩
                    refine AllReadyS.one (by simp only [List.getElem?_toArray, List.getElem?_cons_zero, List.getElem?_cons_succ]; rfl) (fun K hK => ?_)
                    refine step_lit1 (x := (.slice (some ⟨gL, 0, none⟩) (slK q) (slK q))) slvL (by rfl) (by rfl) (by rfl) (by rfl) ?_
                    intro b1 x2 X2 c2 hb1
                    have D2 := D1.trans c2
                    have L2 := c2.blk L1 (by simp)
                    refine hK _ _ (D2) ?_
                    clear hK K
                    try simp only [Act.put, List.setIfInBounds_toArray, List.set_cons_zero, List.set_cons_succ]
                    refine wpAnyS_ready (rs := [1]) (by kernel_rfl) (by simp) ?_
                    refine AllReadyS.one (by simp only [List.getElem?_toArray, List.getElem?_cons_zero, List.getElem?_cons_succ]; rfl) (fun K hK => ?_)
                    refine step_lit0 slvL (by rfl) (by rfl) ?_
                    intro v3 x3 O3 c3 F3
                    have D3 := D2.trans c3
                    have G3 := F3
                    replace F3 : ∀ j ∈ fpv v3, w7.heap.size ≤ j := fun j hj => Nat.le_trans D2.size (G3 j hj)
                    have N3 : b1 ∉ fpv v3 := fun hm => by have h1 := G3 _ hm; have h2 := X2.lt; omega
                    have X3 := c3.blk X2 (by simp)
                    have L3 := c3.blk L2 (by simp)
                    refine hK _ _ (D3) ?_
                    clear hK K
                    try simp only [Act.put, List.setIfInBounds_toArray, List.set_cons_zero, List.set_cons_succ]
                    refine wpAnyS_ready (rs := [8]) (by kernel_rfl) (by simp) ?_
                    refine AllReadyS.one (by simp only [List.getElem?_toArray, List.getElem?_cons_zero, List.getElem?_cons_succ]; rfl) (fun K hK => ?_)
                    refine step_cat_f (W := w7) i (by simp only [List.length_append, List.length_nil, List.length_take, List.length_drop, List.length_singleton, List.length_cons]; omega) (by rfl) _ _ (by rfl) slvL (by rfl) O3 D3 F3 (by rfl) (U1.out.chg D3 (Nat.le_refl _) (by simp)) (by omega) ?_
                    intro v4 x4 O4 c4 D4 P4 F4
                    have N4 : b1 ∉ fpv v4 := fun hm => (P4 _ hm).elim N3 (fun h1 => by have h2 := X3.lt; omega)
                    have X4 := c4.blk X3 N3
                    have L4 := c4.blk L3 (fun hm => O3.ne_blk L3 (by decide) hm)
                    refine hK _ _ (D4) ?_
                    clear hK K
                    try simp only [Act.put, List.setIfInBounds_toArray, List.set_cons_zero, List.set_cons_succ]
                    refine wpAnyS_ready (rs := [16]) (by kernel_rfl) (by simp) ?_
                    refine AllReadyS.one (by simp only [List.getElem?_toArray, List.getElem?_cons_zero, List.getElem?_cons_succ]; rfl) (fun K hK => ?_)
                    refine step_cat_f (W := w7) (i + 1) (by simp only [List.length_append, List.length_nil, List.length_take, List.length_drop, List.length_singleton, List.length_cons]; omega) (by rfl) _ _ (by rfl) slvL (by rfl) O4 D4 F4 (by rfl) (RdV.one_ X4 rfl) (by omega) ?_
                    intro v5 x5 O5 c5 D5 P5 F5
                    have L5 := c5.blk L4 (fun hm => O4.ne_blk L4 (by decide) hm)
                    refine hK _ _ (D5) ?_
                    clear hK K
                    try simp only [Act.put, List.setIfInBounds_toArray, List.set_cons_zero, List.set_cons_succ]
                    refine wpAnyS_ready (rs := [23]) (by kernel_rfl) (by simp) ?_
                    refine AllReadyS.one (by simp only [List.getElem?_toArray, List.getElem?_cons_zero, List.getElem?_cons_succ]; rfl) (fun K hK => ?_)
                    refine step_cat_f (W := w7) (n + 1) (by simp only [List.length_append, List.length_nil, List.length_take, List.length_drop, List.length_singleton, List.length_cons]; omega) (by rfl) _ _ (by rfl) slvL (by rfl) O5 D5 F5 (by rfl) (U3.out.chg D5 (Nat.le_refl _) (by simp)) (by omega) ?_
                    intro v6 x6 O6 c6 D6 P6 F6
                    have L6 := c6.blk L5 (fun hm => O5.ne_blk L5 (by decide) hm)
                    refine hK _ _ (D6) ?_
                    clear hK K
                    try simp only [Act.put, List.setIfInBounds_toArray, List.set_cons_zero, List.set_cons_succ]
                    refine wpAnyS_tail 24 3 (by kernel_rfl) rfl ?_
                    simp only [List.drop_succ_cons, List.drop_zero]
                    have O9 := O6
                    rw [List.nil_append] at O9
                    obtain ⟨A9, c9, e8⟩ := O9.slice
                    obtain ⟨N9, e9⟩ : ∃ N9, v6 = .slice A9 N9 c9 := ⟨_, e8⟩
                    clear e8
                    have yF := D6.cellv hgW (by simp) bF
                    have zF := (D6.blk B.out (by simp)).frozen 3
                    have HF9 := Lib.hid (And.intro O9 (And.intro D6 (And.intro F6 (And.intro L6 hgLW))))
                    clear O9 D0 D1 D2 D3 D4 D5 D6
                    subst e9
                    go_wp2_with fail
                    go_meet
                    exact ⟨gL, cat_done B.out HF9.out.2.1 HF9.out.1 HF9.out.2.2.1, ((Chg.refl [h.g] _).setCell (.inl (by simp)) _).blk HF9.out.2.2.2.1 (fun hm => HF9.out.2.2.2.1.ne_ (HF9.out.2.1.blk B.out (by simp)) (by decide) (by simpa using hm)), HF9.out.2.2.2.2⟩
                  case rest =>
                    obtain ⟨gL, ⟨vl, Ol, fl, B8, c8⟩, BL, hgL⟩ := hcut
                    obtain ⟨w8, rfl⟩ : ∃ W : World, W = wc := ⟨_, rfl⟩
                    have H8 := Lib.hid (And.intro Ol (And.intro fl (And.intro B8 (And.intro c8 (And.intro BL hgL))))); clear Ol fl B8 c8 BL hgL B bU hgU
                    go_wp2_with fail
                    go_ret2
                    obtain ⟨h', e1, e2, MM, SS⟩ := HM.out.1.spanned (f := f) (q := q) HY.out.1 HS.out.1 HS.out.2 H2.out.2.2.2.2 H2.out.2.2.2.1 H2.out.2.2.1 H5.out.2.1 H5.out.1 H5.out.2.2 H6.out.2.2.1 H6.out.1 H6.out.2.1 H7.out.2.2 H7.out.1 H7.out.2.1 H8.out.2.2.2.1 H8.out.1 H8.out.2.1 H8.out.2.2.2.2.1 H8.out.2.2.2.2.2 H8.out.2.2.1 (Chg.refl [] w8)
                    exact .inr ⟨q, rfl, hq, (f : Int), 0, l', H2.out.2.1, .inr ⟨rfl, f, id, h', insT i id ids, rfl, HY.out.1, HX.out, rfl, e1, e2, MM, SS⟩⟩
          · have hid2 : id = id' := by omega
            subst hid2
            have hlt : id < N := by
              have h1 : a.sp id = some s := hsp
              exact HM.out.2.top id s h1
            have hsp1 : a.sp id ≠ none := by
              have h1 : a.sp id = some s := hsp
              rw [h1]; simp
            have HZ := Lib.hid hsp1; clear hsp1 hsp hx hr hj
            have hj0 : (0 : Int) ≤ (j : Int) := by omega
            have hj1 : ¬ (j : Int) < 0 := by omega
            go_wp2_with fail
            go_roundg (N - id)
            case measure => omega
            case rel => exact ⟨id + 1, by omega, by omega, by go_num, fun j' hj' => by
              by_cases e : j' = id
              · rw [e]; exact HZ.out
              · exact HX.out j' (by omega), rfl⟩
      · have hcc : (c != 0) = true := by rw [bne_iff_ne]; exact hc
        have hc1 : (c == 0) = false := by rw [beq_eq_false_iff_ne]; exact hc
        have hsame : l' = a.l := by
          rcases H2.out.2.1 with ⟨_, _, _, h2⟩ | ⟨_, _, _, _, h2⟩ | ⟨_, r, _, _, h1, _⟩
          · exact h2
          · exact h2
          · exact absurd h1 hc
        have HD := Lib.hid (And.intro hc hsame); clear hc hsame
        go_wp2_with fail
        go_ret2
        have M3 := H2.out.1
        rw [HD.out.2] at M3
        exact .inr ⟨q, rfl, hq, x, c, l', H2.out.2.1, .inl ⟨HD.out.1, rfl, M3, StR.of_chg H2.out.2.2.2.2 (fun k hk => .inl (by have e : k = h.A := (by simpa using hk); exact .inr (.inr (.inl e)))) (fun k hk => .inl hk)⟩⟩
  · have hz : szI k = 0 := szI_no hk
    rw [hz]
    have HK := Lib.hid (And.intro hk c1); clear hk c1 hz
    go_wp2_with fail
    go_ret2
    exact .inl ⟨HK.out.1, rfl, HK.out.2⟩
end Go.Proofs.YtcnchgbngcnijaaGreatDoor
