/- The document's arena (treadmillref5): the walk of Drop. Printed by wip/gencat2.py. -/
import Derived.Test.YtcnchgbngcnijaaGreatDoorMRl
import Derived.Test.YtcnchgbngcnijaaGreatDoorMOw
namespace Go.Proofs.YtcnchgbngcnijaaGreatDoor
open Go.RowKit Go.Maps

set_option maxHeartbeats 6400000 in
set_option maxRecDepth 100000 in
theorem radrop_ok (w : World) (h : RaH) (a : Ar) (ids : List Nat) (M : RaM w h a ids) (hl : ids.length ≤ 100000) (N : Nat) (ok : ArOk N a) (han : a.n ≤ 200) (x : Int) : Calls Tryz.prog 52 #[.pointer (some ⟨h.g, 0, none⟩), .int .i64 x] w (RdpPost h a ids x w) := by
  have b2 : w.cell? ⟨h.g, 2, none⟩ = some h.vs := M.b.cellv 2 rfl
  have hfi := rafind_ok w h a ids M hl x
  have HM := Lib.hid (And.intro M (And.intro hfi ok)); clear M hfi ok
  go_enter Tryz.func52, Tryz.ntmps52
  go_wp2_with fail
  refine HM.out.2.1.mono ?_
  rintro e w1 ⟨r, hr, rfl, rfl⟩
  rcases HM.out.1.find hr with ⟨rfl, hn⟩ | ⟨k, id, s, rfl, hk, rfl, hs, hx⟩
  · have HN := Lib.hid hn; clear hn hr
    go_wp2_with fail
    go_ret
    exact .inl ⟨HN.out, rfl, Chg.refl _ _⟩
  · obtain ⟨g, hv, hc⟩ := HM.out.1.scell hk
    obtain ⟨n, hn⟩ : ∃ n, n = ids.length := ⟨_, rfl⟩
    obtain ⟨c, hcc⟩ : ∃ c, c = vcap h.vs := ⟨_, rfl⟩
    have hkl : k < n := by rw [hn]; exact (List.getElem?_eq_some_iff.1 hk).1
    have hln : n ≤ 100000 := by rw [hn]; exact hl
    rw [← hn, ← hcc] at hv
    rw [hv] at b2
    have hkl' : (k : Int) < (n : Int) := by omega
    have hk0 : (0 : Int) ≤ (k : Int) := by omega
    have hk1 : ¬ (k : Int) < 0 := by omega
    obtain ⟨b, hb⟩ : ∃ b, b = h.B id := ⟨_, rfl⟩
    have hc' : w1.cell? ⟨g, k, none⟩ = some (.pointer (some ⟨b.g, 0, none⟩)) := by rw [hb]; exact hc
    obtain ⟨ρ, hI⟩ := HM.out.1.S id s hs
    have hkk := hI.hk
    rw [← hb] at hI
    have hli := rslive_ok w1 b s ρ hI
    have hcnt := cntF_le s.F (slK s.k)
    have h64 := (kF hkk).2.2.2.2.2.2.2.2
    have HF := Lib.hid (And.intro hI (And.intro hs (And.intro hb (And.intro hk (And.intro hn hli))))); clear hx hI hs hk hc hr hv hcc hn hb hli
    go_wp2_with fail
    refine HF.out.2.2.2.2.2.mono ?_
    rintro e w2 ⟨rfl, rfl⟩
    obtain ⟨ct, hct⟩ : ∃ ct, ct = cntF s.F (slK s.k) := ⟨_, rfl⟩
    rw [← hct] at hcnt ⊢
    have HC := Lib.hid hct; clear hct
    by_cases h0 : 0 < ct
    · have d0 : decide ((0 : Int) < (ct : Int)) = true := decide_eq_true (by omega)
      have d1 : decide (0 < ct) = true := decide_eq_true h0
      go_wp2_with fail
      go_ret
      exact .inr ⟨id, s, rfl, HF.out.2.1, .inl ⟨by rw [← HC.out]; exact h0, rfl, Chg.refl _ _⟩⟩
    · obtain rfl : ct = 0 := by omega
      have b0 : w2.cell? ⟨h.g, 0, none⟩ = some (.pointer (some ⟨h.gp, 0, none⟩)) := HM.out.1.b.cellv 0 rfl
      have hga := HM.out.1.b.lt
      have f0 : w2.cell? ⟨b.g, 0, none⟩ = some (.int .i64 s.first) := HF.out.1.hb.cellv 0 rfl
      have f1 : w2.cell? ⟨b.g, 1, none⟩ = some (.int .i64 s.k) := HF.out.1.hb.cellv 1 rfl
      have hgb := HF.out.1.hb.lt
      have hgg := lt_of_cell hc'
      obtain ⟨F, hP, hF⟩ := HM.out.1.P
      have HP := Lib.hid (And.intro hP hF); clear hP hF hcnt h0
      go_upto_region 6 with fail
      refine wp_region_takes (fuel := 2) 25 (fun w' => Chg [] w2 w') [0, 1, 2, 3, 4, 5, 6, 7, 8, 9, 10, 11, 12, 13, 14, 15, 16, 17, 18, 19, 20, 21, 22, 23] (by kernel_rfl) (by kernel_rfl) (fun _ _ _ _ _ h => h) ((Chg.refl [] w2).drew) ?_
      simp only [List.filterMap_cons, List.filterMap_nil, List.getElem?_cons_zero, List.getElem?_cons_succ]
      iterate 24
        refine wpTake_step (fun K hK => ?_)
        rw [if_pos (by rfl)]
        refine ⟨?_, fun w' hS' => ?_, ?_⟩
        rotate_left 1
        focus
          have q0 := hS'.cellv hga (by simp) b0
          have q2 := hS'.cellv hga (by simp) b2
          have q3 := hS'.cellv hgg (by simp) hc'
          have q4 := hS'.cellv hgb (by simp) f0
          have q5 := hS'.cellv hgb (by simp) f1
          go_simp
          try with_reducible rfl
          done
        simp only [Act.put, List.setIfInBounds_toArray, List.set_cons_zero, List.set_cons_succ]
        refine hK _ ?_
        clear hK K
      refine wpTake_nil ?_
      generalize hx0 : w2.drew = x0
      have D0 : Chg [] w2 x0 := by rw [← hx0]; exact (Chg.refl [] w2).drew
      clear hx0
      refine wpAnyS_ready (rs := [24]) (by kernel_rfl) (by simp) ?_
      refine AllReadyS.cons (by simp only [List.getElem?_toArray, List.getElem?_cons_zero, List.getElem?_cons_succ]; rfl) (fun K hK => ?_) AllReadyS.nil
      rw [if_pos (by rfl)]
      go_simp
      go_at_call 36
      refine (rpages_ok _ s.k hkk).mono ?_
      rintro e x1 ⟨rfl, c1⟩
      dsimp only
      have D1 : Chg [] w2 x1 := D0.trans c1
      refine hK _ _ D1 ?_
      clear hK K
      try simp only [Act.put, List.setIfInBounds_toArray, List.set_cons_zero, List.set_cons_succ]
      refine wpAnyS_tail 25 1 (by kernel_rfl) rfl ?_
      simp only [List.drop_succ_cons, List.drop_zero]
      have hbk := rback_ok x1 h.gp h.A h.c a.n F a.l (HP.out.1.chg0 D1) HM.out.2.2.ok HP.out.2 (by omega) (s.first : Nat) (pgK s.k : Nat)
      have HD := Lib.hid (And.intro D1 hbk); clear D1 hbk D0 c1
      go_wp2_with fail
      refine HD.out.2.mono ?_
      rintro e w3 ⟨cc, l', F', rfl, hfs, hF', P', C3⟩
      have c2 : Chg [h.A] w2 w3 := (HD.out.1.mono (by simp)).trans C3
      have M3 := HM.out.1.pages c2 P' hF'
      have H3 := Lib.hid (And.intro hfs (And.intro hF' (And.intro P' c2))); clear hfs hF' P' c2 C3
      have B := Lib.hid M3.b
      have M5 := Lib.hid M3; clear M3
      have hlenI := Lib.hid HF.out.2.2.2.2.1.symm
      have hkn : k ≤ n := by omega
      have hkn1 : k + 1 ≤ n := by omega
      have ek1 : IntKind.i64.wrap ((k : Int) + 1) = ((k + 1 : Nat) : Int) := by rw [IntKind.wrap_i64]; omega
      clear b0 f0 f1 b2 hc' hga hgb hgg
      go_upto_region 7 with fail
      go_cut [] from 46 to 64 (fun wd => CatPost 3 w3 h.g 40 #[.pointer (some ⟨h.gp, 0, none⟩), h.vi, h.vs, h.vl, .map (some h.bw)] 1 (((intsN ids).map (Value.int .i64)).take k ++ ((intsN ids).map (Value.int .i64)).drop (k + 1)) wd)
      case first =>
        have one : ∀ y ∈ ((intsN ids).map (Value.int .i64)), y.oneCell' = true := fun y hy => by
          obtain ⟨_, _, rfl⟩ := List.mem_map.1 hy
          rfl
        have hlen : (((intsN ids).map (Value.int .i64))).length = n := by unfold intsN; rw [List.length_map, List.length_map]; exact hlenI.out
        have hle : k ≤ (((intsN ids).map (Value.int .i64))).length := by rw [hlen]; exact hkn
        have hle3 : (k + 1) ≤ (((intsN ids).map (Value.int .i64))).length := by rw [hlen]; exact hkn1
        obtain ⟨Af, cf, hvf⟩ := (M5.out.i.v).slice
        have Of := M5.out.i.v
        rw [hlen] at hvf
        rw [hvf] at Of
        have bF := B.out.cellv 1 rfl
        rw [hvf] at bF
        have hcap0 := Of.capN
        rw [hlen] at hcap0
        have hcap : k ≤ cf := Nat.le_trans hkn hcap0
        have hdle : (k + 1) ≤ n := hkn1
        have hgW := B.out.lt
        have U1 := rd_take Of one hle
        have U3 := rd_drop Of one hle3
        obtain ⟨u1, hu1⟩ : ∃ u, u = sliced Af 0 k cf 1 := ⟨_, rfl⟩
        obtain ⟨u3, hu3⟩ : ∃ u, u = sliced Af (k + 1) n cf 1 := ⟨_, rfl⟩
        rw [← hu1] at U1
        rw [← hu3] at U3
        have U1 := Lib.hid U1
        have U3 := Lib.hid U3
        have Hu1 := Lib.hid hu1
        have Hu3 := Lib.hid hu3
        clear Of one hle hle3 hvf hu1 hu3
        refine wp_region_takes (fuel := 6) 17 (fun w' => Chg [] w3 w') [0, 2, 3, 4, 5, 6, 7, 9, 10, 11, 12, 13, 14, 15] (by kernel_rfl) (by kernel_rfl) (fun _ _ _ _ _ h => h) ((Chg.refl [] w3).drew) ?_
        simp only [List.filterMap_cons, List.filterMap_nil, List.getElem?_cons_zero, List.getElem?_cons_succ]
        iterate 6
          refine wpTake_step (fun K hK => ?_)
          rw [if_pos (by rfl)]
          refine ⟨?_, fun w' hS' => ?_, ?_⟩
          rotate_left 1
          focus
            have yF := hS'.cellv hgW (by simp) bF
            go_simp
            try with_reducible rfl
            done
          simp only [Act.put, List.setIfInBounds_toArray, List.set_cons_zero, List.set_cons_succ]
          refine hK _ ?_
          clear hK K
        refine wpTake_step (fun K hK => ?_)
        rw [if_pos (by rfl)]
        refine ⟨u1, fun w' _ => ?_, ?_⟩
        focus (rw [Hu1.out]; exact run_take_v slvI _ _ (by rfl) (by rfl) (by rfl) hcap)
        simp only [Act.put, List.setIfInBounds_toArray, List.set_cons_zero, List.set_cons_succ]
        refine hK _ ?_
        clear hK K
        iterate 6
          refine wpTake_step (fun K hK => ?_)
          rw [if_pos (by rfl)]
          refine ⟨?_, fun w' hS' => ?_, ?_⟩
          rotate_left 1
          focus
            have yF := hS'.cellv hgW (by simp) bF
            go_simp
            try with_reducible rfl
            done
          simp only [Act.put, List.setIfInBounds_toArray, List.set_cons_zero, List.set_cons_succ]
          refine hK _ ?_
          clear hK K
        refine wpTake_step (fun K hK => ?_)
        rw [if_pos (by rfl)]
        refine ⟨u3, fun w' _ => ?_, ?_⟩
        focus (rw [Hu3.out]; exact run_drop_v slvI _ _ (by rfl) (by rfl) (by rfl) hdle)
        simp only [Act.put, List.setIfInBounds_toArray, List.set_cons_zero, List.set_cons_succ]
        refine hK _ ?_
        clear hK K
        refine wpTake_nil ?_
        generalize hx0 : w3.drew = x0
        have D0 : Chg [] w3 x0 := by rw [← hx0]; exact (Chg.refl [] w3).drew
        clear hx0
        refine wpAnyS_ready (rs := [1]) (by kernel_rfl) (by simp) ?_
        refine AllReadyS.one (by simp only [List.getElem?_toArray, List.getElem?_cons_zero, List.getElem?_cons_succ]; rfl) (fun K hK => ?_)
        refine step_lit0 slvI (by rfl) (by rfl) ?_
        intro v1 x1 O1 c1 F1
        have D1 := D0.trans c1
        have G1 := F1
        replace F1 : ∀ j ∈ fpv v1, w3.heap.size ≤ j := fun j hj => Nat.le_trans D0.size (G1 j hj)
        refine hK _ _ (D1) ?_
        clear hK K
        try simp only [Act.put, List.setIfInBounds_toArray, List.set_cons_zero, List.set_cons_succ]
        refine wpAnyS_ready (rs := [8]) (by kernel_rfl) (by simp) ?_
        refine AllReadyS.one (by simp only [List.getElem?_toArray, List.getElem?_cons_zero, List.getElem?_cons_succ]; rfl) (fun K hK => ?_)
        refine step_cat_f (W := w3) k (by simp only [List.length_append, List.length_nil, List.length_take, List.length_drop, List.length_singleton, List.length_cons]; omega) (by rfl) _ _ (by rfl) slvI (by rfl) O1 D1 F1 (by rfl) (U1.out.chg D1 (Nat.le_refl _) (by simp)) (by omega) ?_
        intro v2 x2 O2 c2 D2 P2 F2
        refine hK _ _ (D2) ?_
        clear hK K
        try simp only [Act.put, List.setIfInBounds_toArray, List.set_cons_zero, List.set_cons_succ]
        refine wpAnyS_ready (rs := [16]) (by kernel_rfl) (by simp) ?_
        refine AllReadyS.one (by simp only [List.getElem?_toArray, List.getElem?_cons_zero, List.getElem?_cons_succ]; rfl) (fun K hK => ?_)
        refine step_cat_f (W := w3) (n - 1) (by simp only [List.length_append, List.length_nil, List.length_take, List.length_drop, List.length_singleton, List.length_cons]; omega) (by rfl) _ _ (by rfl) slvI (by rfl) O2 D2 F2 (by rfl) (U3.out.chg D2 (Nat.le_refl _) (by simp)) (by omega) ?_
        intro v3 x3 O3 c3 D3 P3 F3
        refine hK _ _ (D3) ?_
        clear hK K
        try simp only [Act.put, List.setIfInBounds_toArray, List.set_cons_zero, List.set_cons_succ]
        refine wpAnyS_tail 17 3 (by kernel_rfl) rfl ?_
        simp only [List.drop_succ_cons, List.drop_zero]
        have O9 := O3
        rw [List.nil_append] at O9
        obtain ⟨A9, c9, e8⟩ := O9.slice
        obtain ⟨N9, e9⟩ : ∃ N9, v3 = .slice A9 N9 c9 := ⟨_, e8⟩
        clear e8
        have yF := D3.cellv hgW (by simp) bF
        have zF := (D3.blk B.out (by simp)).frozen 1
        have HF9 := Lib.hid (And.intro O9 (And.intro D3 F3))
        clear O9 D0 D1 D2 D3
        subst e9
        go_wp2_with fail
        go_meet
        exact cat_done B.out HF9.out.2.1 HF9.out.1 HF9.out.2.2
      case rest =>
        obtain ⟨vi, Oi, fi, B6, c6⟩ := hcut
        obtain ⟨w6, rfl⟩ : ∃ W : World, W = wc := ⟨_, rfl⟩
        clear B
        have B := Lib.hid (show Blk w6 h.g 40 #[.pointer (some ⟨h.gp, 0, none⟩), vi, h.vs, h.vl, .map (some h.bw)] from B6)
        have OS6 := M5.out.s.chg c6 (fun k hk hm => M5.out.s.ne_blk M5.out.b (by decide) ((show k = h.g by simpa using hm) ▸ hk))
        have OL6 := M5.out.l.chg c6 (fun k hk hm => M5.out.l.ne_blk M5.out.b (by decide) ((show k = h.g by simpa using hm) ▸ hk))
        have H6 := Lib.hid (And.intro Oi (And.intro fi (And.intro c6 OL6))); clear Oi fi c6 OL6 B6
        have OS6 := Lib.hid OS6
        go_upto_region 8 with fail
        go_cut [] from 65 to 83 (fun wd => CatPost 97 w6 h.g 40 #[.pointer (some ⟨h.gp, 0, none⟩), vi, h.vs, h.vl, .map (some h.bw)] 2 ((ids.map (raP h)).take k ++ (ids.map (raP h)).drop (k + 1)) wd)
        case first =>
          have one : ∀ y ∈ (ids.map (raP h)), y.oneCell' = true := fun y hy => by
            obtain ⟨_, _, rfl⟩ := List.mem_map.1 hy
            rfl
          have hlen : ((ids.map (raP h))).length = n := by rw [List.length_map]; exact hlenI.out
          have hle : k ≤ ((ids.map (raP h))).length := by rw [hlen]; exact hkn
          have hle3 : (k + 1) ≤ ((ids.map (raP h))).length := by rw [hlen]; exact hkn1
          obtain ⟨Af, cf, hvf⟩ := (OS6.out).slice
          have Of := OS6.out
          rw [hlen] at hvf
          rw [hvf] at Of
          have bF := B.out.cellv 2 rfl
          rw [hvf] at bF
          have hcap0 := Of.capN
          rw [hlen] at hcap0
          have hcap : k ≤ cf := Nat.le_trans hkn hcap0
          have hdle : (k + 1) ≤ n := hkn1
          have hgW := B.out.lt
          have U1 := rd_take Of one hle
          have U3 := rd_drop Of one hle3
          obtain ⟨u1, hu1⟩ : ∃ u, u = sliced Af 0 k cf 1 := ⟨_, rfl⟩
          obtain ⟨u3, hu3⟩ : ∃ u, u = sliced Af (k + 1) n cf 1 := ⟨_, rfl⟩
          rw [← hu1] at U1
          rw [← hu3] at U3
          have U1 := Lib.hid U1
          have U3 := Lib.hid U3
          have Hu1 := Lib.hid hu1
          have Hu3 := Lib.hid hu3
          clear Of one hle hle3 hvf hu1 hu3
          refine wp_region_takes (fuel := 6) 17 (fun w' => Chg [] w6 w') [0, 2, 3, 4, 5, 6, 7, 9, 10, 11, 12, 13, 14, 15] (by kernel_rfl) (by kernel_rfl) (fun _ _ _ _ _ h => h) ((Chg.refl [] w6).drew) ?_
          simp only [List.filterMap_cons, List.filterMap_nil, List.getElem?_cons_zero, List.getElem?_cons_succ]
          iterate 6
            refine wpTake_step (fun K hK => ?_)
            rw [if_pos (by rfl)]
            refine ⟨?_, fun w' hS' => ?_, ?_⟩
            rotate_left 1
            focus
              have yF := hS'.cellv hgW (by simp) bF
              go_simp
              try with_reducible rfl
              done
            simp only [Act.put, List.setIfInBounds_toArray, List.set_cons_zero, List.set_cons_succ]
            refine hK _ ?_
            clear hK K
          refine wpTake_step (fun K hK => ?_)
          rw [if_pos (by rfl)]
          refine ⟨u1, fun w' _ => ?_, ?_⟩
          focus (rw [Hu1.out]; exact run_take_v slvS _ _ (by rfl) (by rfl) (by rfl) hcap)
          simp only [Act.put, List.setIfInBounds_toArray, List.set_cons_zero, List.set_cons_succ]
          refine hK _ ?_
          clear hK K
          iterate 6
            refine wpTake_step (fun K hK => ?_)
            rw [if_pos (by rfl)]
            refine ⟨?_, fun w' hS' => ?_, ?_⟩
            rotate_left 1
            focus
              have yF := hS'.cellv hgW (by simp) bF
              go_simp
              try with_reducible rfl
              done
            simp only [Act.put, List.setIfInBounds_toArray, List.set_cons_zero, List.set_cons_succ]
            refine hK _ ?_
            clear hK K
          refine wpTake_step (fun K hK => ?_)
          rw [if_pos (by rfl)]
          refine ⟨u3, fun w' _ => ?_, ?_⟩
          focus (rw [Hu3.out]; exact run_drop_v slvS _ _ (by rfl) (by rfl) (by rfl) hdle)
          simp only [Act.put, List.setIfInBounds_toArray, List.set_cons_zero, List.set_cons_succ]
          refine hK _ ?_
          clear hK K
          refine wpTake_nil ?_
          generalize hx0 : w6.drew = x0
          have D0 : Chg [] w6 x0 := by rw [← hx0]; exact (Chg.refl [] w6).drew
          clear hx0
          refine wpAnyS_ready (rs := [1]) (by kernel_rfl) (by simp) ?_
          refine AllReadyS.one (by simp only [List.getElem?_toArray, List.getElem?_cons_zero, List.getElem?_cons_succ]; rfl) (fun K hK => ?_)
          refine step_lit0 slvS (by rfl) (by rfl) ?_
          intro v1 x1 O1 c1 F1
          have D1 := D0.trans c1
          have G1 := F1
          replace F1 : ∀ j ∈ fpv v1, w6.heap.size ≤ j := fun j hj => Nat.le_trans D0.size (G1 j hj)
          refine hK _ _ (D1) ?_
          clear hK K
          try simp only [Act.put, List.setIfInBounds_toArray, List.set_cons_zero, List.set_cons_succ]
          refine wpAnyS_ready (rs := [8]) (by kernel_rfl) (by simp) ?_
          refine AllReadyS.one (by simp only [List.getElem?_toArray, List.getElem?_cons_zero, List.getElem?_cons_succ]; rfl) (fun K hK => ?_)
          refine step_cat_f (W := w6) k (by simp only [List.length_append, List.length_nil, List.length_take, List.length_drop, List.length_singleton, List.length_cons]; omega) (by rfl) _ _ (by rfl) slvS (by rfl) O1 D1 F1 (by rfl) (U1.out.chg D1 (Nat.le_refl _) (by simp)) (by omega) ?_
          intro v2 x2 O2 c2 D2 P2 F2
          refine hK _ _ (D2) ?_
          clear hK K
          try simp only [Act.put, List.setIfInBounds_toArray, List.set_cons_zero, List.set_cons_succ]
          refine wpAnyS_ready (rs := [16]) (by kernel_rfl) (by simp) ?_
          refine AllReadyS.one (by simp only [List.getElem?_toArray, List.getElem?_cons_zero, List.getElem?_cons_succ]; rfl) (fun K hK => ?_)
          refine step_cat_f (W := w6) (n - 1) (by simp only [List.length_append, List.length_nil, List.length_take, List.length_drop, List.length_singleton, List.length_cons]; omega) (by rfl) _ _ (by rfl) slvS (by rfl) O2 D2 F2 (by rfl) (U3.out.chg D2 (Nat.le_refl _) (by simp)) (by omega) ?_
          intro v3 x3 O3 c3 D3 P3 F3
          refine hK _ _ (D3) ?_
          clear hK K
          try simp only [Act.put, List.setIfInBounds_toArray, List.set_cons_zero, List.set_cons_succ]
          refine wpAnyS_tail 17 3 (by kernel_rfl) rfl ?_
          simp only [List.drop_succ_cons, List.drop_zero]
          have O9 := O3
          rw [List.nil_append] at O9
          obtain ⟨A9, c9, e8⟩ := O9.slice
          obtain ⟨N9, e9⟩ : ∃ N9, v3 = .slice A9 N9 c9 := ⟨_, e8⟩
          clear e8
          have yF := D3.cellv hgW (by simp) bF
          have zF := (D3.blk B.out (by simp)).frozen 2
          have HF9 := Lib.hid (And.intro O9 (And.intro D3 F3))
          clear O9 D0 D1 D2 D3
          subst e9
          go_wp2_with fail
          go_meet
          exact cat_done B.out HF9.out.2.1 HF9.out.1 HF9.out.2.2
        case rest =>
          obtain ⟨vs, Os, fs, B7, c7⟩ := hcut
          obtain ⟨w7, rfl⟩ : ∃ W : World, W = wc := ⟨_, rfl⟩
          clear B
          have B := Lib.hid (show Blk w7 h.g 40 #[.pointer (some ⟨h.gp, 0, none⟩), vi, vs, h.vl, .map (some h.bw)] from B7)
          have OL7 := H6.out.2.2.2.chg c7 (fun k hk hm => M5.out.l.ne_blk M5.out.b (by decide) ((show k = h.g by simpa using hm) ▸ hk))
          have H7 := Lib.hid (And.intro Os (And.intro fs c7)); clear Os fs c7 B7
          have OL7 := Lib.hid (show OwnV 33 w7 h.vl (ids.map (raL h a)) from OL7)
          go_upto_region 9 with fail
          go_cut [] from 84 to 102 (fun wd => CatPost 33 w7 h.g 40 #[.pointer (some ⟨h.gp, 0, none⟩), vi, vs, h.vl, .map (some h.bw)] 3 ((ids.map (raL h a)).take k ++ (ids.map (raL h a)).drop (k + 1)) wd)
          case first =>
            have one : ∀ y ∈ (ids.map (raL h a)), y.oneCell' = true := fun y hy => by
              obtain ⟨_, _, rfl⟩ := List.mem_map.1 hy
              rfl
            have hlen : ((ids.map (raL h a))).length = n := by rw [List.length_map]; exact hlenI.out
            have hle : k ≤ ((ids.map (raL h a))).length := by rw [hlen]; exact hkn
            have hle3 : (k + 1) ≤ ((ids.map (raL h a))).length := by rw [hlen]; exact hkn1
            obtain ⟨Af, cf, hvf⟩ := (OL7.out).slice
            have Of := OL7.out
            rw [hlen] at hvf
            rw [hvf] at Of
            have bF := B.out.cellv 3 rfl
            rw [hvf] at bF
            have hcap0 := Of.capN
            rw [hlen] at hcap0
            have hcap : k ≤ cf := Nat.le_trans hkn hcap0
            have hdle : (k + 1) ≤ n := hkn1
            have hgW := B.out.lt
            have U1 := rd_take Of one hle
            have U3 := rd_drop Of one hle3
            obtain ⟨u1, hu1⟩ : ∃ u, u = sliced Af 0 k cf 1 := ⟨_, rfl⟩
            obtain ⟨u3, hu3⟩ : ∃ u, u = sliced Af (k + 1) n cf 1 := ⟨_, rfl⟩
            rw [← hu1] at U1
            rw [← hu3] at U3
            have U1 := Lib.hid U1
            have U3 := Lib.hid U3
            have Hu1 := Lib.hid hu1
            have Hu3 := Lib.hid hu3
            clear Of one hle hle3 hvf hu1 hu3
            refine wp_region_takes (fuel := 6) 17 (fun w' => Chg [] w7 w') [0, 2, 3, 4, 5, 6, 7, 9, 10, 11, 12, 13, 14, 15] (by kernel_rfl) (by kernel_rfl) (fun _ _ _ _ _ h => h) ((Chg.refl [] w7).drew) ?_
            simp only [List.filterMap_cons, List.filterMap_nil, List.getElem?_cons_zero, List.getElem?_cons_succ]
            iterate 6
              refine wpTake_step (fun K hK => ?_)
              rw [if_pos (by rfl)]
              refine ⟨?_, fun w' hS' => ?_, ?_⟩
              rotate_left 1
              focus
                have yF := hS'.cellv hgW (by simp) bF
                go_simp
                try with_reducible rfl
                done
              simp only [Act.put, List.setIfInBounds_toArray, List.set_cons_zero, List.set_cons_succ]
              refine hK _ ?_
              clear hK K
            refine wpTake_step (fun K hK => ?_)
            rw [if_pos (by rfl)]
            refine ⟨u1, fun w' _ => ?_, ?_⟩
            focus (rw [Hu1.out]; exact run_take_v slvL _ _ (by rfl) (by rfl) (by rfl) hcap)
            simp only [Act.put, List.setIfInBounds_toArray, List.set_cons_zero, List.set_cons_succ]
            refine hK _ ?_
            clear hK K
            iterate 6
              refine wpTake_step (fun K hK => ?_)
              rw [if_pos (by rfl)]
              refine ⟨?_, fun w' hS' => ?_, ?_⟩
              rotate_left 1
              focus
                have yF := hS'.cellv hgW (by simp) bF
                go_simp
                try with_reducible rfl
                done
              simp only [Act.put, List.setIfInBounds_toArray, List.set_cons_zero, List.set_cons_succ]
              refine hK _ ?_
              clear hK K
            refine wpTake_step (fun K hK => ?_)
            rw [if_pos (by rfl)]
            refine ⟨u3, fun w' _ => ?_, ?_⟩
            focus (rw [Hu3.out]; exact run_drop_v slvL _ _ (by rfl) (by rfl) (by rfl) hdle)
            simp only [Act.put, List.setIfInBounds_toArray, List.set_cons_zero, List.set_cons_succ]
            refine hK _ ?_
            clear hK K
            refine wpTake_nil ?_
            generalize hx0 : w7.drew = x0
            have D0 : Chg [] w7 x0 := by rw [← hx0]; exact (Chg.refl [] w7).drew
            clear hx0
            refine wpAnyS_ready (rs := [1]) (by kernel_rfl) (by simp) ?_
            refine AllReadyS.one (by simp only [List.getElem?_toArray, List.getElem?_cons_zero, List.getElem?_cons_succ]; rfl) (fun K hK => ?_)
            refine step_lit0 slvL (by rfl) (by rfl) ?_
            intro v1 x1 O1 c1 F1
            have D1 := D0.trans c1
            have G1 := F1
            replace F1 : ∀ j ∈ fpv v1, w7.heap.size ≤ j := fun j hj => Nat.le_trans D0.size (G1 j hj)
            refine hK _ _ (D1) ?_
            clear hK K
            try simp only [Act.put, List.setIfInBounds_toArray, List.set_cons_zero, List.set_cons_succ]
            refine wpAnyS_ready (rs := [8]) (by kernel_rfl) (by simp) ?_
            refine AllReadyS.one (by simp only [List.getElem?_toArray, List.getElem?_cons_zero, List.getElem?_cons_succ]; rfl) (fun K hK => ?_)
            refine step_cat_f (W := w7) k (by simp only [List.length_append, List.length_nil, List.length_take, List.length_drop, List.length_singleton, List.length_cons]; omega) (by rfl) _ _ (by rfl) slvL (by rfl) O1 D1 F1 (by rfl) (U1.out.chg D1 (Nat.le_refl _) (by simp)) (by omega) ?_
            intro v2 x2 O2 c2 D2 P2 F2
            refine hK _ _ (D2) ?_
            clear hK K
            try simp only [Act.put, List.setIfInBounds_toArray, List.set_cons_zero, List.set_cons_succ]
            refine wpAnyS_ready (rs := [16]) (by kernel_rfl) (by simp) ?_
            refine AllReadyS.one (by simp only [List.getElem?_toArray, List.getElem?_cons_zero, List.getElem?_cons_succ]; rfl) (fun K hK => ?_)
            refine step_cat_f (W := w7) (n - 1) (by simp only [List.length_append, List.length_nil, List.length_take, List.length_drop, List.length_singleton, List.length_cons]; omega) (by rfl) _ _ (by rfl) slvL (by rfl) O2 D2 F2 (by rfl) (U3.out.chg D2 (Nat.le_refl _) (by simp)) (by omega) ?_
            intro v3 x3 O3 c3 D3 P3 F3
            refine hK _ _ (D3) ?_
            clear hK K
            try simp only [Act.put, List.setIfInBounds_toArray, List.set_cons_zero, List.set_cons_succ]
            refine wpAnyS_tail 17 3 (by kernel_rfl) rfl ?_
            simp only [List.drop_succ_cons, List.drop_zero]
            have O9 := O3
            rw [List.nil_append] at O9
            obtain ⟨A9, c9, e8⟩ := O9.slice
            obtain ⟨N9, e9⟩ : ∃ N9, v3 = .slice A9 N9 c9 := ⟨_, e8⟩
            clear e8
            have yF := D3.cellv hgW (by simp) bF
            have zF := (D3.blk B.out (by simp)).frozen 3
            have HF9 := Lib.hid (And.intro O9 (And.intro D3 F3))
            clear O9 D0 D1 D2 D3
            subst e9
            go_wp2_with fail
            go_meet
            exact cat_done B.out HF9.out.2.1 HF9.out.1 HF9.out.2.2
          case rest =>
            obtain ⟨vl, Ol, fl, B8, c8⟩ := hcut
            obtain ⟨w8, rfl⟩ : ∃ W : World, W = wc := ⟨_, rfl⟩
            have H8 := Lib.hid (And.intro Ol (And.intro fl (And.intro B8 c8))); clear Ol fl B8 c8 B
            go_wp2_with fail
            go_ret
            obtain ⟨h', e1, e2, MM, SS⟩ := HM.out.1.dropped HF.out.2.1 HF.out.2.2.2.1 HC.out.symm H3.out.2.2.2 H3.out.2.2.1 H3.out.2.1 H6.out.2.2.1 H6.out.1 H6.out.2.1 H7.out.2.2 H7.out.1 H7.out.2.1 H8.out.2.2.2 H8.out.1 H8.out.2.1 H8.out.2.2.1 (Chg.refl [] w8)
            exact .inr ⟨id, s, rfl, HF.out.2.1, .inr ⟨HC.out.symm, cc, l', h', ids.eraseIdx k, rfl, H3.out.1, e1, e2, MM, SS⟩⟩
end Go.Proofs.YtcnchgbngcnijaaGreatDoor
