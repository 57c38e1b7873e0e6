/- Package machine: collect, while the collector is off and nothing lives. -/
import Derived.Test.YtcpljjacamibeaaGreatDoorMcPJ
import Derived.Laws.ResultCell
namespace Go.Proofs.YtcpljjacamibeaaGreatDoor
set_option maxHeartbeats 16000000
set_option maxRecDepth 100000
open Go.RowKit Go.Maps
theorem results_ct {P : Program} {fn : Func} {a u : Tmp} {ty : TypeId} (h : fn.results = #[.cell a ty, .tmp u]) {tmps : Array Value} {w : World} {ad : Addr} {v x : Value} (ha : tmps.getD a undef = .pointer (some ad)) (hu : tmps.getD u undef = x) (hl : (loadVar ty ad).run P w = .ok v w) : (results fn tmps).run P w = .ok (.tuple #[v, x]) w := by
  rw [results_cell_tmp h, ha, hu]
  simp [asAddr, hl, Result.andThen]
theorem ld_ev (w : World) {g : Nat} {a b c : Value} (h : Blk w g 48 #[a, b, c]) : (loadVar 48 ⟨g, 0, none⟩).run Tryz.prog w = .ok (.agg #[a, b, c]) w := run_loadVar_row w g _ _ _ (0, 0) _ h Tryz.underlying48 rfl (by kernel_rfl)
section
variable {W : Bs} {w : World} {p : MAt} {m : Mac} (M : MM W w p m)
include M
theorem m_collect (q : Nat) (hq : q < m.np) (h0 : m.ph.ph = 0) (hf : m.force = 0) (hcy : 0 ≤ m.ph.cyc) (hl : m.A.a.live = 0) (hT : 0 < m.gT) (hP : m.np ≤ 64) (wk al : Nat) (hwk : (m.ps q).worked = wk) (hal : (m.ps q).all = al) (bwk : wk ≤ 1000000) (bal : al ≤ 1000000) :
    Calls Tryz.prog 85 #[.pointer (some ⟨p.gm, 0, none⟩), .int .i64 (q : Nat)] w (NwPost (.tuple #[.agg #[.int .i64 0, .int .i64 0, .int .i64 0], .bool false]) w) := by
  obtain ⟨b, cap, c9, hs⟩ := M.psl
  obtain ⟨hv, hbq, hbl⟩ := hs q hq
  rw [hv] at c9
  have e1 : (0 : Int) ≤ q := by omega
  have e2 : (q : Int) < (m.np : Int) := by omega
  have hP1 : 1 ≤ m.np := by omega
  have HM := Lib.hid (And.intro M (And.intro hv (And.intro hwk hal)))
  clear hs hv hwk hal M
  obtain ⟨w1, hw1⟩ : ∃ w1, w1 = w.alloc (.cells #[.int .i64 0, .int .i64 0, .int .i64 0] 48) := ⟨_, rfl⟩
  obtain ⟨gE, hgE⟩ : ∃ gE, gE = w.heap.size := ⟨_, rfl⟩
  have c01 : Chg [] w w1 := by rw [hw1]; exact (Chg.refl _ _).alloc _
  have BE : Blk w1 gE 48 #[.int .i64 0, .int .i64 0, .int .i64 0] := by rw [hw1, hgE]; exact Blk.new _ _ _
  go_enter Tryz.func85, Tryz.ntmps85
  go_upto_region 1 with fail
  rw [← hgE, ← hw1]
  have M1 := HM.out.1.chg0 c01
  have c9 : w1.cell? ⟨p.gm, 9, none⟩ = some (.slice (some ⟨b, 0, none⟩) m.np cap) := c01.cellv HM.out.1.mb.lt (by simp) c9
  have hbq : w1.cell? ⟨b, q, none⟩ = some (.pointer (some ⟨p.bp q, 0, none⟩)) := c01.cellv hbl (by simp) hbq
  have hbl : b < w1.heap.size := c01.lt hbl
  have c5 : w1.cell? ⟨p.gm, 5, none⟩ = some (.int .i64 m.part) := M1.mb.cellv 5 rfl
  have k7 : w1.cell? ⟨p.bp q, 7, none⟩ = some (.int .i64 (wk : Nat)) := by rw [← HM.out.2.2.1]; exact (M1.pb hq).cellv 7 rfl
  have k8 : w1.cell? ⟨p.bp q, 8, none⟩ = some (.int .i64 (al : Nat)) := by rw [← HM.out.2.2.2]; exact (M1.pb hq).cellv 8 rfl
  have l0 := M1.mb.lt
  have l1 := (M1.pb hq).lt
  have hge : w.heap.size ≤ gE := by omega
  have H1 := Lib.hid (And.intro M1 (And.intro BE (And.intro c01 hge)))
  clear M1 BE c01 hw1 hgE hge
  go_wp2_with fail
  refine wp_region_takes (fuel := 25) 24 (fun w' => Chg [] w1 w') [0, 1, 2, 3, 4, 5, 6, 7, 8, 9] (by kernel_rfl) (by kernel_rfl) (fun _ _ _ _ _ h => h) ((Chg.refl [] w1).drew) ?_
  simp only [List.filterMap_cons, List.filterMap_nil, qGa, qGb]
  iterate 10
    refine wpTake_step (fun K hK => ?_)
    rw [if_pos (by rfl)]
    refine ⟨?_, fun w' hS' => ?_, ?_⟩
    rotate_left 1
    focus
      have y9 := hS'.cellv l0 (by simp) c9
      have y5 := hS'.cellv l0 (by simp) c5
      have y7 := hS'.cellv l1 (by simp) k7
      have y8 := hS'.cellv l1 (by simp) k8
      go_simp
      try with_reducible rfl
      done
    simp only [Act.put, qSa, qSb, qSc]
    refine hK _ ?_
    clear hK K
  refine wpTake_nil ?_
  generalize hx0 : w1.drew = x0
  have D0 : Chg [] w1 x0 := by rw [← hx0]; exact (Chg.refl [] w1).drew
  clear hx0
  refine wpAnyS_ready (rs := [10]) (by kernel_rfl) (by simp) ?_
  refine AllReadyS.o (fun K hK => ?_)
  rw [if_pos (by rfl)]
  go_simp
  go_at_call 129
  refine (sh_dedicated x0 (q : Nat) m.np hP1 hP m.part).mono ?_
  rintro e x1 ⟨bb, rfl, k1⟩
  dsimp only
  have D1 : Chg [] w1 x1 := D0.trans k1
  cases bb
  · refine hK _ _ (D1) ?_
    clear hK K
    try simp only [Act.put, qSa, qSb, qSc]
    refine wpAnyS_more (fuel := 11) [11, 12, 13, 14, 15, 16, 17, 18, 19, 20, 21, 22, 23] (by kernel_rfl) (fun _ _ _ _ _ h => h) D1 ?_
    simp only [List.filterMap_cons, List.filterMap_nil, qGa, qGb]
    iterate 13
      refine wpTake_step (fun K hK => ?_)
      rw [if_pos (by rfl)]
      refine ⟨?_, fun w' hS' => ?_, ?_⟩
      rotate_left 1
      focus
        have y9 := hS'.cellv l0 (by simp) c9
        have y5 := hS'.cellv l0 (by simp) c5
        have y7 := hS'.cellv l1 (by simp) k7
        have y8 := hS'.cellv l1 (by simp) k8
        go_simp
        try with_reducible rfl
        done
      simp only [Act.put, qSa, qSb, qSc]
      refine hK _ ?_
      clear hK K
    refine wpTake_nil ?_
    refine wpAnyS_tail 24 11 (by kernel_rfl) rfl ?_
    simp only [qDa, qDb]
    go_wp2_with fail
    refine (sh_may x1 wk al m.part bwk bal).mono ?_
    rintro e x2 ⟨bb, rfl, k2⟩
    have D : Chg [] w1 x2 := D1.trans k2
    clear D1 D0 k1 k2
    have y8 : x2.cell? ⟨p.bp q, 8, none⟩ = some (.int .i64 (al : Nat)) := D.cellv l1 (by simp) k8
    cases bb
    · go_upto_region 3 with fail
      have M3 := H1.out.1.chg0 D
      have BE3 := D.blk H1.out.2.1 (by simp)
      have c03 := H1.out.2.2.1.trans D
      have c15 : x2.cell? ⟨p.gm, 15, none⟩ = some (.pointer (some ⟨p.gph, 0, none⟩)) := M3.mb.cellv 15 rfl
      have KP := ph_phase_ok p.gph p.bsd m.ph x2 M3.ph
      rw [h0] at KP
      have H3 := Lib.hid (And.intro M3 (And.intro BE3 (And.intro c03 KP)))
      clear M3 BE3 c03 KP D c9 hbq hbl c5 k7 k8 l0 l1
      go_wp2_with fail
      refine H3.out.2.2.2.mono ?_
      rintro e x2 ⟨rfl, rfl⟩
      go_wp2_with fail
      refine (m_wanted H3.out.1 (q : Nat) hf hcy hl hT).mono ?_
      rintro e w4 ⟨rfl, c4⟩
      have M4 := H3.out.1.chg0 c4
      have BE4 := c4.blk H3.out.2.1 (by simp)
      have c04 := H3.out.2.2.1.trans c4
      have c19 : w4.cell? ⟨p.gm, 19, none⟩ = some (.int .i64 m.gT) := M4.mb.cellv 19 rfl
      have c20 : w4.cell? ⟨p.gm, 20, none⟩ = some (.int .i64 m.gG) := M4.mb.cellv 20 rfl
      have c21 : w4.cell? ⟨p.gm, 21, none⟩ = some (.int .i64 m.gR) := M4.mb.cellv 21 rfl
      have l2 := M4.mb.lt
      have KL : ∀ w', Chg [] w4 w' → Calls Tryz.prog 22 #[.pointer (some ⟨p.gm, 0, none⟩)] w' (QuPost (.int .i64 0) w') := fun w' c => by
        have h := m_live (M4.chg0 c)
        rw [hl] at h
        exact h
      have HN := Lib.hid (And.intro (And.intro BE4 (And.intro c04 H1.out.2.2.2)) KL); clear KL M4 BE4 c04 H3 c15
      go_wp2_with fail
      refine wp_region_takes (fuel := 2) 6 (fun w' => Chg [] w4 w') [0, 1, 2, 3, 4] (by kernel_rfl) (by kernel_rfl) (fun _ _ _ _ _ h => h) ((Chg.refl [] w4).drew) ?_
      simp only [List.filterMap_cons, List.filterMap_nil, qGa, qGb]
      iterate 5
        refine wpTake_step (fun K hK => ?_)
        rw [if_pos (by rfl)]
        refine ⟨?_, fun w' hS' => ?_, ?_⟩
        rotate_left 1
        focus
          have y19 := hS'.cellv l2 (by simp) c19
          have y20 := hS'.cellv l2 (by simp) c20
          have y21 := hS'.cellv l2 (by simp) c21
          go_simp
          try with_reducible rfl
          done
        simp only [Act.put, qSa, qSb, qSc]
        refine hK _ ?_
        clear hK K
      refine wpTake_nil ?_
      generalize hx0 : w4.drew = x0
      have D0 : Chg [] w4 x0 := by rw [← hx0]; exact (Chg.refl [] w4).drew
      clear hx0
      refine wpAnyS_ready (rs := [5]) (by kernel_rfl) (by simp) ?_
      refine AllReadyS.o (fun K hK => ?_)
      rw [if_pos (by rfl)]
      go_simp
      go_at_call 22
      refine (HN.out.2 x0 D0).mono ?_
      rintro e x0 ⟨rfl, rfl⟩
      dsimp only
      refine hK _ _ (D0) ?_
      clear hK K
      try simp only [Act.put, qSa, qSb, qSc]
      refine wpAnyS_tail 6 1 (by kernel_rfl) rfl ?_
      simp only [qDa, qDb]
      go_wp2_with fail
      refine (pc_begin x0 m.gT m.gG m.gR hT).mono ?_
      rintro e x1 ⟨rfl, k1⟩
      have D1 : Chg [] w4 x1 := D0.trans k1
      clear D0 k1
      have B5 := D1.blk HN.out.1.1 (by simp)
      have z0 : x1.cell? ⟨gE, 0, none⟩ = some (.int .i64 0) := B5.cellv 0 rfl
      have z1 : x1.cell? ⟨gE, 1, none⟩ = some (.int .i64 0) := B5.cellv 1 rfl
      have z2 : x1.cell? ⟨gE, 2, none⟩ = some (.int .i64 0) := B5.cellv 2 rfl
      have y0 := B5.frozen 0
      have y1 := B5.frozen 1
      have y2 := B5.frozen 2
      have HD := Lib.hid (And.intro B5 D1); clear B5 D1
      go_wp2_with fail
      have B6 := ((HD.out.1.set_ 0 (.int .i64 0)).set_ 1 (.int .i64 0)).setv 2 (.int .i64 0) (cs' := #[.int .i64 0, .int .i64 0, .int .i64 0]) rfl
      refine ⟨rfl, _, results_ct (by rfl) rfl rfl (ld_ev _ B6), rfl, ?_⟩
      have c6 : Chg [gE] x1 (((x1.setCell ⟨gE, 0, none⟩ (.int .i64 0)).setCell ⟨gE, 1, none⟩ (.int .i64 0)).setCell ⟨gE, 2, none⟩ (.int .i64 0)) := (((Chg.refl [gE] x1).setCell (.inl (by simp)) _).setCell (.inl (by simp)) _).setCell (.inl (by simp)) _
      exact ((HN.out.1.2.1.trans HD.out.2).newS c6 (by have := HN.out.1.2.2; simpa using this))
    · go_upto_region 3 with fail
      have M3 := H1.out.1.chg0 D
      have BE3 := D.blk H1.out.2.1 (by simp)
      have c03 := H1.out.2.2.1.trans D
      have c15 : x2.cell? ⟨p.gm, 15, none⟩ = some (.pointer (some ⟨p.gph, 0, none⟩)) := M3.mb.cellv 15 rfl
      have KP := ph_phase_ok p.gph p.bsd m.ph x2 M3.ph
      rw [h0] at KP
      have H3 := Lib.hid (And.intro M3 (And.intro BE3 (And.intro c03 KP)))
      clear M3 BE3 c03 KP D c9 hbq hbl c5 k7 k8 l0 l1
      go_wp2_with fail
      refine H3.out.2.2.2.mono ?_
      rintro e x2 ⟨rfl, rfl⟩
      go_wp2_with fail
      refine (m_wanted H3.out.1 (q : Nat) hf hcy hl hT).mono ?_
      rintro e w4 ⟨rfl, c4⟩
      have M4 := H3.out.1.chg0 c4
      have BE4 := c4.blk H3.out.2.1 (by simp)
      have c04 := H3.out.2.2.1.trans c4
      have c19 : w4.cell? ⟨p.gm, 19, none⟩ = some (.int .i64 m.gT) := M4.mb.cellv 19 rfl
      have c20 : w4.cell? ⟨p.gm, 20, none⟩ = some (.int .i64 m.gG) := M4.mb.cellv 20 rfl
      have c21 : w4.cell? ⟨p.gm, 21, none⟩ = some (.int .i64 m.gR) := M4.mb.cellv 21 rfl
      have l2 := M4.mb.lt
      have KL : ∀ w', Chg [] w4 w' → Calls Tryz.prog 22 #[.pointer (some ⟨p.gm, 0, none⟩)] w' (QuPost (.int .i64 0) w') := fun w' c => by
        have h := m_live (M4.chg0 c)
        rw [hl] at h
        exact h
      have HN := Lib.hid (And.intro (And.intro BE4 (And.intro c04 H1.out.2.2.2)) KL); clear KL M4 BE4 c04 H3 c15
      go_wp2_with fail
      refine wp_region_takes (fuel := 2) 6 (fun w' => Chg [] w4 w') [0, 1, 2, 3, 4] (by kernel_rfl) (by kernel_rfl) (fun _ _ _ _ _ h => h) ((Chg.refl [] w4).drew) ?_
      simp only [List.filterMap_cons, List.filterMap_nil, qGa, qGb]
      iterate 5
        refine wpTake_step (fun K hK => ?_)
        rw [if_pos (by rfl)]
        refine ⟨?_, fun w' hS' => ?_, ?_⟩
        rotate_left 1
        focus
          have y19 := hS'.cellv l2 (by simp) c19
          have y20 := hS'.cellv l2 (by simp) c20
          have y21 := hS'.cellv l2 (by simp) c21
          go_simp
          try with_reducible rfl
          done
        simp only [Act.put, qSa, qSb, qSc]
        refine hK _ ?_
        clear hK K
      refine wpTake_nil ?_
      generalize hx0 : w4.drew = x0
      have D0 : Chg [] w4 x0 := by rw [← hx0]; exact (Chg.refl [] w4).drew
      clear hx0
      refine wpAnyS_ready (rs := [5]) (by kernel_rfl) (by simp) ?_
      refine AllReadyS.o (fun K hK => ?_)
      rw [if_pos (by rfl)]
      go_simp
      go_at_call 22
      refine (HN.out.2 x0 D0).mono ?_
      rintro e x0 ⟨rfl, rfl⟩
      dsimp only
      refine hK _ _ (D0) ?_
      clear hK K
      try simp only [Act.put, qSa, qSb, qSc]
      refine wpAnyS_tail 6 1 (by kernel_rfl) rfl ?_
      simp only [qDa, qDb]
      go_wp2_with fail
      refine (pc_begin x0 m.gT m.gG m.gR hT).mono ?_
      rintro e x1 ⟨rfl, k1⟩
      have D1 : Chg [] w4 x1 := D0.trans k1
      clear D0 k1
      have B5 := D1.blk HN.out.1.1 (by simp)
      have z0 : x1.cell? ⟨gE, 0, none⟩ = some (.int .i64 0) := B5.cellv 0 rfl
      have z1 : x1.cell? ⟨gE, 1, none⟩ = some (.int .i64 0) := B5.cellv 1 rfl
      have z2 : x1.cell? ⟨gE, 2, none⟩ = some (.int .i64 0) := B5.cellv 2 rfl
      have y0 := B5.frozen 0
      have y1 := B5.frozen 1
      have y2 := B5.frozen 2
      have HD := Lib.hid (And.intro B5 D1); clear B5 D1
      go_wp2_with fail
      have B6 := ((HD.out.1.set_ 0 (.int .i64 0)).set_ 1 (.int .i64 0)).setv 2 (.int .i64 0) (cs' := #[.int .i64 0, .int .i64 0, .int .i64 0]) rfl
      refine ⟨rfl, _, results_ct (by rfl) rfl rfl (ld_ev _ B6), rfl, ?_⟩
      have c6 : Chg [gE] x1 (((x1.setCell ⟨gE, 0, none⟩ (.int .i64 0)).setCell ⟨gE, 1, none⟩ (.int .i64 0)).setCell ⟨gE, 2, none⟩ (.int .i64 0)) := (((Chg.refl [gE] x1).setCell (.inl (by simp)) _).setCell (.inl (by simp)) _).setCell (.inl (by simp)) _
      exact ((HN.out.1.2.1.trans HD.out.2).newS c6 (by have := HN.out.1.2.2; simpa using this))
  · refine hK _ _ (D1) ?_
    clear hK K
    try simp only [Act.put, qSa, qSb, qSc]
    refine wpAnyS_more (fuel := 11) [11, 12, 13, 14, 15, 16, 17, 18, 19, 20, 21, 22, 23] (by kernel_rfl) (fun _ _ _ _ _ h => h) D1 ?_
    simp only [List.filterMap_cons, List.filterMap_nil, qGa, qGb]
    refine wpTake_step (fun K hK => ?_)
    rw [if_pos (by rfl)]
    refine ⟨?_, fun w' hS' => ?_, ?_⟩
    rotate_left 1
    focus
      have y9 := hS'.cellv l0 (by simp) c9
      have y5 := hS'.cellv l0 (by simp) c5
      have y7 := hS'.cellv l1 (by simp) k7
      have y8 := hS'.cellv l1 (by simp) k8
      go_simp
      try with_reducible rfl
      done
    simp only [Act.put, qSa, qSb, qSc]
    refine hK _ ?_
    clear hK K
    iterate 12
      refine wpTake_step (fun K hK => ?_)
      rw [if_neg (by exact Bool.false_ne_true)]
      simp only [Act.put, qSa, qSb, qSc]
      refine hK _ ?_
      clear hK K
    refine wpTake_nil ?_
    refine wpAnyS_tail 24 11 (by kernel_rfl) rfl ?_
    simp only [qDa, qDb]
    have D : Chg [] w1 x1 := D1
    clear D1 D0 k1
    obtain ⟨x2, hx2⟩ : ∃ x2, x2 = x1 := ⟨_, rfl⟩
    subst hx2
    go_upto_region 3 with fail
    have M3 := H1.out.1.chg0 D
    have BE3 := D.blk H1.out.2.1 (by simp)
    have c03 := H1.out.2.2.1.trans D
    have c15 : x2.cell? ⟨p.gm, 15, none⟩ = some (.pointer (some ⟨p.gph, 0, none⟩)) := M3.mb.cellv 15 rfl
    have KP := ph_phase_ok p.gph p.bsd m.ph x2 M3.ph
    rw [h0] at KP
    have H3 := Lib.hid (And.intro M3 (And.intro BE3 (And.intro c03 KP)))
    clear M3 BE3 c03 KP D c9 hbq hbl c5 k7 k8 l0 l1
    go_wp2_with fail
    refine H3.out.2.2.2.mono ?_
    rintro e x2 ⟨rfl, rfl⟩
    go_wp2_with fail
    refine (m_wanted H3.out.1 (q : Nat) hf hcy hl hT).mono ?_
    rintro e w4 ⟨rfl, c4⟩
    have M4 := H3.out.1.chg0 c4
    have BE4 := c4.blk H3.out.2.1 (by simp)
    have c04 := H3.out.2.2.1.trans c4
    have c19 : w4.cell? ⟨p.gm, 19, none⟩ = some (.int .i64 m.gT) := M4.mb.cellv 19 rfl
    have c20 : w4.cell? ⟨p.gm, 20, none⟩ = some (.int .i64 m.gG) := M4.mb.cellv 20 rfl
    have c21 : w4.cell? ⟨p.gm, 21, none⟩ = some (.int .i64 m.gR) := M4.mb.cellv 21 rfl
    have l2 := M4.mb.lt
    have KL : ∀ w', Chg [] w4 w' → Calls Tryz.prog 22 #[.pointer (some ⟨p.gm, 0, none⟩)] w' (QuPost (.int .i64 0) w') := fun w' c => by
      have h := m_live (M4.chg0 c)
      rw [hl] at h
      exact h
    have HN := Lib.hid (And.intro (And.intro BE4 (And.intro c04 H1.out.2.2.2)) KL); clear KL M4 BE4 c04 H3 c15
    go_wp2_with fail
    refine wp_region_takes (fuel := 2) 6 (fun w' => Chg [] w4 w') [0, 1, 2, 3, 4] (by kernel_rfl) (by kernel_rfl) (fun _ _ _ _ _ h => h) ((Chg.refl [] w4).drew) ?_
    simp only [List.filterMap_cons, List.filterMap_nil, qGa, qGb]
    iterate 5
      refine wpTake_step (fun K hK => ?_)
      rw [if_pos (by rfl)]
      refine ⟨?_, fun w' hS' => ?_, ?_⟩
      rotate_left 1
      focus
        have y19 := hS'.cellv l2 (by simp) c19
        have y20 := hS'.cellv l2 (by simp) c20
        have y21 := hS'.cellv l2 (by simp) c21
        go_simp
        try with_reducible rfl
        done
      simp only [Act.put, qSa, qSb, qSc]
      refine hK _ ?_
      clear hK K
    refine wpTake_nil ?_
    generalize hx0 : w4.drew = x0
    have D0 : Chg [] w4 x0 := by rw [← hx0]; exact (Chg.refl [] w4).drew
    clear hx0
    refine wpAnyS_ready (rs := [5]) (by kernel_rfl) (by simp) ?_
    refine AllReadyS.o (fun K hK => ?_)
    rw [if_pos (by rfl)]
    go_simp
    go_at_call 22
    refine (HN.out.2 x0 D0).mono ?_
    rintro e x0 ⟨rfl, rfl⟩
    dsimp only
    refine hK _ _ (D0) ?_
    clear hK K
    try simp only [Act.put, qSa, qSb, qSc]
    refine wpAnyS_tail 6 1 (by kernel_rfl) rfl ?_
    simp only [qDa, qDb]
    go_wp2_with fail
    refine (pc_begin x0 m.gT m.gG m.gR hT).mono ?_
    rintro e x1 ⟨rfl, k1⟩
    have D1 : Chg [] w4 x1 := D0.trans k1
    clear D0 k1
    have B5 := D1.blk HN.out.1.1 (by simp)
    have z0 : x1.cell? ⟨gE, 0, none⟩ = some (.int .i64 0) := B5.cellv 0 rfl
    have z1 : x1.cell? ⟨gE, 1, none⟩ = some (.int .i64 0) := B5.cellv 1 rfl
    have z2 : x1.cell? ⟨gE, 2, none⟩ = some (.int .i64 0) := B5.cellv 2 rfl
    have y0 := B5.frozen 0
    have y1 := B5.frozen 1
    have y2 := B5.frozen 2
    have HD := Lib.hid (And.intro B5 D1); clear B5 D1
    go_wp2_with fail
    have B6 := ((HD.out.1.set_ 0 (.int .i64 0)).set_ 1 (.int .i64 0)).setv 2 (.int .i64 0) (cs' := #[.int .i64 0, .int .i64 0, .int .i64 0]) rfl
    refine ⟨rfl, _, results_ct (by rfl) rfl rfl (ld_ev _ B6), rfl, ?_⟩
    have c6 : Chg [gE] x1 (((x1.setCell ⟨gE, 0, none⟩ (.int .i64 0)).setCell ⟨gE, 1, none⟩ (.int .i64 0)).setCell ⟨gE, 2, none⟩ (.int .i64 0)) := (((Chg.refl [gE] x1).setCell (.inl (by simp)) _).setCell (.inl (by simp)) _).setCell (.inl (by simp)) _
    exact ((HN.out.1.2.1.trans HD.out.2).newS c6 (by have := HN.out.1.2.2; simpa using this))
end
end Go.Proofs.YtcpljjacamibeaaGreatDoor
