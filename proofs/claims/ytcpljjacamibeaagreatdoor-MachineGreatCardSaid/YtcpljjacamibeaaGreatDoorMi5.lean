/- The document's law 28: Follow, of an instruction that touches no object. (Printed by wip/genmi5.py.) -/
import Derived.Test.YtcpljjacamibeaaGreatDoorMi4
namespace Go.Proofs.YtcpljjacamibeaaGreatDoor
set_option maxHeartbeats 16000000
set_option maxRecDepth 100000
open Go.RowKit Go.Maps
def FolPost (a : XAt) (X2 : Mdl) (X : Mdl) (v : Value) (w : World) (e : Ending) (w' : World) : Prop :=
  ∃ a', e = .returned v ∧ XM w' a' X2 ∧ a'.gX = a.gX ∧ a'.vf = a.vf ∧ (a'.G = a.G ∧ a'.gA = a.gA) ∧ a'.ck = a.ck ∧ (∀ j, XF a' X2 j → XF a X j ∨ w.heap.size ≤ j) ∧ Chg (XL a X) w w'
theorem RdoG.fol {a : XAt} {X X2 : Mdl} {cc : ComA} {w w' : World} {e : Ending} (h : RdoG a X X2 cc w e w') : FolPost a X2 X (.tuple #[.agg (comC cc).toArray, .int .i64 0]) w e w' := by
  obtain ⟨a', he, hx, a1, a2, a3, a4, hF, T, cT, hT⟩ := h
  exact ⟨a', he, hx, a1, a2, a3, a4, hF, cT.mono fun k hk => (hT k hk).imp_left mem_XL.2⟩
theorem follow_ok (w : World) (gW : Nat) (cs : Array Value) (a : XAt) (X X2 : Mdl) (cc : ComA) (h : XM w a X) (HW : Blk w gW 45 cs) (hcs : cs[1]? = some (.pointer (some ⟨a.gX, 0, none⟩))) (hop1 : ¬ cc.op = 1) (hop2 : cc.op = 2 → cc.v = 0 ∧ cs[6]? = some (.slice (some ⟨a.gA, 0, none⟩) 1 1))
    (KD : ∀ w', Chg [] w w' → Calls Tryz.prog 91 #[.pointer (some ⟨a.gX, 0, none⟩), .int .i64 cc.g] w' (FolPost a X2 X (.tuple #[.agg (comC cc).toArray, .int .i64 0]) w')) :
    Calls Tryz.prog 35 #[.pointer (some ⟨gW, 0, none⟩), .agg (comC cc).toArray] w (FolPost a X2 X (.bool true) w) := by
  obtain ⟨cg, cf, cpc, cop, cv, cfl⟩ := cc
  have hop1 : ¬ cop = 1 := hop1
  have hop2 : cop = 2 → cv = 0 ∧ cs[6]? = some (.slice (some ⟨a.gA, 0, none⟩) 1 1) := hop2
  have HOP := Lib.hid hop2; clear hop2
  have HH := Lib.hid (And.intro h (And.intro HW (And.intro hcs KD))); clear h HW hcs KD
  unfold comC
  go_enter Tryz.func35, Tryz.ntmps35
  go_upto_region 1 with fail
  obtain ⟨gB, hgB⟩ : ∃ g', g' = w.heap.size := ⟨_, rfl⟩
  obtain ⟨w1, hw1⟩ : ∃ w1, w1 = w.alloc (.cells #[.int .i64 cg, .int .i64 cf, .int .i64 cpc, .int .i64 cop, .int .i64 cv, .bool cfl] 59) := ⟨_, rfl⟩
  have BB : Blk w1 gB 59 #[.int .i64 cg, .int .i64 cf, .int .i64 cpc, .int .i64 cop, .int .i64 cv, .bool cfl] := by rw [hw1, hgB]; exact Blk.new _ _ _
  have c01 : Chg [] w w1 := by rw [hw1]; exact (Chg.refl [] w).alloc _
  have X1 := HH.out.1.chg0 c01
  have W1 := c01.blk HH.out.2.1 (by simp)
  first | rw [← hw1, ← hgB] | rw [← hgB, ← hw1]
  have x1 : w1.cell? ⟨gW, 1, none⟩ = some (.pointer (some ⟨a.gX, 0, none⟩)) := W1.cellv 1 HH.out.2.2.1
  have c0 : w1.cell? ⟨gB, 0, none⟩ = some (.int .i64 cg) := BB.cellv 0 rfl
  have c3 : w1.cell? ⟨gB, 3, none⟩ = some (.int .i64 cop) := BB.cellv 3 rfl
  have lW := W1.lt
  have lB := BB.lt
  have nW : gW ∉ XL a X := fun hm => by
    rcases mem_XL.1 hm with e | e | ⟨i, hi, e | e⟩
    · exact W1.ne_ X1.x (by decide) e
    · exact X1.ne2 W1 (by decide) (by decide) e
    · exact W1.ne_ (X1.g i hi) (by decide) e
    · exact W1.ne_ (X1.s i hi) (by decide) e
  have nB : gB ∉ XL a X := fun hm => X1.ngc BB (mem_XL.1 hm)
  have H1 := Lib.hid (And.intro X1 (And.intro c01 (And.intro BB W1))); clear X1 c01 BB W1 hw1 hgB
  go_upto_region 4 with fail
  refine wp_region_takes (fuel := 7) 12 (fun w' => Chg (XL a X) w1 w') [0, 1, 2, 3, 4, 5] (by kernel_rfl) (by kernel_rfl) (fun _ _ _ _ _ h => h) (((Chg.refl [] w1).drew.mono (by simp))) ?_
  simp only [List.filterMap_cons, List.filterMap_nil, qGa, qGb]
  iterate 6
    refine wpTake_step (fun K hK => ?_)
    rw [if_pos (by rfl)]
    refine ⟨?_, fun w' hS' => ?_, ?_⟩
    rotate_left 1
    focus
      have j0 := hS'.cellv lW nW x1
      have j1 := hS'.cellv lB nB c0
      go_simp
      try with_reducible rfl
      done
    simp only [Act.put, qSa, qSb, qSc]
    refine hK _ ?_
    clear hK K
  refine wpTake_nil ?_
  generalize hx0 : w1.drew = x0
  have D0 : Chg [] w1 x0 := by rw [← hx0]; exact (Chg.refl [] w1).drew
  clear hx0
  refine wpAnyS_ready (rs := [6, 10]) (by kernel_rfl) (by simp) ?_
  refine AllReadyS.cons (by simp only [qGc, qGa, qGb]; rfl) (fun K hK => ?_) ?_
  · rw [if_pos (by rfl)]
    go_simp
    go_at_call 91
    refine (HH.out.2.2.2 _ (H1.out.2.1.trans D0)).mono ?_
    rintro e wK ⟨a', rfl, XK, a1, a2, a3, a4, hF, cK⟩
    dsimp only [comC]
    have DK : Chg (XL a X) w1 wK := (Chg.mono D0 (by simp)).trans cK
    have hsz := Chg.size D0
    refine hK _ _ (DK) ?_
    clear hK K
    try simp only [Act.put, qSa, qSb, qSc]
    refine wpAnyS_more (fuel := 3) [7, 8, 9] (by kernel_rfl) (fun _ _ _ _ _ h => h) DK ?_
    simp only [List.filterMap_cons, List.filterMap_nil, qGa, qGb]
    iterate 3
      refine wpTake_step (fun K hK => ?_)
      rw [if_pos (by rfl)]
      refine ⟨?_, fun w' hS' => ?_, ?_⟩
      rotate_left 1
      focus
        have j0 := hS'.cellv lW nW x1
        have j1 := hS'.cellv lB nB c0
        go_simp
        try with_reducible rfl
        done
      simp only [Act.put, qSa, qSb, qSc]
      refine hK _ ?_
      clear hK K
    refine wpTake_nil ?_
    refine wpAnyS_ready (rs := [10]) (by kernel_rfl) (by simp) ?_
    refine AllReadyS.o (fun K hK => ?_)
    rw [if_pos (by rfl)]
    go_simp
    obtain ⟨gE, hgE⟩ : ∃ gE, gE = wK.heap.size := ⟨_, rfl⟩
    obtain ⟨wX, hwA⟩ : ∃ wA, wA = wK.alloc (.cells #[.int .i64 0, .int .i64 0, .int .i64 0, .int .i64 0, .int .i64 0, .bool false] 59) := ⟨_, rfl⟩
    rw [← hwA, ← hgE]
    have BE : Blk wX gE 59 #[.int .i64 0, .int .i64 0, .int .i64 0, .int .i64 0, .int .i64 0, .bool false] := by rw [hwA, hgE]; exact Blk.new _ _ _
    have cA : Chg [] wK wX := by rw [hwA]; exact (Chg.refl [] _).alloc _
    have DA : Chg (XL a X) w1 wX := (Chg.mono DK (by first | exact fun k hk => .inl hk | simp)).trans (cA.mono (by simp))
    have hgE1 : w1.heap.size ≤ gE := by rw [hgE]; exact Chg.size DK
    clear hwA hgE
    have XK := XK.chg0 cA
    have u0 : wX.cell? ⟨gE, 0, none⟩ = some (.int .i64 0) := BE.cellv 0 rfl
    have q0 := BE.frozen 0
    have u1 : wX.cell? ⟨gE, 1, none⟩ = some (.int .i64 0) := BE.cellv 1 rfl
    have q1 := BE.frozen 1
    have u2 : wX.cell? ⟨gE, 2, none⟩ = some (.int .i64 0) := BE.cellv 2 rfl
    have q2 := BE.frozen 2
    have u3 : wX.cell? ⟨gE, 3, none⟩ = some (.int .i64 0) := BE.cellv 3 rfl
    have q3 := BE.frozen 3
    have u4 : wX.cell? ⟨gE, 4, none⟩ = some (.int .i64 0) := BE.cellv 4 rfl
    have q4 := BE.frozen 4
    have u5 : wX.cell? ⟨gE, 5, none⟩ = some (.bool false) := BE.cellv 5 rfl
    have q5 := BE.frozen 5
    refine hK _ _ (DA) ?_
    clear hK K
    try simp only [Act.put, qSa, qSb, qSc]
    refine wpAnyS_ready (rs := [11]) (by kernel_rfl) (by simp) ?_
    refine AllReadyS.o (fun K hK => ?_)
    rw [if_pos (by rfl)]
    go_simp
    have DS := ((((((DA.setCell (p := ⟨gE, 0, none⟩) (.inr hgE1) (.int .i64 cg)).setCell (p := ⟨gE, 1, none⟩) (.inr hgE1) (.int .i64 cf)).setCell (p := ⟨gE, 2, none⟩) (.inr hgE1) (.int .i64 cpc)).setCell (p := ⟨gE, 3, none⟩) (.inr hgE1) (.int .i64 cop)).setCell (p := ⟨gE, 4, none⟩) (.inr hgE1) (.int .i64 cv)).setCell (p := ⟨gE, 5, none⟩) (.inr hgE1) (.bool cfl))
    have BF := ((((((BE.setv 0 (.int .i64 cg) rfl).setv 1 (.int .i64 cf) rfl).setv 2 (.int .i64 cpc) rfl).setv 3 (.int .i64 cop) rfl).setv 4 (.int .i64 cv) rfl).setv 5 (.bool cfl) (cs' := #[.int .i64 cg, .int .i64 cf, .int .i64 cpc, .int .i64 cop, .int .i64 cv, .bool cfl]) rfl)
    have cS := (((((((Chg.refl [gE] wX).setCell (p := ⟨gE, 0, none⟩) (.inl (by simp)) (.int .i64 cg)).setCell (p := ⟨gE, 1, none⟩) (.inl (by simp)) (.int .i64 cf)).setCell (p := ⟨gE, 2, none⟩) (.inl (by simp)) (.int .i64 cpc)).setCell (p := ⟨gE, 3, none⟩) (.inl (by simp)) (.int .i64 cop)).setCell (p := ⟨gE, 4, none⟩) (.inl (by simp)) (.int .i64 cv)).setCell (p := ⟨gE, 5, none⟩) (.inl (by simp)) (.bool cfl))
    refine hK _ _ (DS) ?_
    clear hK K
    try simp only [Act.put, qSa, qSb, qSc]
    refine wpAnyS_tail 12 1 (by kernel_rfl) rfl ?_
    simp only [qDa, qDb]
    obtain ⟨wF, hwF⟩ : ∃ wF, wF = (((((wX.setCell ⟨gE, 0, none⟩ (.int .i64 cg)).setCell ⟨gE, 1, none⟩ (.int .i64 cf)).setCell ⟨gE, 2, none⟩ (.int .i64 cpc)).setCell ⟨gE, 3, none⟩ (.int .i64 cop)).setCell ⟨gE, 4, none⟩ (.int .i64 cv)).setCell ⟨gE, 5, none⟩ (.bool cfl) := ⟨_, rfl⟩
    rw [← hwF] at DS BF cS ⊢
    have XF' := XK.chg cS (fun j hj hx => XK.ngc BE (by have e : j = gE := (by simpa using hj); rw [← e]; exact hx))
    have BB := DS.blk H1.out.2.2.1 nB
    have s0 : wF.cell? ⟨gE, 0, none⟩ = some (.int .i64 cg) := BF.cellv 0 rfl
    have t0 : wF.cell? ⟨gB, 0, none⟩ = some (.int .i64 cg) := BB.cellv 0 rfl
    have s1 : wF.cell? ⟨gE, 1, none⟩ = some (.int .i64 cf) := BF.cellv 1 rfl
    have t1 : wF.cell? ⟨gB, 1, none⟩ = some (.int .i64 cf) := BB.cellv 1 rfl
    have s2 : wF.cell? ⟨gE, 2, none⟩ = some (.int .i64 cpc) := BF.cellv 2 rfl
    have t2 : wF.cell? ⟨gB, 2, none⟩ = some (.int .i64 cpc) := BB.cellv 2 rfl
    have s3 : wF.cell? ⟨gE, 3, none⟩ = some (.int .i64 cop) := BF.cellv 3 rfl
    have t3 : wF.cell? ⟨gB, 3, none⟩ = some (.int .i64 cop) := BB.cellv 3 rfl
    have s4 : wF.cell? ⟨gE, 4, none⟩ = some (.int .i64 cv) := BF.cellv 4 rfl
    have t4 : wF.cell? ⟨gB, 4, none⟩ = some (.int .i64 cv) := BB.cellv 4 rfl
    have s5 : wF.cell? ⟨gE, 5, none⟩ = some (.bool cfl) := BF.cellv 5 rfl
    have t5 : wF.cell? ⟨gB, 5, none⟩ = some (.bool cfl) := BB.cellv 5 rfl
    have BW := DS.blk H1.out.2.2.2 nW
    have hAd := XF'.ad.2
    rw [a3.2] at hAd
    have HB2 := Lib.hid (And.intro BW hAd); clear BW hAd
    have HF := Lib.hid (And.intro XF' (And.intro DS (And.intro (And.intro a1 (And.intro a2 (And.intro a3 a4))) hF))); clear XF' DS a1 a2 a3 a4 hF BF cS BB BE XK hwF
    by_cases h2 : cop = 2
    · obtain ⟨hv, h6⟩ := HOP.out h2
      have y6 : wF.cell? ⟨gW, 6, none⟩ = some (.slice (some ⟨a.gA, 0, none⟩) 1 1) := HB2.out.1.cellv 6 h6
      have yA : wF.cell? ⟨a.gA, 0, none⟩ = some (.int .i64 0) := HB2.out.2.cellv 0 rfl
      subst h2 hv
      clear h6
      go_wp2_with fail
      go_quiet (fail)
      go_wp2_with fail
      go_ret
      have cq : Chg [] wF (wF.drewN nq) := (Chg.refl [] wF).drewN _
      exact ⟨a', rfl, HF.out.1.chg0 cq, HF.out.2.2.1.1, HF.out.2.2.1.2.1, HF.out.2.2.1.2.2.1, HF.out.2.2.1.2.2.2, fun j hj => (HF.out.2.2.2 j hj).imp_right fun h => Nat.le_trans H1.out.2.1.size (Nat.le_trans hsz h), ((H1.out.2.1.mono (by simp)).trans HF.out.2.1).trans (cq.mono (by simp))⟩
    · go_wp2_with fail
      go_ret
      exact ⟨a', rfl, HF.out.1, HF.out.2.2.1.1, HF.out.2.2.1.2.1, HF.out.2.2.1.2.2.1, HF.out.2.2.1.2.2.2, fun j hj => (HF.out.2.2.2 j hj).imp_right fun h => Nat.le_trans H1.out.2.1.size (Nat.le_trans hsz h), (H1.out.2.1.mono (by simp)).trans HF.out.2.1⟩
  refine AllReadyS.o (fun K hK => ?_)
  rw [if_pos (by rfl)]
  go_simp
  obtain ⟨gE, hgE⟩ : ∃ gE, gE = x0.heap.size := ⟨_, rfl⟩
  obtain ⟨wA, hwA⟩ : ∃ wA, wA = x0.alloc (.cells #[.int .i64 0, .int .i64 0, .int .i64 0, .int .i64 0, .int .i64 0, .bool false] 59) := ⟨_, rfl⟩
  rw [← hwA, ← hgE]
  have BE : Blk wA gE 59 #[.int .i64 0, .int .i64 0, .int .i64 0, .int .i64 0, .int .i64 0, .bool false] := by rw [hwA, hgE]; exact Blk.new _ _ _
  have cA : Chg [] x0 wA := by rw [hwA]; exact (Chg.refl [] _).alloc _
  have DA : Chg (XL a X) w1 wA := (Chg.mono D0 (by first | exact fun k hk => .inl hk | simp)).trans (cA.mono (by simp))
  have hgE1 : w1.heap.size ≤ gE := by rw [hgE]; exact Chg.size D0
  clear hwA hgE
  refine hK _ _ (DA) ?_
  clear hK K
  try simp only [Act.put, qSa, qSb, qSc]
  refine wpAnyS_ready (rs := [6]) (by kernel_rfl) (by simp) ?_
  refine AllReadyS.o (fun K hK => ?_)
  have XA := H1.out.1.chg0 (D0.trans cA)
  rw [if_pos (by rfl)]
  go_simp
  go_at_call 91
  refine (HH.out.2.2.2 _ (H1.out.2.1.trans (D0.trans cA))).mono ?_
  rintro e wX ⟨a', rfl, XK, a1, a2, a3, a4, hF, cK⟩
  dsimp only [comC]
  have DK : Chg (XL a X) w1 wX := (Chg.mono (D0.trans cA) (by simp)).trans cK
  have hsz := Chg.size (D0.trans cA)
  have BE := cK.blk BE (fun hm => XA.ngc BE (mem_XL.1 hm))
  have u0 : wX.cell? ⟨gE, 0, none⟩ = some (.int .i64 0) := BE.cellv 0 rfl
  have q0 := BE.frozen 0
  have u1 : wX.cell? ⟨gE, 1, none⟩ = some (.int .i64 0) := BE.cellv 1 rfl
  have q1 := BE.frozen 1
  have u2 : wX.cell? ⟨gE, 2, none⟩ = some (.int .i64 0) := BE.cellv 2 rfl
  have q2 := BE.frozen 2
  have u3 : wX.cell? ⟨gE, 3, none⟩ = some (.int .i64 0) := BE.cellv 3 rfl
  have q3 := BE.frozen 3
  have u4 : wX.cell? ⟨gE, 4, none⟩ = some (.int .i64 0) := BE.cellv 4 rfl
  have q4 := BE.frozen 4
  have u5 : wX.cell? ⟨gE, 5, none⟩ = some (.bool false) := BE.cellv 5 rfl
  have q5 := BE.frozen 5
  refine hK _ _ (DK) ?_
  clear hK K
  try simp only [Act.put, qSa, qSb, qSc]
  refine wpAnyS_more (fuel := 2) [7, 8, 9] (by kernel_rfl) (fun _ _ _ _ _ h => h) DK ?_
  simp only [List.filterMap_cons, List.filterMap_nil, qGa, qGb]
  iterate 3
    refine wpTake_step (fun K hK => ?_)
    rw [if_pos (by rfl)]
    refine ⟨?_, fun w' hS' => ?_, ?_⟩
    rotate_left 1
    focus
      have j0 := hS'.cellv lW nW x1
      have j1 := hS'.cellv lB nB c0
      go_simp
      try with_reducible rfl
      done
    simp only [Act.put, qSa, qSb, qSc]
    refine hK _ ?_
    clear hK K
  refine wpTake_nil ?_
  refine wpAnyS_ready (rs := [11]) (by kernel_rfl) (by simp) ?_
  refine AllReadyS.o (fun K hK => ?_)
  rw [if_pos (by rfl)]
  go_simp
  have DS := ((((((DK.setCell (p := ⟨gE, 0, none⟩) (.inr hgE1) (.int .i64 cg)).setCell (p := ⟨gE, 1, none⟩) (.inr hgE1) (.int .i64 cf)).setCell (p := ⟨gE, 2, none⟩) (.inr hgE1) (.int .i64 cpc)).setCell (p := ⟨gE, 3, none⟩) (.inr hgE1) (.int .i64 cop)).setCell (p := ⟨gE, 4, none⟩) (.inr hgE1) (.int .i64 cv)).setCell (p := ⟨gE, 5, none⟩) (.inr hgE1) (.bool cfl))
  have BF := ((((((BE.setv 0 (.int .i64 cg) rfl).setv 1 (.int .i64 cf) rfl).setv 2 (.int .i64 cpc) rfl).setv 3 (.int .i64 cop) rfl).setv 4 (.int .i64 cv) rfl).setv 5 (.bool cfl) (cs' := #[.int .i64 cg, .int .i64 cf, .int .i64 cpc, .int .i64 cop, .int .i64 cv, .bool cfl]) rfl)
  have cS := (((((((Chg.refl [gE] wX).setCell (p := ⟨gE, 0, none⟩) (.inl (by simp)) (.int .i64 cg)).setCell (p := ⟨gE, 1, none⟩) (.inl (by simp)) (.int .i64 cf)).setCell (p := ⟨gE, 2, none⟩) (.inl (by simp)) (.int .i64 cpc)).setCell (p := ⟨gE, 3, none⟩) (.inl (by simp)) (.int .i64 cop)).setCell (p := ⟨gE, 4, none⟩) (.inl (by simp)) (.int .i64 cv)).setCell (p := ⟨gE, 5, none⟩) (.inl (by simp)) (.bool cfl))
  refine hK _ _ (DS) ?_
  clear hK K
  try simp only [Act.put, qSa, qSb, qSc]
  refine wpAnyS_tail 12 1 (by kernel_rfl) rfl ?_
  simp only [qDa, qDb]
  obtain ⟨wF, hwF⟩ : ∃ wF, wF = (((((wX.setCell ⟨gE, 0, none⟩ (.int .i64 cg)).setCell ⟨gE, 1, none⟩ (.int .i64 cf)).setCell ⟨gE, 2, none⟩ (.int .i64 cpc)).setCell ⟨gE, 3, none⟩ (.int .i64 cop)).setCell ⟨gE, 4, none⟩ (.int .i64 cv)).setCell ⟨gE, 5, none⟩ (.bool cfl) := ⟨_, rfl⟩
  rw [← hwF] at DS BF cS ⊢
  have XF' := XK.chg cS (fun j hj hx => XK.ngc BE (by have e : j = gE := (by simpa using hj); rw [← e]; exact hx))
  have BB := DS.blk H1.out.2.2.1 nB
  have s0 : wF.cell? ⟨gE, 0, none⟩ = some (.int .i64 cg) := BF.cellv 0 rfl
  have t0 : wF.cell? ⟨gB, 0, none⟩ = some (.int .i64 cg) := BB.cellv 0 rfl
  have s1 : wF.cell? ⟨gE, 1, none⟩ = some (.int .i64 cf) := BF.cellv 1 rfl
  have t1 : wF.cell? ⟨gB, 1, none⟩ = some (.int .i64 cf) := BB.cellv 1 rfl
  have s2 : wF.cell? ⟨gE, 2, none⟩ = some (.int .i64 cpc) := BF.cellv 2 rfl
  have t2 : wF.cell? ⟨gB, 2, none⟩ = some (.int .i64 cpc) := BB.cellv 2 rfl
  have s3 : wF.cell? ⟨gE, 3, none⟩ = some (.int .i64 cop) := BF.cellv 3 rfl
  have t3 : wF.cell? ⟨gB, 3, none⟩ = some (.int .i64 cop) := BB.cellv 3 rfl
  have s4 : wF.cell? ⟨gE, 4, none⟩ = some (.int .i64 cv) := BF.cellv 4 rfl
  have t4 : wF.cell? ⟨gB, 4, none⟩ = some (.int .i64 cv) := BB.cellv 4 rfl
  have s5 : wF.cell? ⟨gE, 5, none⟩ = some (.bool cfl) := BF.cellv 5 rfl
  have t5 : wF.cell? ⟨gB, 5, none⟩ = some (.bool cfl) := BB.cellv 5 rfl
  have BW := DS.blk H1.out.2.2.2 nW
  have hAd := XF'.ad.2
  rw [a3.2] at hAd
  have HB2 := Lib.hid (And.intro BW hAd); clear BW hAd
  have HF := Lib.hid (And.intro XF' (And.intro DS (And.intro (And.intro a1 (And.intro a2 (And.intro a3 a4))) hF))); clear XF' DS a1 a2 a3 a4 hF BF cS BB BE XK hwF
  by_cases h2 : cop = 2
  · obtain ⟨hv, h6⟩ := HOP.out h2
    have y6 : wF.cell? ⟨gW, 6, none⟩ = some (.slice (some ⟨a.gA, 0, none⟩) 1 1) := HB2.out.1.cellv 6 h6
    have yA : wF.cell? ⟨a.gA, 0, none⟩ = some (.int .i64 0) := HB2.out.2.cellv 0 rfl
    subst h2 hv
    clear h6
    go_wp2_with fail
    go_quiet (fail)
    go_wp2_with fail
    go_ret
    have cq : Chg [] wF (wF.drewN nq) := (Chg.refl [] wF).drewN _
    exact ⟨a', rfl, HF.out.1.chg0 cq, HF.out.2.2.1.1, HF.out.2.2.1.2.1, HF.out.2.2.1.2.2.1, HF.out.2.2.1.2.2.2, fun j hj => (HF.out.2.2.2 j hj).imp_right fun h => Nat.le_trans H1.out.2.1.size (Nat.le_trans hsz h), ((H1.out.2.1.mono (by simp)).trans HF.out.2.1).trans (cq.mono (by simp))⟩
  · go_wp2_with fail
    go_ret
    exact ⟨a', rfl, HF.out.1, HF.out.2.2.1.1, HF.out.2.2.1.2.1, HF.out.2.2.1.2.2.1, HF.out.2.2.1.2.2.2, fun j hj => (HF.out.2.2.2 j hj).imp_right fun h => Nat.le_trans H1.out.2.1.size (Nat.le_trans hsz h), (H1.out.2.1.mono (by simp)).trans HF.out.2.1⟩
end Go.Proofs.YtcpljjacamibeaaGreatDoor
