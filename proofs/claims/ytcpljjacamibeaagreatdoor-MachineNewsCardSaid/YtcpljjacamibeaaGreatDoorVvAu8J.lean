/- The walk of the document's All. -/
/- A new machine as it is seen; no rule is broken. -/
import Derived.Test.YtcpljjacamibeaaGreatDoorVvAu7
import Derived.Test.YtcpljjacamibeaaGreatDoorVvRfWalkJ
import Derived.Test.YtcpljjacamibeaaGreatDoorQg
import Derived.Test.YtcpljjacamibeaaGreatDoorMf5J
import Derived.Test.YtcpljjacamibeaaGreatDoorMe1J
namespace Go.Proofs.YtcpljjacamibeaaGreatDoor
set_option maxHeartbeats 16000000
set_option maxRecDepth 100000
open Go.RowKit Go.Maps
theorem brks_get (V : Vw) (ps : Int) {i : Nat} (h : i < 8) : ((brks V ps).map Value.bool).toArray[i]? = some (.bool ((brks V ps).getD i false)) := bools_get _ i (by simpa [brks] using h)
theorem clA_of {w2 W : World} {V : Vw} {A0 : Option Addr} {c0 : Nat} {A1 : Option Addr} {c1 : Nat} {A2 : Option Addr} {c2 b : Nat} (h : Blk w2 b 41 (vwBox V A0 c0 A1 c1 A2 c2)) (D : Chg [] w2 W) :
    W.cell? ⟨b, 0, none⟩ = some (.int .i64 V.phase) ∧ W.cell? ⟨b, 1, none⟩ = some (.int .i64 V.cycle) ∧ W.cell? ⟨b, 2, none⟩ = some (.int .i64 V.clock) ∧ W.cell? ⟨b, 3, none⟩ = some (.slice A0 V.globals.length c0) ∧ W.cell? ⟨b, 4, none⟩ = some (.slice A1 V.gs.length c1) ∧
    W.cell? ⟨b, 5, none⟩ = some (.slice A2 V.objects.length c2) ∧ W.cell? ⟨b, 6, none⟩ = some (.int .i64 V.grey) ∧ W.cell? ⟨b, 7, none⟩ = some (.int .i64 V.notes) ∧ W.cell? ⟨b, 8, none⟩ = some (.int .i64 V.roots) ∧ Chg [] w2 W := by
  obtain ⟨z0, z1, z2, z3, z4, z5, z6, z7, z8⟩ := boxC (D.blk h (by simp))
  exact ⟨z0, z1, z2, z3, z4, z5, z6, z7, z8, D⟩
set_option maxHeartbeats 12800000 in
theorem rall_ok (w : World) (v : Value) (V : Vw) (ps : Int) (h : VwAt w w.heap.size v V) (hS : Small V) : Calls Tryz.prog 25 #[v, .int .i64 ps] w (AllPost V ps w) := by
  have HV := Lib.hid h
  obtain ⟨g, A1, c1, A2, c2, rfl, h1, h2, h3, h4, h5⟩ := h.ex
  obtain ⟨A0, c0, rfl⟩ := h1.ex
  have C1 := (Chg.refl [] w).alloc (.cells (vwBox V A0 c0 A1 c1 A2 c2) 41)
  have B1 := Blk.new w 41 (vwBox V A0 c0 A1 c1 A2 c2)
  have HB := Lib.hid (And.intro C1 B1)
  have HG := Lib.hid h2
  have HO := Lib.hid h3
  have hO := hS.o
  have hG := hS.g
  unfold vwBox at HB
  clear C1 B1 h h1 h2 h3 h4 h5
  go_enter Tryz.func25, Tryz.ntmps25
  go_upto_region 1 with fail
  generalize (w.alloc (.cells #[.int .i64 V.phase, .int .i64 V.cycle, .int .i64 V.clock, .slice A0 V.globals.length c0, .slice A1 V.gs.length c1, .slice A2 V.objects.length c2, .int .i64 V.grey, .int .i64 V.notes, .int .i64 V.roots] 41)) = X at HB ⊢
  obtain ⟨b0, b1, b2, b3, b4, b5, b6, b7, b8⟩ := boxC HB.out.2
  have HS := Lib.hid hS
  clear hO hG
  go_cut [5] from 9 to 41 (fun v5 wc => v5 = .bool (brkWork V) ∧ wc = X)
  case first =>
    rcases tri V.grey with ⟨g1, g2, g3⟩ | ⟨g1, g2, g3⟩ | ⟨g1, g2, g3⟩ <;> rcases tri V.notes with ⟨n1, n2, n3⟩ | ⟨n1, n2, n3⟩ | ⟨n1, n2, n3⟩ <;> rcases tri V.roots with ⟨r1, r2, r3⟩ | ⟨r1, r2, r3⟩ | ⟨r1, r2, r3⟩ <;> rcases one_ V.phase with p1 | p1
    all_goals
      first
        | have HE := Lib.hid (show brkWork V = true by simp only [brkWork, g1, g3, n1, n3, r1, r3, p1]; rfl)
        | have HE := Lib.hid (show brkWork V = false by simp only [brkWork, g1, g3, n1, n3, r1, r3, p1]; rfl)
      clear g3 n3 r3
      go_wp2_with fail
      go_meet
      exact ⟨by rw [HE.out], rfl⟩
  case rest =>
    obtain ⟨rfl, rfl⟩ := hcut
    obtain ⟨wb, rfl⟩ : ∃ wb : World, wb = wc := ⟨_, rfl⟩
    have X1 := HB.out.1
    have HX := Lib.hid X1; clear X1
    go_upto_region 2 with fail
    go_cut [6] from 42 to 71 (fun v6 wd => ∃ g6, v6 = .slice (some ⟨g6, 0, none⟩) 8 8 ∧ Blk wd g6 4 ((brks V ps).map Value.bool).toArray ∧ Chg [] wb wd)
    case first =>
      have k0 : Chg [] wb wb := Chg.refl _ _
      by_cases hp : V.phase = 2
      · have q : (V.phase == 2) = true := by rw [beq_iff_eq]; exact hp
        have HP := Lib.hid hp; clear hp
        (first | (go_region_held3 (fun w' => w'.cell? ⟨w.heap.size, 0, none⟩ = some (.int .i64 V.phase) ∧ w'.cell? ⟨w.heap.size, 1, none⟩ = some (.int .i64 V.cycle) ∧ w'.cell? ⟨w.heap.size, 2, none⟩ = some (.int .i64 V.clock) ∧ w'.cell? ⟨w.heap.size, 3, none⟩ = some (.slice A0 V.globals.length c0) ∧ w'.cell? ⟨w.heap.size, 4, none⟩ = some (.slice A1 V.gs.length c1) ∧ w'.cell? ⟨w.heap.size, 5, none⟩ = some (.slice A2 V.objects.length c2) ∧ w'.cell? ⟨w.heap.size, 6, none⟩ = some (.int .i64 V.grey) ∧ w'.cell? ⟨w.heap.size, 7, none⟩ = some (.int .i64 V.notes) ∧ w'.cell? ⟨w.heap.size, 8, none⟩ = some (.int .i64 V.roots) ∧ Chg [] wb w') ((refine clA_of HB.out.2 ?_; (repeat (first | assumption | exact Chg.refl [] wb | refine Chg.alloc ?_ _ | refine Chg.drew ?_)))) (first | (go_at_call 69; (with_reducible refine (rlost_ok _ _ V (vw_to HV.out (HB.out.1.trans (by (first | assumption | exact Chg.refl _ _ | exact (Chg.refl _ _).drew)))) HS.out).mono ?_); rintro e x1 ⟨l1, hl1, v1, rfl, O1, Cx1, F1⟩; obtain ⟨Aa1, ka1, rfl⟩ := O1.slice; have Dx1 : Chg [] wb x1 := Chg.trans (by (first | assumption | exact Chg.refl _ _ | exact (Chg.refl _ _).drew)) Cx1) | (go_at_call 70; (with_reducible refine (rapart_ok _ _ V (vw_to HV.out (HB.out.1.trans (by (first | assumption | exact Chg.refl _ _ | exact (Chg.refl _ _).drew)))) HS.out).mono ?_); rintro e x2 ⟨rfl, Cx2⟩; have Dx2 : Chg [] wb x2 := Chg.trans (by (first | assumption | exact Chg.refl _ _ | exact (Chg.refl _ _).drew)) Cx2) | (go_at_call 71; (with_reducible refine (rtwice_ok _ _ V (vw_to HV.out (HB.out.1.trans (by (first | assumption | exact Chg.refl _ _ | exact (Chg.refl _ _).drew)))) HS.out).mono ?_); rintro e x3 ⟨rfl, Cx3⟩; have Dx3 : Chg [] wb x3 := Chg.trans (by (first | assumption | exact Chg.refl _ _ | exact (Chg.refl _ _).drew)) Cx3) | (go_at_call 72; (with_reducible refine (rplaced_ok _ _ V ps (vw_to HV.out (HB.out.1.trans (by (first | assumption | exact Chg.refl _ _ | exact (Chg.refl _ _).drew)))) HS.out).mono ?_); rintro e x4 ⟨rfl, Cx4⟩; have Dx4 : Chg [] wb x4 := Chg.trans (by (first | assumption | exact Chg.refl _ _ | exact (Chg.refl _ _).drew)) Cx4) | (go_at_call 73; (with_reducible refine (rwhite_ok _ _ V (vw_to HV.out (HB.out.1.trans (by (first | assumption | exact Chg.refl _ _ | exact (Chg.refl _ _).drew)))) HS.out).mono ?_); rintro e x5 ⟨l5, hl5, v5, rfl, O5, Cx5, F5⟩; obtain ⟨Aa5, ka5, rfl⟩ := O5.slice; have Dx5 : Chg [] wb x5 := Chg.trans (by (first | assumption | exact Chg.refl _ _ | exact (Chg.refl _ _).drew)) Cx5) | (go_at_call 74; (with_reducible refine (rnumbers_ok _ _ V (vw_to HV.out (HB.out.1.trans (by (first | assumption | exact Chg.refl _ _ | exact (Chg.refl _ _).drew)))) HS.out).mono ?_); rintro e x6 ⟨rfl, Cx6⟩; have Dx6 : Chg [] wb x6 := Chg.trans (by (first | assumption | exact Chg.refl _ _ | exact (Chg.refl _ _).drew)) Cx6) | (go_at_call 75; (with_reducible refine (rclean_ok _ _ V (vw_to HV.out (HB.out.1.trans (by (first | assumption | exact Chg.refl _ _ | exact (Chg.refl _ _).drew)))) HS.out).mono ?_); rintro e x7 ⟨rfl, Cx7⟩; have Dx7 : Chg [] wb x7 := Chg.trans (by (first | assumption | exact Chg.refl _ _ | exact (Chg.refl _ _).drew)) Cx7))) | fail)
        all_goals
          have HD := Lib.hid (And.intro (brkLost_of hl1) (And.intro (brkWhite_of HP.out hl5) ‹Chg [] wb x7›))
          clear b0 b1 b2 b3 b4 b5 b6 b7 b8
          go_wp2_with fail
          go_meet
          exact ⟨_, rfl, (show Blk _ _ _ ((brks V ps).map Value.bool).toArray by unfold brks; rw [HD.out.1, HD.out.2.1]; exact Blk.new _ _ _), HD.out.2.2.alloc _⟩
      · have q : (V.phase == 2) = false := by rw [beq_eq_false_iff_ne]; exact hp
        have HP := Lib.hid hp; clear hp
        refine wp_region_held_drew (S := (fun w' => w'.cell? ⟨w.heap.size, 0, none⟩ = some (.int .i64 V.phase) ∧ w'.cell? ⟨w.heap.size, 1, none⟩ = some (.int .i64 V.cycle) ∧ w'.cell? ⟨w.heap.size, 2, none⟩ = some (.int .i64 V.clock) ∧ w'.cell? ⟨w.heap.size, 3, none⟩ = some (.slice A0 V.globals.length c0) ∧ w'.cell? ⟨w.heap.size, 4, none⟩ = some (.slice A1 V.gs.length c1) ∧ w'.cell? ⟨w.heap.size, 5, none⟩ = some (.slice A2 V.objects.length c2) ∧ w'.cell? ⟨w.heap.size, 6, none⟩ = some (.int .i64 V.grey) ∧ w'.cell? ⟨w.heap.size, 7, none⟩ = some (.int .i64 V.notes) ∧ w'.cell? ⟨w.heap.size, 8, none⟩ = some (.int .i64 V.roots) ∧ Chg [] wb w')) (by kernel_rfl) ?_ (fun hHeld => ?_)
        · try dsimp only
          ((refine clA_of HB.out.2 ?_; (repeat (first | assumption | exact Chg.refl [] wb | refine Chg.alloc ?_ _ | refine Chg.drew ?_))))
        refine wpAnyH_take (i := 0) (v := ?_) rfl (by decide +kernel) (by decide +kernel) (by decide +kernel) (fun _ _ _ h => h) (Or.inl ⟨by rfl, ?_⟩) (by assumption) ?_
        rotate_left
        · intro w hSw
          try dsimp only at hSw
          go_simp
          try with_reducible rfl
        try simp only [Act.put, qSa, qSb, qSc, List.getElem_toArray, List.getElem_cons_zero]
        refine wpAnyH_take (i := 4) (v := ?_) rfl (by decide +kernel) (by decide +kernel) (by decide +kernel) (fun _ _ _ h => h) (Or.inl ⟨by rfl, ?_⟩) (by assumption) ?_
        rotate_left
        · intro w hSw
          try dsimp only at hSw
          go_simp
          try with_reducible rfl
        try simp only [Act.put, qSa, qSb, qSc, List.getElem_toArray, List.getElem_cons_zero, List.getElem_cons_succ]
        refine wpAnyH_take (i := 7) (v := ?_) rfl (by decide +kernel) (by decide +kernel) (by decide +kernel) (fun _ _ _ h => h) (Or.inl ⟨by rfl, ?_⟩) (by assumption) ?_
        rotate_left
        · intro w hSw
          try dsimp only at hSw
          go_simp
          try with_reducible rfl
        try simp only [Act.put, qSa, qSb, qSc, List.getElem_toArray, List.getElem_cons_zero, List.getElem_cons_succ]
        refine wpAnyH_take (i := 9) (v := ?_) rfl (by decide +kernel) (by decide +kernel) (by decide +kernel) (fun _ _ _ h => h) (Or.inl ⟨by rfl, ?_⟩) (by assumption) ?_
        rotate_left
        · intro w hSw
          try dsimp only at hSw
          go_simp
          try with_reducible rfl
        try simp only [Act.put, qSa, qSb, qSc, List.getElem_toArray, List.getElem_cons_zero, List.getElem_cons_succ]
        refine wpAnyH_take (i := 10) (v := ?_) rfl (by decide +kernel) (by decide +kernel) (by decide +kernel) (fun _ _ _ h => h) (Or.inl ⟨by rfl, ?_⟩) (by assumption) ?_
        rotate_left
        · intro w hSw
          try dsimp only at hSw
          go_simp
          try with_reducible rfl
        try simp only [Act.put, qSa, qSb, qSc, List.getElem_toArray, List.getElem_cons_zero, List.getElem_cons_succ]
        refine wpAnyH_take (i := 13) (v := ?_) rfl (by decide +kernel) (by decide +kernel) (by decide +kernel) (fun _ _ _ h => h) (Or.inl ⟨by rfl, ?_⟩) (by assumption) ?_
        rotate_left
        · intro w hSw
          try dsimp only at hSw
          go_simp
          try with_reducible rfl
        try simp only [Act.put, qSa, qSb, qSc, List.getElem_toArray, List.getElem_cons_zero, List.getElem_cons_succ]
        refine wpAnyH_take (i := 14) (v := ?_) rfl (by decide +kernel) (by decide +kernel) (by decide +kernel) (fun _ _ _ h => h) (Or.inl ⟨by rfl, ?_⟩) (by assumption) ?_
        rotate_left
        · intro w hSw
          try dsimp only at hSw
          go_simp
          try with_reducible rfl
        try simp only [Act.put, qSa, qSb, qSc, List.getElem_toArray, List.getElem_cons_zero, List.getElem_cons_succ]
        refine wpAnyH_take (i := 15) (v := ?_) rfl (by decide +kernel) (by decide +kernel) (by decide +kernel) (fun _ _ _ h => h) (Or.inl ⟨by rfl, ?_⟩) (by assumption) ?_
        rotate_left
        · intro w hSw
          try dsimp only at hSw
          go_simp
          try with_reducible rfl
        try simp only [Act.put, qSa, qSb, qSc, List.getElem_toArray, List.getElem_cons_zero, List.getElem_cons_succ]
        refine wpAnyH_take (i := 16) (v := ?_) rfl (by decide +kernel) (by decide +kernel) (by decide +kernel) (fun _ _ _ h => h) (Or.inl ⟨by rfl, ?_⟩) (by assumption) ?_
        rotate_left
        · intro w hSw
          try dsimp only at hSw
          go_simp
          try with_reducible rfl
        try simp only [Act.put, qSa, qSb, qSc, List.getElem_toArray, List.getElem_cons_zero, List.getElem_cons_succ]
        refine wpAnyH_take (i := 23) (v := ?_) rfl (by decide +kernel) (by decide +kernel) (by decide +kernel) (fun _ _ _ h => h) (Or.inl ⟨by rfl, ?_⟩) (by assumption) ?_
        rotate_left
        · intro w hSw
          try dsimp only at hSw
          go_simp
          try with_reducible rfl
        try simp only [Act.put, qSa, qSb, qSc, List.getElem_toArray, List.getElem_cons_zero, List.getElem_cons_succ]
        refine wpAnyH_take (i := 26) (v := ?_) rfl (by decide +kernel) (by decide +kernel) (by decide +kernel) (fun _ _ _ h => h) (Or.inl ⟨by rfl, ?_⟩) (by assumption) ?_
        rotate_left
        · intro w hSw
          try dsimp only at hSw
          go_simp
          try with_reducible rfl
        try simp only [Act.put, qSa, qSb, qSc, List.getElem_toArray, List.getElem_cons_zero, List.getElem_cons_succ]
        refine wpAnyH_ready (rs := [1]) (by decide +kernel) (by simp) ?_
        refine AllReadyH.cons rfl (fun K hK => ?_) AllReadyH.nil
        go_simp
        go_at_call 69; (with_reducible refine (rlost_ok _ _ V (vw_to HV.out (HB.out.1.trans (by (first | assumption | exact Chg.refl _ _ | exact (Chg.refl _ _).drew)))) HS.out).mono ?_); rintro e x1 ⟨l1, hl1, v1, rfl, O1, Cx1, F1⟩; obtain ⟨Aa1, ka1, rfl⟩ := O1.slice; have Dx1 : Chg [] wb x1 := Chg.trans (by (first | assumption | exact Chg.refl _ _ | exact (Chg.refl _ _).drew)) Cx1
        refine hK.out _ _ ?_ (fun hHeld => ?_)
        · try dsimp only
          ((refine clA_of HB.out.2 ?_; (repeat (first | assumption | exact Chg.refl [] wb | refine Chg.alloc ?_ _ | refine Chg.drew ?_))))
        clear hK K
        try simp only [Act.put, qSa, qSb, qSc, List.getElem_toArray, List.getElem_cons_zero, List.getElem_cons_succ]
        refine wpAnyH_take (i := 2) (v := ?_) rfl (by decide +kernel) (by decide +kernel) (by decide +kernel) (fun _ _ _ h => h) (Or.inl ⟨by rfl, ?_⟩) (by assumption) ?_
        rotate_left
        · intro w hSw
          try dsimp only at hSw
          go_simp
          try with_reducible rfl
        try simp only [Act.put, qSa, qSb, qSc, List.getElem_toArray, List.getElem_cons_zero, List.getElem_cons_succ]
        refine wpAnyH_take (i := 3) (v := ?_) rfl (by decide +kernel) (by decide +kernel) (by decide +kernel) (fun _ _ _ h => h) (Or.inl ⟨by rfl, ?_⟩) (by assumption) ?_
        rotate_left
        · intro w hSw
          try dsimp only at hSw
          go_simp
          try with_reducible rfl
        try simp only [Act.put, qSa, qSb, qSc, List.getElem_toArray, List.getElem_cons_zero, List.getElem_cons_succ]
        refine wpAnyH_ready (rs := [5]) (by decide +kernel) (by simp) ?_
        refine AllReadyH.cons rfl (fun K hK => ?_) AllReadyH.nil
        go_simp
        go_at_call 70; (with_reducible refine (rapart_ok _ _ V (vw_to HV.out (HB.out.1.trans (by (first | assumption | exact Chg.refl _ _ | exact (Chg.refl _ _).drew)))) HS.out).mono ?_); rintro e x2 ⟨rfl, Cx2⟩; have Dx2 : Chg [] wb x2 := Chg.trans (by (first | assumption | exact Chg.refl _ _ | exact (Chg.refl _ _).drew)) Cx2
        refine hK.out _ _ ?_ (fun hHeld => ?_)
        · try dsimp only
          ((refine clA_of HB.out.2 ?_; (repeat (first | assumption | exact Chg.refl [] wb | refine Chg.alloc ?_ _ | refine Chg.drew ?_))))
        clear hK K
        try simp only [Act.put, qSa, qSb, qSc, List.getElem_toArray, List.getElem_cons_zero, List.getElem_cons_succ]
        refine wpAnyH_take (i := 6) (v := ?_) rfl (by decide +kernel) (by decide +kernel) (by decide +kernel) (fun _ _ _ h => h) (Or.inl ⟨by rfl, ?_⟩) (by assumption) ?_
        rotate_left
        · intro w hSw
          try dsimp only at hSw
          go_simp
          try with_reducible rfl
        try simp only [Act.put, qSa, qSb, qSc, List.getElem_toArray, List.getElem_cons_zero, List.getElem_cons_succ]
        refine wpAnyH_ready (rs := [8]) (by decide +kernel) (by simp) ?_
        refine AllReadyH.cons rfl (fun K hK => ?_) AllReadyH.nil
        go_simp
        go_at_call 71; (with_reducible refine (rtwice_ok _ _ V (vw_to HV.out (HB.out.1.trans (by (first | assumption | exact Chg.refl _ _ | exact (Chg.refl _ _).drew)))) HS.out).mono ?_); rintro e x3 ⟨rfl, Cx3⟩; have Dx3 : Chg [] wb x3 := Chg.trans (by (first | assumption | exact Chg.refl _ _ | exact (Chg.refl _ _).drew)) Cx3
        refine hK.out _ _ ?_ (fun hHeld => ?_)
        · try dsimp only
          ((refine clA_of HB.out.2 ?_; (repeat (first | assumption | exact Chg.refl [] wb | refine Chg.alloc ?_ _ | refine Chg.drew ?_))))
        clear hK K
        try simp only [Act.put, qSa, qSb, qSc, List.getElem_toArray, List.getElem_cons_zero, List.getElem_cons_succ]
        refine wpAnyH_ready (rs := [11]) (by decide +kernel) (by simp) ?_
        refine AllReadyH.cons rfl (fun K hK => ?_) AllReadyH.nil
        go_simp
        go_at_call 72; (with_reducible refine (rplaced_ok _ _ V ps (vw_to HV.out (HB.out.1.trans (by (first | assumption | exact Chg.refl _ _ | exact (Chg.refl _ _).drew)))) HS.out).mono ?_); rintro e x4 ⟨rfl, Cx4⟩; have Dx4 : Chg [] wb x4 := Chg.trans (by (first | assumption | exact Chg.refl _ _ | exact (Chg.refl _ _).drew)) Cx4
        refine hK.out _ _ ?_ (fun hHeld => ?_)
        · try dsimp only
          ((refine clA_of HB.out.2 ?_; (repeat (first | assumption | exact Chg.refl [] wb | refine Chg.alloc ?_ _ | refine Chg.drew ?_))))
        clear hK K
        try simp only [Act.put, qSa, qSb, qSc, List.getElem_toArray, List.getElem_cons_zero, List.getElem_cons_succ]
        refine wpAnyH_take (i := 12) (v := ?_) rfl (by decide +kernel) (by decide +kernel) (by decide +kernel) (fun _ _ _ h => h) (Or.inl ⟨by rfl, ?_⟩) (by assumption) ?_
        rotate_left
        · intro w hSw
          try dsimp only at hSw
          go_simp
          try with_reducible rfl
        try simp only [Act.put, qSa, qSb, qSc, List.getElem_toArray, List.getElem_cons_zero, List.getElem_cons_succ]
        refine wpAnyH_take (i := 17) (v := ?_) rfl (by decide +kernel) (by decide +kernel) (by decide +kernel) (fun _ _ _ h => h) (Or.inl ⟨by rfl, ?_⟩) (by assumption) ?_
        rotate_left
        · intro w hSw
          try dsimp only at hSw
          go_simp
          try with_reducible rfl
        try simp only [Act.put, qSa, qSb, qSc, List.getElem_toArray, List.getElem_cons_zero, List.getElem_cons_succ]
        refine wpAnyH_take (i := 18) (v := undef) rfl (by decide +kernel) (by decide +kernel) (by decide +kernel) (fun _ _ _ h => h) (Or.inr ⟨by rfl, rfl⟩) (by assumption) ?_
        try simp only [Act.put, qSa, qSb, qSc, List.getElem_toArray, List.getElem_cons_zero, List.getElem_cons_succ]
        refine wpAnyH_ready (rs := [19]) (by decide +kernel) (by simp) ?_
        refine AllReadyH.cons rfl (fun K hK => ?_) AllReadyH.nil
        go_simp
        refine hK.out _ _ ?_ (fun hHeld => ?_)
        · try dsimp only
          ((refine clA_of HB.out.2 ?_; (repeat (first | assumption | exact Chg.refl [] wb | refine Chg.alloc ?_ _ | refine Chg.drew ?_))))
        clear hK K
        try simp only [Act.put, qSa, qSb, qSc, List.getElem_toArray, List.getElem_cons_zero, List.getElem_cons_succ]
        refine wpAnyH_take (i := 20) (v := undef) rfl (by decide +kernel) (by decide +kernel) (by decide +kernel) (fun _ _ _ h => h) (Or.inr ⟨by rfl, rfl⟩) (by assumption) ?_
        try simp only [Act.put, qSa, qSb, qSc, List.getElem_toArray, List.getElem_cons_zero, List.getElem_cons_succ]
        refine wpAnyH_take (i := 21) (v := undef) rfl (by decide +kernel) (by decide +kernel) (by decide +kernel) (fun _ _ _ h => h) (Or.inr ⟨by rfl, rfl⟩) (by assumption) ?_
        try simp only [Act.put, qSa, qSb, qSc, List.getElem_toArray, List.getElem_cons_zero, List.getElem_cons_succ]
        refine wpAnyH_take (i := 22) (v := ?_) rfl (by decide +kernel) (by decide +kernel) (by decide +kernel) (fun _ _ _ h => h) (Or.inl ⟨by rfl, ?_⟩) (by assumption) ?_
        rotate_left
        · intro w hSw
          try dsimp only at hSw
          go_simp
          try with_reducible rfl
        try simp only [Act.put, qSa, qSb, qSc, List.getElem_toArray, List.getElem_cons_zero, List.getElem_cons_succ]
        refine wpAnyH_ready (rs := [24]) (by decide +kernel) (by simp) ?_
        refine AllReadyH.cons rfl (fun K hK => ?_) AllReadyH.nil
        go_simp
        go_at_call 74; (with_reducible refine (rnumbers_ok _ _ V (vw_to HV.out (HB.out.1.trans (by (first | assumption | exact Chg.refl _ _ | exact (Chg.refl _ _).drew)))) HS.out).mono ?_); rintro e x6 ⟨rfl, Cx6⟩; have Dx6 : Chg [] wb x6 := Chg.trans (by (first | assumption | exact Chg.refl _ _ | exact (Chg.refl _ _).drew)) Cx6
        refine hK.out _ _ ?_ (fun hHeld => ?_)
        · try dsimp only
          ((refine clA_of HB.out.2 ?_; (repeat (first | assumption | exact Chg.refl [] wb | refine Chg.alloc ?_ _ | refine Chg.drew ?_))))
        clear hK K
        try simp only [Act.put, qSa, qSb, qSc, List.getElem_toArray, List.getElem_cons_zero, List.getElem_cons_succ]
        refine wpAnyH_take (i := 25) (v := ?_) rfl (by decide +kernel) (by decide +kernel) (by decide +kernel) (fun _ _ _ h => h) (Or.inl ⟨by rfl, ?_⟩) (by assumption) ?_
        rotate_left
        · intro w hSw
          try dsimp only at hSw
          go_simp
          try with_reducible rfl
        try simp only [Act.put, qSa, qSb, qSc, List.getElem_toArray, List.getElem_cons_zero, List.getElem_cons_succ]
        refine wpAnyH_ready (rs := [27]) (by decide +kernel) (by simp) ?_
        refine AllReadyH.cons rfl (fun K hK => ?_) AllReadyH.nil
        go_simp
        go_at_call 75; (with_reducible refine (rclean_ok _ _ V (vw_to HV.out (HB.out.1.trans (by (first | assumption | exact Chg.refl _ _ | exact (Chg.refl _ _).drew)))) HS.out).mono ?_); rintro e x7 ⟨rfl, Cx7⟩; have Dx7 : Chg [] wb x7 := Chg.trans (by (first | assumption | exact Chg.refl _ _ | exact (Chg.refl _ _).drew)) Cx7
        refine hK.out _ _ ?_ (fun hHeld => ?_)
        · try dsimp only
          ((refine clA_of HB.out.2 ?_; (repeat (first | assumption | exact Chg.refl [] wb | refine Chg.alloc ?_ _ | refine Chg.drew ?_))))
        clear hK K
        try simp only [Act.put, qSa, qSb, qSc, List.getElem_toArray, List.getElem_cons_zero, List.getElem_cons_succ]
        refine wpAnyH_take (i := 28) (v := ?_) rfl (by decide +kernel) (by decide +kernel) (by decide +kernel) (fun _ _ _ h => h) (Or.inl ⟨by rfl, ?_⟩) (by assumption) ?_
        rotate_left
        · intro w hSw
          try dsimp only at hSw
          go_simp
          try with_reducible rfl
        try simp only [Act.put, qSa, qSb, qSc, List.getElem_toArray, List.getElem_cons_zero, List.getElem_cons_succ]
        refine wpAnyH_ready (rs := [29]) (by decide +kernel) (by simp) ?_
        refine AllReadyH.cons rfl (fun K hK => ?_) AllReadyH.nil
        go_simp
        refine hK.out _ _ ?_ (fun hHeld => ?_)
        · try dsimp only
          ((refine clA_of HB.out.2 ?_; (repeat (first | assumption | exact Chg.refl [] wb | refine Chg.alloc ?_ _ | refine Chg.drew ?_))))
        clear hK K
        try simp only [Act.put, qSa, qSb, qSc, List.getElem_toArray, List.getElem_cons_zero, List.getElem_cons_succ]
        refine wpAnyH_take (i := 30) (v := ?_) rfl (by decide +kernel) (by decide +kernel) (by decide +kernel) (fun _ _ _ h => h) (Or.inl ⟨by rfl, ?_⟩) (by assumption) ?_
        rotate_left
        · intro w hSw
          try dsimp only at hSw
          go_simp
          try with_reducible rfl
        try simp only [Act.put, qSa, qSb, qSc, List.getElem_toArray, List.getElem_cons_zero, List.getElem_cons_succ]
        refine wpAnyH_done (by kernel_rfl) ?_ _
        all_goals
          have HD := Lib.hid (And.intro (brkLost_of hl1) (And.intro (brkWhite_no HP.out) ‹Chg [] wb x7›))
          clear b0 b1 b2 b3 b4 b5 b6 b7 b8
          go_wp2_with fail
          go_meet
          exact ⟨_, rfl, (show Blk _ _ _ ((brks V ps).map Value.bool).toArray by unfold brks; rw [HD.out.1, HD.out.2.1]; exact Blk.new _ _ _), HD.out.2.2.alloc _⟩
    case rest =>
      obtain ⟨g6, rfl, K, C⟩ := hcut
      have HD := Lib.hid (And.intro K C); clear K C b0 b1 b2 b3 b4 b5 b6 b7 b8
      go_wp2_with fail
      go_loopg [7, 8] 9 (fun gk v idx wr => AlRelV wc (brks V ps) gk v idx wr)
      case atStart => exact ⟨0, by omega, by omega, rfl, OwnI.nil _ _, Chg.refl _ _, by simp [fpv, Value.ownBlock]⟩
      case round =>
        obtain ⟨i, hgk, hin, rfl, O, C, F⟩ := hrel
        have hol := outN_len (brks V ps) i
        obtain ⟨Ao, ko, rfl⟩ := O.slice
        by_cases e : i < 8
        · have hi' : (i : Int) < 8 := by omega
          have hi0 : (0 : Int) ≤ (i : Int) := by omega
          have z0 := (C.blk HD.out.1 (by simp)).cellv i (brks_get V ps e)
          have HY := Lib.hid (And.intro O (And.intro C F)); clear O C F
          cases hb : (brks V ps).getD i false with
          | true =>
            rw [hb] at z0
            have HQ := Lib.hid (outN_yes hb); clear hb
            go_wp2_with (at_builtin; refine wpList_push_int rfl _ _ rfl slty rfl HY.out.1 rfl (by omega) ?_)
            intro A' c' w4 O4 S4
            have HN := Lib.hid (And.intro O4 (stp_new HY.out.2.1 HY.out.2.2 S4)); clear O4 S4 z0
            go_wp2_with fail
            go_roundg (8 - i)
            case measure => omega
            case rel => exact ⟨i + 1, by omega, by omega, by go_num, by rw [HQ.out]; exact HN.out.1, HN.out.2.1, HN.out.2.2⟩
          | false =>
            rw [hb] at z0
            have HQ := Lib.hid (outN_no hb); clear hb
            go_wp2_with fail
            go_roundg (8 - i)
            case measure => omega
            case rel => exact ⟨i + 1, by omega, by omega, by go_num, by rw [HQ.out]; exact HY.out.1, HY.out.2.1, HY.out.2.2⟩
        · have e2 : i = 8 := by omega
          subst e2
          have HY := Lib.hid (And.intro O (And.intro C F)); clear O C F hgk hin e
          go_wp2_with fail
          go_ret
          exact ⟨_, rfl, HY.out.1, (HX.out.trans HD.out.2).trans HY.out.2.1, fun k hk => Nat.le_trans (HX.out.trans HD.out.2).size (HY.out.2.2 k hk)⟩
def newV (G : Nat) : Vw := ⟨0, 0, 0, List.replicate G 0, [⟨1, 0, List.replicate 16 0⟩], [], 0, 0, 0⟩
theorem newV_said (G : Nat) : ∀ x ∈ (newV G).said, x = 0 := by
  intro x hx
  unfold Vw.said newV at hx
  simp only [List.mem_append, List.mem_flatMap, List.mem_filter, List.mem_singleton] at hx
  rcases hx with hx | ⟨g, ⟨rfl, -⟩, hx⟩
  · exact (List.mem_replicate.1 hx).2
  · exact (List.mem_replicate.1 hx).2
theorem newV_rch (G : Nat) (x : Int) : ¬ Rch (newV G) x := by
  intro h
  induction h with
  | root h h0 => exact h0 (newV_said G _ h)
  | step _ _ _ _ _ ih => exact ih
theorem new_brks (G : Nat) (ps : Int) (h : 1 ≤ ps) : outN (brks (newV G) ps) 8 = [] := by
  have h1 : brkLost (newV G) = false := by
    classical
    unfold brkLost
    exact decide_eq_false (p := ∃ x, Rch (newV G) x ∧ ((newV G).at_ x).isSome = false) (fun ⟨x, hx, _⟩ => newV_rch G x hx)
  have h2 : brkOb (newV G) = false := brkOb_no (fun j hj => by simp [newV] at hj)
  have h3 : brkTw (newV G) = false := by rfl
  have h4 : brkPl (newV G) ps = false := by
    unfold brkPl newV badG
    simp
    omega
  have h5 : brkWork (newV G) = false := by rfl
  have h6 : brkWhite (newV G) = false := by rfl
  have h7 : brkNum (newV G) = false := by rfl
  have h8 : brkMk (newV G) = false := by rfl
  unfold brks
  rw [h1, h2, h3, h4, h5, h6, h7, h8]
  rfl
theorem newV_small (G : Nat) (h : G ≤ 1000) : Small (newV G) := by
  refine ⟨?_, by simp [newV], by simp [newV]⟩
  unfold Vw.names Vw.said newV
  simp
  omega
theorem new_view {G n P : Nat} {fs : List (List Ins)} {wo pct t g r part : Int} {on : Bool} (hP : 1 ≤ P) : vwA (spawnA { mk0m G fs wo pct on part n P with gT := t, gG := g, gR := r } 0 0 0) [] = newV G := by
  have hw : whP P (updV (fun _ => rg0) 0 (rgPut rg0 ((0 : Nat) : Int))) [] ((0 : Nat) : Int) = 0 := by
    have h1 : whF P (updV (fun _ => rg0) 0 (rgPut rg0 ((0 : Nat) : Int))) ((0 : Nat) : Int) = some 0 := whF_succ (by omega) (by omega) (by rw [updV_same]; decide)
    unfold whP
    rw [h1]
    rfl
  unfold vwA newV
  have e1 : (spawnA { mk0m G fs wo pct on part n P with gT := t, gG := g, gR := r } 0 0 0).gl = List.replicate G 0 := rfl
  have e2 : grA (spawnA { mk0m G fs wo pct on part n P with gT := t, gG := g, gR := r } 0 0 0) 0 = ⟨1, 0, List.replicate 16 0⟩ := by
    unfold grA
    congr 1
  show Vw.mk _ _ _ _ ((List.range 1).map _) _ _ _ _ = _
  rw [e1]
  congr 1
  show [grA _ 0] = _
  rw [e2]
end Go.Proofs.YtcpljjacamibeaaGreatDoor
