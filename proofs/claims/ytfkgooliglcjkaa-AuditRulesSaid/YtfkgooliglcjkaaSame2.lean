/- The walk of view.Same. -/
import Derived.Test.YtfkgooliglcjkaaSame
import Derived.Deep.RegionHeld3
import Derived.BigQuiet
import Derived.ChangeKeysEq
namespace Go.Proofs.Ytfkgooliglcjkaa
open Go.RowKit Go.Maps

theorem p6 (w : World) (a0 a1 a2 a3 a4 a5 : Int) (j : Nat) (hj : j < 6) : (part 3 #[.int .i64 a0, .int .i64 a1, .int .i64 a2, .int .i64 a3, .int .i64 a4, .int .i64 a5] j).run Try.prog w = .ok (.int .i64 ([a0, a1, a2, a3, a4, a5].getD j 0)) w :=
  match j, hj with
  | 0, _ => by kernel_rfl | 1, _ => by kernel_rfl | 2, _ => by kernel_rfl | 3, _ => by kernel_rfl | 4, _ => by kernel_rfl | 5, _ => by kernel_rfl
  | n + 6, h => absurd h (by omega)
theorem eq6 (w : World) (a0 a1 a2 a3 a4 a5 b0 b1 b2 b3 b4 b5 : Int) : (Op.equalIn 10000 69 (.agg #[.int .i64 a0, .int .i64 a1, .int .i64 a2, .int .i64 a3, .int .i64 a4, .int .i64 a5]) (.agg #[.int .i64 b0, .int .i64 b1, .int .i64 b2, .int .i64 b3, .int .i64 b4, .int .i64 b5])).run Try.prog w
    = .ok (decide (a0 = b0 ∧ a1 = b1 ∧ a2 = b2 ∧ a3 = b3 ∧ a4 = b4 ∧ a5 = b5)) w := by
  obtain ⟨i, hi, hz, hs, hb⟩ := info_parts slty.i
  have hc : Try.prog.cellsOf 3 = 1 := by kernel_rfl
  rw [show (10000 : Nat) = 9999 + 1 from rfl, run_equalIn_array w 9999 _ _ Try.underlying69 hi, hc]
  have e := fun (W : World) (x y : Int) => run_equalIn_int W 9998 3 .i64 .i64 x y Try.underlying3
  have r : List.range 6 = [0, 1, 2, 3, 4, 5] := by decide
  rw [r]
  have e' : ∀ (W : World) (x y : Int), (Op.equalIn 9999 3 (.int .i64 x) (.int .i64 y)).run Try.prog W = .ok (x == y) W := e
  have q0 := fun W c0 c1 c2 c3 c4 c5 => p6 W c0 c1 c2 c3 c4 c5 0 (by decide)
  have q1 := fun W c0 c1 c2 c3 c4 c5 => p6 W c0 c1 c2 c3 c4 c5 1 (by decide)
  have q2 := fun W c0 c1 c2 c3 c4 c5 => p6 W c0 c1 c2 c3 c4 c5 2 (by decide)
  have q3 := fun W c0 c1 c2 c3 c4 c5 => p6 W c0 c1 c2 c3 c4 c5 3 (by decide)
  have q4 := fun W c0 c1 c2 c3 c4 c5 => p6 W c0 c1 c2 c3 c4 c5 4 (by decide)
  have q5 := fun W c0 c1 c2 c3 c4 c5 => p6 W c0 c1 c2 c3 c4 c5 5 (by decide)
  clear e hi hz hs hb hc r
  simp only [Op.eqItems, Sem.run_bind, Nat.mul_one, Result.andThen_ok, q0, e', List.getD_cons_zero]
  by_cases h0 : a0 = b0
  · subst h0
    simp only [beq_self_eq_true, Bool.not_true, if_false, Bool.false_eq_true, Sem.run_bind, q1, Result.andThen_ok, e', List.getD_cons_zero, List.getD_cons_succ]
    by_cases h1 : a1 = b1
    · subst h1
      simp only [beq_self_eq_true, Bool.not_true, if_false, Bool.false_eq_true, Sem.run_bind, q2, Result.andThen_ok, e', List.getD_cons_zero, List.getD_cons_succ]
      by_cases h2 : a2 = b2
      · subst h2
        simp only [beq_self_eq_true, Bool.not_true, if_false, Bool.false_eq_true, Sem.run_bind, q3, Result.andThen_ok, e', List.getD_cons_zero, List.getD_cons_succ]
        by_cases h3 : a3 = b3
        · subst h3
          simp only [beq_self_eq_true, Bool.not_true, if_false, Bool.false_eq_true, Sem.run_bind, q4, Result.andThen_ok, e', List.getD_cons_zero, List.getD_cons_succ]
          by_cases h4 : a4 = b4
          · subst h4
            simp only [beq_self_eq_true, Bool.not_true, if_false, Bool.false_eq_true, Sem.run_bind, q5, Result.andThen_ok, e', List.getD_cons_zero, List.getD_cons_succ]
            by_cases h5 : a5 = b5
            · simp [h5]
            · simp [h5]
          · simp [h4]
        · simp [h3]
      · simp [h2]
    · simp [h1]
  · simp [h0]
def headB (V W : Vw) : Bool := decide (V.phase = W.phase ∧ V.cycle = W.cycle ∧ V.clock = W.clock ∧ V.grey = W.grey ∧ V.notes = W.notes ∧ V.roots = W.roots)
def sameB (V W : Vw) : Bool := headB V W && (decide (V.globals = W.globals) && (decide (V.gs = W.gs) && decide (V.objects = W.objects)))
theorem boxC {w : World} {V : Vw} {A0 : Option Addr} {c0 : Nat} {A1 : Option Addr} {c1 : Nat} {A2 : Option Addr} {c2 b : Nat} (h : Blk w b 26 (vwBox V A0 c0 A1 c1 A2 c2)) :
    w.cell? ⟨b, 0, none⟩ = some (.int .i64 V.phase) ∧ w.cell? ⟨b, 1, none⟩ = some (.int .i64 V.cycle) ∧ w.cell? ⟨b, 2, none⟩ = some (.int .i64 V.clock) ∧ w.cell? ⟨b, 3, none⟩ = some (.slice A0 V.globals.length c0) ∧ w.cell? ⟨b, 4, none⟩ = some (.slice A1 V.gs.length c1) ∧
    w.cell? ⟨b, 5, none⟩ = some (.slice A2 V.objects.length c2) ∧ w.cell? ⟨b, 6, none⟩ = some (.int .i64 V.grey) ∧ w.cell? ⟨b, 7, none⟩ = some (.int .i64 V.notes) ∧ w.cell? ⟨b, 8, none⟩ = some (.int .i64 V.roots) :=
  ⟨h.cellv 0 rfl, h.cellv 1 rfl, h.cellv 2 rfl, h.cellv 3 rfl, h.cellv 4 rfl, h.cellv 5 rfl, h.cellv 6 rfl, h.cellv 7 rfl, h.cellv 8 rfl⟩
set_option maxHeartbeats 6400000 in
set_option maxRecDepth 100000 in
theorem same_ok (w : World) (v u : Value) (V W : Vw) (h : VwAt w w.heap.size v V) (k : VwAt w w.heap.size u W) (hS : Small V) (hT : Small W) : Calls Try.prog 32 #[v, u] w (FdPost (sameB V W) w) := by
  obtain ⟨g, A1, c1, A2, c2, rfl, h1, h2, h3, h4, h5⟩ := h.ex
  obtain ⟨A0, c0, rfl⟩ := h1.ex
  obtain ⟨g', E1, d1, E2, d2, rfl, k1, k2, k3, k4, k5⟩ := k.ex
  obtain ⟨E0, d0, rfl⟩ := k1.ex
  have C1 := ((Chg.refl [] w).alloc (.cells (vwBox V A0 c0 A1 c1 A2 c2) 26)).alloc (.cells (vwBox W E0 d0 E1 d1 E2 d2) 26)
  have B1 := (Blk.new w 26 (vwBox V A0 c0 A1 c1 A2 c2)).alloc (.cells (vwBox W E0 d0 E1 d1 E2 d2) 26)
  have B2 := Blk.new (w.alloc (.cells (vwBox V A0 c0 A1 c1 A2 c2) 26)) 26 (vwBox W E0 d0 E1 d1 E2 d2)
  rw [World.size_alloc] at B2
  have HB := Lib.hid (And.intro C1 (And.intro B1 B2))
  have HV := Lib.hid (And.intro h1 (And.intro h2 h3))
  have HW := Lib.hid (And.intro k1 (And.intro k2 k3))
  unfold vwBox at HB
  clear C1 B1 B2 h h1 h2 h3 h4 h5 k k1 k2 k3 k4 k5
  go_enter Try.func32, Try.ntmps32
  go_upto_region 3 with fail
  generalize ((w.alloc (.cells #[.int .i64 V.phase, .int .i64 V.cycle, .int .i64 V.clock, .slice A0 V.globals.length c0, .slice A1 V.gs.length c1, .slice A2 V.objects.length c2, .int .i64 V.grey, .int .i64 V.notes, .int .i64 V.roots] 26)).alloc (.cells #[.int .i64 W.phase, .int .i64 W.cycle, .int .i64 W.clock, .slice E0 W.globals.length d0, .slice E1 W.gs.length d1, .slice E2 W.objects.length d2, .int .i64 W.grey, .int .i64 W.notes, .int .i64 W.roots] 26)) = X at HB ⊢
  obtain ⟨b0, b1, b2, b3, b4, b5, b6, b7, b8⟩ := boxC HB.out.2.1
  obtain ⟨e0, e1, e2, e3, e4, e5, e6, e7, e8⟩ := boxC HB.out.2.2
  have l1 := HB.out.2.1.lt
  have l2 := HB.out.2.2.lt
  go_cut [7, 8] from 9 to 34 (fun v7 v8 wc => ∃ g7 g8, v7 = .pointer (some ⟨g7, 0, none⟩) ∧ v8 = .pointer (some ⟨g8, 0, none⟩) ∧ Blk wc g7 69 #[.int .i64 V.phase, .int .i64 V.cycle, .int .i64 V.clock, .int .i64 V.grey, .int .i64 V.notes, .int .i64 V.roots] ∧ Blk wc g8 69 #[.int .i64 W.phase, .int .i64 W.cycle, .int .i64 W.clock, .int .i64 W.grey, .int .i64 W.notes, .int .i64 W.roots] ∧ Chg [] X wc)
  case first =>
    go_region_held3 (fun w' => w'.cell? ⟨w.heap.size, 0, none⟩ = some (.int .i64 V.phase) ∧ w'.cell? ⟨w.heap.size, 1, none⟩ = some (.int .i64 V.cycle) ∧ w'.cell? ⟨w.heap.size, 2, none⟩ = some (.int .i64 V.clock) ∧ w'.cell? ⟨w.heap.size, 6, none⟩ = some (.int .i64 V.grey) ∧ w'.cell? ⟨w.heap.size, 7, none⟩ = some (.int .i64 V.notes) ∧ w'.cell? ⟨w.heap.size, 8, none⟩ = some (.int .i64 V.roots) ∧
       w'.cell? ⟨w.heap.size + 1, 0, none⟩ = some (.int .i64 W.phase) ∧ w'.cell? ⟨w.heap.size + 1, 1, none⟩ = some (.int .i64 W.cycle) ∧ w'.cell? ⟨w.heap.size + 1, 2, none⟩ = some (.int .i64 W.clock) ∧ w'.cell? ⟨w.heap.size + 1, 6, none⟩ = some (.int .i64 W.grey) ∧ w'.cell? ⟨w.heap.size + 1, 7, none⟩ = some (.int .i64 W.notes) ∧ w'.cell? ⟨w.heap.size + 1, 8, none⟩ = some (.int .i64 W.roots))
      (go_keep) (fail)
    all_goals
      go_wp2_with fail
      go_meet
      first
        | exact ⟨_, _, rfl, rfl, ((Blk.new X 69 _).alloc _).drew, (by simpa using (Blk.new (X.alloc (.cells #[.int .i64 V.phase, .int .i64 V.cycle, .int .i64 V.clock, .int .i64 V.grey, .int .i64 V.notes, .int .i64 V.roots] 69)) 69 _).drew), (((Chg.refl [] X).alloc _).alloc _).drew⟩
        | exact ⟨_, _, rfl, rfl, (by simpa using (Blk.new (X.alloc (.cells #[.int .i64 W.phase, .int .i64 W.cycle, .int .i64 W.clock, .int .i64 W.grey, .int .i64 W.notes, .int .i64 W.roots] 69)) 69 _).drew), ((Blk.new X 69 _).alloc _).drew, (((Chg.refl [] X).alloc _).alloc _).drew⟩
  case rest =>
    obtain ⟨g7, g8, rfl, rfl, K7, K8, C⟩ := hcut
    have z0 := K7.cellv 0 rfl
    have z1 := K7.cellv 1 rfl
    have z2 := K7.cellv 2 rfl
    have z3 := K7.cellv 3 rfl
    have z4 := K7.cellv 4 rfl
    have z5 := K7.cellv 5 rfl
    have y0 := K8.cellv 0 rfl
    have y1 := K8.cellv 1 rfl
    have y2 := K8.cellv 2 rfl
    have y3 := K8.cellv 3 rfl
    have y4 := K8.cellv 4 rfl
    have y5 := K8.cellv 5 rfl
    obtain ⟨-, -, -, r3, r4, r5, -, -, -⟩ := boxC (C.blk HB.out.2.1 (by simp))
    obtain ⟨-, -, -, s3, s4, s5, -, -, -⟩ := boxC (C.blk HB.out.2.2 (by simp))
    have HC := Lib.hid (HB.out.1.trans C)
    have HK := Lib.hid (And.intro (C.blk HB.out.2.1 (by simp)) (C.blk HB.out.2.2 (by simp))); clear C K7 K8 b0 b1 b2 b3 b4 b5 b6 b7 b8 e0 e1 e2 e3 e4 e5 e6 e7 e8 l1 l2
    have hO := hS.o
    have hO' := hT.o
    have hG := hS.g
    have hG' := hT.g
    by_cases hh : V.phase = W.phase ∧ V.cycle = W.cycle ∧ V.clock = W.clock ∧ V.grey = W.grey ∧ V.notes = W.notes ∧ V.roots = W.roots
    · have hq := fun Z => eq6 Z V.phase V.cycle V.clock V.grey V.notes V.roots W.phase W.cycle W.clock W.grey W.notes W.roots
      rw [decide_eq_true hh] at hq
      have HH := Lib.hid (show headB V W = true from decide_eq_true hh); clear hh
      go_wp2_with fail
      clear z0 z1 z2 z3 z4 z5 y0 y1 y2 y3 y4 y5 hq
      refine (equal_sl (HV.out.1.chg HC.out (Nat.le_refl _) (by simp)) (HW.out.1.chg HC.out (Nat.le_refl _) (by simp))).mono ?_
      rintro e w1 ⟨rfl, n, rfl⟩
      have t4 : (wc.drewN n).cell? ⟨w.heap.size, 4, none⟩ = some (.slice A1 V.gs.length c1) := r4
      have t4' : (wc.drewN n).cell? ⟨w.heap.size + 1, 4, none⟩ = some (.slice E1 W.gs.length d1) := s4
      have HD := Lib.hid (And.intro (HC.out.drewN n) (And.intro (HK.out.1.drewN n) (HK.out.2.drewN n)))
      clear r3 r4 r5 s3 s4 s5 HC HK
      generalize wc.drewN n = wd at HD t4 t4' ⊢
      by_cases hg : V.globals = W.globals
      · rw [decide_eq_true hg]
        have HGl := Lib.hid hg; clear hg
        go_wp2_with fail
        refine (eqfG_ok _ _ _ _ _ _ _ V.gs W.gs (HV.out.2.1.chg HD.out.1 (Nat.le_refl _) (by simp)) (HW.out.2.1.chg HD.out.1 (Nat.le_refl _) (by simp)) HD.out.1.size HD.out.1.size hG hG').mono ?_
        rintro e w2 ⟨rfl, C2⟩
        obtain ⟨-, -, -, -, -, r5, -, -, -⟩ := boxC (C2.blk HD.out.2.1 (by simp))
        obtain ⟨-, -, -, -, -, s5, -, -, -⟩ := boxC (C2.blk HD.out.2.2 (by simp))
        have HE := Lib.hid (HD.out.1.trans C2); clear C2 t4 t4' HD
        by_cases hg2 : V.gs = W.gs
        · rw [decide_eq_true hg2]
          have HG2 := Lib.hid hg2; clear hg2
          go_wp2_with fail
          refine (eqfO_ok _ _ _ _ _ _ _ V.objects W.objects (HV.out.2.2.chg HE.out (Nat.le_refl _) (by simp)) (HW.out.2.2.chg HE.out (Nat.le_refl _) (by simp)) HE.out.size HE.out.size hO hO').mono ?_
          rintro e w3 ⟨rfl, C3⟩
          have HF := Lib.hid (HE.out.trans C3); clear C3 r5 s5 HE
          have hs : sameB V W = decide (V.objects = W.objects) := by unfold sameB; rw [HH.out, decide_eq_true HGl.out, decide_eq_true HG2.out]; rfl
          have HS := Lib.hid hs; clear hs
          go_wp2_with fail
          go_ret
          exact ⟨by rw [HS.out]; rfl, HF.out⟩
        · have hs : sameB V W = false := by unfold sameB; rw [HH.out, decide_eq_true HGl.out, decide_eq_false hg2]; rfl
          rw [decide_eq_false hg2]
          have HS := Lib.hid hs; clear hs hg2
          go_wp2_with fail
          go_ret
          exact ⟨by rw [HS.out]; rfl, HE.out⟩
      · have hs : sameB V W = false := by unfold sameB; rw [HH.out, decide_eq_false hg]; rfl
        rw [decide_eq_false hg]
        have HS := Lib.hid hs; clear hs hg
        go_wp2_with fail
        go_ret
        exact ⟨by rw [HS.out]; rfl, HD.out.1⟩
    · have hq := fun Z => eq6 Z V.phase V.cycle V.clock V.grey V.notes V.roots W.phase W.cycle W.clock W.grey W.notes W.roots
      rw [decide_eq_false hh] at hq
      have HH := Lib.hid (show sameB V W = false by unfold sameB headB; rw [decide_eq_false hh]; rfl); clear hh
      go_wp2_with fail
      go_ret
      exact ⟨by rw [HH.out]; rfl, HC.out⟩
end Go.Proofs.Ytfkgooliglcjkaa
