/- The document's law 28: Round, Run: whatever is kept from step to step is kept by a run. -/
/- MachineYields, in plain Lean: each commit keeps it. -/
/- What a run of any Ps keeps, whatever the program, as long as it allocates nothing: machine and model in step. -/
/- A run of any Ps, whatever the program and the instructions, as long as each instruction keeps machine and model in step. -/
/- One step of any P, told by the rings' lengths: any number of goroutines. (Printed by wip/genza.py.) -/
import Derived.Test.YtcpljjacamibeaaGreatDoorMi6
import Derived.Test.YtcpljjacamibeaaGreatDoorMh1J
import Derived.Test.YtcpljjacamibeaaGreatDoorMi6n
namespace Go.Proofs.YtcpljjacamibeaaGreatDoor
set_option maxHeartbeats 16000000
set_option maxRecDepth 100000
open Go.RowKit Go.Maps
def rndV (P i : Nat) : Value := .agg #[.int .i64 ((i % P : Nat) : Int), .int .i64 (((i % P + 1) % P : Nat) : Int), .bool false, .int .i64 0]
theorem round_ok (w : World) (gW P i : Nat) (hW : w.cell? ⟨gW, 2, none⟩ = some (.int .i64 (P : Nat))) (h1 : 1 ≤ P) (hP : P ≤ 64) (hi : i ≤ 100000000) :
    Calls Tryz.prog 10 #[.pointer (some ⟨gW, 0, none⟩), .int .i64 (i : Nat)] w (NwPost (rndV P i) w) := by
  have e0 : ¬ (P : Int) = 0 := by omega
  have m1 : (i : Int).tmod (P : Int) = ((i % P : Nat) : Int) := by rw [Int.tmod_eq_emod_of_nonneg (by omega)]; exact (Int.natCast_emod i P).symm
  have m2 : (((i % P : Nat) : Int) + 1).tmod (P : Int) = (((i % P + 1) % P : Nat) : Int) := by
    rw [Int.tmod_eq_emod_of_nonneg (by omega)]
    exact (Int.natCast_emod (i % P + 1) P).symm
  have b1 : i % P < P := Nat.mod_lt _ h1
  have b2 : (i % P + 1) % P < P := Nat.mod_lt _ h1
  unfold rndV
  obtain ⟨r, hr⟩ : ∃ r, r = i % P := ⟨_, rfl⟩
  obtain ⟨v, hv⟩ : ∃ v, v = (r + 1) % P := ⟨_, rfl⟩
  rw [← hr] at m1 m2 b1 b2 ⊢
  rw [← hv] at m2 b2 ⊢
  clear hr hv
  have w1 : IntKind.i64.wrap ((i : Int).tmod (P : Int)) = (r : Int) := by rw [m1, IntKind.wrap_i64]; omega
  have w2 : IntKind.i64.wrap (((r : Int) + 1).tmod (P : Int)) = (v : Int) := by rw [m2, IntKind.wrap_i64]; omega
  go_enter Tryz.func10, Tryz.ntmps10
  go_upto_region 1 with fail
  obtain ⟨gR, hgR⟩ : ∃ g', g' = w.heap.size := ⟨_, rfl⟩
  obtain ⟨w3, hw3⟩ : ∃ w3, w3 = w.alloc (.cells #[.int .i64 0, .int .i64 0, .bool false, .int .i64 0] 43) := ⟨_, rfl⟩
  rw [← hw3, ← hgR]
  have BR : Blk w3 gR 43 #[.int .i64 0, .int .i64 0, .bool false, .int .i64 0] := by rw [hw3, hgR]; exact Blk.new _ _ _
  have c03 : Chg [] w w3 := by rw [hw3]; exact (Chg.refl [] w).alloc _
  have hW : w3.cell? ⟨gW, 2, none⟩ = some (.int .i64 (P : Nat)) := c03.cellv (lt_of_cellM hW) (by simp) hW
  have hnR : w.heap.size ≤ gR := by omega
  clear hw3 hgR
  have k0 : w3.cell? ⟨gR, 0, none⟩ = some (.int .i64 0) := BR.cellv 0 rfl
  have k1 : w3.cell? ⟨gR, 1, none⟩ = some (.int .i64 0) := BR.cellv 1 rfl
  have k2 : w3.cell? ⟨gR, 2, none⟩ = some (.bool false) := BR.cellv 2 rfl
  have k3 : w3.cell? ⟨gR, 3, none⟩ = some (.int .i64 0) := BR.cellv 3 rfl
  have f0 := BR.frozen 0
  have f1 := BR.frozen 1
  have f2 := BR.frozen 2
  have f3 := BR.frozen 3
  have HR := Lib.hid (And.intro BR c03); clear BR c03
  go_wp2_with fail
  have B4 := (((HR.out.1.setv 0 (.int .i64 (r : Nat)) rfl).setv 1 (.int .i64 (v : Nat)) rfl).setv 2 (.bool false) rfl).setv 3 (.int .i64 0) (cs' := #[.int .i64 (r : Nat), .int .i64 (v : Nat), .bool false, .int .i64 0]) rfl
  have c4 := (((HR.out.2.setCell (p := ⟨gR, 0, none⟩) (.inr hnR) (.int .i64 (r : Nat))).setCell (p := ⟨gR, 1, none⟩) (.inr hnR) (.int .i64 (v : Nat))).setCell (p := ⟨gR, 2, none⟩) (.inr hnR) (.bool false)).setCell (p := ⟨gR, 3, none⟩) (.inr hnR) (.int .i64 0)
  exact ⟨rfl, _, results_cell_row (P := Tryz.prog) (fn := Tryz.f10) rfl _ _ gR 43 _ _ _ rfl B4 Tryz.underlying43 rfl (by kernel_rfl), rfl, c4⟩
structure RunJ (gW P N : Nat) (J : Nat → Int → World → Prop) : Prop where
  cells : ∀ i s w, J i s w → ∃ gm, w.cell? ⟨gW, 0, none⟩ = some (.pointer (some ⟨gm, 0, none⟩)) ∧ w.cell? ⟨gW, 2, none⟩ = some (.int .i64 (P : Nat)) ∧ gW < w.heap.size ∧ Calls Tryz.prog 11 #[.pointer (some ⟨gm, 0, none⟩)] w (QdPost (.int .i64 s) w)
  chg : ∀ i s w w', J i s w → Chg [] w w' → J i s w'
  step : ∀ i w, i < N → J i 0 w → Calls Tryz.prog 9 #[.pointer (some ⟨gW, 0, none⟩), rndV P i] w (fun e w' => ∃ k g s', e = .returned (.tuple #[evV k g 0, .bool true]) ∧ J (i + 1) s' w')
def RunRel (N : Nat) (J : Nat → Int → World → Prop) (gk : Nat) (idx : Value) (w : World) : Prop := ∃ i s, gk + i = N + 1 ∧ i ≤ N ∧ idx = .int .i64 (i : Nat) ∧ J i s w
def RunQ (N : Nat) (J : Nat → Int → World → Prop) (e : Ending) (w : World) : Prop := ∃ i s, e = .returned (.bool true) ∧ J i s w ∧ (s ≠ 0 ∨ i = N)
theorem run_ok (w : World) (gW P rounds : Nat) (J : Nat → Int → World → Prop) (s0 : Int) (R : RunJ gW P (rounds * P) J) (h1 : 1 ≤ P) (hP : P ≤ 64) (hr : rounds ≤ 100000) (h : J 0 s0 w) :
    Calls Tryz.prog 13 #[.pointer (some ⟨gW, 0, none⟩), .int .i64 (rounds : Nat)] w (RunQ (rounds * P) J) := by
  obtain ⟨N, hN⟩ : ∃ N, N = rounds * P := ⟨_, rfl⟩
  have bN : N ≤ 6400000 := by rw [hN]; exact Nat.mul_le_mul hr hP
  have eN : IntKind.i64.wrap ((rounds : Int) * (P : Int)) = (N : Int) := by rw [IntKind.wrap_i64, hN]; push_cast; have : (N : Int) = (rounds : Int) * (P : Int) := by rw [hN]; push_cast; rfl
                                                                            omega
  rw [← hN] at R ⊢
  have HR := Lib.hid (And.intro R (And.intro h hN)); clear R h hN
  go_enter Tryz.func13, Tryz.ntmps13
  go_wp2_with fail
  go_loopg [5] (N + 1) (fun gk idx wr => RunRel N J gk idx wr)
  case atStart => exact ⟨0, s0, by omega, by omega, rfl, HR.out.2.1⟩
  case round =>
    obtain ⟨i, s, hgk, hi, rfl, hJ⟩ := hrel
    obtain ⟨gm, c0, c2, lW, KS⟩ := HR.out.1.cells i s wr hJ
    have HJ := Lib.hid (And.intro hJ (And.intro KS lW)); clear hJ KS
    by_cases hlt : i < N
    · have d1 : (i : Int) < (N : Int) := by omega
      go_wp2_with fail
      refine (HJ.out.2.1).mono ?_
      rintro e w1 ⟨rfl, kk, hw1⟩
      have c1 : Chg [] wr w1 := by rw [hw1]; exact (Chg.refl [] wr).drewN _
      have J1 := HR.out.1.chg i s wr w1 HJ.out.1 c1
      clear hw1
      by_cases hs : s = 0
      · subst hs
        obtain ⟨gm', c0', c2', lW', -⟩ := HR.out.1.cells i 0 w1 J1
        have KR := round_ok w1 gW P i c2' h1 hP (by omega)
        have H1 := Lib.hid (And.intro J1 KR); clear J1 KR c1 c0 c2 c0' c2' lW' lW
        go_wp2_with fail
        refine (H1.out.2).mono ?_
        rintro e w2 ⟨rfl, c12⟩
        have KD := HR.out.1.step i w2 hlt (HR.out.1.chg _ _ _ _ H1.out.1 c12)
        have H2 := Lib.hid KD; clear KD c12
        go_wp2_with fail
        refine (H2.out).mono ?_
        rintro e w3 ⟨k, g, s', rfl, J3⟩
        unfold evV
        have H3 := Lib.hid J3; clear J3
        go_wp2_with fail
        go_roundg (N - i)
        case measure => omega
        case rel => exact ⟨i + 1, s', by omega, by omega, rfl, HR.out.1.chg _ _ _ _ H3.out ((Chg.refl [] w3).alloc _)⟩
      · have e0 : (s == 0) = false := by rw [beq_eq_false_iff_ne]; exact hs
        have H1 := Lib.hid J1; clear J1 c1 c0 c2 lW
        go_wp2_with fail
        go_ret
        exact ⟨i, s, rfl, H1.out, .inl hs⟩
    · have d1 : ¬ (i : Int) < (N : Int) := by omega
      go_wp2_with fail
      go_ret
      exact ⟨i, s, rfl, HJ.out.1, .inr (by omega)⟩
def yIns (k y g : Nat) (x : GorA) : Ins :=
  if g = 0 then (if x.pc = (k : Nat) then ⟨0, 0, 0, 0⟩ else ⟨8, 1, 0, 0⟩)
  else if x.pc = 0 then ⟨16, 0, y, 0⟩ else if x.pc = 1 then ⟨9, 0, 0, 0⟩ else if x.pc = 2 then ⟨17, 1, 0, 0⟩ else ⟨0, 0, 0, 0⟩
theorem Calm.more {m m' : Mac} (C : Calm m) (h1 : m'.np = m.np) (h2 : m'.tm = m.tm) (h3 : m'.made = m.made) (h4 : m'.out = m.out) (h5 : m'.ph = m.ph) (h6 : m'.force = m.force) (h7 : m'.A = m.A) (h8 : m'.gT = m.gT) (h9 : m'.sts.length = m'.ng) (h10 : m'.ng ≤ 1024) (h11 : m'.cms.length ≤ 100000000) : Calm m' :=
  ⟨by rw [h1]; exact C.P, by rw [h2]; exact C.tm, by rw [h3]; exact C.made, by rw [h4]; exact C.out, by rw [h5]; exact C.h0, by rw [h6]; exact C.fo, by rw [h5]; exact C.cy, by rw [h7]; exact C.lv, by rw [h8]; exact C.T, h9, h10, h11, by rw [h7]; exact C.ob⟩
section
variable {k y s i : Nat} {m : Mac} {g : Nat} {L : List Nat} (h : YBusy k y s i m g L)
include h
end
structure Cn (m : Mac) (b : Nat) : Prop where
  ps : ∀ q, q < m.np → (m.ps q).worked = 0 ∧ (∃ n : Nat, (m.ps q).all = n ∧ n ≤ b) ∧ (∃ n : Nat, (m.ps q).picks = n ∧ n ≤ b) ∧ ∃ n : Nat, (m.ps q).row = n ∧ n ≤ b
  sp : ∃ n : Nat, m.steps = n ∧ n ≤ b
  ck : m.clock = 0
theorem Cn.cnts {m : Mac} {b : Nat} (h : Cn m b) (hb : b + 1 ≤ 1000000) {q : Nat} (hq : q < m.np) : Cnts m q ∧ ∃ rw : Nat, (m.ps q).row = rw ∧ rw ≤ 1000000 := by
  obtain ⟨a1, ⟨n2, a2, b2⟩, ⟨n3, a3, b3⟩, n4, a4, b4⟩ := h.ps q hq
  obtain ⟨n5, a5, b5⟩ := h.sp
  exact ⟨⟨⟨0, a1, by omega⟩, ⟨n2, a2, by omega⟩, ⟨n3, a3, by omega⟩, ⟨n5, a5, by omega⟩, ⟨0, h.ck, by omega⟩⟩, n4, a4, by omega⟩
theorem Cn.le {m : Mac} {b b' : Nat} (h : Cn m b) (hb : b ≤ b') : Cn m b' := by
  refine ⟨fun q hq => ?_, ?_, h.ck⟩
  · obtain ⟨a1, ⟨n2, a2, b2⟩, ⟨n3, a3, b3⟩, n4, a4, b4⟩ := h.ps q hq
    exact ⟨a1, ⟨n2, a2, by omega⟩, ⟨n3, a3, by omega⟩, n4, a4, by omega⟩
  · obtain ⟨n5, a5, b5⟩ := h.sp
    exact ⟨n5, a5, by omega⟩
theorem Cn.set {m m' : Mac} {b b' : Nat} (h : Cn m b) (hb : b ≤ b') {q : Nat} {x : PrcA} (h1 : m'.np = m.np) (h2 : m'.ps = updV m.ps q x) (h3 : ∃ n : Nat, m'.steps = n ∧ n ≤ b') (h4 : m'.clock = m.clock) (hx : q < m.np → x.worked = 0 ∧ (∃ n : Nat, x.all = n ∧ n ≤ b') ∧ (∃ n : Nat, x.picks = n ∧ n ≤ b') ∧ ∃ n : Nat, x.row = n ∧ n ≤ b') : Cn m' b' := by
  refine ⟨fun q' hq' => ?_, h3, by rw [h4]; exact h.ck⟩
  rw [h1] at hq'
  rw [h2]
  by_cases e : q' = q
  · subst e; rw [updV_same]; exact hx hq'
  · rw [updV_other _ _ e]
    obtain ⟨a1, ⟨n2, a2, b2⟩, ⟨n3, a3, b3⟩, n4, a4, b4⟩ := h.ps q' hq'
    exact ⟨a1, ⟨n2, a2, by omega⟩, ⟨n3, a3, by omega⟩, n4, a4, by omega⟩
theorem Cn.tick {m : Mac} {b : Nat} (h : Cn m b) (q : Nat) : Cn (tickA m q) (b + 1) := by
  obtain ⟨n5, a5, b5⟩ := h.sp
  refine h.set (by omega) (q := q) rfl rfl ⟨n5 + 1, by show m.steps + 1 = _; rw [a5]; rfl, by omega⟩ rfl (fun hq => ?_)
  obtain ⟨a1, ⟨n2, a2, b2⟩, ⟨n3, a3, b3⟩, n4, a4, b4⟩ := h.ps q hq
  exact ⟨a1, ⟨n2 + 1, by show (m.ps q).all + 1 = _; rw [a2]; rfl, by omega⟩, ⟨n3, a3, by omega⟩, n4, a4, by omega⟩
theorem tick_ps (m : Mac) (q : Nat) : (tickA m q).ps q = { m.ps q with all := (m.ps q).all + 1 } := updV_same _ _ _
theorem Cn.takeG {m : Mac} {b : Nat} (h : Cn m b) (q g : Nat) (r2 : Nat → RgR) : Cn (takeG (tickA m q) q g r2) (b + 1) := by
  obtain ⟨n5, a5, b5⟩ := h.sp
  refine h.set (by omega) (q := q) rfl (by show updV (updV m.ps q _) q _ = _; rw [updV_updV]) ⟨n5 + 1, by show m.steps + 1 = _; rw [a5]; rfl, by omega⟩ rfl (fun hq => ?_)
  obtain ⟨a1, ⟨n2, a2, b2⟩, ⟨n3, a3, b3⟩, n4, a4, b4⟩ := h.ps q hq
  have e := tick_ps m q
  exact ⟨by show ((tickA m q).ps q).worked = 0; rw [e]; exact a1, ⟨n2 + 1, by show ((tickA m q).ps q).all = _; rw [e]; show (m.ps q).all + 1 = _; rw [a2]; rfl, by omega⟩, ⟨n3 + 1, by show ((tickA m q).ps q).picks + 1 = _; rw [e]; show (m.ps q).picks + 1 = _; rw [a3]; rfl, by omega⟩, 0, rfl, by omega⟩
theorem Cn.takeN {m : Mac} {b : Nat} (h : Cn m b) (q : Nat) (r2 : Nat → RgR) : Cn (takeN (tickA m q) q r2) (b + 1) := by
  obtain ⟨n5, a5, b5⟩ := h.sp
  refine h.set (by omega) (q := q) rfl (by show updV (updV m.ps q _) q _ = _; rw [updV_updV]) ⟨n5 + 1, by show m.steps + 1 = _; rw [a5]; rfl, by omega⟩ rfl (fun hq => ?_)
  obtain ⟨a1, ⟨n2, a2, b2⟩, ⟨n3, a3, b3⟩, n4, a4, b4⟩ := h.ps q hq
  have e := tick_ps m q
  exact ⟨by show ((tickA m q).ps q).worked = 0; rw [e]; exact a1, ⟨n2 + 1, by show ((tickA m q).ps q).all = _; rw [e]; show (m.ps q).all + 1 = _; rw [a2]; rfl, by omega⟩, ⟨n3 + 1, by show ((tickA m q).ps q).picks + 1 = _; rw [e]; show (m.ps q).picks + 1 = _; rw [a3]; rfl, by omega⟩, n4, by show ((tickA m q).ps q).row = _; rw [e]; exact a4, by omega⟩
theorem Cn.away {m : Mac} {b : Nat} (h : Cn m b) (q g : Nat) : Cn (awayA m q g) b := by
  obtain ⟨n5, a5, b5⟩ := h.sp
  exact h.set (Nat.le_refl _) (q := q) rfl rfl ⟨n5, a5, b5⟩ rfl (fun hq => h.ps q hq)
theorem Srv.cn {m m1 : Mac} {q g b : Nat} (h : Cn m b) (S : Srv m m1 q g) : Cn m1 (b + 1) := by
  rcases S with ⟨-, rfl⟩ | ⟨-, r2, rfl⟩
  · exact h.tick q
  · exact h.takeG q g r2
structure Stays (m m3 : Mac) (q : Nat) : Prop where
  np : m3.np = m.np
  fs : m3.fs = m.fs
  tm : m3.tm = m.tm
  made : m3.made = m.made
  out : m3.out = m.out
  ph : m3.ph = m.ph
  fo : m3.force = m.force
  A : m3.A = m.A
  gT : m3.gT = m.gT
  sp : m3.steps = m.steps
  ck : m3.clock = m.clock
  ps : ∀ q', (m3.ps q').worked = (m.ps q').worked ∧ (m3.ps q').all = (m.ps q').all ∧ (m3.ps q').picks = (m.ps q').picks ∧ ((m3.ps q').row = (m.ps q').row ∨ (m3.ps q').row = (m.ps q').row + 1)
theorem Stays.cn {m m3 : Mac} {q b : Nat} (S : Stays m m3 q) (h : Cn m b) : Cn m3 (b + 1) := by
  refine ⟨fun q' hq' => ?_, ?_, by rw [S.ck]; exact h.ck⟩
  · rw [S.np] at hq'
    obtain ⟨a1, ⟨n2, a2, b2⟩, ⟨n3, a3, b3⟩, n4, a4, b4⟩ := h.ps q' hq'
    obtain ⟨s1, s2, s3, s4⟩ := S.ps q'
    refine ⟨by rw [s1]; exact a1, ⟨n2, by rw [s2]; exact a2, by omega⟩, ⟨n3, by rw [s3]; exact a3, by omega⟩, ?_⟩
    rcases s4 with e | e
    · exact ⟨n4, by rw [e]; exact a4, by omega⟩
    · exact ⟨n4 + 1, by rw [e, a4]; rfl, by omega⟩
  · obtain ⟨n5, a5, b5⟩ := h.sp
    exact ⟨n5, by rw [S.sp]; exact a5, by omega⟩
theorem Srv.stays {m m1 : Mac} {q g : Nat} (S : Srv m m1 q g) : m1.np = m.np ∧ m1.fs = m.fs ∧ m1.ng = m.ng ∧ m1.tm = m.tm ∧ m1.made = m.made ∧ m1.out = m.out ∧ m1.ph = m.ph ∧ m1.force = m.force ∧ m1.A = m.A ∧ m1.gT = m.gT ∧ m1.cms = m.cms ∧ m1.wt = m.wt ∧ (∀ j, (m1.gs j).f = (m.gs j).f ∧ (m1.gs j).pc = (m.gs j).pc ∧ (m1.gs j).cnt = (m.gs j).cnt ∧ (m1.gs j).st = (m.gs j).st) := by
  rcases S with ⟨-, rfl⟩ | ⟨-, r2, rfl⟩
  · exact ⟨rfl, rfl, rfl, rfl, rfl, rfl, rfl, rfl, rfl, rfl, rfl, rfl, fun j => ⟨rfl, rfl, rfl, rfl⟩⟩
  · refine ⟨rfl, rfl, rfl, rfl, rfl, rfl, rfl, rfl, rfl, rfl, rfl, rfl, fun j => ?_⟩
    have hx : (Proofs.YtcpljjacamibeaaGreatDoor.takeG (tickA m q) q g r2).gs j = if j = g then { m.gs g with p := (q : Nat) } else m.gs j := rfl
    rw [hx]
    by_cases e : j = g
    · subst e; rw [if_pos rfl]; exact ⟨rfl, rfl, rfl, rfl⟩
    · rw [if_neg e]; exact ⟨rfl, rfl, rfl, rfl⟩
theorem Rel.moved {m m1 : Mac} {X : Mdl} {loc loc1 : Nat → Nat × Nat} (R : Rel m X) (h : WF m loc) (h1 : WF m1 loc1) (e1 : m1.fs = m.fs) (e2 : m1.ng = m.ng) (e3 : ∀ j, (m1.gs j).f = (m.gs j).f ∧ (m1.gs j).pc = (m.gs j).pc ∧ (m1.gs j).cnt = (m.gs j).cnt ∧ (m1.gs j).st = (m.gs j).st)
    (e4 : ∀ j, j < m.ng → stX (loc1 j).1 = stX (loc j).1) (e5 : m1.wt = m.wt) : Rel m1 X := by
  refine ⟨by rw [e1]; exact R.fs, by rw [e2]; exact R.n, fun j s hj => ?_, fun j hj => ?_, e5.trans R.w⟩
  · have hl := (List.getElem?_eq_some_iff.1 hj).1
    rw [h1.sl, e2] at hl
    have h2 := h1.st j (by rw [e2]; exact hl)
    rw [hj] at h2
    rw [Option.some.inj h2, e4 j hl]
    exact R.st j _ (h.st j hl)
  · rw [e2] at hj
    obtain ⟨a, b, c, d⟩ := R.g j hj
    obtain ⟨a', b', c', d'⟩ := e3 j
    exact ⟨a.trans a'.symm, b.trans b'.symm, c.trans c'.symm, d.trans d'.symm⟩
theorem stX_12 {a b : Nat × Nat} (ha : a.1 = 1 ∨ a.1 = 2) (hb : b.1 = 1 ∨ b.1 = 2) : stX (a.1 : Nat) = stX (b.1 : Nat) := by
  rcases ha with e | e <;> rcases hb with e' | e' <;> rw [e, e'] <;> rfl
structure AtC (P : Nat) (fs : List (List Ins)) (J : Mdl → List ComA → Prop) (m : Mac) (X : Mdl) (loc : Nat → Nat × Nat) (q g : Nat) : Prop where
  hJ : J X m.cms
  R : Rel m X
  h : WF m loc
  hfs : m.fs = fs
  np : m.np = P
  hq : q < m.np
  hg : g < m.ng
  l : loc g = (2, q)
  row : ∃ rw : Nat, (m.ps q).row = rw ∧ rw ≤ 1000000
  h0 : m.ph.ph = 0
  cl : m.cms.length ≤ 100000000
  ng : m.ng ≤ 255
  ob : ∀ x, m.A.a.ob x = none
structure Ops (P : Nat) (fs : List (List Ins)) (vf : Value) (wB : World) (J : Mdl → List ComA → Prop) (nx : Mdl → Nat → Ins) (cm : Mac → Nat → Nat → Ins → Mac) (dx : Mdl → Nat → Ins → Mdl) (tx : Mdl → Nat → Ins → ComA) : Prop where
  small : ∀ X cms, J X cms → X.n ≤ 255
  next : ∀ (m : Mac) (X : Mdl), J X m.cms → Rel m X → m.fs = fs → ∀ g, g < m.ng → (X.gs g).st = 1 → NxtG m.fs (m.gs g) (nx X g) ∧ ¬ (nx X g).o = 1
  com : ∀ (m : Mac) (X : Mdl) (loc : Nat → Nat × Nat) (q g : Nat), AtC P fs J m X loc q g → ∀ (p : MAt), p.vq = .slice none 0 0 → ∀ (B : Bs) (w' : World), MM B w' p m → Calls Tryz.prog 146 #[.pointer (some ⟨p.gm, 0, none⟩), .int .i64 (q : Nat), insV (nx X g), .int .i64 0] w' (RunPost B (Keeps p) (cm m q g (nx X g)) g)
  after : ∀ (m : Mac) (X : Mdl) (loc : Nat → Nat × Nat) (q g : Nat), AtC P fs J m X loc q g → ∃ loc3, WF (cm m q g (nx X g)) loc3 ∧ Rel (cm m q g (nx X g)) (dx X g (nx X g)) ∧ (cm m q g (nx X g)).cms = m.cms ++ [tx X g (nx X g)] ∧ Stays m (cm m q g (nx X g)) q
  tell : ∀ X g i, (tx X g i).g = (g : Nat) ∧ (tx X g i).op = (i.o : Nat) ∧ (i.o = 2 → (tx X g i).v = 0)
  mod : ∀ (w : World) (a : XAt) (X : Mdl) (cms : List ComA) (g : Nat), XM w a X → J X cms → X.fs = fs → a.vf = vf → Chg [] wB w → g < X.n → (X.gs g).st = 1 → Calls Tryz.prog 91 #[.pointer (some ⟨a.gX, 0, none⟩), .int .i64 (g : Nat)] w (FolPost a (dx X g (nx X g)) X (.tuple #[.agg (comC (tx X g (nx X g))).toArray, .int .i64 0]) w)
  keep : ∀ X cms g, J X cms → g < X.n → (X.gs g).st = 1 → J (dx X g (nx X g)) (cms ++ [tx X g (nx X g)])
def GJ (P : Nat) (fs : List (List Ins)) (wB : World) (gW : Nat) (wo : Int) (b1 b2 : Nat) (va vf : Value) (J : Mdl → List ComA → Prop) (i : Nat) (s : Int) (w : World) : Prop :=
  ∃ p m a X loc cP cV, BothM wB w gW (P : Nat) wo b1 b2 va cP cV p m a X ∧ Rel m X ∧ WF m loc ∧ Calm m ∧ Cn m (2 * i) ∧ m.np = P ∧ m.fs = fs ∧ J X m.cms ∧ m.cms.length ≤ i ∧ s = stV m ∧ (p.vq = .slice none 0 0 ∧ p.vtm = .slice none 0 0 ∧ p.vfr = .slice none 0 0) ∧ a.vf = vf ∧ a.ck = 0 ∧ va = .slice (some ⟨a.gA, 0, none⟩) 1 1
theorem WF.stX {m : Mac} {X : Mdl} {loc : Nat → Nat × Nat} (R : Rel m X) (h : WF m loc) {g : Nat} (hg : g < m.ng) : (X.gs g).st = Proofs.YtcpljjacamibeaaGreatDoor.stX ((loc g).1 : Nat) := R.st g _ (h.st g hg)
def SrvR (m m1 : Mac) (q g : Nat) (vic : Int) : Prop := ((m.ps q).g = (g : Nat) ∧ m1 = tickA m q) ∨ ((m.ps q).g = -1 ∧ ∃ r2, Gets m.rg q m.np vic (some g) r2 ∧ m1 = takeG (tickA m q) q g r2)
theorem SrvR.srv {m m1 : Mac} {q g : Nat} {vic : Int} (h : SrvR m m1 q g vic) : Srv m m1 q g := by
  rcases h with h | ⟨a, r2, -, b⟩
  · exact .inl h
  · exact .inr ⟨a, r2, b⟩
theorem rgMvN_nk : ∀ (k : Nat) (r o : RgR), (rgMvN k (r, o)).1.n = r.n + k ∧ (rgMvN k (r, o)).2.n = o.n - k
  | 0, _, _ => ⟨rfl, rfl⟩
  | k + 1, r, o => by
    obtain ⟨a, b⟩ := rgMvN_nk k r o
    refine ⟨?_, ?_⟩
    · show (rgMvN k (r, o)).1.n + 1 = _
      omega
    · show (rgMvN k (r, o)).2.n - 1 = _
      omega
theorem Gets.le {rg : Nat → RgR} {q np : Nat} {vic : Int} {o : Option Nat} {r2 : Nat → RgR} (G : Gets rg q np vic o r2) {b : Nat} (h : ∀ k, k < np → (rg k).n ≤ b) : ∀ k, k < np → (r2 k).n ≤ b := by
  intro k hk
  have hb := h k hk
  cases G with
  | own g L hL =>
    by_cases e : k = q
    · subst e; rw [updV_same]; show (rg k).n - 1 ≤ b; omega
    · rw [updV_other _ _ e]; exact hb
  | stolen v g L h0 hv hne hvic hL =>
    have hbv := h v hv
    obtain ⟨n1, n2⟩ := rgMvN_nk ((rg v).n - (rg v).n / 2) (rg q) (rg v)
    have h0n : (rg q).n = 0 := h0.n
    by_cases e : k = q
    · subst e
      rw [updV_same]
      show (stealR rg k v k).n - 1 ≤ b
      unfold stealR
      rw [updV_same, n1]
      omega
    · rw [updV_other _ _ e]
      unfold stealR
      rw [updV_other _ _ e]
      by_cases e2 : k = v
      · subst e2; rw [updV_same, n2]; omega
      · rw [updV_other _ _ e2]; exact hb
  | none h0 => exact hb
theorem WF.gets_r {m : Mac} {loc : Nat → Nat × Nat} (h : WF m loc) {q g : Nat} {vic : Int} {r2 : Nat → RgR} (hq : q < m.np) (hrn : ∀ k, k < m.np → (m.rg k).n ≤ 256) (hpg : (m.ps q).g = -1) (G : Gets m.rg q m.np vic (some g) r2) :
    g < m.ng ∧ (∃ v, loc g = (1, v)) ∧ ∃ loc1, WF (takeG (tickA m q) q g r2) loc1 ∧ loc1 g = (2, q) ∧ ∀ j, j ≠ g → loc1 j = loc j ∨ ((loc1 j).1 = 1 ∧ (loc j).1 = 1) := by
  have key : ∀ (rg1 : Nat → RgR) (loc1 : Nat → Nat × Nat) (L : List Nat), WFc m.ng m.np m.sts (fun q => (m.ps q).g) rg1 loc1 → RingIs (rg1 q) (g :: L) → g < m.ng ∧ loc1 g = (1, q) ∧ WF (takeG (tickA m q) q g (updV rg1 q (rgPop (rg1 q)))) (updV loc1 g (2, q)) := fun rg1 loc1 L h1 hL => by
    obtain ⟨a, b, c⟩ := h1.take hq hpg hL
    refine ⟨a, b, ?_⟩
    show WFc m.ng m.np (m.sts.set g 2) (fun q' => (updV (updV m.ps q _) q { (updV m.ps q _ q) with g := (g : Nat), row := 0, picks := (updV m.ps q _ q).picks + 1 } q').g) _ _
    rw [pg_upd, pg_upd]
    rw [updV_updV]
    exact c
  cases G with
  | own _ L hL =>
    obtain ⟨a, b, c⟩ := key m.rg loc L h hL
    exact ⟨a, ⟨q, b⟩, _, c, updV_same _ _ _, fun j hj => .inl (updV_other _ _ hj)⟩
  | stolen v _ L h0 hv hne hvic hL =>
    obtain ⟨h2, hr⟩ := h.steal_r hq hv hne h0 hL (by rw [← hL.n]; exact hrn v hv)
    have hk : (g :: L).length - (g :: L).length / 2 = ((g :: L).length - (g :: L).length / 2 - 1) + 1 := by rw [List.length_cons]; omega
    have hr' := hr
    rw [hk, List.take_succ_cons] at hr'
    obtain ⟨a, b, c⟩ := key _ _ _ h2 hr'
    have hm := (h.list hv hL).2.1
    refine ⟨a, ⟨v, ((hm g).1 (by simp)).2⟩, _, c, updV_same _ _ _, fun j hj => ?_⟩
    rw [updV_other _ _ hj]
    by_cases e : j ∈ (g :: L).take ((g :: L).length - (g :: L).length / 2)
    · rw [if_pos e]
      exact .inr ⟨rfl, by rw [((hm j).1 (List.mem_of_mem_take e)).2]⟩
    · rw [if_neg e]; exact .inl rfl
theorem m_step_z {p : MAt} {m : Mac} (C : Calm m) {loc : Nat → Nat × Nat} (h : WF m loc) (hrn : ∀ k, k < m.np → (m.rg k).n ≤ 255) (q : Nat) (vic : Int) (hq : q < m.np) (K : Cnts m q) (hrow : ∃ rw : Nat, (m.ps q).row = rw ∧ rw ≤ 1000000) (hs0 : stV m = 0) (hvq : p.vq = .slice none 0 0) (hvt : p.vtm = .slice none 0 0) (hvf : p.vfr = .slice none 0 0)
    (nx : Nat → Ins) (hnx : ∀ g, g < m.ng → ((loc g).1 = 1 ∨ (loc g).1 = 2) → NxtG m.fs (m.gs g) (nx g) ∧ (nx g).o ≠ 1) (cm : Mac → Nat → Ins → Mac)
    (hCom : ∀ (m1 : Mac) (g : Nat) (loc1 : Nat → Nat × Nat), SrvR m m1 q g vic → g < m.ng → ((loc g).1 = 1 ∨ (loc g).1 = 2) → (∀ j, j ≠ g → loc1 j = loc j ∨ ((loc1 j).1 = 1 ∧ (loc j).1 = 1)) → WF m1 loc1 → loc1 g = (2, q) → (∃ rw : Nat, (m1.ps q).row = rw ∧ rw ≤ 1000000) → ((m1.ps q).row < 16 ∨ (m1.rg q).n = 0) → ∀ (B : Bs) (w' : World), MM B w' p m1 → Calls Tryz.prog 146 #[.pointer (some ⟨p.gm, 0, none⟩), .int .i64 (q : Nat), insV (nx g), .int .i64 0] w' (RunPost B (Keeps p) (cm m1 g (nx g)) g)) :
    ∃ (m3 : Mac) (ek eg : Int), (∀ (W : Bs) (w : World), MM W w p m → Calls Tryz.prog 33 #[.pointer (some ⟨p.gm, 0, none⟩), .agg #[.int .i64 (q : Nat), .int .i64 vic, .bool false, .int .i64 0]] w (RunE W (Keeps p) m3 ek eg)) ∧
      ((ek = 0 ∧ m3 = takeN (tickA m q) q m.rg ∧ (m.ps q).g = -1 ∧ WF m3 loc) ∨
       (∃ g, ek = 2 ∧ m3 = awayA (tickA m q) q g ∧ g < m.ng ∧ loc g = (2, q) ∧ 16 ≤ (m.ps q).row ∧ ¬ (m.rg q).n = 0 ∧ WF m3 (updV loc g (1, q))) ∨
       (∃ m1 g loc1, ek = 1 ∧ eg = (g : Nat) ∧ m3 = cm m1 g (nx g) ∧ SrvR m m1 q g vic ∧ g < m.ng ∧ ((loc g).1 = 1 ∨ (loc g).1 = 2) ∧ WF m1 loc1 ∧ loc1 g = (2, q) ∧ ((m1.ps q).row < 16 ∨ (m1.rg q).n = 0) ∧ ∀ j, j ≠ g → loc1 j = loc j ∨ ((loc1 j).1 = 1 ∧ (loc j).1 = 1))) := by
  obtain ⟨wk, hwk, bwk⟩ := K.wk
  obtain ⟨al, hal, bal⟩ := K.al
  obtain ⟨pk, hpk, bpk⟩ := K.pk
  obtain ⟨sp, hsp, bsp⟩ := K.sp
  obtain ⟨ck, hck, bck⟩ := K.ck
  obtain ⟨rw0, hrw0, brw0⟩ := hrow
  have hsl := C.sl
  have hng := C.ng
  have hKp : Keeps p p := ⟨rfl, rfl, hvq, rfl, rfl⟩
  -- what run does, whoever runs
  have run : ∀ (m1 : Mac) (g : Nat) (loc1 : Nat → Nat × Nat) (rw_ : Nat), SrvR m m1 q g vic → ((loc g).1 = 1 ∨ (loc g).1 = 2) → (∀ j, j ≠ g → loc1 j = loc j ∨ ((loc1 j).1 = 1 ∧ (loc j).1 = 1)) → WF m1 loc1 → loc1 g = (2, q) → m1.ng = m.ng → m1.np = m.np → (m1.rg q).n ≤ 255 → (m1.ps q).g = (g : Nat) → (m1.ps q).row = rw_ → rw_ ≤ 1000000 → g < m.ng → NxtG m1.fs (m1.gs g) (nx g) → (nx g).o ≠ 1 →
      (∃ m3 ek, (∀ (B : Bs) (w' : World), MM B w' p m1 → Calls Tryz.prog 87 #[.pointer (some ⟨p.gm, 0, none⟩), .int .i64 (q : Nat)] w' (RunE B (Keeps p) m3 ek (g : Nat))) ∧ ((ek = 1 ∧ m3 = cm m1 g (nx g) ∧ ((m1.ps q).row < 16 ∨ (m1.rg q).n = 0)) ∨ (ek = 2 ∧ m3 = awayA m1 q g ∧ 16 ≤ rw_ ∧ ¬ (m1.rg q).n = 0))) := by
    intro m1 g loc1 rw_ hS hlk hot hW hl eng enp hrl hxg hr br hg hN hio
    obtain ⟨F, pc, l, hF, hpc, bpc, hfl, hi, hl0⟩ := hN
    obtain ⟨L, hL, hLN, hLm⟩ := hW.rg q (by rw [enp]; exact hq)
    have hLl : L.length < 256 := by rw [← hL.n]; omega
    have hst : m1.sts[g]? = some 2 := by
      have := hW.st g (by rw [eng]; exact hg)
      rw [hl] at this
      exact this
    have hcom := hCom m1 g loc1 hS hg hlk hot hW hl ⟨rw_, hr, br⟩
    have hngl : m1.ng ≤ 1024 := by rw [eng]; exact hng
    by_cases h16 : rw_ < 16
    · have hrr : (m1.ps q).row < 16 ∨ (m1.rg q).n = 0 := .inl (by rw [hr]; omega)
      refine ⟨_, 1, fun B w' M' => ?_, .inl ⟨rfl, rfl, hrr⟩⟩
      exact m_run_gen M' q g F l (nx g) hio (by rw [enp]; exact hq) (by rw [eng]; exact hg) hxg rw_ hr h16 hvq hF pc hpc bpc hfl hi hl0 (Keeps p) _ (fun w6 D M6 => hcom hrr _ _ M6)
    · cases L with
      | nil =>
        have hrr : (m1.ps q).row < 16 ∨ (m1.rg q).n = 0 := .inr hL.n
        refine ⟨_, 1, fun B w' M' => ?_, .inl ⟨rfl, rfl, hrr⟩⟩
        exact m_run_long M' q g F l (nx g) hio (by rw [enp]; exact hq) (by rw [eng]; exact hg) hxg rw_ hr (by omega) br hL.hs hL.fr hL.n hvq hF pc hpc bpc hfl hi hl0 (Keeps p) _ (fun w6 D M6 => hcom hrr _ _ M6)
      | cons a r =>
        refine ⟨_, 2, fun B w' M' => ?_, .inr ⟨rfl, rfl, by omega, by rw [hL.n, List.length_cons]; omega⟩⟩
        have hn1 : (m1.rg q).n = r.length + 1 := by rw [hL.n]; rfl
        rw [List.length_cons] at hLl
        exact m_run_away M' q g (by rw [enp]; exact hq) (by rw [eng]; exact hg) hxg rw_ hr (by omega) br hL.hs hL.fr (by omega) (by omega) hst (by have := hW.sl; omega) hvq
  rcases h.rn q hq with ⟨hidle, hno⟩ | ⟨g, hg, hbusy, hgl⟩
  · -- idle
    obtain ⟨o, r2, G, hPk⟩ := gets_ok_r h q vic hq C.P (fun k hk => Nat.le_succ_of_le (hrn k hk)) hvq
    cases o with
    | none =>
      have er : r2 = m.rg := by cases G; rfl
      subst er
      refine ⟨_, 0, -1, fun W w M => (m_step_none M q vic hq C.P hidle hvt C.tm C.made hvf C.out hs0 C.h0 C.fo C.cy C.lv C.T wk al pk sp ck hwk hal hpk hsp hck bwk bal bpk bsp bck m.rg hPk (by omega)).mono fun e w' ⟨p3, he, hp, M3⟩ => ⟨p3, he, by rw [hp]; exact hKp, M3⟩, .inl ⟨rfl, rfl, hidle, ?_⟩⟩
      show WFc m.ng m.np m.sts (fun q' => (updV (updV m.ps q _) q { (updV m.ps q _ q) with picks := (updV m.ps q _ q).picks + 1 } q').g) m.rg loc
      rw [pg_upd, pg_upd, updV_updV, updV_same]
      show WFc m.ng m.np m.sts (updV (fun q' => (m.ps q').g) q ((fun q' => (m.ps q').g) q)) m.rg loc
      rw [updV_self]
      exact h
    | some g =>
      obtain ⟨hg, ⟨v, hl⟩, loc1, hW1, hl1, hoth⟩ := h.gets_r hq (fun k hk => Nat.le_succ_of_le (hrn k hk)) hidle G
      have hS : SrvR m (takeG (tickA m q) q g r2) q g vic := .inr ⟨hidle, r2, G, rfl⟩
      obtain ⟨hN, hio⟩ := hnx g hg (.inl (by rw [hl]))
      have hN1 : NxtG m.fs ((takeG (tickA m q) q g r2).gs g) (nx g) := by
        have e : (takeG (tickA m q) q g r2).gs g = { m.gs g with p := (q : Nat) } := by simp [takeG, tickA, updV_same]
        rw [e]; exact hN
      have eps : (takeG (tickA m q) q g r2).ps q = { m.ps q with all := (m.ps q).all + 1, g := (g : Nat), row := 0, picks := (m.ps q).picks + 1 } := by simp [takeG, tickA, updV_same]
      obtain ⟨m3, ek, hrun, hcase⟩ := run _ g loc1 0 hS (.inl (by rw [hl])) hoth hW1 hl1 rfl rfl (G.le (fun k hk => hrn k hk) q hq) (by rw [eps]) (by rw [eps]; rfl) (by omega) hg hN1 hio
      refine ⟨m3, ek, (g : Nat), fun W w M => m_step_some M q g vic hq C.P hg hidle hvt C.tm C.made hvf C.out hs0 C.h0 C.fo C.cy C.lv C.T wk al pk sp ck hwk hal hpk hsp hck bwk bal bpk bsp bck r2 hPk (by have := h.st g hg; rw [hl] at this; exact this) (by omega) (Keeps p) m3 ek (g : Nat) hrun, ?_⟩
      rcases hcase with ⟨e1, e2, e4⟩ | ⟨-, -, e3, -⟩
      · exact .inr (.inr ⟨_, g, loc1, e1, rfl, e2, hS, hg, .inl (by rw [hl]), hW1, hl1, e4, hoth⟩)
      · omega
  · -- busy
    have hl := (hgl g hg).2 rfl
    have hS : SrvR m (tickA m q) q g vic := .inl ⟨hbusy, rfl⟩
    obtain ⟨hN, hio⟩ := hnx g hg (.inr (by rw [hl]))
    have eps : (tickA m q).ps q = { m.ps q with all := (m.ps q).all + 1 } := by simp [tickA, updV_same]
    have hW := h.tick q
    obtain ⟨m3, ek, hrun, hcase⟩ := run _ g loc rw0 hS (.inr (by rw [hl])) (fun j _ => .inl rfl) hW hl rfl rfl (hrn q hq) (by rw [eps]; exact hbusy) (by rw [eps]; exact hrw0) brw0 hg hN hio
    refine ⟨m3, ek, (g : Nat), fun W w M => m_step_on M q g vic hq C.P hg hbusy hvt C.tm C.made hvf C.out hs0 C.h0 C.fo C.cy C.lv C.T wk al pk sp ck hwk hal hpk hsp hck bwk bal bpk bsp bck (by omega) (Keeps p) m3 ek (g : Nat) hrun, ?_⟩
    rcases hcase with ⟨e1, e2, e4⟩ | ⟨e1, e2, e3, e4⟩
    · exact .inr (.inr ⟨_, g, loc, e1, rfl, e2, hS, hg, .inr (by rw [hl]), hW, hl, e4, fun j _ => .inl rfl⟩)
    · refine .inr (.inl ⟨g, e1, e2, hg, hl, by rw [hrw0]; omega, e4, ?_⟩)
      rw [e2]
      have ha := (hW.away_r hq (by show ((tickA m q).ps q).g = _; rw [eps]; exact hbusy) (by show (m.rg q).n < 256; have := hrn q hq; omega)).2.2
      show WFc m.ng m.np (m.sts.set g 1) (fun q' => (updV (tickA m q).ps q { (tickA m q).ps q with g := -1 } q').g) _ _
      rw [pg_upd]
      exact ha
end Go.Proofs.YtcpljjacamibeaaGreatDoor
