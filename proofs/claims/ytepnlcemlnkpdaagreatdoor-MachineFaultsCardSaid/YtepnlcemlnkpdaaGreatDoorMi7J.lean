/- The document's law 28: Round, Run: whatever is kept from step to step is kept by a run. -/
/- MachineYields, in plain Lean: each commit keeps it. -/
/- What a run of any Ps keeps, whatever the program, as long as it allocates nothing: machine and model in step. -/
/- A run of any Ps, whatever the program and the instructions, as long as each instruction keeps machine and model in step. -/
import Derived.Test.YtepnlcemlnkpdaaGreatDoorMi6
import Derived.Test.YtepnlcemlnkpdaaGreatDoorMh1J
import Derived.Test.YtepnlcemlnkpdaaGreatDoorMi6n
namespace Go.Proofs.YtepnlcemlnkpdaaGreatDoor
set_option maxHeartbeats 16000000
set_option maxRecDepth 100000
open Go.RowKit Go.Maps
def rndV (P i : Nat) : Value := .agg #[.int .i64 ((i % P : Nat) : Int), .int .i64 (((i % P + 1) % P : Nat) : Int), .bool false, .int .i64 0]
theorem round_ok (w : World) (gW P i : Nat) (hW : w.cell? ⟨gW, 2, none⟩ = some (.int .i64 (P : Nat))) (h1 : 1 ≤ P) (hP : P ≤ 64) (hi : i ≤ 100000000) :
    Calls Tryz.prog 31 #[.pointer (some ⟨gW, 0, none⟩), .int .i64 (i : Nat)] w (NwPost (rndV P i) w) := by
  have e0 : ¬ (P : Int) = 0 := by omega
  have m1 : (i : Int).tmod (P : Int) = ((i % P : Nat) : Int) := by rw [Int.tmod_eq_emod_of_nonneg (by omega)]; exact (Int.natCast_emod i P).symm
  have m2 : (((i % P : Nat) : Int) + 1).tmod (P : Int) = (((i % P + 1) % P : Nat) : Int) := by
    rw [Int.tmod_eq_emod_of_nonneg (by omega)]
    exact (Int.natCast_emod (i % P + 1) P).symm
  have b1 : i % P < P := Nat.mod_lt _ h1
  have b2 : (i % P + 1) % P < P := Nat.mod_lt _ h1
  unfold rndV
  obtain ⟨r, hr⟩ : ∃ r, r = i % P := ⟨_, rfl⟩
  obtain ⟨v, hv⟩ : ∃ v, v = (r + 1) % P := ⟨_, rfl⟩
  rw [← hr] at m1 m2 b1 b2 ⊢
  rw [← hv] at m2 b2 ⊢
  clear hr hv
  have w1 : IntKind.i64.wrap ((i : Int).tmod (P : Int)) = (r : Int) := by rw [m1, IntKind.wrap_i64]; omega
  have w2 : IntKind.i64.wrap (((r : Int) + 1).tmod (P : Int)) = (v : Int) := by rw [m2, IntKind.wrap_i64]; omega
  go_enter Tryz.func31, Tryz.ntmps31
  go_upto_region 1 with fail
  obtain ⟨gR, hgR⟩ : ∃ g', g' = w.heap.size := ⟨_, rfl⟩
  obtain ⟨w3, hw3⟩ : ∃ w3, w3 = w.alloc (.cells #[.int .i64 0, .int .i64 0, .bool false, .int .i64 0] 43) := ⟨_, rfl⟩
  rw [← hw3, ← hgR]
  have BR : Blk w3 gR 43 #[.int .i64 0, .int .i64 0, .bool false, .int .i64 0] := by rw [hw3, hgR]; exact Blk.new _ _ _
  have c03 : Chg [] w w3 := by rw [hw3]; exact (Chg.refl [] w).alloc _
  have hW : w3.cell? ⟨gW, 2, none⟩ = some (.int .i64 (P : Nat)) := c03.cellv (lt_of_cellM hW) (by simp) hW
  have hnR : w.heap.size ≤ gR := by omega
  clear hw3 hgR
  have k0 : w3.cell? ⟨gR, 0, none⟩ = some (.int .i64 0) := BR.cellv 0 rfl
  have k1 : w3.cell? ⟨gR, 1, none⟩ = some (.int .i64 0) := BR.cellv 1 rfl
  have k2 : w3.cell? ⟨gR, 2, none⟩ = some (.bool false) := BR.cellv 2 rfl
  have k3 : w3.cell? ⟨gR, 3, none⟩ = some (.int .i64 0) := BR.cellv 3 rfl
  have f0 := BR.frozen 0
  have f1 := BR.frozen 1
  have f2 := BR.frozen 2
  have f3 := BR.frozen 3
  have HR := Lib.hid (And.intro BR c03); clear BR c03
  go_wp2_with fail
  have B4 := (((HR.out.1.setv 0 (.int .i64 (r : Nat)) rfl).setv 1 (.int .i64 (v : Nat)) rfl).setv 2 (.bool false) rfl).setv 3 (.int .i64 0) (cs' := #[.int .i64 (r : Nat), .int .i64 (v : Nat), .bool false, .int .i64 0]) rfl
  have c4 := (((HR.out.2.setCell (p := ⟨gR, 0, none⟩) (.inr hnR) (.int .i64 (r : Nat))).setCell (p := ⟨gR, 1, none⟩) (.inr hnR) (.int .i64 (v : Nat))).setCell (p := ⟨gR, 2, none⟩) (.inr hnR) (.bool false)).setCell (p := ⟨gR, 3, none⟩) (.inr hnR) (.int .i64 0)
  exact ⟨rfl, _, results_cell_row (P := Tryz.prog) (fn := Tryz.f31) rfl _ _ gR 43 _ _ _ rfl B4 Tryz.underlying43 rfl (by kernel_rfl), rfl, c4⟩
structure RunJ (gW P N : Nat) (J : Nat → Int → World → Prop) : Prop where
  cells : ∀ i s w, J i s w → ∃ gm, w.cell? ⟨gW, 0, none⟩ = some (.pointer (some ⟨gm, 0, none⟩)) ∧ w.cell? ⟨gW, 2, none⟩ = some (.int .i64 (P : Nat)) ∧ gW < w.heap.size ∧ Calls Tryz.prog 9 #[.pointer (some ⟨gm, 0, none⟩)] w (QdPost (.int .i64 s) w)
  chg : ∀ i s w w', J i s w → Chg [] w w' → J i s w'
  step : ∀ i w, i < N → J i 0 w → Calls Tryz.prog 30 #[.pointer (some ⟨gW, 0, none⟩), rndV P i] w (fun e w' => ∃ k g s', e = .returned (.tuple #[evV k g 0, .bool true]) ∧ J (i + 1) s' w')
def RunRel (N : Nat) (J : Nat → Int → World → Prop) (gk : Nat) (idx : Value) (w : World) : Prop := ∃ i s, gk + i = N + 1 ∧ i ≤ N ∧ idx = .int .i64 (i : Nat) ∧ J i s w
def RunQ (N : Nat) (J : Nat → Int → World → Prop) (e : Ending) (w : World) : Prop := ∃ i s, e = .returned (.bool true) ∧ J i s w ∧ (s ≠ 0 ∨ i = N)
theorem run_ok (w : World) (gW P rounds : Nat) (J : Nat → Int → World → Prop) (s0 : Int) (R : RunJ gW P (rounds * P) J) (h1 : 1 ≤ P) (hP : P ≤ 64) (hr : rounds ≤ 100000) (h : J 0 s0 w) :
    Calls Tryz.prog 8 #[.pointer (some ⟨gW, 0, none⟩), .int .i64 (rounds : Nat)] w (RunQ (rounds * P) J) := by
  obtain ⟨N, hN⟩ : ∃ N, N = rounds * P := ⟨_, rfl⟩
  have bN : N ≤ 6400000 := by rw [hN]; exact Nat.mul_le_mul hr hP
  have eN : IntKind.i64.wrap ((rounds : Int) * (P : Int)) = (N : Int) := by rw [IntKind.wrap_i64, hN]; push_cast; have : (N : Int) = (rounds : Int) * (P : Int) := by rw [hN]; push_cast; rfl
                                                                            omega
  rw [← hN] at R ⊢
  have HR := Lib.hid (And.intro R (And.intro h hN)); clear R h hN
  go_enter Tryz.func8, Tryz.ntmps8
  go_wp2_with fail
  go_loopg [5] (N + 1) (fun gk idx wr => RunRel N J gk idx wr)
  case atStart => exact ⟨0, s0, by omega, by omega, rfl, HR.out.2.1⟩
  case round =>
    obtain ⟨i, s, hgk, hi, rfl, hJ⟩ := hrel
    obtain ⟨gm, c0, c2, lW, KS⟩ := HR.out.1.cells i s wr hJ
    have HJ := Lib.hid (And.intro hJ (And.intro KS lW)); clear hJ KS
    by_cases hlt : i < N
    · have d1 : (i : Int) < (N : Int) := by omega
      go_wp2_with fail
      refine (HJ.out.2.1).mono ?_
      rintro e w1 ⟨rfl, kk, hw1⟩
      have c1 : Chg [] wr w1 := by rw [hw1]; exact (Chg.refl [] wr).drewN _
      have J1 := HR.out.1.chg i s wr w1 HJ.out.1 c1
      clear hw1
      by_cases hs : s = 0
      · subst hs
        obtain ⟨gm', c0', c2', lW', -⟩ := HR.out.1.cells i 0 w1 J1
        have KR := round_ok w1 gW P i c2' h1 hP (by omega)
        have H1 := Lib.hid (And.intro J1 KR); clear J1 KR c1 c0 c2 c0' c2' lW' lW
        go_wp2_with fail
        refine (H1.out.2).mono ?_
        rintro e w2 ⟨rfl, c12⟩
        have KD := HR.out.1.step i w2 hlt (HR.out.1.chg _ _ _ _ H1.out.1 c12)
        have H2 := Lib.hid KD; clear KD c12
        go_wp2_with fail
        refine (H2.out).mono ?_
        rintro e w3 ⟨k, g, s', rfl, J3⟩
        unfold evV
        have H3 := Lib.hid J3; clear J3
        go_wp2_with fail
        go_roundg (N - i)
        case measure => omega
        case rel => exact ⟨i + 1, s', by omega, by omega, rfl, HR.out.1.chg _ _ _ _ H3.out ((Chg.refl [] w3).alloc _)⟩
      · have e0 : (s == 0) = false := by rw [beq_eq_false_iff_ne]; exact hs
        have H1 := Lib.hid J1; clear J1 c1 c0 c2 lW
        go_wp2_with fail
        go_ret
        exact ⟨i, s, rfl, H1.out, .inl hs⟩
    · have d1 : ¬ (i : Int) < (N : Int) := by omega
      go_wp2_with fail
      go_ret
      exact ⟨i, s, rfl, HJ.out.1, .inr (by omega)⟩
def yIns (k y g : Nat) (x : GorA) : Ins :=
  if g = 0 then (if x.pc = (k : Nat) then ⟨0, 0, 0, 0⟩ else ⟨8, 1, 0, 0⟩)
  else if x.pc = 0 then ⟨16, 0, y, 0⟩ else if x.pc = 1 then ⟨9, 0, 0, 0⟩ else if x.pc = 2 then ⟨17, 1, 0, 0⟩ else ⟨0, 0, 0, 0⟩
theorem Calm.more {m m' : Mac} (C : Calm m) (h1 : m'.np = m.np) (h2 : m'.tm = m.tm) (h3 : m'.made = m.made) (h4 : m'.out = m.out) (h5 : m'.ph = m.ph) (h6 : m'.force = m.force) (h7 : m'.A = m.A) (h8 : m'.gT = m.gT) (h9 : m'.sts.length = m'.ng) (h10 : m'.ng ≤ 1024) (h11 : m'.cms.length ≤ 100000000) : Calm m' :=
  ⟨by rw [h1]; exact C.P, by rw [h2]; exact C.tm, by rw [h3]; exact C.made, by rw [h4]; exact C.out, by rw [h5]; exact C.h0, by rw [h6]; exact C.fo, by rw [h5]; exact C.cy, by rw [h7]; exact C.lv, by rw [h8]; exact C.T, h9, h10, h11, by rw [h7]; exact C.ob⟩
section
variable {k y s i : Nat} {m : Mac} {g : Nat} {L : List Nat} (h : YBusy k y s i m g L)
include h
end
structure Cn (m : Mac) (b : Nat) : Prop where
  ps : ∀ q, q < m.np → (m.ps q).worked = 0 ∧ (∃ n : Nat, (m.ps q).all = n ∧ n ≤ b) ∧ (∃ n : Nat, (m.ps q).picks = n ∧ n ≤ b) ∧ ∃ n : Nat, (m.ps q).row = n ∧ n ≤ b
  sp : ∃ n : Nat, m.steps = n ∧ n ≤ b
  ck : m.clock = 0
theorem Cn.cnts {m : Mac} {b : Nat} (h : Cn m b) (hb : b + 1 ≤ 1000000) {q : Nat} (hq : q < m.np) : Cnts m q ∧ ∃ rw : Nat, (m.ps q).row = rw ∧ rw ≤ 1000000 := by
  obtain ⟨a1, ⟨n2, a2, b2⟩, ⟨n3, a3, b3⟩, n4, a4, b4⟩ := h.ps q hq
  obtain ⟨n5, a5, b5⟩ := h.sp
  exact ⟨⟨⟨0, a1, by omega⟩, ⟨n2, a2, by omega⟩, ⟨n3, a3, by omega⟩, ⟨n5, a5, by omega⟩, ⟨0, h.ck, by omega⟩⟩, n4, a4, by omega⟩
theorem Cn.le {m : Mac} {b b' : Nat} (h : Cn m b) (hb : b ≤ b') : Cn m b' := by
  refine ⟨fun q hq => ?_, ?_, h.ck⟩
  · obtain ⟨a1, ⟨n2, a2, b2⟩, ⟨n3, a3, b3⟩, n4, a4, b4⟩ := h.ps q hq
    exact ⟨a1, ⟨n2, a2, by omega⟩, ⟨n3, a3, by omega⟩, n4, a4, by omega⟩
  · obtain ⟨n5, a5, b5⟩ := h.sp
    exact ⟨n5, a5, by omega⟩
theorem Cn.set {m m' : Mac} {b b' : Nat} (h : Cn m b) (hb : b ≤ b') {q : Nat} {x : PrcA} (h1 : m'.np = m.np) (h2 : m'.ps = updV m.ps q x) (h3 : ∃ n : Nat, m'.steps = n ∧ n ≤ b') (h4 : m'.clock = m.clock) (hx : q < m.np → x.worked = 0 ∧ (∃ n : Nat, x.all = n ∧ n ≤ b') ∧ (∃ n : Nat, x.picks = n ∧ n ≤ b') ∧ ∃ n : Nat, x.row = n ∧ n ≤ b') : Cn m' b' := by
  refine ⟨fun q' hq' => ?_, h3, by rw [h4]; exact h.ck⟩
  rw [h1] at hq'
  rw [h2]
  by_cases e : q' = q
  · subst e; rw [updV_same]; exact hx hq'
  · rw [updV_other _ _ e]
    obtain ⟨a1, ⟨n2, a2, b2⟩, ⟨n3, a3, b3⟩, n4, a4, b4⟩ := h.ps q' hq'
    exact ⟨a1, ⟨n2, a2, by omega⟩, ⟨n3, a3, by omega⟩, n4, a4, by omega⟩
theorem Cn.tick {m : Mac} {b : Nat} (h : Cn m b) (q : Nat) : Cn (tickA m q) (b + 1) := by
  obtain ⟨n5, a5, b5⟩ := h.sp
  refine h.set (by omega) (q := q) rfl rfl ⟨n5 + 1, by show m.steps + 1 = _; rw [a5]; rfl, by omega⟩ rfl (fun hq => ?_)
  obtain ⟨a1, ⟨n2, a2, b2⟩, ⟨n3, a3, b3⟩, n4, a4, b4⟩ := h.ps q hq
  exact ⟨a1, ⟨n2 + 1, by show (m.ps q).all + 1 = _; rw [a2]; rfl, by omega⟩, ⟨n3, a3, by omega⟩, n4, a4, by omega⟩
theorem tick_ps (m : Mac) (q : Nat) : (tickA m q).ps q = { m.ps q with all := (m.ps q).all + 1 } := updV_same _ _ _
theorem Cn.takeG {m : Mac} {b : Nat} (h : Cn m b) (q g : Nat) (r2 : Nat → RgR) : Cn (takeG (tickA m q) q g r2) (b + 1) := by
  obtain ⟨n5, a5, b5⟩ := h.sp
  refine h.set (by omega) (q := q) rfl (by show updV (updV m.ps q _) q _ = _; rw [updV_updV]) ⟨n5 + 1, by show m.steps + 1 = _; rw [a5]; rfl, by omega⟩ rfl (fun hq => ?_)
  obtain ⟨a1, ⟨n2, a2, b2⟩, ⟨n3, a3, b3⟩, n4, a4, b4⟩ := h.ps q hq
  have e := tick_ps m q
  exact ⟨by show ((tickA m q).ps q).worked = 0; rw [e]; exact a1, ⟨n2 + 1, by show ((tickA m q).ps q).all = _; rw [e]; show (m.ps q).all + 1 = _; rw [a2]; rfl, by omega⟩, ⟨n3 + 1, by show ((tickA m q).ps q).picks + 1 = _; rw [e]; show (m.ps q).picks + 1 = _; rw [a3]; rfl, by omega⟩, 0, rfl, by omega⟩
theorem Cn.takeN {m : Mac} {b : Nat} (h : Cn m b) (q : Nat) (r2 : Nat → RgR) : Cn (takeN (tickA m q) q r2) (b + 1) := by
  obtain ⟨n5, a5, b5⟩ := h.sp
  refine h.set (by omega) (q := q) rfl (by show updV (updV m.ps q _) q _ = _; rw [updV_updV]) ⟨n5 + 1, by show m.steps + 1 = _; rw [a5]; rfl, by omega⟩ rfl (fun hq => ?_)
  obtain ⟨a1, ⟨n2, a2, b2⟩, ⟨n3, a3, b3⟩, n4, a4, b4⟩ := h.ps q hq
  have e := tick_ps m q
  exact ⟨by show ((tickA m q).ps q).worked = 0; rw [e]; exact a1, ⟨n2 + 1, by show ((tickA m q).ps q).all = _; rw [e]; show (m.ps q).all + 1 = _; rw [a2]; rfl, by omega⟩, ⟨n3 + 1, by show ((tickA m q).ps q).picks + 1 = _; rw [e]; show (m.ps q).picks + 1 = _; rw [a3]; rfl, by omega⟩, n4, by show ((tickA m q).ps q).row = _; rw [e]; exact a4, by omega⟩
theorem Cn.away {m : Mac} {b : Nat} (h : Cn m b) (q g : Nat) : Cn (awayA m q g) b := by
  obtain ⟨n5, a5, b5⟩ := h.sp
  exact h.set (Nat.le_refl _) (q := q) rfl rfl ⟨n5, a5, b5⟩ rfl (fun hq => h.ps q hq)
theorem Srv.cn {m m1 : Mac} {q g b : Nat} (h : Cn m b) (S : Srv m m1 q g) : Cn m1 (b + 1) := by
  rcases S with ⟨-, rfl⟩ | ⟨-, r2, rfl⟩
  · exact h.tick q
  · exact h.takeG q g r2
structure Stays (m m3 : Mac) (q : Nat) : Prop where
  np : m3.np = m.np
  fs : m3.fs = m.fs
  tm : m3.tm = m.tm
  made : m3.made = m.made
  out : m3.out = m.out
  ph : m3.ph = m.ph
  fo : m3.force = m.force
  A : m3.A = m.A
  gT : m3.gT = m.gT
  sp : m3.steps = m.steps
  ck : m3.clock = m.clock
  ps : ∀ q', (m3.ps q').worked = (m.ps q').worked ∧ (m3.ps q').all = (m.ps q').all ∧ (m3.ps q').picks = (m.ps q').picks ∧ ((m3.ps q').row = (m.ps q').row ∨ (m3.ps q').row = (m.ps q').row + 1)
theorem Stays.cn {m m3 : Mac} {q b : Nat} (S : Stays m m3 q) (h : Cn m b) : Cn m3 (b + 1) := by
  refine ⟨fun q' hq' => ?_, ?_, by rw [S.ck]; exact h.ck⟩
  · rw [S.np] at hq'
    obtain ⟨a1, ⟨n2, a2, b2⟩, ⟨n3, a3, b3⟩, n4, a4, b4⟩ := h.ps q' hq'
    obtain ⟨s1, s2, s3, s4⟩ := S.ps q'
    refine ⟨by rw [s1]; exact a1, ⟨n2, by rw [s2]; exact a2, by omega⟩, ⟨n3, by rw [s3]; exact a3, by omega⟩, ?_⟩
    rcases s4 with e | e
    · exact ⟨n4, by rw [e]; exact a4, by omega⟩
    · exact ⟨n4 + 1, by rw [e, a4]; rfl, by omega⟩
  · obtain ⟨n5, a5, b5⟩ := h.sp
    exact ⟨n5, by rw [S.sp]; exact a5, by omega⟩
theorem Srv.stays {m m1 : Mac} {q g : Nat} (S : Srv m m1 q g) : m1.np = m.np ∧ m1.fs = m.fs ∧ m1.ng = m.ng ∧ m1.tm = m.tm ∧ m1.made = m.made ∧ m1.out = m.out ∧ m1.ph = m.ph ∧ m1.force = m.force ∧ m1.A = m.A ∧ m1.gT = m.gT ∧ m1.cms = m.cms ∧ m1.wt = m.wt ∧ (∀ j, (m1.gs j).f = (m.gs j).f ∧ (m1.gs j).pc = (m.gs j).pc ∧ (m1.gs j).cnt = (m.gs j).cnt ∧ (m1.gs j).st = (m.gs j).st) := by
  rcases S with ⟨-, rfl⟩ | ⟨-, r2, rfl⟩
  · exact ⟨rfl, rfl, rfl, rfl, rfl, rfl, rfl, rfl, rfl, rfl, rfl, rfl, fun j => ⟨rfl, rfl, rfl, rfl⟩⟩
  · refine ⟨rfl, rfl, rfl, rfl, rfl, rfl, rfl, rfl, rfl, rfl, rfl, rfl, fun j => ?_⟩
    have hx : (Proofs.YtepnlcemlnkpdaaGreatDoor.takeG (tickA m q) q g r2).gs j = if j = g then { m.gs g with p := (q : Nat) } else m.gs j := rfl
    rw [hx]
    by_cases e : j = g
    · subst e; rw [if_pos rfl]; exact ⟨rfl, rfl, rfl, rfl⟩
    · rw [if_neg e]; exact ⟨rfl, rfl, rfl, rfl⟩
theorem Rel.moved {m m1 : Mac} {X : Mdl} {loc loc1 : Nat → Nat × Nat} (R : Rel m X) (h : WF m loc) (h1 : WF m1 loc1) (e1 : m1.fs = m.fs) (e2 : m1.ng = m.ng) (e3 : ∀ j, (m1.gs j).f = (m.gs j).f ∧ (m1.gs j).pc = (m.gs j).pc ∧ (m1.gs j).cnt = (m.gs j).cnt ∧ (m1.gs j).st = (m.gs j).st)
    (e4 : ∀ j, j < m.ng → stX (loc1 j).1 = stX (loc j).1) (e5 : m1.wt = m.wt) : Rel m1 X := by
  refine ⟨by rw [e1]; exact R.fs, by rw [e2]; exact R.n, fun j s hj => ?_, fun j hj => ?_, e5.trans R.w⟩
  · have hl := (List.getElem?_eq_some_iff.1 hj).1
    rw [h1.sl, e2] at hl
    have h2 := h1.st j (by rw [e2]; exact hl)
    rw [hj] at h2
    rw [Option.some.inj h2, e4 j hl]
    exact R.st j _ (h.st j hl)
  · rw [e2] at hj
    obtain ⟨a, b, c, d⟩ := R.g j hj
    obtain ⟨a', b', c', d'⟩ := e3 j
    exact ⟨a.trans a'.symm, b.trans b'.symm, c.trans c'.symm, d.trans d'.symm⟩
theorem stX_12 {a b : Nat × Nat} (ha : a.1 = 1 ∨ a.1 = 2) (hb : b.1 = 1 ∨ b.1 = 2) : stX (a.1 : Nat) = stX (b.1 : Nat) := by
  rcases ha with e | e <;> rcases hb with e' | e' <;> rw [e, e'] <;> rfl
structure AtC (P : Nat) (fs : List (List Ins)) (J : Mdl → List ComA → Prop) (m : Mac) (X : Mdl) (loc : Nat → Nat × Nat) (q g : Nat) : Prop where
  hJ : J X m.cms
  R : Rel m X
  h : WF m loc
  hfs : m.fs = fs
  np : m.np = P
  hq : q < m.np
  hg : g < m.ng
  l : loc g = (2, q)
  row : ∃ rw : Nat, (m.ps q).row = rw ∧ rw ≤ 1000000
  h0 : m.ph.ph = 0
  cl : m.cms.length ≤ 100000000
  ng : m.ng ≤ 255
  ob : ∀ x, m.A.a.ob x = none
theorem AtC.pg {P : Nat} {fs : List (List Ins)} {J : Mdl → List ComA → Prop} {m : Mac} {X : Mdl} {loc : Nat → Nat × Nat} {q g : Nat} (h : AtC P fs J m X loc q g) : (m.ps q).g = (g : Nat) := by
  rcases h.h.rn q h.hq with ⟨-, h1⟩ | ⟨g0, -, h1, h2⟩
  · exact absurd h.l (h1 g h.hg)
  · rw [(h2 g h.hg).1 h.l]; exact h1
structure Ops (P : Nat) (fs : List (List Ins)) (vf : Value) (wB : World) (J : Mdl → List ComA → Prop) (nx : Mdl → Nat → Ins) (cm : Mac → Nat → Nat → Ins → Mac) (dx : Mdl → Nat → Ins → Mdl) (tx : Mdl → Nat → Ins → ComA) : Prop where
  small : ∀ X cms, J X cms → X.n ≤ 255
  next : ∀ (m : Mac) (X : Mdl), J X m.cms → Rel m X → m.fs = fs → ∀ g, g < m.ng → (X.gs g).st = 1 → NxtG m.fs (m.gs g) (nx X g) ∧ ¬ (nx X g).o = 1
  com : ∀ (m : Mac) (X : Mdl) (loc : Nat → Nat × Nat) (q g : Nat), AtC P fs J m X loc q g → ∀ (p : MAt), p.vq = .slice none 0 0 → ∀ (B : Bs) (w' : World), MM B w' p m → Calls Tryz.prog 146 #[.pointer (some ⟨p.gm, 0, none⟩), .int .i64 (q : Nat), insV (nx X g), .int .i64 0] w' (RunPost B (Keeps p) (cm m q g (nx X g)) g)
  after : ∀ (m : Mac) (X : Mdl) (loc : Nat → Nat × Nat) (q g : Nat), AtC P fs J m X loc q g → ∃ loc3, WF (cm m q g (nx X g)) loc3 ∧ Rel (cm m q g (nx X g)) (dx X g (nx X g)) ∧ (cm m q g (nx X g)).cms = m.cms ++ [tx X g (nx X g)] ∧ Stays m (cm m q g (nx X g)) q
  tell : ∀ X g i, (tx X g i).g = (g : Nat) ∧ (tx X g i).op = (i.o : Nat) ∧ (i.o = 2 → (tx X g i).v = 0)
  mod : ∀ (w : World) (a : XAt) (X : Mdl) (cms : List ComA) (g : Nat), XM w a X → J X cms → X.fs = fs → a.vf = vf → Chg [] wB w → g < X.n → (X.gs g).st = 1 → Calls Tryz.prog 123 #[.pointer (some ⟨a.gX, 0, none⟩), .int .i64 (g : Nat)] w (FolPost a (dx X g (nx X g)) X (.tuple #[.agg (comC (tx X g (nx X g))).toArray, .int .i64 0]) w)
  keep : ∀ X cms g, J X cms → g < X.n → (X.gs g).st = 1 → J (dx X g (nx X g)) (cms ++ [tx X g (nx X g)])
def GJ (P : Nat) (fs : List (List Ins)) (wB : World) (gW : Nat) (wo : Int) (b1 b2 : Nat) (va vf : Value) (J : Mdl → List ComA → Prop) (i : Nat) (s : Int) (w : World) : Prop :=
  ∃ p m a X loc cP cV, BothM wB w gW (P : Nat) wo b1 b2 va cP cV p m a X ∧ Rel m X ∧ WF m loc ∧ Calm m ∧ Cn m (2 * i) ∧ m.np = P ∧ m.fs = fs ∧ J X m.cms ∧ m.cms.length ≤ i ∧ s = stV m ∧ (p.vq = .slice none 0 0 ∧ p.vtm = .slice none 0 0 ∧ p.vfr = .slice none 0 0) ∧ a.vf = vf ∧ a.ck = 0 ∧ va = .slice (some ⟨a.gA, 0, none⟩) 1 1
theorem WF.stX {m : Mac} {X : Mdl} {loc : Nat → Nat × Nat} (R : Rel m X) (h : WF m loc) {g : Nat} (hg : g < m.ng) : (X.gs g).st = Proofs.YtepnlcemlnkpdaaGreatDoor.stX ((loc g).1 : Nat) := R.st g _ (h.st g hg)
theorem GJ.run {P : Nat} {fs : List (List Ins)} {wB : World} {gW : Nat} {wo : Int} {b1 b2 : Nat} {va vf : Value} {J : Mdl → List ComA → Prop} {nx : Mdl → Nat → Ins} {cm : Mac → Nat → Nat → Ins → Mac} {dx : Mdl → Nat → Ins → Mdl} {tx : Mdl → Nat → Ins → ComA}
    (O : Ops P fs vf wB J nx cm dx tx) (h1 : 1 ≤ P) (hP : P ≤ 64) (N : Nat) (hN : N ≤ 400000) : RunJ gW P N (GJ P fs wB gW wo b1 b2 va vf J) := by
  refine ⟨fun i s w h => ?_, fun i s w w' h c => ?_, fun i w hi h => ?_⟩
  · obtain ⟨p, m, a, X, loc, cP, cV, B, -, -, C, -, -, -, -, -, rfl, -, -, -⟩ := h
    exact ⟨p.gm, B.W.cellv 0 rfl, B.W.cellv 2 rfl, B.W.lt, m_status B.M (by rw [C.sl]; exact C.ng) (by rw [C.tm]; simp)⟩
  · obtain ⟨p, m, a, X, loc, cP, cV, B, h⟩ := h
    exact ⟨p, m, a, X, loc, cP, cV, B.chg0 c, h⟩
  · obtain ⟨p, m, a, X, loc, cP, cV, B, R, W, C, K, hnp, hfs, hJ, hcl, hs, ⟨vq, vt, vr⟩, hvf, hck, hva⟩ := h
    have hn : m.ng ≤ 255 := by rw [← R.n]; exact O.small X _ hJ
    have hq : i % P < P := Nat.mod_lt _ h1
    have hqm : i % P < m.np := by rw [hnp]; exact hq
    obtain ⟨Kc, Kr⟩ := K.cnts (by omega) hqm
    have hst1 : ∀ g, g < m.ng → ((loc g).1 = 1 ∨ (loc g).1 = 2) → (X.gs g).st = 1 := fun g hg hl => by
      rw [WF.stX R W hg]
      rcases hl with e | e <;> rw [e] <;> rfl
    have srvRel : ∀ (m1 : Mac) (g : Nat) (loc1 : Nat → Nat × Nat), Srv m m1 (i % P) g → g < m.ng → ((loc g).1 = 1 ∨ (loc g).1 = 2) → (∀ j, j ≠ g → loc1 j = loc j ∨ ((loc1 j).1 = 1 ∧ (loc j).1 = 1)) → WF m1 loc1 → loc1 g = (2, i % P) → Rel m1 X := fun m1 g loc1 hS hg0 hlk hoth hW1 hl1 => by
      obtain ⟨s1, s2, s3, s4, s5, s6, s7, s8, s9, s10, s11, s13, s12⟩ := hS.stays
      refine Rel.moved R W hW1 s2 s3 s12 (fun j _ => ?_) s13
      by_cases e : j = g
      · subst e; exact stX_12 (.inr (by rw [hl1])) hlk
      · rcases hoth j e with e | ⟨e1, e2⟩
        · rw [e]
        · rw [e1, e2]
    obtain ⟨m3, ek, eg, hStep, hcase⟩ := m_step_all (p := p) C W hn (i % P) (((i % P + 1) % P : Nat) : Int) hqm Kc Kr hs.symm vq vt vr (nx X) (fun g hg hl => by
        obtain ⟨a1, a2⟩ := O.next m X hJ R hfs g hg (hst1 g hg hl)
        exact ⟨a1, a2⟩) (fun m1 g i' => cm m1 (i % P) g i') (fun m1 g loc1 hS hg0 hlk hoth hW1 hl1 hrow B' w' M' => by
        obtain ⟨s1, s2, s3, s4, s5, s6, s7, s8, s9, s10, s11, -, s12⟩ := hS.stays
        exact O.com m1 X loc1 (i % P) g ⟨by rw [s11]; exact hJ, srvRel m1 g loc1 hS hg0 hlk hoth hW1 hl1, hW1, by rw [s2]; exact hfs, by rw [s1]; exact hnp, by rw [s1]; exact hqm, by rw [s3]; exact hg0, hl1, hrow, by rw [s7]; exact C.h0, by rw [s11]; omega, by rw [s3]; exact hn, by rw [s9]; exact C.ob⟩ p vq B' w' M')
    have hbase : ∀ {m4 : Mac}, m4.np = m.np → m4.fs = m.fs → m4.tm = m.tm → m4.made = m.made → m4.out = m.out → m4.ph = m.ph → m4.force = m.force → m4.A = m.A → m4.gT = m.gT → m4.sts.length = m4.ng → m4.ng ≤ 1024 → m4.cms.length ≤ 100000000 → Calm m4 := fun e1 e2 e3 e4 e5 e6 e7 e8 e9 e10 e11 e12 => C.more e1 e3 e4 e5 e6 e7 e8 e9 e10 e11 e12
    unfold rndV
    rcases hcase with ⟨e1, e2, hW3⟩ | ⟨g, e1, e2, hg, hl, hW3⟩ | ⟨m1, g, loc1, e1, e2, e3, hS, hg, hlk, hW1, hl1, hoth⟩
    · -- nobody
      subst e1
      refine (wdo_no wB w gW P wo b1 b2 va cP cV p m m3 a X B (i % P) _ hq hs.symm (by rw [C.sl]; exact C.ng) C.tm C.h0 hck (by omega) 0 eg (by decide) hStep (by rw [e2]; rfl)).mono ?_
      rintro e w' ⟨p3, rfl, hK, B'⟩
      refine ⟨0, eg, _, rfl, p3, m3, a, X, loc, _, _, B', ?_, hW3, ?_, ?_, ?_, ?_, ?_, ?_, rfl, ⟨hK.2.2.1, hK.2.2.2.1.trans vt, hK.2.2.2.2.trans vr⟩, hvf, hck, hva⟩
      · exact Rel.moved R W hW3 (by rw [e2]; rfl) (by rw [e2]; rfl) (fun j => by rw [e2]; exact ⟨rfl, rfl, rfl, rfl⟩) (fun j _ => rfl) (by rw [e2]; rfl)
      · rw [e2]; exact hbase rfl rfl rfl rfl rfl rfl rfl rfl rfl C.sl C.ng C.cl
      · rw [e2]
        have := K.takeN (i % P) m.rg
        exact this.le (by omega)
      · rw [e2]; exact hnp
      · rw [e2]; exact hfs
      · rw [e2]; exact hJ
      · rw [e2]; show m.cms.length ≤ i + 1; omega
    · -- put away
      subst e1
      refine (wdo_no wB w gW P wo b1 b2 va cP cV p m m3 a X B (i % P) _ hq hs.symm (by rw [C.sl]; exact C.ng) C.tm C.h0 hck (by omega) 2 eg (by decide) hStep (by rw [e2]; rfl)).mono ?_
      rintro e w' ⟨p3, rfl, hK, B'⟩
      refine ⟨2, eg, _, rfl, p3, m3, a, X, _, _, _, B', ?_, hW3, ?_, ?_, ?_, ?_, ?_, ?_, rfl, ⟨hK.2.2.1, hK.2.2.2.1.trans vt, hK.2.2.2.2.trans vr⟩, hvf, hck, hva⟩
      · refine Rel.moved R W hW3 (by rw [e2]; rfl) (by rw [e2]; rfl) (fun j => by rw [e2]; exact ⟨rfl, rfl, rfl, rfl⟩) (fun j _ => ?_) (by rw [e2]; rfl)
        by_cases e : j = g
        · subst e; rw [updV_same, hl]; rfl
        · rw [updV_other _ _ e]
      · have hsl := hW3.sl
        rw [e2] at hsl ⊢
        exact hbase rfl rfl rfl rfl rfl rfl rfl rfl rfl hsl C.ng C.cl
      · rw [e2]
        exact ((K.tick (i % P)).away (i % P) g).le (by omega)
      · rw [e2]; exact hnp
      · rw [e2]; exact hfs
      · rw [e2]; exact hJ
      · rw [e2]; show m.cms.length ≤ i + 1; omega
    · -- an instruction
      subst e1 e2
      obtain ⟨s1, s2, s3, s4, s5, s6, s7, s8, s9, s10, s11, -, s12⟩ := hS.stays
      obtain ⟨Kc1, Kr1⟩ := (hS.cn K).cnts (by omega) (q := i % P) (by rw [s1]; exact hqm)
      have hat : AtC P fs J m1 X loc1 (i % P) g := ⟨by rw [s11]; exact hJ, srvRel m1 g loc1 hS hg hlk hoth hW1 hl1, hW1, by rw [s2]; exact hfs, by rw [s1]; exact hnp, by rw [s1]; exact hqm, by rw [s3]; exact hg, hl1, Kr1, by rw [s7]; exact C.h0, by rw [s11]; omega, by rw [s3]; exact hn, by rw [s9]; exact C.ob⟩
      obtain ⟨loc3, hW3, R3, hcm, hst⟩ := O.after m1 X loc1 (i % P) g hat
      have hXst := hst1 g hg hlk
      obtain ⟨-, hn1⟩ := O.next m X hJ R hfs g hg hXst
      obtain ⟨t1, t2, t3⟩ := O.tell X g (nx X g)
      rw [← e3] at hW3 R3 hcm hst
      rw [s11] at hcm
      have hJ3 := O.keep X m.cms g hJ (by rw [R.n]; exact hg) hXst
      have hn3 : m3.ng ≤ 255 := by rw [← R3.n]; exact O.small _ _ hJ3
      refine (wdo_ok wB w gW P wo b1 b2 va cP cV p m m3 a X (dx X g (nx X g)) B (i % P) g _ (tx X g (nx X g)) hq hs.symm (by rw [C.sl]; exact C.ng) C.tm C.h0 hck (by omega) hStep hcm t1 (by rw [t2]; omega) (fun e => ⟨t3 (by rw [t2] at e; omega), hva⟩) (fun w' c' hX' => by rw [t1]; exact O.mod w' a X m.cms g hX' hJ (by rw [R.fs]; exact hfs) hvf c' (by rw [R.n]; exact hg) hXst)).mono ?_
      rintro e w' ⟨p3, a', rfl, hK, B', e4, e5, e6⟩
      refine ⟨1, (g : Nat), _, rfl, p3, m3, a', _, loc3, _, _, B', R3, hW3, ?_, ?_, ?_, ?_, ?_, ?_, rfl, ⟨hK.2.2.1, hK.2.2.2.1.trans vt, hK.2.2.2.2.trans vr⟩, e4.trans hvf, e5.trans hck, by rw [e6]; exact hva⟩
      · exact hbase (hst.np.trans s1) (hst.fs.trans s2) (hst.tm.trans s4) (hst.made.trans s5) (hst.out.trans s6) (hst.ph.trans s7) (hst.fo.trans s8) (hst.A.trans s9) (hst.gT.trans s10) hW3.sl (by omega) (by rw [hcm, List.length_append, List.length_singleton]; omega)
      · exact (hst.cn (hS.cn K)).le (by omega)
      · exact (hst.np.trans s1).trans hnp
      · exact (hst.fs.trans s2).trans hfs
      · rw [hcm]; exact hJ3
      · rw [hcm, List.length_append, List.length_singleton]; omega
end Go.Proofs.YtepnlcemlnkpdaaGreatDoor
