/- Package machine: run of a P that ran 16 steps in a row. (Printed by wip/genmj7.py.) -/
import Derived.Test.YtcpljjacamibeaaGreatDoorMg6J
namespace Go.Proofs.YtcpljjacamibeaaGreatDoor
set_option maxHeartbeats 16000000
set_option maxRecDepth 100000
open Go.RowKit Go.Maps
section
variable {W : Bs} {w : World} {p : MAt} {m : Mac} (M : MM W w p m)
include M
theorem m_run_long (q g F : Nat) (l : List Ins) (i : Ins) (hio : i.o ≠ 1) (hq : q < m.np) (hg : g < m.ng) (hxg : (m.ps q).g = (g : Nat)) (rw_ : Nat) (hrow : (m.ps q).row = (rw_ : Nat)) (hrw : 16 ≤ rw_) (brw : rw_ ≤ 1000000) (hrs : (m.rg q).hs = false) (hrf : (m.rg q).fr < 256) (hrn : (m.rg q).n = 0) (hvq : p.vq = .slice none 0 0) (hF : (m.gs g).f = (F : Nat)) (pc : Nat) (hpc : (m.gs g).pc = pc) (bpc : pc ≤ 1000000) (hl : m.fs[F]? = some l) (hi : l[pc]? = some i ∨ (pc = l.length ∧ i = ⟨0, 0, 0, 0⟩)) (hl0 : l ≠ [])
    (R : MAt → Prop) (m3 : Mac) (hC : ∀ (w6 : World) (D : List Nat), MM ⟨w6, D⟩ w6 p m → Calls Tryz.prog 146 #[.pointer (some ⟨p.gm, 0, none⟩), .int .i64 (q : Nat), insV i, .int .i64 0] w6 (RunPost ⟨w6, D⟩ R m3 g)) :
    Calls Tryz.prog 87 #[.pointer (some ⟨p.gm, 0, none⟩), .int .i64 (q : Nat)] w (RunPost W R m3 g) := by
  obtain ⟨io, ia, ib, ic⟩ := i
  have hio : ¬ (io : Int) = 1 := by have h : io ≠ 1 := hio; omega
  have r1 : (rw_ : Int) ≥ 16 := by omega
  have r2 : (rw_ : Int) ≥ 2 := by omega
  have HC := Lib.hid hC; clear hC
  have HM := Lib.hid M
  clear M
  go_enter Tryz.func87, Tryz.ntmps87
  go_upto_region 1 with fail
  obtain ⟨w1, hw1⟩ : ∃ w1, w1 = w.alloc (.cells #[.int .i64 0, .int .i64 0, .int .i64 0] 48) := ⟨_, rfl⟩
  obtain ⟨gE, hgE⟩ : ∃ gE, gE = w.heap.size := ⟨_, rfl⟩
  rw [← hw1, ← hgE]
  have BE : Blk w1 gE 48 #[.int .i64 0, .int .i64 0, .int .i64 0] := by rw [hw1, hgE]; exact Blk.new _ _ _
  have c01 : Chg [] w w1 := by rw [hw1]; exact (Chg.refl [] w).alloc _
  have M1 := HM.out.chg0 c01
  clear hw1
  obtain ⟨b9, cap9, c9, hps⟩ := M1.psl
  obtain ⟨hv9, hb9, -⟩ := hps q hq
  rw [hv9] at c9
  obtain ⟨b8, cap8, c8, hgs⟩ := M1.gsl
  obtain ⟨hv8, hb8, -⟩ := hgs g hg
  rw [hv8] at c8
  have x0 : w1.cell? ⟨p.bp q, 0, none⟩ = some (.int .i64 (g : Nat)) := by rw [← hxg]; exact (M1.pb hq).cellv 0 rfl
  have x1 : w1.cell? ⟨p.bp q, 1, none⟩ = some (.int .i64 (rw_ : Nat)) := by rw [← hrow]; exact (M1.pb hq).cellv 1 rfl
  have c9' : w1.cell? ⟨p.gm, 10, none⟩ = some (.pointer (some ⟨p.gsd, 0, none⟩)) := M1.mb.cellv 10 rfl
  have e1 : (0 : Int) ≤ q := by omega
  have e2 : (q : Int) < (m.np : Int) := by omega
  have e3 : (0 : Int) ≤ g := by omega
  have e4 : (g : Int) < (m.ng : Int) := by omega
  have H1 := Lib.hid (And.intro BE (And.intro M1 (And.intro c01 hgE))); clear BE M1 c01 hgE hps hgs hv8 hv9
  go_upto_region 2 with fail
  go_quiet (fail)
  generalize hw2 : World.drewN _ nq = w2
  have c12 : Chg [] w1 w2 := by rw [← hw2]; exact (Chg.refl [] w1).drewN _
  have M2 := H1.out.2.1.chg0 c12
  have E2 := c12.blk H1.out.1 (by simp)
  have s0 : w2.cell? ⟨p.gm, 10, none⟩ = some (.pointer (some ⟨p.gsd, 0, none⟩)) := M2.mb.cellv 10 rfl
  have KS := sc_common0 M2.sc hvq
  have H2 := Lib.hid (And.intro M2 (And.intro E2 (And.intro KS c12))); clear M2 E2 KS c12 hw2 c9 hb9 c8 hb8 x0 x1 c9'
  go_wp2_with fail
  refine (H2.out.2.2.1).mono ?_
  rintro e w3 ⟨rfl, c23⟩
  have M3 := H2.out.1.chg0 c23
  have s1 : w3.cell? ⟨p.gm, 10, none⟩ = some (.pointer (some ⟨p.gsd, 0, none⟩)) := M3.mb.cellv 10 rfl
  have E3 := c23.blk H2.out.2.1 (by simp)
  have c3 : w3.cell? ⟨p.bp q, 1, none⟩ = some (.int .i64 (rw_ : Nat)) := by
    have h : w3.cell? ⟨p.bp q, 1, none⟩ = _ := (M3.pb hq).cellv 1 rfl
    rw [h]; show some (Value.int .i64 (m.ps q).row) = _; rw [hrow]
  obtain ⟨b9, cap9, c9, hps⟩ := M3.psl
  obtain ⟨hv9, hb9, -⟩ := hps q hq
  rw [hv9] at c9
  have y0 : w3.cell? ⟨p.bg g, 0, none⟩ = some (.int .i64 (F : Nat)) := by rw [← hF]; exact (M3.gb hg).cellv 0 rfl
  have y1 : w3.cell? ⟨p.bg g, 1, none⟩ = some (.int .i64 (pc : Nat)) := by rw [← hpc]; exact (M3.gb hg).cellv 1 rfl
  have H3 := Lib.hid (And.intro M3 (And.intro E3 (c23))); clear M3 E3 c23 hps hv9 s0
  obtain ⟨b1, cap1, A1, cA, hvE, hvE1⟩ := HM.out.fnE hl hl0
  have KL := sc_local H3.out.1.sc q hq hrs hrf (by omega)
  rw [hrn] at KL
  have HL0 := Lib.hid KL; clear KL
  go_wp2_with fail
  refine (HL0.out).mono ?_
  rintro e wL ⟨AL, cL, rfl, cl⟩
  have M3 := H3.out.1.chg0 cl
  have E3 := cl.blk H3.out.2.1 (by simp)
  have c2L := H3.out.2.2.trans cl
  have c3 : wL.cell? ⟨p.bp q, 1, none⟩ = some (.int .i64 (rw_ : Nat)) := by
    have h : wL.cell? ⟨p.bp q, 1, none⟩ = _ := (M3.pb hq).cellv 1 rfl
    rw [h]; show some (Value.int .i64 (m.ps q).row) = _; rw [hrow]
  obtain ⟨b9, cap9, c9, hps⟩ := M3.psl
  obtain ⟨hv9, hb9, -⟩ := hps q hq
  rw [hv9] at c9
  have y0 : wL.cell? ⟨p.bg g, 0, none⟩ = some (.int .i64 (F : Nat)) := by rw [← hF]; exact (M3.gb hg).cellv 0 rfl
  have y1 : wL.cell? ⟨p.bg g, 1, none⟩ = some (.int .i64 (pc : Nat)) := by rw [← hpc]; exact (M3.gb hg).cellv 1 rfl
  have HL := Lib.hid (And.intro M3 (And.intro E3 c2L)); clear M3 E3 c2L cl hps hv9
  go_upto_region 7 with fail
  obtain ⟨w4, hw4⟩ : ∃ w4, w4 = wL.alloc (.cells #[.int .i64 0, .int .i64 0, .int .i64 0, .int .i64 0] 33) := ⟨_, rfl⟩
  obtain ⟨gI, hgI⟩ : ∃ gI, gI = wL.heap.size := ⟨_, rfl⟩
  rw [← hw4, ← hgI]
  have BI : Blk w4 gI 33 #[.int .i64 0, .int .i64 0, .int .i64 0, .int .i64 0] := by rw [hw4, hgI]; exact Blk.new _ _ _
  have c34 : Chg [] wL w4 := by rw [hw4]; exact (Chg.refl [] wL).alloc _
  have M4 := HL.out.1.chg0 c34
  have E4 := c34.blk HL.out.2.1 (by simp)
  have hgI' : w.heap.size ≤ gI := by rw [hgI]; exact Nat.le_trans H1.out.2.2.1.size (Nat.le_trans H2.out.2.2.2.size HL.out.2.2.size)
  clear hw4 c3 c9 hb9 y0 y1
  obtain ⟨c1, hF1, cF, -⟩ := M4.fnAt hl hvE hvE1
  have y0 : w4.cell? ⟨p.bg g, 0, none⟩ = some (.int .i64 (F : Nat)) := by rw [← hF]; exact (M4.gb hg).cellv 0 rfl
  have e5 : (0 : Int) ≤ F := by omega
  have e6 : (F : Int) < (m.fs.length : Int) := by omega
  have H4 := Lib.hid (And.intro M4 (And.intro E4 (And.intro BI (And.intro hgI' (And.intro hgI' hgI))))); clear M4 E4 BI c34 hgI' hgI
  go_quiet (fail)
  generalize hw5 : World.drewN _ nq = w5
  have c45 : Chg [] w4 w5 := by rw [← hw5]; exact (Chg.refl [] w4).drewN _
  have M5 := H4.out.1.chg0 c45
  have E5 := c45.blk H4.out.2.1 (by simp)
  have I5 := c45.blk H4.out.2.2.1 (by simp)
  obtain ⟨c1', -, cF', hall⟩ := M5.fnAt hl hvE hvE1
  clear hw5 c1 cF c1' cF' y0 hF1
  have y1 : w5.cell? ⟨p.bg g, 1, none⟩ = some (.int .i64 (pc : Nat)) := by rw [← hpc]; exact (M5.gb hg).cellv 1 rfl
  have k0 : w5.cell? ⟨gI, 0, none⟩ = some (.int .i64 0) := I5.cellv 0 rfl
  have k1 : w5.cell? ⟨gI, 1, none⟩ = some (.int .i64 0) := I5.cellv 1 rfl
  have k2 : w5.cell? ⟨gI, 2, none⟩ = some (.int .i64 0) := I5.cellv 2 rfl
  have k3 : w5.cell? ⟨gI, 3, none⟩ = some (.int .i64 0) := I5.cellv 3 rfl
  have f0 := I5.frozen 0
  have f1 := I5.frozen 1
  have f2 := I5.frozen 2
  have f3 := I5.frozen 3
  rcases hi with hpe | hpe
  · have e10 : (pc : Int) < (l.length : Int) := by have := (List.getElem?_eq_some_iff.1 hpe).1; omega
    have hins' := hall pc _ hpe
    have i0 : w5.cell? ⟨A1, pc * 4, none⟩ = some (.int .i64 (io : Nat)) := hins' 0 _ rfl
    have i1 : w5.cell? ⟨A1, pc * 4 + 1, none⟩ = some (.int .i64 (ia : Nat)) := hins' 1 _ rfl
    have i2 : w5.cell? ⟨A1, pc * 4 + 2, none⟩ = some (.int .i64 (ib : Nat)) := hins' 2 _ rfl
    have i3 : w5.cell? ⟨A1, pc * 4 + 3, none⟩ = some (.int .i64 (ic : Nat)) := hins' 3 _ rfl
    have e7 : (0 : Int) ≤ pc := by omega
    have e8 : (pc : Int) < (l.length : Int) := by omega
    have H5 := Lib.hid (And.intro M5 (And.intro E5 (And.intro I5 c45))); clear M5 E5 I5 c45
    go_upto_region 10 with fail
    obtain ⟨w6, hw6⟩ : ∃ w6, w6 = (((w5.setCell ⟨gI, 0, none⟩ (.int .i64 (io : Nat))).setCell ⟨gI, 1, none⟩ (.int .i64 (ia : Nat))).setCell ⟨gI, 2, none⟩ (.int .i64 (ib : Nat))).setCell ⟨gI, 3, none⟩ (.int .i64 (ic : Nat)) := ⟨_, rfl⟩
    rw [← hw6]
    have c56 : Chg [gI] w5 w6 := by rw [hw6]; exact ((((Chg.refl [gI] w5).setCell (.inl (by simp)) _).setCell (.inl (by simp)) _).setCell (.inl (by simp)) _).setCell (.inl (by simp)) _
    have BI : Blk w6 gI 33 #[.int .i64 (io : Nat), .int .i64 (ia : Nat), .int .i64 (ib : Nat), .int .i64 (ic : Nat)] := by
      rw [hw6]
      exact (((H5.out.2.2.1.setv 0 _ rfl).setv 1 _ rfl).setv 2 _ rfl).setv 3 _ rfl
    have M6 := H5.out.1.chg c56 (fun k j hj hm => by
      have h1 := HM.out.hi k j hj
      have e : j = gI := by simpa using hm
      have := H4.out.2.2.2.2.1
      omega) (by have := H4.out.2.2.2.2.1; have : W.heap.size ≤ w.heap.size := HM.out.c.size; simp; omega)
    have E6 := c56.blk H5.out.2.1 (by simpa using H5.out.2.1.ne_ H5.out.2.2.1 (by decide))
    clear hw6 y1 i0 i1 i2 i3 k0 k1 k2 k3 f0 f1 f2 f3
    have k0 : w6.cell? ⟨gI, 0, none⟩ = some (.int .i64 (io : Nat)) := BI.cellv 0 rfl
    have k1 : w6.cell? ⟨gI, 1, none⟩ = some (.int .i64 (ia : Nat)) := BI.cellv 1 rfl
    have k2 : w6.cell? ⟨gI, 2, none⟩ = some (.int .i64 (ib : Nat)) := BI.cellv 2 rfl
    have k3 : w6.cell? ⟨gI, 3, none⟩ = some (.int .i64 (ic : Nat)) := BI.cellv 3 rfl
    have H6 := Lib.hid (And.intro M6 (And.intro E6 (And.intro BI c56))); clear M6 E6 BI c56
    obtain ⟨D, M6r, hD⟩ := H6.out.1.re
    have KC := HC.out w6 D M6r
    have H7 := Lib.hid (And.intro KC hD); clear KC hD M6r
    go_wp2_with fail
    refine (H7.out.1).mono ?_
    rintro e w7 ⟨p3, rfl, hR, M7⟩
    have E7 := M7.c.blk H6.out.2.1 (fun hm => by
      obtain ⟨k, h⟩ := H7.out.2 _ hm
      have h1 := HM.out.hi k _ h
      have := H1.out.2.2.2
      omega)
    have nE : ∀ k, ¬ MF p3 m3 k gE := fun k h => by
      rcases M7.lo k gE h with h | h
      · obtain ⟨k, h⟩ := H7.out.2 _ h
        have h1 := HM.out.hi k _ h
        have := H1.out.2.2.2
        omega
      · have h1 : w6.heap.size ≤ gE := h
        have := H6.out.2.1.lt
        omega
    have M7' := H6.out.1.back H7.out.2 M7
    have z0 : w7.cell? ⟨gE, 0, none⟩ = some (.int .i64 0) := E7.cellv 0 rfl
    have z1 : w7.cell? ⟨gE, 1, none⟩ = some (.int .i64 0) := E7.cellv 1 rfl
    have z2 : w7.cell? ⟨gE, 2, none⟩ = some (.int .i64 0) := E7.cellv 2 rfl
    have y0 := E7.frozen 0
    have y1 := E7.frozen 1
    have y2 := E7.frozen 2
    have H8 := Lib.hid (And.intro E7 (And.intro M7' (And.intro nE hR))); clear E7 M7 M7' nE hR k0 k1 k2 k3
    unfold evV
    go_wp2_with fail
    have B13 := ((H8.out.1.setv 0 (.int .i64 1) rfl).setv 1 (.int .i64 (g : Nat)) rfl).setv 2 (.int .i64 0) (cs' := #[.int .i64 1, .int .i64 (g : Nat), .int .i64 0]) rfl
    have c13 : Chg [gE] w7 (((w7.setCell ⟨gE, 0, none⟩ (.int .i64 1)).setCell ⟨gE, 1, none⟩ (.int .i64 (g : Nat))).setCell ⟨gE, 2, none⟩ (.int .i64 0)) := (((Chg.refl [gE] w7).setCell (.inl (by simp)) _).setCell (.inl (by simp)) _).setCell (.inl (by simp)) _
    have M13 := H8.out.2.1.chg c13 (fun k j hj hm => by
      have e : j = gE := by simpa using hm
      subst e
      exact H8.out.2.2.1 k hj) (by have : W.heap.size ≤ w.heap.size := HM.out.c.size; have := H1.out.2.2.2; simp; omega)
    exact ⟨rfl, _, results_cell_row (P := Tryz.prog) (fn := Tryz.f87) rfl _ _ gE 48 _ _ _ rfl B13 Tryz.underlying48 rfl (by kernel_rfl), p3, rfl, H8.out.2.2.2, M13⟩
  · obtain ⟨hpc2, hins2⟩ := hpe
    injection hins2 with z0 z1 z2 z3
    have e8 : ¬ (pc : Int) < (l.length : Int) := by omega
    have H5 := Lib.hid (And.intro M5 (And.intro E5 (And.intro I5 c45))); clear M5 E5 I5 c45 hall hpc2
    go_upto_region 10 with fail
    obtain ⟨w6, hw6⟩ : ∃ w6, w6 = w5 := ⟨_, rfl⟩
    subst hw6
    have c56 : Chg [gI] w6 w6 := Chg.refl [gI] w6
    have BI : Blk w6 gI 33 #[.int .i64 (io : Nat), .int .i64 (ia : Nat), .int .i64 (ib : Nat), .int .i64 (ic : Nat)] := by rw [z0, z1, z2, z3]; exact H5.out.2.2.1
    have M6 := H5.out.1
    have E6 := H5.out.2.1
    clear y1 k0 k1 k2 k3 f0 f1 f2 f3 e8 z0 z1 z2 z3
    have k0 : w6.cell? ⟨gI, 0, none⟩ = some (.int .i64 (io : Nat)) := BI.cellv 0 rfl
    have k1 : w6.cell? ⟨gI, 1, none⟩ = some (.int .i64 (ia : Nat)) := BI.cellv 1 rfl
    have k2 : w6.cell? ⟨gI, 2, none⟩ = some (.int .i64 (ib : Nat)) := BI.cellv 2 rfl
    have k3 : w6.cell? ⟨gI, 3, none⟩ = some (.int .i64 (ic : Nat)) := BI.cellv 3 rfl
    have H6 := Lib.hid (And.intro M6 (And.intro E6 (And.intro BI c56))); clear M6 E6 BI c56
    obtain ⟨D, M6r, hD⟩ := H6.out.1.re
    have KC := HC.out w6 D M6r
    have H7 := Lib.hid (And.intro KC hD); clear KC hD M6r
    go_wp2_with fail
    refine (H7.out.1).mono ?_
    rintro e w7 ⟨p3, rfl, hR, M7⟩
    have E7 := M7.c.blk H6.out.2.1 (fun hm => by
      obtain ⟨k, h⟩ := H7.out.2 _ hm
      have h1 := HM.out.hi k _ h
      have := H1.out.2.2.2
      omega)
    have nE : ∀ k, ¬ MF p3 m3 k gE := fun k h => by
      rcases M7.lo k gE h with h | h
      · obtain ⟨k, h⟩ := H7.out.2 _ h
        have h1 := HM.out.hi k _ h
        have := H1.out.2.2.2
        omega
      · have h1 : w6.heap.size ≤ gE := h
        have := H6.out.2.1.lt
        omega
    have M7' := H6.out.1.back H7.out.2 M7
    have z0 : w7.cell? ⟨gE, 0, none⟩ = some (.int .i64 0) := E7.cellv 0 rfl
    have z1 : w7.cell? ⟨gE, 1, none⟩ = some (.int .i64 0) := E7.cellv 1 rfl
    have z2 : w7.cell? ⟨gE, 2, none⟩ = some (.int .i64 0) := E7.cellv 2 rfl
    have y0 := E7.frozen 0
    have y1 := E7.frozen 1
    have y2 := E7.frozen 2
    have H8 := Lib.hid (And.intro E7 (And.intro M7' (And.intro nE hR))); clear E7 M7 M7' nE hR k0 k1 k2 k3
    unfold evV
    go_wp2_with fail
    have B13 := ((H8.out.1.setv 0 (.int .i64 1) rfl).setv 1 (.int .i64 (g : Nat)) rfl).setv 2 (.int .i64 0) (cs' := #[.int .i64 1, .int .i64 (g : Nat), .int .i64 0]) rfl
    have c13 : Chg [gE] w7 (((w7.setCell ⟨gE, 0, none⟩ (.int .i64 1)).setCell ⟨gE, 1, none⟩ (.int .i64 (g : Nat))).setCell ⟨gE, 2, none⟩ (.int .i64 0)) := (((Chg.refl [gE] w7).setCell (.inl (by simp)) _).setCell (.inl (by simp)) _).setCell (.inl (by simp)) _
    have M13 := H8.out.2.1.chg c13 (fun k j hj hm => by
      have e : j = gE := by simpa using hm
      subst e
      exact H8.out.2.2.1 k hj) (by have : W.heap.size ≤ w.heap.size := HM.out.c.size; have := H1.out.2.2.2; simp; omega)
    exact ⟨rfl, _, results_cell_row (P := Tryz.prog) (fn := Tryz.f87) rfl _ _ gE 48 _ _ _ rfl B13 Tryz.underlying48 rfl (by kernel_rfl), p3, rfl, H8.out.2.2.2, M13⟩
theorem m_run_away (q g : Nat) (hq : q < m.np) (hg : g < m.ng) (hxg : (m.ps q).g = (g : Nat)) (rw_ : Nat) (hrow : (m.ps q).row = (rw_ : Nat)) (hrw : 16 ≤ rw_) (brw : rw_ ≤ 1000000) (hrs : (m.rg q).hs = false) (hrf : (m.rg q).fr < 256) (hrn : 0 < (m.rg q).n) (hrn2 : (m.rg q).n < 256) (hst : m.sts[g]? = some 2) (hsl : m.sts.length ≤ 1000000) (hvq : p.vq = .slice none 0 0) :
    Calls Tryz.prog 87 #[.pointer (some ⟨p.gm, 0, none⟩), .int .i64 (q : Nat)] w (RunE W (Keeps p) (awayA m q g) 2 (g : Nat)) := by
  have r1 : (rw_ : Int) ≥ 16 := by omega
  have r2 : (rw_ : Int) ≥ 2 := by omega
  have HM := Lib.hid M
  clear M
  go_enter Tryz.func87, Tryz.ntmps87
  go_upto_region 1 with fail
  obtain ⟨w1, hw1⟩ : ∃ w1, w1 = w.alloc (.cells #[.int .i64 0, .int .i64 0, .int .i64 0] 48) := ⟨_, rfl⟩
  obtain ⟨gE, hgE⟩ : ∃ gE, gE = w.heap.size := ⟨_, rfl⟩
  rw [← hw1, ← hgE]
  have BE : Blk w1 gE 48 #[.int .i64 0, .int .i64 0, .int .i64 0] := by rw [hw1, hgE]; exact Blk.new _ _ _
  have c01 : Chg [] w w1 := by rw [hw1]; exact (Chg.refl [] w).alloc _
  have M1 := HM.out.chg0 c01
  clear hw1
  obtain ⟨b9, cap9, c9, hps⟩ := M1.psl
  obtain ⟨hv9, hb9, -⟩ := hps q hq
  rw [hv9] at c9
  obtain ⟨b8, cap8, c8, hgs⟩ := M1.gsl
  obtain ⟨hv8, hb8, -⟩ := hgs g hg
  rw [hv8] at c8
  have x0 : w1.cell? ⟨p.bp q, 0, none⟩ = some (.int .i64 (g : Nat)) := by rw [← hxg]; exact (M1.pb hq).cellv 0 rfl
  have x1 : w1.cell? ⟨p.bp q, 1, none⟩ = some (.int .i64 (rw_ : Nat)) := by rw [← hrow]; exact (M1.pb hq).cellv 1 rfl
  have c9' : w1.cell? ⟨p.gm, 10, none⟩ = some (.pointer (some ⟨p.gsd, 0, none⟩)) := M1.mb.cellv 10 rfl
  have e1 : (0 : Int) ≤ q := by omega
  have e2 : (q : Int) < (m.np : Int) := by omega
  have e3 : (0 : Int) ≤ g := by omega
  have e4 : (g : Int) < (m.ng : Int) := by omega
  have H1 := Lib.hid (And.intro BE (And.intro M1 (And.intro c01 hgE))); clear BE M1 c01 hgE hps hgs hv8 hv9
  go_upto_region 2 with fail
  go_quiet (fail)
  generalize hw2 : World.drewN _ nq = w2
  have c12 : Chg [] w1 w2 := by rw [← hw2]; exact (Chg.refl [] w1).drewN _
  have M2 := H1.out.2.1.chg0 c12
  have E2 := c12.blk H1.out.1 (by simp)
  have s0 : w2.cell? ⟨p.gm, 10, none⟩ = some (.pointer (some ⟨p.gsd, 0, none⟩)) := M2.mb.cellv 10 rfl
  have KS := sc_common0 M2.sc hvq
  have H2 := Lib.hid (And.intro M2 (And.intro E2 (And.intro KS c12))); clear M2 E2 KS c12 hw2 c9 hb9 c8 hb8 x0 x1 c9'
  go_wp2_with fail
  refine (H2.out.2.2.1).mono ?_
  rintro e w3 ⟨rfl, c23⟩
  have M3 := H2.out.1.chg0 c23
  have s1 : w3.cell? ⟨p.gm, 10, none⟩ = some (.pointer (some ⟨p.gsd, 0, none⟩)) := M3.mb.cellv 10 rfl
  have E3 := c23.blk H2.out.2.1 (by simp)
  have c3 : w3.cell? ⟨p.bp q, 1, none⟩ = some (.int .i64 (rw_ : Nat)) := by
    have h : w3.cell? ⟨p.bp q, 1, none⟩ = _ := (M3.pb hq).cellv 1 rfl
    rw [h]; show some (Value.int .i64 (m.ps q).row) = _; rw [hrow]
  obtain ⟨b9, cap9, c9, hps⟩ := M3.psl
  obtain ⟨hv9, hb9, -⟩ := hps q hq
  rw [hv9] at c9
  have H3 := Lib.hid (And.intro M3 (And.intro E3 (c23))); clear M3 E3 c23 hps hv9 s0
  have d0 : (0 : Int) < ((m.rg q).n : Int) := by omega
  obtain ⟨nn, hnn⟩ : ∃ nn, nn = (m.rg q).n := ⟨_, rfl⟩
  rw [← hnn] at d0
  have bnn : nn ≤ 256 := by omega
  have KL := sc_local H3.out.1.sc q hq hrs hrf (by omega)
  rw [← hnn] at KL
  have HL0 := Lib.hid KL; clear KL
  go_wp2_with fail
  refine (HL0.out).mono ?_
  rintro e wL ⟨AL, cL, rfl, cl⟩
  have M3 := H3.out.1.chg0 cl
  have E3 := cl.blk H3.out.2.1 (by simp)
  have c2L := H3.out.2.2.trans cl
  obtain ⟨D, MR, hD⟩ := M3.re
  have nED : gE ∉ D := fun hm => by
    obtain ⟨k, hk⟩ := hD gE hm
    have h1 := HM.out.hi k gE hk
    have := H1.out.2.2.2
    omega
  have KA := m_away MR q g hq hxg hvq hst hsl hrf hrn2
  have HA := Lib.hid (And.intro KA (And.intro hD (And.intro nED (And.intro M3 E3)))); clear KA hD nED M3 E3 MR c2L cl c3 c9 hb9 s1
  go_wp2_with fail
  refine (HA.out.1).mono ?_
  rintro e w7 ⟨p3, rfl, hR, M7⟩
  have E7 := M7.c.blk HA.out.2.2.2.2 HA.out.2.2.1
  have nE : ∀ k, ¬ MF p3 (awayA m q g) k gE := fun k h => by
    rcases M7.lo k gE h with h | h
    · exact HA.out.2.2.1 h
    · have h1 : wL.heap.size ≤ gE := h
      have := HA.out.2.2.2.2.lt
      omega
  have M7' := HA.out.2.2.2.1.back HA.out.2.1 M7
  have z0 : w7.cell? ⟨gE, 0, none⟩ = some (.int .i64 0) := E7.cellv 0 rfl
  have z1 : w7.cell? ⟨gE, 1, none⟩ = some (.int .i64 0) := E7.cellv 1 rfl
  have z2 : w7.cell? ⟨gE, 2, none⟩ = some (.int .i64 0) := E7.cellv 2 rfl
  have y0 := E7.frozen 0
  have y1 := E7.frozen 1
  have y2 := E7.frozen 2
  have H8 := Lib.hid (And.intro E7 (And.intro M7' (And.intro nE hR))); clear E7 M7 M7' nE hR
  unfold evV
  go_wp2_with fail
  have B13 := ((H8.out.1.setv 0 (.int .i64 2) rfl).setv 1 (.int .i64 (g : Nat)) rfl).setv 2 (.int .i64 0) (cs' := #[.int .i64 2, .int .i64 (g : Nat), .int .i64 0]) rfl
  have c13 : Chg [gE] w7 (((w7.setCell ⟨gE, 0, none⟩ (.int .i64 2)).setCell ⟨gE, 1, none⟩ (.int .i64 (g : Nat))).setCell ⟨gE, 2, none⟩ (.int .i64 0)) := (((Chg.refl [gE] w7).setCell (.inl (by simp)) _).setCell (.inl (by simp)) _).setCell (.inl (by simp)) _
  have M13 := H8.out.2.1.chg c13 (fun k j hj hm => by
    have e : j = gE := by simpa using hm
    subst e
    exact H8.out.2.2.1 k hj) (by have : W.heap.size ≤ w.heap.size := HM.out.c.size; have := H1.out.2.2.2; simp; omega)
  exact ⟨rfl, _, results_cell_row (P := Tryz.prog) (fn := Tryz.f87) rfl _ _ gE 48 _ _ _ rfl B13 Tryz.underlying48 rfl (by kernel_rfl), p3, rfl, H8.out.2.2.2, M13⟩
end
end Go.Proofs.YtcpljjacamibeaaGreatDoor
