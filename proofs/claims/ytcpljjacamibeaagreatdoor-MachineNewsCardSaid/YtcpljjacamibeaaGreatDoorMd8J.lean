/- Package machine: run, of an exit. -/
/- Package machine: one Step that takes and ends a goroutine. -/
import Derived.Test.YtcpljjacamibeaaGreatDoorMd7
namespace Go.Proofs.YtcpljjacamibeaaGreatDoor
set_option maxHeartbeats 16000000
set_option maxRecDepth 100000
open Go.RowKit Go.Maps
section
variable {W : Bs} {w : World} {p : MAt} {m : Mac} (M : MM W w p m)
include M
theorem MM.fnl {F pc : Nat} {l : List Ins} {i : Ins} (hl : m.fs[F]? = some l) (hi : l[pc]? = some i) :
    ∃ b cap A c, w.cell? ⟨p.gm, 1, none⟩ = some (.slice (some ⟨b, 0, none⟩) m.fs.length cap) ∧ F < m.fs.length ∧ w.cell? ⟨b, F, none⟩ = some (.slice (some ⟨A, 0, none⟩) l.length c) ∧ pc < l.length ∧ (∀ j u, (insC i)[j]? = some u → w.cell? ⟨A, pc * 4 + j, none⟩ = some u) ∧ w.frozen? ⟨A, pc, none⟩ = false := by
  have o : IsFn w p.vfn p.vf m.fs := M.k .prog
  have hF := (List.getElem?_eq_some_iff.1 hl).1
  have hpc := (List.getElem?_eq_some_iff.1 hi).1
  obtain ⟨A0, c0, hv⟩ := o.o.slice
  have o2 := o.o
  rw [hv] at o2
  have hx : ((List.range m.fs.length).map p.vf)[F]? = some (p.vf F) := by simp [hF]
  obtain ⟨b, hA, hc, -⟩ := o2.cell hx
  subst hA
  have oi := o.f F l hl
  obtain ⟨A1, c1, hv1⟩ := oi.slice
  rw [hv1] at oi hc
  obtain ⟨g1, hA1, hcc, hfr, -⟩ := oi.cell insC_len hi
  subst hA1
  refine ⟨b, c0, g1, c1, ?_, hF, hc, hpc, hcc, hfr _⟩
  have h := M.mb.cellv 1 (show (mC p m)[1]? = some p.vfn from rfl)
  rw [h, hv]
  simp
theorem m_run_exit (q g F : Nat) (l : List Ins) (i : Ins) (hio : 0 = i.o) (hq : q < m.np) (hg : g < m.ng) (hxg : (m.ps q).g = (g : Nat)) (hrow : (m.ps q).row = (0 : Nat)) (hvq : p.vq = .slice none 0 0) (hF : (m.gs g).f = (F : Nat)) (pc : Nat) (hpc : (m.gs g).pc = pc) (bpc : pc ≤ 1000000) (hl : m.fs[F]? = some l) (hi : l[pc]? = some i) (hst : m.sts[g]? = some 2) (hsl : m.sts.length ≤ 1000000) (hcl : m.cms.length ≤ 100000000) :
    Calls Tryz.prog 87 #[.pointer (some ⟨p.gm, 0, none⟩), .int .i64 (q : Nat)] w (ExPost W p m q g) := by
  obtain ⟨io, ia, ib, ic⟩ := i
  simp only at hio
  subst hio
  have HM := Lib.hid M
  clear M
  go_enter Tryz.func87, Tryz.ntmps87
  go_upto_region 1 with fail
  obtain ⟨w1, hw1⟩ : ∃ w1, w1 = w.alloc (.cells #[.int .i64 0, .int .i64 0, .int .i64 0] 48) := ⟨_, rfl⟩
  obtain ⟨gE, hgE⟩ : ∃ gE, gE = w.heap.size := ⟨_, rfl⟩
  rw [← hw1, ← hgE]
  have BE : Blk w1 gE 48 #[.int .i64 0, .int .i64 0, .int .i64 0] := by rw [hw1, hgE]; exact Blk.new _ _ _
  have c01 : Chg [] w w1 := by rw [hw1]; exact (Chg.refl [] w).alloc _
  have M1 := HM.out.chg0 c01
  clear hw1
  obtain ⟨b9, cap9, c9, hps⟩ := M1.psl
  obtain ⟨hv9, hb9, -⟩ := hps q hq
  rw [hv9] at c9
  obtain ⟨b8, cap8, c8, hgs⟩ := M1.gsl
  obtain ⟨hv8, hb8, -⟩ := hgs g hg
  rw [hv8] at c8
  have x0 : w1.cell? ⟨p.bp q, 0, none⟩ = some (.int .i64 (g : Nat)) := by rw [← hxg]; exact (M1.pb hq).cellv 0 rfl
  have x1 : w1.cell? ⟨p.bp q, 1, none⟩ = some (.int .i64 (0 : Nat)) := by rw [← hrow]; exact (M1.pb hq).cellv 1 rfl
  have c9' : w1.cell? ⟨p.gm, 10, none⟩ = some (.pointer (some ⟨p.gsd, 0, none⟩)) := M1.mb.cellv 10 rfl
  have e1 : (0 : Int) ≤ q := by omega
  have e2 : (q : Int) < (m.np : Int) := by omega
  have e3 : (0 : Int) ≤ g := by omega
  have e4 : (g : Int) < (m.ng : Int) := by omega
  have H1 := Lib.hid (And.intro BE (And.intro M1 (And.intro c01 hgE))); clear BE M1 c01 hgE hps hgs hv8 hv9
  go_upto_region 2 with fail
  go_quiet (fail)
  generalize hw2 : World.drewN _ nq = w2
  have c12 : Chg [] w1 w2 := by rw [← hw2]; exact (Chg.refl [] w1).drewN _
  have M2 := H1.out.2.1.chg0 c12
  have E2 := c12.blk H1.out.1 (by simp)
  have s0 : w2.cell? ⟨p.gm, 10, none⟩ = some (.pointer (some ⟨p.gsd, 0, none⟩)) := M2.mb.cellv 10 rfl
  have KS := sc_common0 M2.sc hvq
  have H2 := Lib.hid (And.intro M2 (And.intro E2 (And.intro KS c12))); clear M2 E2 KS c12 hw2 c9 hb9 c8 hb8 x0 x1 c9'
  go_wp2_with fail
  refine (H2.out.2.2.1).mono ?_
  rintro e w3 ⟨rfl, c23⟩
  have M3 := H2.out.1.chg0 c23
  have E3 := c23.blk H2.out.2.1 (by simp)
  have c3 : w3.cell? ⟨p.bp q, 1, none⟩ = some (.int .i64 0) := by
    have h : w3.cell? ⟨p.bp q, 1, none⟩ = _ := (M3.pb hq).cellv 1 rfl
    rw [h]; show some (Value.int .i64 (m.ps q).row) = _; rw [hrow]; rfl
  obtain ⟨b9, cap9, c9, hps⟩ := M3.psl
  obtain ⟨hv9, hb9, -⟩ := hps q hq
  rw [hv9] at c9
  have y0 : w3.cell? ⟨p.bg g, 0, none⟩ = some (.int .i64 (F : Nat)) := by rw [← hF]; exact (M3.gb hg).cellv 0 rfl
  have y1 : w3.cell? ⟨p.bg g, 1, none⟩ = some (.int .i64 (pc : Nat)) := by rw [← hpc]; exact (M3.gb hg).cellv 1 rfl
  have H3 := Lib.hid (And.intro M3 (And.intro E3 (c23))); clear M3 E3 c23 hps hv9 s0
  go_upto_region 7 with fail
  obtain ⟨w4, hw4⟩ : ∃ w4, w4 = w3.alloc (.cells #[.int .i64 0, .int .i64 0, .int .i64 0, .int .i64 0] 33) := ⟨_, rfl⟩
  obtain ⟨gI, hgI⟩ : ∃ gI, gI = w3.heap.size := ⟨_, rfl⟩
  rw [← hw4, ← hgI]
  have BI : Blk w4 gI 33 #[.int .i64 0, .int .i64 0, .int .i64 0, .int .i64 0] := by rw [hw4, hgI]; exact Blk.new _ _ _
  have c34 : Chg [] w3 w4 := by rw [hw4]; exact (Chg.refl [] w3).alloc _
  have M4 := H3.out.1.chg0 c34
  have E4 := c34.blk H3.out.2.1 (by simp)
  have hgI' : w.heap.size ≤ gI := by rw [hgI]; exact Nat.le_trans H1.out.2.2.1.size (Nat.le_trans H2.out.2.2.2.size H3.out.2.2.size)
  clear hw4 c3 c9 hb9 y0 y1
  obtain ⟨b1, cap1, A1, cA, c1, hF1, cF, hpl, hins, -⟩ := M4.fnl hl hi
  have y0 : w4.cell? ⟨p.bg g, 0, none⟩ = some (.int .i64 (F : Nat)) := by rw [← hF]; exact (M4.gb hg).cellv 0 rfl
  have e5 : (0 : Int) ≤ F := by omega
  have e6 : (F : Int) < (m.fs.length : Int) := by omega
  have H4 := Lib.hid (And.intro M4 (And.intro E4 (And.intro BI (And.intro hins (And.intro hgI' hgI))))); clear M4 E4 BI c34 hgI' hgI hins
  go_quiet (fail)
  generalize hw5 : World.drewN _ nq = w5
  have c45 : Chg [] w4 w5 := by rw [← hw5]; exact (Chg.refl [] w4).drewN _
  have M5 := H4.out.1.chg0 c45
  have E5 := c45.blk H4.out.2.1 (by simp)
  have I5 := c45.blk H4.out.2.2.1 (by simp)
  obtain ⟨b1', cap1', A1', cA', c1', -, cF', -, hins', -⟩ := M5.fnl hl hi
  have hA : A1' = A1 := by
    have t1 : p.vfn = .slice (some ⟨b1, 0, none⟩) m.fs.length cap1 := by
      have h : w4.cell? ⟨p.gm, 1, none⟩ = some p.vfn := H4.out.1.mb.cellv 1 rfl
      rw [h] at c1; injection c1
    have t2 : p.vfn = .slice (some ⟨b1', 0, none⟩) m.fs.length cap1' := by
      have h : w5.cell? ⟨p.gm, 1, none⟩ = some p.vfn := M5.mb.cellv 1 rfl
      rw [h] at c1'; injection c1'
    have t3 : b1' = b1 := by rw [t1] at t2; injection t2 with t2; injection t2 with t2; injection t2 with t2; exact t2.symm
    subst t3
    have t4 : w5.cell? ⟨b1', F, none⟩ = w4.cell? ⟨b1', F, none⟩ := by rw [← hw5]; simp
    rw [t4, cF] at cF'
    injection cF' with t5
    injection t5 with t5
    injection t5 with t5
    injection t5 with t5
    exact t5.symm
  subst hA
  clear hw5 c1 cF c1' cF' y0 hF1
  have y1 : w5.cell? ⟨p.bg g, 1, none⟩ = some (.int .i64 (pc : Nat)) := by rw [← hpc]; exact (M5.gb hg).cellv 1 rfl
  have i0 : w5.cell? ⟨A1', pc * 4, none⟩ = some (.int .i64 0) := hins' 0 _ rfl
  have i1 : w5.cell? ⟨A1', pc * 4 + 1, none⟩ = some (.int .i64 (ia : Nat)) := hins' 1 _ rfl
  have i2 : w5.cell? ⟨A1', pc * 4 + 2, none⟩ = some (.int .i64 (ib : Nat)) := hins' 2 _ rfl
  have i3 : w5.cell? ⟨A1', pc * 4 + 3, none⟩ = some (.int .i64 (ic : Nat)) := hins' 3 _ rfl
  have k0 : w5.cell? ⟨gI, 0, none⟩ = some (.int .i64 0) := I5.cellv 0 rfl
  have k1 : w5.cell? ⟨gI, 1, none⟩ = some (.int .i64 0) := I5.cellv 1 rfl
  have k2 : w5.cell? ⟨gI, 2, none⟩ = some (.int .i64 0) := I5.cellv 2 rfl
  have k3 : w5.cell? ⟨gI, 3, none⟩ = some (.int .i64 0) := I5.cellv 3 rfl
  have f0 := I5.frozen 0
  have f1 := I5.frozen 1
  have f2 := I5.frozen 2
  have f3 := I5.frozen 3
  have e7 : (0 : Int) ≤ pc := by omega
  have e8 : (pc : Int) < (l.length : Int) := by omega
  have H5 := Lib.hid (And.intro M5 (And.intro E5 (And.intro I5 c45))); clear M5 E5 I5 c45 hins'
  go_upto_region 10 with fail
  obtain ⟨w6, hw6⟩ : ∃ w6, w6 = (((w5.setCell ⟨gI, 0, none⟩ (.int .i64 0)).setCell ⟨gI, 1, none⟩ (.int .i64 (ia : Nat))).setCell ⟨gI, 2, none⟩ (.int .i64 (ib : Nat))).setCell ⟨gI, 3, none⟩ (.int .i64 (ic : Nat)) := ⟨_, rfl⟩
  rw [← hw6]
  have c56 : Chg [gI] w5 w6 := by rw [hw6]; exact ((((Chg.refl [gI] w5).setCell (.inl (by simp)) _).setCell (.inl (by simp)) _).setCell (.inl (by simp)) _).setCell (.inl (by simp)) _
  have BI : Blk w6 gI 33 #[.int .i64 0, .int .i64 (ia : Nat), .int .i64 (ib : Nat), .int .i64 (ic : Nat)] := by
    rw [hw6]
    exact (((H5.out.2.2.1.setv 0 _ rfl).setv 1 _ rfl).setv 2 _ rfl).setv 3 _ rfl
  have M6 := H5.out.1.chg c56 (fun k j hj hm => by
    have h1 := HM.out.hi k j hj
    have e : j = gI := by simpa using hm
    have := H4.out.2.2.2.2.1
    omega) (by have := H4.out.2.2.2.2.1; have : W.heap.size ≤ w.heap.size := HM.out.c.size; simp; omega)
  have E6 := c56.blk H5.out.2.1 (by simpa using H5.out.2.1.ne_ H5.out.2.2.1 (by decide))
  clear hw6 y1 i0 i1 i2 i3 k0 k1 k2 k3 f0 f1 f2 f3
  have k0 : w6.cell? ⟨gI, 0, none⟩ = some (.int .i64 0) := BI.cellv 0 rfl
  have k1 : w6.cell? ⟨gI, 1, none⟩ = some (.int .i64 (ia : Nat)) := BI.cellv 1 rfl
  have k2 : w6.cell? ⟨gI, 2, none⟩ = some (.int .i64 (ib : Nat)) := BI.cellv 2 rfl
  have k3 : w6.cell? ⟨gI, 3, none⟩ = some (.int .i64 (ic : Nat)) := BI.cellv 3 rfl
  have H6 := Lib.hid (And.intro M6 (And.intro E6 (And.intro BI c56))); clear M6 E6 BI c56
  obtain ⟨D, M6r, hD⟩ := H6.out.1.re
  have KC := m_commit_exit M6r q g 0 ⟨0, ia, ib, ic⟩ rfl hq hg hxg 0 hrow (by omega) pc hpc bpc hst hsl hcl
  have H7 := Lib.hid (And.intro KC hD); clear KC hD M6r
  go_wp2_with fail
  refine (H7.out.1).mono ?_
  rintro e w7 ⟨v, rfl, M7⟩
  have E7 := M7.c.blk H6.out.2.1 (fun hm => by
    obtain ⟨k, h⟩ := H7.out.2 _ hm
    have h1 := HM.out.hi k _ h
    have := H1.out.2.2.2
    omega)
  have nE : ∀ k, ¬ MF { p with vco := v } (exitA m q g) k gE := fun k h => by
    rcases M7.lo k gE h with h | h
    · obtain ⟨k, h⟩ := H7.out.2 _ h
      have h1 := HM.out.hi k _ h
      have := H1.out.2.2.2
      omega
    · have h1 : w6.heap.size ≤ gE := h
      have := H6.out.2.1.lt
      omega
  have M7' := H6.out.1.back H7.out.2 M7
  have z0 : w7.cell? ⟨gE, 0, none⟩ = some (.int .i64 0) := E7.cellv 0 rfl
  have z1 : w7.cell? ⟨gE, 1, none⟩ = some (.int .i64 0) := E7.cellv 1 rfl
  have z2 : w7.cell? ⟨gE, 2, none⟩ = some (.int .i64 0) := E7.cellv 2 rfl
  have y0 := E7.frozen 0
  have y1 := E7.frozen 1
  have y2 := E7.frozen 2
  have H8 := Lib.hid (And.intro E7 (And.intro M7' nE)); clear E7 M7 M7' nE k0 k1 k2 k3
  unfold evV
  go_wp2_with fail
  have B13 := ((H8.out.1.setv 0 (.int .i64 1) rfl).setv 1 (.int .i64 (g : Nat)) rfl).setv 2 (.int .i64 0) (cs' := #[.int .i64 1, .int .i64 (g : Nat), .int .i64 0]) rfl
  have c13 : Chg [gE] w7 (((w7.setCell ⟨gE, 0, none⟩ (.int .i64 1)).setCell ⟨gE, 1, none⟩ (.int .i64 (g : Nat))).setCell ⟨gE, 2, none⟩ (.int .i64 0)) := (((Chg.refl [gE] w7).setCell (.inl (by simp)) _).setCell (.inl (by simp)) _).setCell (.inl (by simp)) _
  have M13 := H8.out.2.1.chg c13 (fun k j hj hm => by
    have e : j = gE := by simpa using hm
    subst e
    exact H8.out.2.2 k hj) (by have : W.heap.size ≤ w.heap.size := HM.out.c.size; have := H1.out.2.2.2; simp; omega)
  exact ⟨rfl, _, results_cell_row (P := Tryz.prog) (fn := Tryz.f87) rfl _ _ gE 48 _ _ _ rfl B13 Tryz.underlying48 rfl (by kernel_rfl), v, rfl, M13⟩
end
def tickA (m : Mac) (q : Nat) : Mac := { m with steps := m.steps + 1, ps := updV m.ps q { m.ps q with all := (m.ps q).all + 1 } }
section
variable {W : Bs} {w : World} {p : MAt} {m : Mac} (M : MM W w p m)
include M
theorem m_step_exit (q g F : Nat) (vic : Int) (l : List Ins) (i : Ins) (hio : 0 = i.o) (hq : q < m.np) (hP : m.np ≤ 64) (hg : g < m.ng) (hpg : (m.ps q).g = -1) (hvq : p.vq = .slice none 0 0) (hvt : p.vtm = .slice none 0 0) (htm : m.tm = []) (hmade : m.made = 0) (hvf : p.vfr = .slice none 0 0)
    (hout : m.out = false) (hstV : stV m = 0) (h0 : m.ph.ph = 0) (hfo : m.force = 0) (hcy : 0 ≤ m.ph.cyc) (hlv : m.A.a.live = 0) (hT : 0 < m.gT) (wk al pk sp ck : Nat) (hwk : (m.ps q).worked = wk) (hal : (m.ps q).all = al) (hpk : (m.ps q).picks = pk) (hsp : m.steps = sp) (hck : m.clock = ck) (bwk : wk ≤ 1000000) (bal : al + 1 ≤ 1000000) (bpk : pk ≤ 1000000) (bsp : sp ≤ 1000000) (bck : ck ≤ 1000000)
    (hs : (m.rg q).hs = false) (hfr : (m.rg q).fr < 256) (hn0 : 0 < (m.rg q).n) (hn : (m.rg q).n ≤ 256) (hgr : (m.rg q).l (m.rg q).fr = (g : Nat)) (hst : m.sts[g]? = some 1) (hsl : m.sts.length ≤ 1024)
    (hF : (m.gs g).f = (F : Nat)) (pc : Nat) (hpc : (m.gs g).pc = pc) (bpc : pc ≤ 1000000) (hl : m.fs[F]? = some l) (hi : l[pc]? = some i) (hcl : m.cms.length ≤ 100000000) :
    Calls Tryz.prog 33 #[.pointer (some ⟨p.gm, 0, none⟩), .agg #[.int .i64 (q : Nat), .int .i64 vic, .bool false, .int .i64 0]] w (fun e w' => ∃ v, e = .returned (evV 1 (g : Nat) 0) ∧ MM W w' { p with vco := v } (exitA (takeA (tickA m q) q g) q g)) := by
  have HM := Lib.hid M
  have Hio := Lib.hid hio
  clear M hio
  go_enter Tryz.func33, Tryz.ntmps33
  go_upto_region 1 with fail
  generalize hw1 : World.alloc (World.alloc w _) _ = w1
  have BB : Blk w1 w.heap.size 43 #[.int .i64 (q : Nat), .int .i64 vic, .bool false, .int .i64 0] := by
    rw [← hw1]; exact (Blk.new w _ _).alloc _
  have BE : Blk w1 (w.heap.size + 1) 48 #[.int .i64 0, .int .i64 0, .int .i64 0] := by
    rw [← hw1]
    have h := Blk.new (w.alloc (.cells #[.int .i64 (q : Nat), .int .i64 vic, .bool false, .int .i64 0] 43)) 48 #[.int .i64 0, .int .i64 0, .int .i64 0]
    simp only [World.size_alloc] at h
    exact h
  have c01 : Chg [] w w1 := by rw [← hw1]; exact ((Chg.refl [] w).alloc _).alloc _
  have M1 := HM.out.chg0 c01
  clear hw1
  obtain ⟨gE, hgE⟩ : ∃ gE, gE = w.heap.size + 1 := ⟨_, rfl⟩
  obtain ⟨gB, hgB⟩ : ∃ gB, gB = w.heap.size := ⟨_, rfl⟩
  rw [← hgE] at BE ⊢
  rw [← hgB] at BB ⊢
  have hnB : w.heap.size ≤ gB := by omega
  have hnE : w.heap.size ≤ gE := by omega
  have hne : gB ≠ gE := by omega
  have zf := M1.mb.frozen 25
  have zc : w1.cell? ⟨p.gm, 25, none⟩ = some (.slice none 0 0) := by rw [← hvf]; exact M1.mb.cellv 25 rfl
  have H1 := Lib.hid (And.intro M1 (And.intro BB (And.intro BE (And.intro hnB (And.intro hnE hne))))); clear M1 BB BE hnB hnE hne hgE hgB c01
  go_upto_region 3 with fail
  have B2 := H1.out.1.mset (p' := p) (m' := m) 25 (.slice none 0 0) rfl (by unfold mC; simp [hvf]) (fun _ _ => ⟨rfl, fun _ => rfl⟩)
  obtain ⟨w2, hw2⟩ : ∃ w2, w2 = w1.setCell ⟨p.gm, 25, none⟩ (.slice none 0 0) := ⟨_, rfl⟩
  rw [← hw2] at B2 ⊢
  have c12 : Chg [p.gm] w1 w2 := by rw [hw2]; exact (Chg.refl _ w1).setCell (.inl (by simp)) _
  have hgm := HM.out.mb.lt
  have b2 := c12.blk H1.out.2.1 (by have := H1.out.2.2.2.1; simp; omega)
  have b3 := c12.blk H1.out.2.2.1 (by have := H1.out.2.2.2.2.1; simp; omega)
  have b0 : w2.cell? ⟨gB, 0, none⟩ = some (.int .i64 (q : Nat)) := b2.cellv 0 rfl
  have KH := m_has B2 q hq
  have KS := m_status B2 (by omega) (by rw [htm]; simp)
  rw [hstV] at KS
  have H2 := Lib.hid (And.intro B2 (And.intro b2 (And.intro b3 (And.intro KH KS)))); clear B2 b2 b3 KH KS c12 hw2 zf zc
  go_upto_region 4 with fail
  go_wp2_with fail
  refine (H2.out.2.2.2.1).mono ?_
  rintro e w3 ⟨rfl, rfl⟩
  go_wp2_with fail
  refine (H2.out.2.2.2.2).mono ?_
  rintro e w4 ⟨rfl, kk, hw4⟩
  have c24 : Chg [] w3 w4 := by rw [hw4]; exact (Chg.refl [] w3).drewN _
  have M4 := H2.out.1.chg0 c24
  have b2 := c24.blk H2.out.2.1 (by simp)
  have b3 := c24.blk H2.out.2.2.1 (by simp)
  obtain ⟨b9, cap9, c9, hps⟩ := M4.psl
  obtain ⟨hv9, hb9, -⟩ := hps q hq
  rw [hv9] at c9
  have e1 : (0 : Int) ≤ q := by omega
  have e2 : (q : Int) < (m.np : Int) := by omega
  have s0 : w4.cell? ⟨p.gm, 26, none⟩ = some (.int .i64 (sp : Nat)) := by rw [← hsp]; exact M4.mb.cellv 26 rfl
  have s1 := M4.mb.frozen 26
  have a0 : w4.cell? ⟨p.bp q, 8, none⟩ = some (.int .i64 (al : Nat)) := by rw [← hal]; exact (M4.pb hq).cellv 8 rfl
  have a1 := (M4.pb hq).frozen 8
  have n1 : ¬ p.gm = p.bp q := M4.mb.ne_ (M4.pb hq) (by decide)
  have n2 : ¬ p.bp q = p.gm := fun e => n1 e.symm
  have H4 := Lib.hid (And.intro M4 (And.intro b2 b3)); clear M4 b2 b3 hps hv9 hw4 c24 b0
  go_upto_region 9 with fail
  obtain ⟨w5, hw5⟩ : ∃ w5, w5 = (w4.setCell ⟨p.gm, 26, none⟩ (.int .i64 ((sp : Int) + 1))).setCell ⟨p.bp q, 8, none⟩ (.int .i64 ((al : Int) + 1)) := ⟨_, rfl⟩
  have M5 : MM W w5 p (tickA m q) := by
    rw [hw5, ← hsp, ← hal]
    exact (H4.out.1.mset (p' := p) (m' := { m with steps := m.steps + 1 }) 26 _ rfl (by unfold mC; simp) (fun k hk => by cases k <;> first | exact absurd rfl hk | exact ⟨rfl, fun _ => rfl⟩)).pset (q := q) hq 8 _ { m.ps q with all := (m.ps q).all + 1 } rfl
  rw [← hw5]
  have c45 : Chg [p.gm, p.bp q] w4 w5 := by rw [hw5]; exact ((Chg.refl _ w4).setCell (.inl (by simp)) _).setCell (.inl (by simp)) _
  have hbq := (HM.out.pb hq).lt
  have b2 := c45.blk H4.out.2.1 (by have := H1.out.2.2.2.1; simp; omega)
  have b3 := c45.blk H4.out.2.2 (by have := H1.out.2.2.2.2.1; simp; omega)
  clear hw5 s0 s1 a0 a1 c45 c9 hb9
  obtain ⟨m5, hm5⟩ : ∃ m5, m5 = tickA m q := ⟨_, rfl⟩
  rw [← hm5] at M5
  have s0 : w5.cell? ⟨p.gm, 14, none⟩ = some (.int .i64 (ck : Nat)) := by rw [← hck]; have h : w5.cell? ⟨p.gm, 14, none⟩ = some (.int .i64 m5.clock) := M5.mb.cellv 14 rfl; rw [h, hm5]; rfl
  have t3 : w5.cell? ⟨gB, 3, none⟩ = some (.int .i64 0) := b2.cellv 3 rfl
  have H5 := Lib.hid (And.intro M5 (And.intro b2 (And.intro b3 hm5))); clear M5 b2 b3 hm5
  go_upto_region 9 with fail
  go_still_tail 12, (by kernel_rfl)
  change wpList _ _ _ _ _ w5.drew
  have M6 := H5.out.1.chg0 (Chg.refl [] w5).drew
  have b2 := H5.out.2.1.drew
  have b3 := H5.out.2.2.1.drew
  have f14 := M6.mb.frozen 14
  have s14 : w5.drew.cell? ⟨p.gm, 14, none⟩ = some (.int .i64 (ck : Nat)) := by rw [← hck]; have h : w5.drew.cell? ⟨p.gm, 14, none⟩ = some (.int .i64 m5.clock) := M6.mb.cellv 14 rfl; rw [h, H5.out.2.2.2]; rfl
  have H6 := Lib.hid (And.intro M6 (And.intro b2 b3)); clear M6 b2 b3
  go_upto_region 10 with fail
  have ec : m5.clock = ck := by rw [H5.out.2.2.2]; exact hck
  have M7 := (H5.out.1.mset (p' := p) (m' := m5) 14 (.int .i64 (ck : Nat)) rfl (by unfold mC; simp [ec]) (fun _ _ => ⟨rfl, fun _ => rfl⟩)).chg0 (Chg.refl [] _).drew
  clear ec
  have c57 : Chg [p.gm] w5 (w5.setCell ⟨p.gm, 14, none⟩ (.int .i64 (ck : Nat))).drew := ((Chg.refl _ w5).setCell (.inl (by simp)) _).drew
  obtain ⟨w7, hw7⟩ : ∃ w7, w7 = (w5.setCell ⟨p.gm, 14, none⟩ (.int .i64 (ck : Nat))).drew := ⟨_, rfl⟩
  rw [← hw7] at M7 c57 ⊢
  have b2 := c57.blk H5.out.2.1 (by have := H1.out.2.2.2.1; simp; omega)
  have b3 := c57.blk H5.out.2.2.1 (by have := H1.out.2.2.2.2.1; simp; omega)
  clear hw7 c57 s14 f14 t3 s0
  have KD : ∀ w', Chg [] w7 w' → Calls Tryz.prog 81 #[.pointer (some ⟨p.gtm, 0, none⟩), .int .i64 (ck : Nat)] w' (QuPost (.slice none 0 0) w') := fun w' c' => tm_due0 w' p.gtm (by
    have h := (show _ ∧ _ from (M7.chg0 c').k .timers).1
    rw [hvt] at h
    have e : m5.made = 0 := by rw [H5.out.2.2.2]; exact hmade
    rw [e] at h
    exact h) _
  have s11 : w7.cell? ⟨p.gm, 11, none⟩ = some (.pointer (some ⟨p.gtm, 0, none⟩)) := M7.mb.cellv 11 rfl
  have s14 : w7.cell? ⟨p.gm, 14, none⟩ = some (.int .i64 (ck : Nat)) := by rw [← hck]; have h : w7.cell? ⟨p.gm, 14, none⟩ = some (.int .i64 m5.clock) := M7.mb.cellv 14 rfl; rw [h, H5.out.2.2.2]; rfl
  have H7 := Lib.hid (And.intro M7 (And.intro b2 (And.intro b3 KD))); clear M7 b2 b3 KD
  go_wp2_with fail
  go_quiet ((go_at_call 81; exact Calls.quiet_of_same (H7.out.2.2.2 _ ((Chg.refl [] w7).drewN _))))
  obtain ⟨w8, hw8⟩ : ∃ w8, w8 = w7.drewN nq := ⟨_, rfl⟩
  rw [← hw8]
  have c78 : Chg [] w7 w8 := by rw [hw8]; exact (Chg.refl [] w7).drewN _
  have M8 := H7.out.1.chg0 c78
  have b2 := c78.blk H7.out.2.1 (by simp)
  have b3 := c78.blk H7.out.2.2.1 (by simp)
  clear hw8 c78 s11 s14
  have H8 := Lib.hid (And.intro M8 (And.intro b2 b3)); clear M8 b2 b3
  go_wp2_with fail
  go_loopg [71] 1 (fun gk idx wr => gk = 1 ∧ idx = .int .i64 0 ∧ wr = w8)
  case atStart => exact ⟨rfl, rfl, rfl⟩
  case round =>
    obtain ⟨rfl, rfl, rfl⟩ := hrel
    have t2 : wr.cell? ⟨gB, 2, none⟩ = some (.bool false) := H8.out.2.1.cellv 2 rfl
    have KC := m_collect H8.out.1 q (by rw [H5.out.2.2.2]; exact hq) (by rw [H5.out.2.2.2]; exact h0) (by rw [H5.out.2.2.2]; exact hfo) (by rw [H5.out.2.2.2]; exact hcy) (by rw [H5.out.2.2.2]; exact hlv) (by rw [H5.out.2.2.2]; exact hT) (by rw [H5.out.2.2.2]; exact hP) wk (al + 1) (by
      rw [H5.out.2.2.2]; show (updV m.ps q _ q).worked = _; rw [updV_same]; exact hwk) (by
      rw [H5.out.2.2.2]; show (updV m.ps q _ q).all = _; rw [updV_same]; show (m.ps q).all + 1 = _; rw [hal]; rfl) bwk bal
    have HKC := Lib.hid KC; clear KC
    go_wp2_with fail
    refine (HKC.out).mono ?_
    rintro e w9 ⟨rfl, c89⟩
    have M9 := H8.out.1.chg0 c89
    have b2 := c89.blk H8.out.2.1 (by simp)
    have b3 := c89.blk H8.out.2.2 (by simp)
    have x0 : w9.cell? ⟨p.bp q, 0, none⟩ = some (.int .i64 (-1)) := by
      have h : w9.cell? ⟨p.bp q, 0, none⟩ = some (.int .i64 (m5.ps q).g) := (M9.pb (by rw [H5.out.2.2.2]; exact hq)).cellv 0 rfl
      rw [h, H5.out.2.2.2]; show some (Value.int .i64 (updV m.ps q _ q).g) = _; rw [updV_same]; show some (Value.int .i64 (m.ps q).g) = _; rw [hpg]
    have t1 : w9.cell? ⟨gB, 1, none⟩ = some (.int .i64 vic) := b2.cellv 1 rfl
    have hb := b2.lt
    have hp9 := (M9.pb (q := q) (by rw [H5.out.2.2.2]; exact hq)).lt
    have H9 := Lib.hid (And.intro M9 (And.intro b2 b3)); clear M9 b2 b3 c89 t2
    go_upto_region 19 with fail
    obtain ⟨w10, hw10⟩ : ∃ w10, w10 = w9.alloc (.cells #[.int .i64 0, .int .i64 0, .int .i64 0] 48) := ⟨_, rfl⟩
    rw [← hw10]
    have c910 : Chg [] w9 w10 := by rw [hw10]; exact (Chg.refl [] w9).alloc _
    have M10 := H9.out.1.chg0 c910
    have b2 := c910.blk H9.out.2.1 (by simp)
    have b3 := c910.blk H9.out.2.2 (by simp)
    have x0 : w10.cell? ⟨p.bp q, 0, none⟩ = some (.int .i64 (-1)) := c910.cellv hp9 (by simp) x0
    have t1 : w10.cell? ⟨gB, 1, none⟩ = some (.int .i64 vic) := b2.cellv 1 rfl
    obtain ⟨D, M10r, hD⟩ := M10.re
    have e5 : m5.ps q = { m.ps q with all := (m.ps q).all + 1 } := by rw [H5.out.2.2.2]; exact updV_same _ _ _
    have KT := m_take M10r q g vic (by rw [H5.out.2.2.2]; exact hq) (by rw [H5.out.2.2.2]; exact h0) hvq pk (by rw [e5]; exact hpk) bpk (by rw [H5.out.2.2.2]; exact hs) (by rw [H5.out.2.2.2]; exact hfr) (by rw [H5.out.2.2.2]; exact hn0) (by rw [H5.out.2.2.2]; exact hn) (by rw [H5.out.2.2.2]; exact hgr) (by rw [H5.out.2.2.2]; exact hg) (by rw [H5.out.2.2.2]; exact hst) (by rw [H5.out.2.2.2]; exact Nat.le_trans hsl (by decide))
    have HT := Lib.hid (And.intro M10 (And.intro b2 (And.intro b3 (And.intro hD KT)))); clear M10 M10r b2 b3 hD KT hw10 c910 e5 hp9 hb
    go_wp2_with fail
    refine (HT.out.2.2.2.2).mono ?_
    rintro e w11 ⟨rfl, M11⟩
    have hMF : ∀ k j, MF p m5 k j → j < w.heap.size := fun k j h => HM.out.hi k j (by rw [H5.out.2.2.2] at h; cases k <;> exact h)
    have nE : gE ∉ D := fun hm => by
      obtain ⟨k, h⟩ := HT.out.2.2.2.1 _ hm
      have h1 := hMF k _ h
      have := H1.out.2.2.2.2.1
      omega
    have x0 : w11.cell? ⟨p.bp q, 0, none⟩ = some (.int .i64 (g : Nat)) := by
      have h : w11.cell? ⟨p.bp q, 0, none⟩ = some (.int .i64 ((takeA m5 q g).ps q).g) := (M11.pb (by rw [H5.out.2.2.2]; exact hq)).cellv 0 rfl
      rw [h]; show some (Value.int .i64 (updV m5.ps q _ q).g) = _; rw [updV_same]
    have d0 : ((g : Int) == -1) = false := by rw [beq_eq_false_iff_ne]; omega
    have hps : ((takeA m5 q g).ps q) = { m5.ps q with g := (g : Nat), row := 0, picks := (m5.ps q).picks + 1 } := updV_same _ _ _
    have hgs : ((takeA m5 q g).gs g) = { m.gs g with p := (q : Nat) } := by rw [H5.out.2.2.2]; exact updV_same _ _ _
    have KR := m_run_exit M11 q g F l i Hio.out (by rw [H5.out.2.2.2]; exact hq) (by rw [H5.out.2.2.2]; exact hg) (by rw [hps]) (by rw [hps]; rfl) hvq (by rw [hgs]; exact hF) pc (by rw [hgs]; exact hpc) bpc (by rw [H5.out.2.2.2]; exact hl) hi (by
      rw [H5.out.2.2.2]; show (m.sts.set g 2)[g]? = _
      have := (List.getElem?_eq_some_iff.1 hst).1
      rw [List.getElem?_set_self this]) (by rw [H5.out.2.2.2]; show (m.sts.set g 2).length ≤ _; rw [List.length_set]; omega) (by rw [H5.out.2.2.2]; exact hcl)
    have HR := Lib.hid (And.intro hMF (And.intro nE KR)); clear hMF nE KR hps hgs M11
    go_wp2_with fail
    refine (HR.out.2.2).mono ?_
    rintro e w12 ⟨v, rfl, M12⟩
    have E12 := M12.c.blk HT.out.2.2.1 HR.out.2.1
    have z0 : w12.cell? ⟨gE, 0, none⟩ = some (.int .i64 0) := E12.cellv 0 rfl
    have z1 : w12.cell? ⟨gE, 1, none⟩ = some (.int .i64 0) := E12.cellv 1 rfl
    have z2 : w12.cell? ⟨gE, 2, none⟩ = some (.int .i64 0) := E12.cellv 2 rfl
    have y0 := E12.frozen 0
    have y1 := E12.frozen 1
    have y2 := E12.frozen 2
    have nM : ∀ k, ¬ MF { p with vco := v } (exitA (takeA m5 q g) q g) k gE := fun k h => by
      rcases M12.lo k gE h with h | h
      · exact HR.out.2.1 h
      · have h1 : w10.heap.size ≤ gE := h
        have := HT.out.2.2.1.lt
        omega
    have M12' := HT.out.1.back HT.out.2.2.2.1 M12
    have H8 := Lib.hid (And.intro E12 (And.intro M12' nM)); clear E12 M12 M12' nM
    unfold evV
    go_wp2_with fail
    have B13 := ((H8.out.1.setv 0 (.int .i64 1) rfl).setv 1 (.int .i64 (g : Nat)) rfl).setv 2 (.int .i64 0) (cs' := #[.int .i64 1, .int .i64 (g : Nat), .int .i64 0]) rfl
    have c13 : Chg [gE] w12 (((w12.setCell ⟨gE, 0, none⟩ (.int .i64 1)).setCell ⟨gE, 1, none⟩ (.int .i64 (g : Nat))).setCell ⟨gE, 2, none⟩ (.int .i64 0)) := (((Chg.refl [gE] w12).setCell (.inl (by simp)) _).setCell (.inl (by simp)) _).setCell (.inl (by simp)) _
    have M13 := H8.out.2.1.chg c13 (fun k j hj hm => by
      have e : j = gE := by simpa using hm
      subst e
      exact H8.out.2.2 k hj) (by have : W.heap.size ≤ w.heap.size := HM.out.c.size; have := H1.out.2.2.2.2.1; simp; omega)
    rw [H5.out.2.2.2] at M13
    exact ⟨rfl, _, results_cell_row (P := Tryz.prog) (fn := Tryz.f33) rfl _ _ gE 48 _ _ _ rfl B13 Tryz.underlying48 rfl (by kernel_rfl), v, rfl, M13⟩
end
end Go.Proofs.YtcpljjacamibeaaGreatDoor
