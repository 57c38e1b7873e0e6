/- A run of any Ps and any number of goroutines, told by how long the rings are (Z). (Printed by wip/genzb.py.) -/
/- Package machine: data, of Move; what is thrown. (Printed by wip/genmn1.py.) -/
/- Package machine: a Load of nothing: what is thrown, who catches it. (Printed by wip/genmn2.py.) -/
/- Package machine: a Spawn too many: what is thrown, who catches it. -/
import Derived.Test.YtcpljjacamibeaaGreatDoorMi7J
import Derived.Test.YtcpljjacamibeaaGreatDoorMg2J
import Derived.Test.YtcpljjacamibeaaGreatDoorMcIJ
import Derived.Test.YtcpljjacamibeaaGreatDoorMArJ
import Derived.Recover
namespace Go.Proofs.YtcpljjacamibeaaGreatDoor
set_option maxHeartbeats 16000000
set_option maxRecDepth 100000
open Go.RowKit Go.Maps
structure AtZ (P : Nat) (fs : List (List Ins)) (J : Mdl → List ComA → Prop) (Z : Mac → Prop) (m : Mac) (X : Mdl) (loc : Nat → Nat × Nat) (q g : Nat) : Prop where
  hJ : J X m.cms
  R : Rel m X
  h : WF m loc
  hfs : m.fs = fs
  np : m.np = P
  hq : q < m.np
  hg : g < m.ng
  l : loc g = (2, q)
  row : ∃ rw : Nat, (m.ps q).row = rw ∧ rw ≤ 1000000
  h0 : m.ph.ph = 0
  cl : m.cms.length ≤ 100000000
  ng : m.ng ≤ 1024
  ob : ∀ x, m.A.a.ob x = none
  z : Z m
  rr : (m.ps q).row < 16 ∨ (m.rg q).n = 0
theorem AtZ.pg {P : Nat} {fs : List (List Ins)} {J : Mdl → List ComA → Prop} {Z : Mac → Prop} {m : Mac} {X : Mdl} {loc : Nat → Nat × Nat} {q g : Nat} (h : AtZ P fs J Z m X loc q g) : (m.ps q).g = (g : Nat) := by
  rcases h.h.rn q h.hq with ⟨-, h1⟩ | ⟨g0, -, h1, h2⟩
  · exact absurd h.l (h1 g h.hg)
  · rw [(h2 g h.hg).1 h.l]; exact h1
structure OpsZ (P : Nat) (fs : List (List Ins)) (vf : Value) (wB : World) (J : Mdl → List ComA → Prop) (Z : Mac → Prop) (nx : Mdl → Nat → Ins) (cm : Mac → Nat → Nat → Ins → Mac) (dx : Mdl → Nat → Ins → Mdl) (tx : Mdl → Nat → Ins → ComA) : Prop where
  small : ∀ X cms, J X cms → X.n ≤ 1024
  zn : ∀ (m : Mac) (X : Mdl) (loc : Nat → Nat × Nat), J X m.cms → Rel m X → WF m loc → Z m → ∀ k, k < m.np → (m.rg k).n ≤ 255
  zno : ∀ (m : Mac) (q : Nat), Z m → q < m.np → (m.ps q).g = -1 → Z (takeN (tickA m q) q m.rg)
  zsrv : ∀ (m m1 : Mac) (loc loc1 : Nat → Nat × Nat) (q g : Nat) (vic : Int), Z m → WF m loc → WF m1 loc1 → q < m.np → SrvR m m1 q g vic → Z m1
  zaw : ∀ (m : Mac) (X : Mdl) (loc : Nat → Nat × Nat) (q g : Nat), J X m.cms → Rel m X → WF m loc → Z m → q < m.np → g < m.ng → (m.ps q).g = (g : Nat) → 16 ≤ (m.ps q).row → ¬ (m.rg q).n = 0 → Z (awayA m q g)
  next : ∀ (m : Mac) (X : Mdl), J X m.cms → Rel m X → m.fs = fs → ∀ g, g < m.ng → (X.gs g).st = 1 → NxtG m.fs (m.gs g) (nx X g) ∧ ¬ (nx X g).o = 1
  com : ∀ (m : Mac) (X : Mdl) (loc : Nat → Nat × Nat) (q g : Nat), AtZ P fs J Z m X loc q g → ∀ (p : MAt), p.vq = .slice none 0 0 → ∀ (B : Bs) (w' : World), MM B w' p m → Calls Tryz.prog 146 #[.pointer (some ⟨p.gm, 0, none⟩), .int .i64 (q : Nat), insV (nx X g), .int .i64 0] w' (RunPost B (Keeps p) (cm m q g (nx X g)) g)
  after : ∀ (m : Mac) (X : Mdl) (loc : Nat → Nat × Nat) (q g : Nat), AtZ P fs J Z m X loc q g → ∃ loc3, WF (cm m q g (nx X g)) loc3 ∧ Rel (cm m q g (nx X g)) (dx X g (nx X g)) ∧ (cm m q g (nx X g)).cms = m.cms ++ [tx X g (nx X g)] ∧ Stays m (cm m q g (nx X g)) q ∧ Z (cm m q g (nx X g))
  tell : ∀ X g i, (tx X g i).g = (g : Nat) ∧ (tx X g i).op = (i.o : Nat) ∧ (i.o = 2 → (tx X g i).v = 0)
  mod : ∀ (w : World) (a : XAt) (X : Mdl) (cms : List ComA) (g : Nat), XM w a X → J X cms → X.fs = fs → a.vf = vf → Chg [] wB w → g < X.n → (X.gs g).st = 1 → Calls Tryz.prog 91 #[.pointer (some ⟨a.gX, 0, none⟩), .int .i64 (g : Nat)] w (FolPost a (dx X g (nx X g)) X (.tuple #[.agg (comC (tx X g (nx X g))).toArray, .int .i64 0]) w)
  keep : ∀ X cms g, J X cms → g < X.n → (X.gs g).st = 1 → J (dx X g (nx X g)) (cms ++ [tx X g (nx X g)])
def GZ (P : Nat) (fs : List (List Ins)) (wB : World) (gW : Nat) (wo : Int) (b1 b2 : Nat) (va vf : Value) (J : Mdl → List ComA → Prop) (Z : Mac → Prop) (i : Nat) (s : Int) (w : World) : Prop :=
  ∃ p m a X loc cP cV, BothM wB w gW (P : Nat) wo b1 b2 va cP cV p m a X ∧ Rel m X ∧ WF m loc ∧ Calm m ∧ Cn m (2 * i) ∧ m.np = P ∧ m.fs = fs ∧ J X m.cms ∧ m.cms.length ≤ i ∧ s = stV m ∧ (p.vq = .slice none 0 0 ∧ p.vtm = .slice none 0 0 ∧ p.vfr = .slice none 0 0) ∧ a.vf = vf ∧ a.ck = 0 ∧ va = .slice (some ⟨a.gA, 0, none⟩) 1 1 ∧ Z m
theorem GZ.run {P : Nat} {fs : List (List Ins)} {wB : World} {gW : Nat} {wo : Int} {b1 b2 : Nat} {va vf : Value} {J : Mdl → List ComA → Prop} {Z : Mac → Prop} {nx : Mdl → Nat → Ins} {cm : Mac → Nat → Nat → Ins → Mac} {dx : Mdl → Nat → Ins → Mdl} {tx : Mdl → Nat → Ins → ComA}
    (O : OpsZ P fs vf wB J Z nx cm dx tx) (h1 : 1 ≤ P) (hP : P ≤ 64) (N : Nat) (hN : N ≤ 400000) : RunJ gW P N (GZ P fs wB gW wo b1 b2 va vf J Z) := by
  refine ⟨fun i s w h => ?_, fun i s w w' h c => ?_, fun i w hi h => ?_⟩
  · obtain ⟨p, m, a, X, loc, cP, cV, B, -, -, C, -, -, -, -, -, rfl, -, -, -, -⟩ := h
    exact ⟨p.gm, B.W.cellv 0 rfl, B.W.cellv 2 rfl, B.W.lt, m_status B.M (by rw [C.sl]; exact C.ng) (by rw [C.tm]; simp)⟩
  · obtain ⟨p, m, a, X, loc, cP, cV, B, h⟩ := h
    exact ⟨p, m, a, X, loc, cP, cV, B.chg0 c, h⟩
  · obtain ⟨p, m, a, X, loc, cP, cV, B, R, W, C, K, hnp, hfs, hJ, hcl, hs, ⟨vq, vt, vr⟩, hvf, hck, hva, hZ⟩ := h
    have hn : m.ng ≤ 1024 := by rw [← R.n]; exact O.small X _ hJ
    have hq : i % P < P := Nat.mod_lt _ h1
    have hqm : i % P < m.np := by rw [hnp]; exact hq
    obtain ⟨Kc, Kr⟩ := K.cnts (by omega) hqm
    have hst1 : ∀ g, g < m.ng → ((loc g).1 = 1 ∨ (loc g).1 = 2) → (X.gs g).st = 1 := fun g hg hl => by
      rw [WF.stX R W hg]
      rcases hl with e | e <;> rw [e] <;> rfl
    have srvRel : ∀ (m1 : Mac) (g : Nat) (loc1 : Nat → Nat × Nat), Srv m m1 (i % P) g → g < m.ng → ((loc g).1 = 1 ∨ (loc g).1 = 2) → (∀ j, j ≠ g → loc1 j = loc j ∨ ((loc1 j).1 = 1 ∧ (loc j).1 = 1)) → WF m1 loc1 → loc1 g = (2, i % P) → Rel m1 X := fun m1 g loc1 hS hg0 hlk hoth hW1 hl1 => by
      obtain ⟨s1, s2, s3, s4, s5, s6, s7, s8, s9, s10, s11, s13, s12⟩ := hS.stays
      refine Rel.moved R W hW1 s2 s3 s12 (fun j _ => ?_) s13
      by_cases e : j = g
      · subst e; exact stX_12 (.inr (by rw [hl1])) hlk
      · rcases hoth j e with e | ⟨e1, e2⟩
        · rw [e]
        · rw [e1, e2]
    obtain ⟨m3, ek, eg, hStep, hcase⟩ := m_step_z (p := p) C W (O.zn m X loc hJ R W hZ) (i % P) (((i % P + 1) % P : Nat) : Int) hqm Kc Kr hs.symm vq vt vr (nx X) (fun g hg hl => by
        obtain ⟨a1, a2⟩ := O.next m X hJ R hfs g hg (hst1 g hg hl)
        exact ⟨a1, a2⟩) (fun m1 g i' => cm m1 (i % P) g i') (fun m1 g loc1 hS hg0 hlk hoth hW1 hl1 hrow hrr B' w' M' => by
        have hZ1 := O.zsrv m m1 loc loc1 (i % P) g _ hZ W hW1 hqm hS
        have hS := hS.srv
        obtain ⟨s1, s2, s3, s4, s5, s6, s7, s8, s9, s10, s11, -, s12⟩ := hS.stays
        exact O.com m1 X loc1 (i % P) g ⟨by rw [s11]; exact hJ, srvRel m1 g loc1 hS hg0 hlk hoth hW1 hl1, hW1, by rw [s2]; exact hfs, by rw [s1]; exact hnp, by rw [s1]; exact hqm, by rw [s3]; exact hg0, hl1, hrow, by rw [s7]; exact C.h0, by rw [s11]; omega, by rw [s3]; exact hn, by rw [s9]; exact C.ob, hZ1, hrr⟩ p vq B' w' M')
    have hbase : ∀ {m4 : Mac}, m4.np = m.np → m4.fs = m.fs → m4.tm = m.tm → m4.made = m.made → m4.out = m.out → m4.ph = m.ph → m4.force = m.force → m4.A = m.A → m4.gT = m.gT → m4.sts.length = m4.ng → m4.ng ≤ 1024 → m4.cms.length ≤ 100000000 → Calm m4 := fun e1 e2 e3 e4 e5 e6 e7 e8 e9 e10 e11 e12 => C.more e1 e3 e4 e5 e6 e7 e8 e9 e10 e11 e12
    unfold rndV
    rcases hcase with ⟨e1, e2, hidle, hW3⟩ | ⟨g, e1, e2, hg, hl, hr16, hrn0, hW3⟩ | ⟨m1, g, loc1, e1, e2, e3, hS, hg, hlk, hW1, hl1, hrr, hoth⟩
    · -- nobody
      subst e1
      refine (wdo_no wB w gW P wo b1 b2 va cP cV p m m3 a X B (i % P) _ hq hs.symm (by rw [C.sl]; exact C.ng) C.tm C.h0 hck (by omega) 0 eg (by decide) hStep (by rw [e2]; rfl)).mono ?_
      rintro e w' ⟨p3, rfl, hK, B'⟩
      refine ⟨0, eg, _, rfl, p3, m3, a, X, loc, _, _, B', ?_, hW3, ?_, ?_, ?_, ?_, ?_, ?_, rfl, ⟨hK.2.2.1, hK.2.2.2.1.trans vt, hK.2.2.2.2.trans vr⟩, hvf, hck, hva, ?_⟩
      · exact Rel.moved R W hW3 (by rw [e2]; rfl) (by rw [e2]; rfl) (fun j => by rw [e2]; exact ⟨rfl, rfl, rfl, rfl⟩) (fun j _ => rfl) (by rw [e2]; rfl)
      · rw [e2]; exact hbase rfl rfl rfl rfl rfl rfl rfl rfl rfl C.sl C.ng C.cl
      · rw [e2]
        have := K.takeN (i % P) m.rg
        exact this.le (by omega)
      · rw [e2]; exact hnp
      · rw [e2]; exact hfs
      · rw [e2]; exact hJ
      · rw [e2]; show m.cms.length ≤ i + 1; omega
      · rw [e2]
        refine O.zno m _ hZ hqm ?_
        exact hidle
    · -- put away
      subst e1
      refine (wdo_no wB w gW P wo b1 b2 va cP cV p m m3 a X B (i % P) _ hq hs.symm (by rw [C.sl]; exact C.ng) C.tm C.h0 hck (by omega) 2 eg (by decide) hStep (by rw [e2]; rfl)).mono ?_
      rintro e w' ⟨p3, rfl, hK, B'⟩
      refine ⟨2, eg, _, rfl, p3, m3, a, X, _, _, _, B', ?_, hW3, ?_, ?_, ?_, ?_, ?_, ?_, rfl, ⟨hK.2.2.1, hK.2.2.2.1.trans vt, hK.2.2.2.2.trans vr⟩, hvf, hck, hva, ?_⟩
      · refine Rel.moved R W hW3 (by rw [e2]; rfl) (by rw [e2]; rfl) (fun j => by rw [e2]; exact ⟨rfl, rfl, rfl, rfl⟩) (fun j _ => ?_) (by rw [e2]; rfl)
        by_cases e : j = g
        · subst e; rw [updV_same, hl]; rfl
        · rw [updV_other _ _ e]
      · have hsl := hW3.sl
        rw [e2] at hsl ⊢
        exact hbase rfl rfl rfl rfl rfl rfl rfl rfl rfl hsl C.ng C.cl
      · rw [e2]
        exact ((K.tick (i % P)).away (i % P) g).le (by omega)
      · rw [e2]; exact hnp
      · rw [e2]; exact hfs
      · rw [e2]; exact hJ
      · rw [e2]; show m.cms.length ≤ i + 1; omega
      · rw [e2]
        have hb : (m.ps (i % P)).g = (g : Nat) := by
          rcases W.rn _ hqm with ⟨-, h1⟩ | ⟨g0, -, h1, h2⟩
          · exact absurd hl (h1 g hg)
          · rw [(h2 g hg).1 hl]; exact h1
        have hS : SrvR m (tickA m (i % P)) (i % P) g (((i % P + 1) % P : Nat) : Int) := .inl ⟨hb, rfl⟩
        have hZ1 := O.zsrv m _ loc loc _ g _ hZ W (W.tick _) hqm hS
        exact O.zaw _ X loc _ g hJ (srvRel _ g loc hS.srv hg (.inr (by rw [hl])) (fun j _ => .inl rfl) (W.tick _) hl) (W.tick _) hZ1 hqm hg (by rw [tick_ps]; exact hb) (by rw [tick_ps]; exact hr16) hrn0
    · -- an instruction
      subst e1 e2
      have hZ1 := O.zsrv m m1 loc loc1 (i % P) g _ hZ W hW1 hqm hS
      have hS := hS.srv
      obtain ⟨s1, s2, s3, s4, s5, s6, s7, s8, s9, s10, s11, -, s12⟩ := hS.stays
      obtain ⟨Kc1, Kr1⟩ := (hS.cn K).cnts (by omega) (q := i % P) (by rw [s1]; exact hqm)
      have hat : AtZ P fs J Z m1 X loc1 (i % P) g := ⟨by rw [s11]; exact hJ, srvRel m1 g loc1 hS hg hlk hoth hW1 hl1, hW1, by rw [s2]; exact hfs, by rw [s1]; exact hnp, by rw [s1]; exact hqm, by rw [s3]; exact hg, hl1, Kr1, by rw [s7]; exact C.h0, by rw [s11]; omega, by rw [s3]; exact hn, by rw [s9]; exact C.ob, hZ1, hrr⟩
      obtain ⟨loc3, hW3, R3, hcm, hst, hZ3⟩ := O.after m1 X loc1 (i % P) g hat
      have hXst := hst1 g hg hlk
      obtain ⟨-, hn1⟩ := O.next m X hJ R hfs g hg hXst
      obtain ⟨t1, t2, t3⟩ := O.tell X g (nx X g)
      rw [← e3] at hW3 R3 hcm hst hZ3
      rw [s11] at hcm
      have hJ3 := O.keep X m.cms g hJ (by rw [R.n]; exact hg) hXst
      have hn3 : m3.ng ≤ 1024 := by rw [← R3.n]; exact O.small _ _ hJ3
      refine (wdo_ok wB w gW P wo b1 b2 va cP cV p m m3 a X (dx X g (nx X g)) B (i % P) g _ (tx X g (nx X g)) hq hs.symm (by rw [C.sl]; exact C.ng) C.tm C.h0 hck (by omega) hStep hcm t1 (by rw [t2]; omega) (fun e => ⟨t3 (by rw [t2] at e; omega), hva⟩) (fun w' c' hX' => by rw [t1]; exact O.mod w' a X m.cms g hX' hJ (by rw [R.fs]; exact hfs) hvf c' (by rw [R.n]; exact hg) hXst)).mono ?_
      rintro e w' ⟨p3, a', rfl, hK, B', e4, e5, e6⟩
      refine ⟨1, (g : Nat), _, rfl, p3, m3, a', _, loc3, _, _, B', R3, hW3, ?_, ?_, ?_, ?_, ?_, ?_, rfl, ⟨hK.2.2.1, hK.2.2.2.1.trans vt, hK.2.2.2.2.trans vr⟩, e4.trans hvf, e5.trans hck, by rw [e6]; exact hva, hZ3⟩
      · exact hbase (hst.np.trans s1) (hst.fs.trans s2) (hst.tm.trans s4) (hst.made.trans s5) (hst.out.trans s6) (hst.ph.trans s7) (hst.fo.trans s8) (hst.A.trans s9) (hst.gT.trans s10) hW3.sl (by omega) (by rw [hcm, List.length_append, List.length_singleton]; omega)
      · exact (hst.cn (hS.cn K)).le (by omega)
      · exact (hst.np.trans s1).trans hnp
      · exact (hst.fs.trans s2).trans hfs
      · rw [hcm]; exact hJ3
      · rw [hcm, List.length_append, List.length_singleton]; omega
theorem gorC_set (x : GorA) {j : Nat} (hj : j < 16) (v : Int) : (gorC x).setIfInBounds (3 + j) (.int .i64 v) = gorC { x with st := updV x.st j v } := by
  have h : j = 0 ∨ j = 1 ∨ j = 2 ∨ j = 3 ∨ j = 4 ∨ j = 5 ∨ j = 6 ∨ j = 7 ∨ j = 8 ∨ j = 9 ∨ j = 10 ∨ j = 11 ∨ j = 12 ∨ j = 13 ∨ j = 14 ∨ j = 15 := by omega
  rcases h with rfl | rfl | rfl | rfl | rfl | rfl | rfl | rfl | rfl | rfl | rfl | rfl | rfl | rfl | rfl | rfl <;> (show _ = _; kernel_rfl)
section
variable {W : Bs} {w : World} {p : MAt} {m : Mac} (M : MM W w p m)
include M
theorem dat_move (q g : Nat) (i : Ins) (hi : i.o = 4) (hg : g < m.ng) (ha : i.a < 16) (hb : i.b < 16) : Calls Tryz.prog 225 #[.pointer (some ⟨p.gm, 0, none⟩), .int .i64 (q : Nat), .pointer (some ⟨p.bg g, 0, none⟩), insV i] w (CtPost W p (setGor m g { m.gs g with st := updV (m.gs g).st i.a ((m.gs g).st i.b) }) 0) := by
  obtain ⟨io, ia, ib, ic⟩ := i
  have hi : io = 4 := hi
  subst hi
  have ha : ia < 16 := ha
  have hb : ib < 16 := hb
  have a0 : (0 : Int) ≤ ia := by omega
  have a1 : (ia : Int) < 16 := by omega
  have b0 : (0 : Int) ≤ ib := by omega
  have b1 : (ib : Int) < 16 := by omega
  have HM := Lib.hid M; clear M
  unfold insV
  go_enter Tryz.func225, Tryz.ntmps225
  go_upto_region 1 with fail
  obtain ⟨gI, hgI⟩ : ∃ g', g' = w.heap.size := ⟨_, rfl⟩
  obtain ⟨w1, hw1⟩ : ∃ w1, w1 = w.alloc (.cells #[.int .i64 4, .int .i64 (ia : Nat), .int .i64 (ib : Nat), .int .i64 (ic : Nat)] 33) := ⟨_, rfl⟩
  rw [← hw1, ← hgI]
  have BI : Blk w1 gI 33 #[.int .i64 4, .int .i64 (ia : Nat), .int .i64 (ib : Nat), .int .i64 (ic : Nat)] := by rw [hw1, hgI]; exact Blk.new _ _ _
  have c01 : Chg [] w w1 := by rw [hw1]; exact (Chg.refl [] w).alloc _
  have M1 := HM.out.chg0 c01
  have i0 : w1.cell? ⟨gI, 0, none⟩ = some (.int .i64 4) := BI.cellv 0 rfl
  have i1 : w1.cell? ⟨gI, 1, none⟩ = some (.int .i64 (ia : Nat)) := BI.cellv 1 rfl
  have i2 : w1.cell? ⟨gI, 2, none⟩ = some (.int .i64 (ib : Nat)) := BI.cellv 2 rfl
  have sb : w1.cell? ⟨p.bg g, 3 + ib, none⟩ = some (.int .i64 ((m.gs g).st ib)) := (M1.gb hg).cellv (3 + ib) (gorC_at _ hb)
  have lI := BI.lt
  have lG := (M1.gb hg).lt
  clear hw1 hgI
  have H1 := Lib.hid (And.intro M1 (And.intro c01 BI)); clear M1 c01 BI
  go_upto_region 9 with fail
  refine wp_region_takes (fuel := 2) 12 (fun w' => Chg [] w1 w') [0, 1, 2, 3, 4, 5, 6, 7, 8, 9, 10, 11] (by kernel_rfl) (by kernel_rfl) (fun _ _ _ _ _ h => h) ((Chg.refl [] w1).drew) ?_
  simp only [List.filterMap_cons, List.filterMap_nil, qGa, qGb]
  iterate 12
    refine wpTake_step (fun K hK => ?_)
    rw [if_pos (by rfl)]
    refine ⟨?_, fun w' hS' => ?_, ?_⟩
    rotate_left 1
    focus
      have j0 := hS'.cellv lI (by simp) i1
      have j1 := hS'.cellv lI (by simp) i2
      have j2 := hS'.cellv lG (by simp) sb
      go_simp
      try with_reducible rfl
      done
    simp only [Act.put, qSa, qSb, qSc]
    refine hK _ ?_
    clear hK K
  refine wpTake_nil ?_
  generalize hx0 : w1.drew = x0
  have D0 : Chg [] w1 x0 := by rw [← hx0]; exact (Chg.refl [] w1).drew
  clear hx0
  refine wpAnyS_tail 12 2 (by kernel_rfl) rfl ?_
  simp only [qDa, qDb]
  have M2 := H1.out.1.chg0 D0
  have sa : x0.cell? ⟨p.bg g, 3 + ia, none⟩ = some (.int .i64 ((m.gs g).st ia)) := (M2.gb hg).cellv (3 + ia) (gorC_at _ ha)
  have fa := (M2.gb hg).frozen (3 + ia)
  have H2 := Lib.hid M2; clear M2 D0 i0 i1 i2 sb
  go_wp2_with fail
  go_ret
  exact ⟨rfl, by
    have h := H2.out.gset hg (3 + ia) (.int .i64 ((m.gs g).st ib)) { m.gs g with st := updV (m.gs g).st ia ((m.gs g).st ib) } (gorC_set _ ha _)
    exact h⟩
end
def faultV : List PanicEntry := [{ v := .iface 317 (.agg #[]), recovered := false }]
def ThPost (w : World) (e : Ending) (w' : World) : Prop := e = .panicked faultV ∧ Chg [] w w'
theorem run_tf_fault (w : World) : (Instr.typeAssert (.iface 317 (.agg #[])) 20 317 true).run Tryz.prog w = .ok (.tuple #[.agg #[], .bool true]) w := by kernel_rfl
section
variable {W : Bs} {w : World} {p : MAt} {m : Mac} (M : MM W w p m)
include M
end
section
variable (w : World) (gC gT : Nat) (c : ComA) (t : Int) (hC : Blk w gC 59 (comC c).toArray) (hT : Blk w gT 3 #[.int .i64 t])
include hC hT
theorem cm_catch : CallsD Tryz.prog 224 #[.pointer (some ⟨gC, 0, none⟩), .pointer (some ⟨gT, 0, none⟩)] (.panicking faultV) w fun e u' w' => e = .returned (.tuple #[]) ∧ settle u' = .returning ∧ Blk w' gC 59 (comC { c with v := 0, flt := true }).toArray ∧ Blk w' gT 3 #[.int .i64 5] ∧ Chg [gC, gT] w w' := by
  refine callsD_of_wpS Tryz.func224 rfl fun c₀ cs hu => ?_
  apply wpS_seq
  apply wpS_region
  simp [wpOpsS, go_sem, recoverD, hu, faultV, run_tf_fault, Tryz.ntmps224, Exit.thenS]
  rw [tm12]
  refine wpS_of_wp ?_
  obtain ⟨w1, hw1⟩ : ∃ w1, w1 = w.alloc (.cells #[] 317) := ⟨_, rfl⟩
  have c01 : Chg [] w w1 := by rw [hw1]; exact (Chg.refl _ _).alloc _
  rw [← hw1]
  clear hw1
  have C1 := c01.blk hC (by simp)
  have T1 := c01.blk hT (by simp)
  have n1 : gT ≠ gC := hT.ne_ hC (by decide)
  have z4 : w1.cell? ⟨gC, 4, none⟩ = some (.int .i64 c.v) := C1.cellv 4 rfl
  have z5 : w1.cell? ⟨gC, 5, none⟩ = some (.bool c.flt) := C1.cellv 5 rfl
  have z0 : w1.cell? ⟨gT, 0, none⟩ = some (.int .i64 t) := T1.cellv 0 rfl
  have f4 := C1.frozen 4
  have f5 := C1.frozen 5
  have f0 := T1.frozen 0
  have HX := Lib.hid (And.intro C1 (And.intro T1 c01)); clear C1 T1 c01 hC hT
  go_wp2_with fail
  have C2 := (HX.out.1.setv 4 (.int .i64 0) (cs' := (comC { c with v := 0 }).toArray) rfl).setv 5 (.bool true) (cs' := (comC { c with v := 0, flt := true }).toArray) rfl
  have C3 := C2.far (p := ⟨gT, 0, none⟩) n1.symm (.int .i64 5)
  have T2 := (HX.out.2.1.far (p := ⟨gC, 4, none⟩) n1 (.int .i64 0)).far (p := ⟨gC, 5, none⟩) n1 (.bool true)
  have T3 := T2.setv 0 (.int .i64 5) (cs' := #[.int .i64 5]) rfl
  have D3 := ((((Chg.refl [gC, gT] w1).setCell (p := ⟨gC, 4, none⟩) (.inl (by simp)) (.int .i64 0)).setCell (p := ⟨gC, 5, none⟩) (.inl (by simp)) (.bool true)).setCell (p := ⟨gT, 0, none⟩) (.inl (by simp)) (.int .i64 5))
  refine ⟨rfl, _, rfl, _, by simp [results, Tryz.results224], rfl, rfl, C3, T3, (HX.out.2.2.mono (by simp)).trans D3⟩
end
section
variable {w0 w : World} {gC gT gI gA gY gM gp gg : Nat} {c : ComA} {i : Ins} {addr : Int} {yb gm q g : Nat} {D : List Nat} {p : MAt} {m : Mac} {Q : MAt → Prop}
theorem in_data (K : CmW w0 gC gT gI gA gY gM gp gg c 2 i addr yb gm q g w) (hi : i.o = 4) (hn : ∀ k ∈ [gC, gT, gI, gA, gY, gM, gp, gg], k ∉ D) (m2 : Mac) (v : Int)
    (hc : Calls Tryz.prog 225 #[.pointer (some ⟨gm, 0, none⟩), .int .i64 (q : Nat), .pointer (some ⟨yb, 0, none⟩), insV i] w (CtlPost D w Q m2 v)) :
    Calls Tryz.prog 223 #[.pointer (some ⟨gC, 0, none⟩), .pointer (some ⟨gT, 0, none⟩), .pointer (some ⟨gI, 0, none⟩), .pointer (some ⟨gA, 0, none⟩), .pointer (some ⟨gY, 0, none⟩), .pointer (some ⟨gM, 0, none⟩), .pointer (some ⟨gp, 0, none⟩), .pointer (some ⟨gg, 0, none⟩)] w (InnrPost D w gC gT Q m2 { c with v := v } 2) := by
  have hmf : ∀ (fn : Fn) (first cap : Array Value) (w : World), (Instr.makeFunc fn first cap).run Tryz.prog w = .ok (.func fn first cap) w := fun _ _ _ _ => rfl
  obtain ⟨io, ia, ib, ic⟩ := i
  have hi : io = 4 := hi
  subst hi
  have i0 : w.cell? ⟨gI, 0, none⟩ = some (.int .i64 4) := K.I.cellv 0 rfl
  have i1 : w.cell? ⟨gI, 1, none⟩ = some (.int .i64 (ia : Nat)) := K.I.cellv 1 rfl
  have i2 : w.cell? ⟨gI, 2, none⟩ = some (.int .i64 (ib : Nat)) := K.I.cellv 2 rfl
  have i3 : w.cell? ⟨gI, 3, none⟩ = some (.int .i64 (ic : Nat)) := K.I.cellv 3 rfl
  have m0 : w.cell? ⟨gM, 0, none⟩ = some (.pointer (some ⟨gm, 0, none⟩)) := K.M.cellv 0 rfl
  have p0 : w.cell? ⟨gp, 0, none⟩ = some (.int .i64 (q : Nat)) := K.p.cellv 0 rfl
  have y0 : w.cell? ⟨gY, 0, none⟩ = some (.pointer (some ⟨yb, 0, none⟩)) := K.Y.cellv 0 rfl
  have HK := Lib.hid (And.intro K (And.intro hn hc)); clear K hn hc
  go_enter_defers Tryz.func223, Tryz.ntmps223
  go_wp2_with fail
  refine (HK.out.2.2).mono ?_
  rintro e w2 ⟨rfl, p2, hQ2, M2⟩
  have C2 := M2.c.blk HK.out.1.C (HK.out.2.1 _ (by simp))
  have T2 := M2.c.blk HK.out.1.T (HK.out.2.1 _ (by simp))
  have z4 : w2.cell? ⟨gC, 4, none⟩ = some (.int .i64 c.v) := C2.cellv 4 rfl
  have f4 := C2.frozen 4
  have H2 := Lib.hid (And.intro hQ2 (And.intro M2 (And.intro C2 T2))); clear hQ2 M2 C2 T2
  go_wp2_with fail
  refine leaves_cons (f := 224) (args := #[.pointer (some ⟨gC, 0, none⟩), .pointer (some ⟨gT, 0, none⟩)]) (by simp) (by simp [go_sem]) ?_
  refine (cm_catch_idle _ _ _).mono ?_
  rintro e u' w'' ⟨rfl, rfl, c'⟩
  show Leaves _ _ _ _ [] .returning w''
  have C3 := H2.out.2.2.1.setv 4 (.int .i64 v) (cs' := (comC { c with v := v }).toArray) rfl
  have n2 : gT ≠ gC := fun e => HK.out.1.C.ne_ HK.out.1.T (by decide) e.symm
  have T3 := H2.out.2.2.2.far (p := ⟨gC, 4, none⟩) n2 (.int .i64 v)
  exact ⟨_, results_none rfl _ _ _, rfl, w2, p2, H2.out.1, H2.out.2.1, (((Chg.refl [gC] w2).setCell (.inl (by simp)) (.int .i64 v)).trans (c'.mono (by simp))).mono (by simp), c'.blk C3 (by simp), c'.blk T3 (by simp)⟩
end
theorem st_full (w : World) (g : Nat) (v : Value) (xs : List Int) (I : IsSt w g v xs) (hl : xs.length = 1024) : Calls Tryz.prog 113 #[.pointer (some ⟨g, 0, none⟩)] w (QuPost (.tuple #[.int .i64 0, .int .i64 3]) w) := by
  obtain ⟨A, c, hv⟩ := I.o.slice
  have c0 : w.cell? ⟨g, 0, none⟩ = some v := I.b.cellv 0 rfl
  rw [hv, hl] at c0
  clear I hv hl
  go_enter Tryz.func113, Tryz.ntmps113
  go_wp2_with fail
  go_ret2
  exact ⟨rfl, rfl⟩
section
variable {W : Bs} {w : World} {p : MAt} {m : Mac} (M : MM W w p m)
include M
theorem m_spawn_full (q : Nat) (F x : Int) (hsl : m.sts.length = 1024) : Calls Tryz.prog 63 #[.pointer (some ⟨p.gm, 0, none⟩), .int .i64 (q : Nat), .int .i64 F, .int .i64 x] w (QuPost (.int .i64 (-1)) w) := by
  have KS := st_full w p.gst p.vst m.sts M.st hsl
  have c7 : w.cell? ⟨p.gm, 7, none⟩ = some (.pointer (some ⟨p.gst, 0, none⟩)) := M.mb.cellv 7 rfl
  have HM := Lib.hid (And.intro M KS); clear M KS
  go_enter Tryz.func63, Tryz.ntmps63
  go_wp2_with fail
  refine (HM.out.2).mono ?_
  rintro e w1 ⟨rfl, rfl⟩
  go_wp2_with fail
  go_ret
  exact ⟨rfl, rfl⟩
theorem ctl_full (q g : Nat) (i : Ins) (hi : i.o = 8) (hg : g < m.ng) (ha : i.a < 256) (hb : i.b < 256) (hb16 : i.b < 16) (hsl : m.sts.length = 1024) : Calls Tryz.prog 228 #[.pointer (some ⟨p.gm, 0, none⟩), .int .i64 (q : Nat), .pointer (some ⟨p.bg g, 0, none⟩), insV i] w (ThPost w) := by
  obtain ⟨io, ia, ib, ic⟩ := i
  have hi : io = 8 := hi
  subst hi
  have ha : (ia : Int) < 256 := by have h : ia < 256 := ha; omega
  have hb : (ib : Int) < 256 := by have h : ib < 256 := hb; omega
  have hmf : ∀ (fn : Fn) (first cap : Array Value) (w : World), (Instr.makeFunc fn first cap).run Tryz.prog w = .ok (.func fn first cap) w := fun _ _ _ _ => rfl
  have HM := Lib.hid M; clear M
  unfold insV
  go_enter Tryz.func228, Tryz.ntmps228
  go_upto_region 2 with fail
  obtain ⟨gY, hgY⟩ : ∃ g', g' = w.heap.size := ⟨_, rfl⟩
  obtain ⟨gI, hgI⟩ : ∃ g', g' = w.heap.size + 1 := ⟨_, rfl⟩
  obtain ⟨w1, hw1⟩ : ∃ w1, w1 = (w.alloc (.cells #[.pointer (some ⟨p.bg g, 0, none⟩)] 115)).alloc (.cells #[.int .i64 8, .int .i64 (ia : Nat), .int .i64 (ib : Nat), .int .i64 (ic : Nat)] 33) := ⟨_, rfl⟩
  rw [← hw1, ← hgI, ← hgY]
  have V1 : CtV w gY gI (p.bg g) ⟨8, ia, ib, ic⟩ w1 := by rw [hw1, hgY, hgI]; exact CtV.mk_ w (p.bg g) ⟨8, ia, ib, ic⟩
  have M1 := HM.out.chg0 V1.c
  have y0 : w1.cell? ⟨gY, 0, none⟩ = some (.pointer (some ⟨p.bg g, 0, none⟩)) := V1.Y.cellv 0 rfl
  have i0 : w1.cell? ⟨gI, 0, none⟩ = some (.int .i64 8) := V1.I.cellv 0 rfl
  have i1 : w1.cell? ⟨gI, 1, none⟩ = some (.int .i64 (ia : Nat)) := V1.I.cellv 1 rfl
  have i2 : w1.cell? ⟨gI, 2, none⟩ = some (.int .i64 (ib : Nat)) := V1.I.cellv 2 rfl
  have i3 : w1.cell? ⟨gI, 3, none⟩ = some (.int .i64 (ic : Nat)) := V1.I.cellv 3 rfl
  clear hw1 hgY hgI
  have hib : ib < 16 := hb16
  have hib2 : (ib : Int) < 16 := by omega
  have gs := (M1.gb hg).cellv (3 + ib) (gorC_at3 (m.gs g) hib)
  obtain ⟨x, hx⟩ : ∃ x, x = (m.gs g).st ib := ⟨_, rfl⟩
  rw [← hx] at gs
  have KS := fun w' (c' : Chg [] w1 w') => m_spawn_full (M1.chg0 c') q (ia : Nat) x hsl
  have HK := Lib.hid (And.intro V1 (And.intro M1 (And.intro KS hx))); clear V1 M1 KS hx hsl
  go_upto_region 4 with fail
  go_still_tail 11, (by kernel_rfl)
  change wpList _ _ _ _ _ w1.drew
  go_wp2_with fail
  refine (HK.out.2.2.1 w1.drew (Chg.refl [] w1).drew).mono ?_
  rintro e w3 ⟨rfl, rfl⟩
  go_wp2_with fail
  exact ⟨rfl, rfl, HK.out.1.c.trans (Chg.refl [] w1).drew⟩
end
section
variable {w0 w : World} {gC gT gI gA gY gM gp gg : Nat} {c : ComA} {i : Ins} {addr : Int} {yb gm q g : Nat} {D : List Nat} {p : MAt} {m : Mac} {Q : MAt → Prop}
theorem in_fault8 (K : CmW w0 gC gT gI gA gY gM gp gg c 2 i addr yb gm q g w) (hi : i.o = 8) (M : MM ⟨w, D⟩ w p m) (hQ : Q p)
    (hc : Calls Tryz.prog 228 #[.pointer (some ⟨gm, 0, none⟩), .int .i64 (q : Nat), .pointer (some ⟨yb, 0, none⟩), insV i] w (ThPost w)) :
    Calls Tryz.prog 223 #[.pointer (some ⟨gC, 0, none⟩), .pointer (some ⟨gT, 0, none⟩), .pointer (some ⟨gI, 0, none⟩), .pointer (some ⟨gA, 0, none⟩), .pointer (some ⟨gY, 0, none⟩), .pointer (some ⟨gM, 0, none⟩), .pointer (some ⟨gp, 0, none⟩), .pointer (some ⟨gg, 0, none⟩)] w (InnrPost D w gC gT Q m { c with v := 0, flt := true } 5) := by
  have hmf : ∀ (fn : Fn) (first cap : Array Value) (w : World), (Instr.makeFunc fn first cap).run Tryz.prog w = .ok (.func fn first cap) w := fun _ _ _ _ => rfl
  obtain ⟨io, ia, ib, ic⟩ := i
  have hi : io = 8 := hi
  subst hi
  have i0 : w.cell? ⟨gI, 0, none⟩ = some (.int .i64 8) := K.I.cellv 0 rfl
  have i1 : w.cell? ⟨gI, 1, none⟩ = some (.int .i64 (ia : Nat)) := K.I.cellv 1 rfl
  have i2 : w.cell? ⟨gI, 2, none⟩ = some (.int .i64 (ib : Nat)) := K.I.cellv 2 rfl
  have i3 : w.cell? ⟨gI, 3, none⟩ = some (.int .i64 (ic : Nat)) := K.I.cellv 3 rfl
  have m0 : w.cell? ⟨gM, 0, none⟩ = some (.pointer (some ⟨gm, 0, none⟩)) := K.M.cellv 0 rfl
  have p0 : w.cell? ⟨gp, 0, none⟩ = some (.int .i64 (q : Nat)) := K.p.cellv 0 rfl
  have y0 : w.cell? ⟨gY, 0, none⟩ = some (.pointer (some ⟨yb, 0, none⟩)) := K.Y.cellv 0 rfl
  have HK := Lib.hid (And.intro K (And.intro M (And.intro hQ hc))); clear K M hQ hc
  go_enter_defers Tryz.func223, Tryz.ntmps223
  go_wp2_with fail
  refine (HK.out.2.2.2).mono ?_
  rintro e w2 ⟨rfl, c2⟩
  have C2 := c2.blk HK.out.1.C (by simp)
  have T2 := c2.blk HK.out.1.T (by simp)
  have M2 := HK.out.2.1.chg0 c2
  have H2 := Lib.hid (And.intro M2 (And.intro C2 T2)); clear M2 C2 T2 c2
  refine leaves_cons (f := 224) (args := #[.pointer (some ⟨gC, 0, none⟩), .pointer (some ⟨gT, 0, none⟩)]) (by simp) (by simp [go_sem]) ?_
  refine (cm_catch w2 gC gT c 2 H2.out.2.1 H2.out.2.2).mono ?_
  rintro e u' w'' ⟨rfl, hu, C3, T3, c3⟩
  show Leaves _ _ _ _ [] (settle u') w''
  rw [hu]
  exact ⟨_, results_none rfl _ _ _, rfl, w2, p, HK.out.2.2.1, H2.out.1, c3, C3, T3⟩
end
end Go.Proofs.YtcpljjacamibeaaGreatDoor
