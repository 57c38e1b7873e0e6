/- Package machine: one Step of a P that takes a goroutine, wherever it comes from, or finds nobody, or goes on. (Printed by wip/genmj5.py.) -/
import Derived.Test.YtcpljjacamibeaaGreatDoorMg5J
import Derived.Test.YtcpljjacamibeaaGreatDoorMj3J
namespace Go.Proofs.YtcpljjacamibeaaGreatDoor
set_option maxHeartbeats 16000000
set_option maxRecDepth 100000
open Go.RowKit Go.Maps
def RunE (W : Bs) (R : MAt → Prop) (m3 : Mac) (ek eg : Int) (e : Ending) (w' : World) : Prop := ∃ p3, e = .returned (evV ek eg 0) ∧ R p3 ∧ MM W w' p3 m3
section
variable {W : Bs} {w : World} {p : MAt} {m : Mac} (M : MM W w p m)
include M
theorem m_work_off (q : Nat) (h0 : m.ph.ph = 0) : Calls Tryz.prog 88 #[.pointer (some ⟨p.gm, 0, none⟩), .int .i64 (q : Nat), .int .i64 (-1)] w (NwPost (.bool false) w) := by
  have c15 : w.cell? ⟨p.gm, 15, none⟩ = some (.pointer (some ⟨p.gph, 0, none⟩)) := M.mb.cellv 15 rfl
  have KP := ph_phase_ok p.gph p.bsd m.ph w M.ph
  rw [h0] at KP
  have HK := Lib.hid KP; clear KP M
  go_enter Tryz.func88, Tryz.ntmps88
  go_wp2_with fail
  refine HK.out.mono ?_
  rintro e w1 ⟨rfl, rfl⟩
  go_wp2_with fail
  go_ret
  exact ⟨rfl, Chg.refl [] _⟩
theorem m_step_some (q g : Nat) (vic : Int) (hq : q < m.np) (hP : m.np ≤ 64) (hg : g < m.ng) (hpg : (m.ps q).g = -1) (hvt : p.vtm = .slice none 0 0) (htm : m.tm = []) (hmade : m.made = 0) (hvf : p.vfr = .slice none 0 0)
    (hout : m.out = false) (hstV : stV m = 0) (h0 : m.ph.ph = 0) (hfo : m.force = 0) (hcy : 0 ≤ m.ph.cyc) (hlv : m.A.a.live = 0) (hT : 0 < m.gT) (wk al pk sp ck : Nat) (hwk : (m.ps q).worked = wk) (hal : (m.ps q).all = al) (hpk : (m.ps q).picks = pk) (hsp : m.steps = sp) (hck : m.clock = ck) (bwk : wk ≤ 1000000) (bal : al + 1 ≤ 1000000) (bpk : pk ≤ 1000000) (bsp : sp ≤ 1000000) (bck : ck ≤ 1000000)
    (r2 : Nat → RgR) (hPk : PkK p m q vic r2 (g : Nat) true) (hst : m.sts[g]? = some 1) (hsl : m.sts.length ≤ 1024)
    (R : MAt → Prop) (m3 : Mac) (ek eg : Int) (hRun : ∀ (B : Bs) (w' : World), MM B w' p (takeG (tickA m q) q g r2) → Calls Tryz.prog 87 #[.pointer (some ⟨p.gm, 0, none⟩), .int .i64 (q : Nat)] w' (RunE B R m3 ek eg)) :
    Calls Tryz.prog 33 #[.pointer (some ⟨p.gm, 0, none⟩), .agg #[.int .i64 (q : Nat), .int .i64 vic, .bool false, .int .i64 0]] w (RunE W R m3 ek eg) := by
  have HR0 := Lib.hid hRun; clear hRun
  have HM := Lib.hid M
  clear M
  go_enter Tryz.func33, Tryz.ntmps33
  go_upto_region 1 with fail
  generalize hw1 : World.alloc (World.alloc w _) _ = w1
  have BB : Blk w1 w.heap.size 43 #[.int .i64 (q : Nat), .int .i64 vic, .bool false, .int .i64 0] := by
    rw [← hw1]; exact (Blk.new w _ _).alloc _
  have BE : Blk w1 (w.heap.size + 1) 48 #[.int .i64 0, .int .i64 0, .int .i64 0] := by
    rw [← hw1]
    have h := Blk.new (w.alloc (.cells #[.int .i64 (q : Nat), .int .i64 vic, .bool false, .int .i64 0] 43)) 48 #[.int .i64 0, .int .i64 0, .int .i64 0]
    simp only [World.size_alloc] at h
    exact h
  have c01 : Chg [] w w1 := by rw [← hw1]; exact ((Chg.refl [] w).alloc _).alloc _
  have M1 := HM.out.chg0 c01
  clear hw1
  obtain ⟨gE, hgE⟩ : ∃ gE, gE = w.heap.size + 1 := ⟨_, rfl⟩
  obtain ⟨gB, hgB⟩ : ∃ gB, gB = w.heap.size := ⟨_, rfl⟩
  rw [← hgE] at BE ⊢
  rw [← hgB] at BB ⊢
  have hnB : w.heap.size ≤ gB := by omega
  have hnE : w.heap.size ≤ gE := by omega
  have hne : gB ≠ gE := by omega
  have zf := M1.mb.frozen 25
  have zc : w1.cell? ⟨p.gm, 25, none⟩ = some (.slice none 0 0) := by rw [← hvf]; exact M1.mb.cellv 25 rfl
  have H1 := Lib.hid (And.intro M1 (And.intro BB (And.intro BE (And.intro hnB (And.intro hnE hne))))); clear M1 BB BE hnB hnE hne hgE hgB c01
  go_upto_region 3 with fail
  have B2 := H1.out.1.mset (p' := p) (m' := m) 25 (.slice none 0 0) rfl (by unfold mC; simp [hvf]) (fun _ _ => ⟨rfl, fun _ => rfl⟩)
  obtain ⟨w2, hw2⟩ : ∃ w2, w2 = w1.setCell ⟨p.gm, 25, none⟩ (.slice none 0 0) := ⟨_, rfl⟩
  rw [← hw2] at B2 ⊢
  have c12 : Chg [p.gm] w1 w2 := by rw [hw2]; exact (Chg.refl _ w1).setCell (.inl (by simp)) _
  have hgm := HM.out.mb.lt
  have b2 := c12.blk H1.out.2.1 (by have := H1.out.2.2.2.1; simp; omega)
  have b3 := c12.blk H1.out.2.2.1 (by have := H1.out.2.2.2.2.1; simp; omega)
  have b0 : w2.cell? ⟨gB, 0, none⟩ = some (.int .i64 (q : Nat)) := b2.cellv 0 rfl
  have KH := m_has B2 q hq
  have KS := m_status B2 (by omega) (by rw [htm]; simp)
  rw [hstV] at KS
  have H2 := Lib.hid (And.intro B2 (And.intro b2 (And.intro b3 (And.intro KH KS)))); clear B2 b2 b3 KH KS c12 hw2 zf zc
  go_upto_region 4 with fail
  go_wp2_with fail
  refine (H2.out.2.2.2.1).mono ?_
  rintro e w3 ⟨rfl, rfl⟩
  go_wp2_with fail
  refine (H2.out.2.2.2.2).mono ?_
  rintro e w4 ⟨rfl, kk, hw4⟩
  have c24 : Chg [] w3 w4 := by rw [hw4]; exact (Chg.refl [] w3).drewN _
  have M4 := H2.out.1.chg0 c24
  have b2 := c24.blk H2.out.2.1 (by simp)
  have b3 := c24.blk H2.out.2.2.1 (by simp)
  obtain ⟨b9, cap9, c9, hps⟩ := M4.psl
  obtain ⟨hv9, hb9, -⟩ := hps q hq
  rw [hv9] at c9
  have e1 : (0 : Int) ≤ q := by omega
  have e2 : (q : Int) < (m.np : Int) := by omega
  have s0 : w4.cell? ⟨p.gm, 26, none⟩ = some (.int .i64 (sp : Nat)) := by rw [← hsp]; exact M4.mb.cellv 26 rfl
  have s1 := M4.mb.frozen 26
  have a0 : w4.cell? ⟨p.bp q, 8, none⟩ = some (.int .i64 (al : Nat)) := by rw [← hal]; exact (M4.pb hq).cellv 8 rfl
  have a1 := (M4.pb hq).frozen 8
  have n1 : ¬ p.gm = p.bp q := M4.mb.ne_ (M4.pb hq) (by decide)
  have n2 : ¬ p.bp q = p.gm := fun e => n1 e.symm
  have H4 := Lib.hid (And.intro M4 (And.intro b2 b3)); clear M4 b2 b3 hps hv9 hw4 c24 b0
  go_upto_region 9 with fail
  obtain ⟨w5, hw5⟩ : ∃ w5, w5 = (w4.setCell ⟨p.gm, 26, none⟩ (.int .i64 ((sp : Int) + 1))).setCell ⟨p.bp q, 8, none⟩ (.int .i64 ((al : Int) + 1)) := ⟨_, rfl⟩
  have M5 : MM W w5 p (tickA m q) := by
    rw [hw5, ← hsp, ← hal]
    exact (H4.out.1.mset (p' := p) (m' := { m with steps := m.steps + 1 }) 26 _ rfl (by unfold mC; simp) (fun k hk => by cases k <;> first | exact absurd rfl hk | exact ⟨rfl, fun _ => rfl⟩)).pset (q := q) hq 8 _ { m.ps q with all := (m.ps q).all + 1 } rfl
  rw [← hw5]
  have c45 : Chg [p.gm, p.bp q] w4 w5 := by rw [hw5]; exact ((Chg.refl _ w4).setCell (.inl (by simp)) _).setCell (.inl (by simp)) _
  have hbq := (HM.out.pb hq).lt
  have b2 := c45.blk H4.out.2.1 (by have := H1.out.2.2.2.1; simp; omega)
  have b3 := c45.blk H4.out.2.2 (by have := H1.out.2.2.2.2.1; simp; omega)
  clear hw5 s0 s1 a0 a1 c45 c9 hb9
  obtain ⟨m5, hm5⟩ : ∃ m5, m5 = tickA m q := ⟨_, rfl⟩
  rw [← hm5] at M5
  have s0 : w5.cell? ⟨p.gm, 14, none⟩ = some (.int .i64 (ck : Nat)) := by rw [← hck]; have h : w5.cell? ⟨p.gm, 14, none⟩ = some (.int .i64 m5.clock) := M5.mb.cellv 14 rfl; rw [h, hm5]; rfl
  have t3 : w5.cell? ⟨gB, 3, none⟩ = some (.int .i64 0) := b2.cellv 3 rfl
  have H5 := Lib.hid (And.intro M5 (And.intro b2 (And.intro b3 hm5))); clear M5 b2 b3 hm5
  go_upto_region 9 with fail
  go_still_tail 12, (by kernel_rfl)
  change wpList _ _ _ _ _ w5.drew
  have M6 := H5.out.1.chg0 (Chg.refl [] w5).drew
  have b2 := H5.out.2.1.drew
  have b3 := H5.out.2.2.1.drew
  have f14 := M6.mb.frozen 14
  have s14 : w5.drew.cell? ⟨p.gm, 14, none⟩ = some (.int .i64 (ck : Nat)) := by rw [← hck]; have h : w5.drew.cell? ⟨p.gm, 14, none⟩ = some (.int .i64 m5.clock) := M6.mb.cellv 14 rfl; rw [h, H5.out.2.2.2]; rfl
  have H6 := Lib.hid (And.intro M6 (And.intro b2 b3)); clear M6 b2 b3
  go_upto_region 10 with fail
  have ec : m5.clock = ck := by rw [H5.out.2.2.2]; exact hck
  have M7 := (H5.out.1.mset (p' := p) (m' := m5) 14 (.int .i64 (ck : Nat)) rfl (by unfold mC; simp [ec]) (fun _ _ => ⟨rfl, fun _ => rfl⟩)).chg0 (Chg.refl [] _).drew
  clear ec
  have c57 : Chg [p.gm] w5 (w5.setCell ⟨p.gm, 14, none⟩ (.int .i64 (ck : Nat))).drew := ((Chg.refl _ w5).setCell (.inl (by simp)) _).drew
  obtain ⟨w7, hw7⟩ : ∃ w7, w7 = (w5.setCell ⟨p.gm, 14, none⟩ (.int .i64 (ck : Nat))).drew := ⟨_, rfl⟩
  rw [← hw7] at M7 c57 ⊢
  have b2 := c57.blk H5.out.2.1 (by have := H1.out.2.2.2.1; simp; omega)
  have b3 := c57.blk H5.out.2.2.1 (by have := H1.out.2.2.2.2.1; simp; omega)
  clear hw7 c57 s14 f14 t3 s0
  have KD : ∀ w', Chg [] w7 w' → Calls Tryz.prog 81 #[.pointer (some ⟨p.gtm, 0, none⟩), .int .i64 (ck : Nat)] w' (QuPost (.slice none 0 0) w') := fun w' c' => tm_due0 w' p.gtm (by
    have h := (show _ ∧ _ from (M7.chg0 c').k .timers).1
    rw [hvt] at h
    have e : m5.made = 0 := by rw [H5.out.2.2.2]; exact hmade
    rw [e] at h
    exact h) _
  have s11 : w7.cell? ⟨p.gm, 11, none⟩ = some (.pointer (some ⟨p.gtm, 0, none⟩)) := M7.mb.cellv 11 rfl
  have s14 : w7.cell? ⟨p.gm, 14, none⟩ = some (.int .i64 (ck : Nat)) := by rw [← hck]; have h : w7.cell? ⟨p.gm, 14, none⟩ = some (.int .i64 m5.clock) := M7.mb.cellv 14 rfl; rw [h, H5.out.2.2.2]; rfl
  have H7 := Lib.hid (And.intro M7 (And.intro b2 (And.intro b3 KD))); clear M7 b2 b3 KD
  go_wp2_with fail
  go_quiet ((go_at_call 81; exact Calls.quiet_of_same (H7.out.2.2.2 _ ((Chg.refl [] w7).drewN _))))
  obtain ⟨w8, hw8⟩ : ∃ w8, w8 = w7.drewN nq := ⟨_, rfl⟩
  rw [← hw8]
  have c78 : Chg [] w7 w8 := by rw [hw8]; exact (Chg.refl [] w7).drewN _
  have M8 := H7.out.1.chg0 c78
  have b2 := c78.blk H7.out.2.1 (by simp)
  have b3 := c78.blk H7.out.2.2.1 (by simp)
  clear hw8 c78 s11 s14
  have H8 := Lib.hid (And.intro M8 (And.intro b2 b3)); clear M8 b2 b3
  go_wp2_with fail
  go_loopg [71] 1 (fun gk idx wr => gk = 1 ∧ idx = .int .i64 0 ∧ wr = w8)
  case atStart => exact ⟨rfl, rfl, rfl⟩
  case round =>
    obtain ⟨rfl, rfl, rfl⟩ := hrel
    have t2 : wr.cell? ⟨gB, 2, none⟩ = some (.bool false) := H8.out.2.1.cellv 2 rfl
    have KC := m_collect H8.out.1 q (by rw [H5.out.2.2.2]; exact hq) (by rw [H5.out.2.2.2]; exact h0) (by rw [H5.out.2.2.2]; exact hfo) (by rw [H5.out.2.2.2]; exact hcy) (by rw [H5.out.2.2.2]; exact hlv) (by rw [H5.out.2.2.2]; exact hT) (by rw [H5.out.2.2.2]; exact hP) wk (al + 1) (by
      rw [H5.out.2.2.2]; show (updV m.ps q _ q).worked = _; rw [updV_same]; exact hwk) (by
      rw [H5.out.2.2.2]; show (updV m.ps q _ q).all = _; rw [updV_same]; show (m.ps q).all + 1 = _; rw [hal]; rfl) bwk bal
    have HKC := Lib.hid KC; clear KC
    go_wp2_with fail
    refine (HKC.out).mono ?_
    rintro e w9 ⟨rfl, c89⟩
    have M9 := H8.out.1.chg0 c89
    have b2 := c89.blk H8.out.2.1 (by simp)
    have b3 := c89.blk H8.out.2.2 (by simp)
    have x0 : w9.cell? ⟨p.bp q, 0, none⟩ = some (.int .i64 (-1)) := by
      have h : w9.cell? ⟨p.bp q, 0, none⟩ = some (.int .i64 (m5.ps q).g) := (M9.pb (by rw [H5.out.2.2.2]; exact hq)).cellv 0 rfl
      rw [h, H5.out.2.2.2]; show some (Value.int .i64 (updV m.ps q _ q).g) = _; rw [updV_same]; show some (Value.int .i64 (m.ps q).g) = _; rw [hpg]
    have t1 : w9.cell? ⟨gB, 1, none⟩ = some (.int .i64 vic) := b2.cellv 1 rfl
    have hb := b2.lt
    have hp9 := (M9.pb (q := q) (by rw [H5.out.2.2.2]; exact hq)).lt
    have H9 := Lib.hid (And.intro M9 (And.intro b2 b3)); clear M9 b2 b3 c89 t2
    go_upto_region 19 with fail
    obtain ⟨w10, hw10⟩ : ∃ w10, w10 = w9.alloc (.cells #[.int .i64 0, .int .i64 0, .int .i64 0] 48) := ⟨_, rfl⟩
    rw [← hw10]
    have c910 : Chg [] w9 w10 := by rw [hw10]; exact (Chg.refl [] w9).alloc _
    have M10 := H9.out.1.chg0 c910
    have b2 := c910.blk H9.out.2.1 (by simp)
    have b3 := c910.blk H9.out.2.2 (by simp)
    have x0 : w10.cell? ⟨p.bp q, 0, none⟩ = some (.int .i64 (-1)) := c910.cellv hp9 (by simp) x0
    have t1 : w10.cell? ⟨gB, 1, none⟩ = some (.int .i64 vic) := b2.cellv 1 rfl
    obtain ⟨D, M10r, hD⟩ := M10.re
    have e5 : m5.ps q = { m.ps q with all := (m.ps q).all + 1 } := by rw [H5.out.2.2.2]; exact updV_same _ _ _
    have KT := m_take_some M10r q g vic (by rw [H5.out.2.2.2]; exact hq) (by rw [H5.out.2.2.2]; exact h0) pk (by rw [e5]; exact hpk) bpk r2 (by rw [H5.out.2.2.2]; exact hPk) (by rw [H5.out.2.2.2]; exact hg) (by rw [H5.out.2.2.2]; exact hst) (by rw [H5.out.2.2.2]; exact Nat.le_trans hsl (by omega))
    have HT := Lib.hid (And.intro M10 (And.intro b2 (And.intro b3 (And.intro hD KT)))); clear M10 M10r b2 b3 hD KT hw10 c910 e5 hp9 hb
    go_wp2_with fail
    refine (HT.out.2.2.2.2).mono ?_
    rintro e w11 ⟨rfl, M11⟩
    have hMF : ∀ k j, MF p m5 k j → j < w.heap.size := fun k j h => HM.out.hi k j (by rw [H5.out.2.2.2] at h; cases k <;> exact h)
    have nE : gE ∉ D := fun hm => by
      obtain ⟨k, h⟩ := HT.out.2.2.2.1 _ hm
      have h1 := hMF k _ h
      have := H1.out.2.2.2.2.1
      omega
    have x0 : w11.cell? ⟨p.bp q, 0, none⟩ = some (.int .i64 (g : Nat)) := by
      have h : w11.cell? ⟨p.bp q, 0, none⟩ = some (.int .i64 ((takeG m5 q g r2).ps q).g) := (M11.pb (by rw [H5.out.2.2.2]; exact hq)).cellv 0 rfl
      rw [h]; show some (Value.int .i64 (updV m5.ps q _ q).g) = _; rw [updV_same]
    have d0 : ((g : Int) == -1) = false := by rw [beq_eq_false_iff_ne]; omega
    have KR := HR0.out ⟨w10, D⟩ w11 (by have h := M11; rw [H5.out.2.2.2] at h; exact h)
    have HR := Lib.hid (And.intro hMF (And.intro nE KR)); clear hMF nE KR M11
    go_wp2_with fail
    refine (HR.out.2.2).mono ?_
    rintro e w12 ⟨p3, rfl, hR3, M12⟩
    have E12 := M12.c.blk HT.out.2.2.1 HR.out.2.1
    have z0 : w12.cell? ⟨gE, 0, none⟩ = some (.int .i64 0) := E12.cellv 0 rfl
    have z1 : w12.cell? ⟨gE, 1, none⟩ = some (.int .i64 0) := E12.cellv 1 rfl
    have z2 : w12.cell? ⟨gE, 2, none⟩ = some (.int .i64 0) := E12.cellv 2 rfl
    have y0 := E12.frozen 0
    have y1 := E12.frozen 1
    have y2 := E12.frozen 2
    have nM : ∀ k, ¬ MF p3 m3 k gE := fun k h => by
      rcases M12.lo k gE h with h | h
      · exact HR.out.2.1 h
      · have h1 : w10.heap.size ≤ gE := h
        have := HT.out.2.2.1.lt
        omega
    have M12' := HT.out.1.back HT.out.2.2.2.1 M12
    have H8 := Lib.hid (And.intro E12 (And.intro M12' (And.intro nM hR3))); clear E12 M12 M12' nM hR3
    unfold evV
    go_wp2_with fail
    have B13 := ((H8.out.1.setv 0 (.int .i64 ek) rfl).setv 1 (.int .i64 eg) rfl).setv 2 (.int .i64 0) (cs' := #[.int .i64 ek, .int .i64 eg, .int .i64 0]) rfl
    have c13 : Chg [gE] w12 (((w12.setCell ⟨gE, 0, none⟩ (.int .i64 ek)).setCell ⟨gE, 1, none⟩ (.int .i64 eg)).setCell ⟨gE, 2, none⟩ (.int .i64 0)) := (((Chg.refl [gE] w12).setCell (.inl (by simp)) _).setCell (.inl (by simp)) _).setCell (.inl (by simp)) _
    have M13 := H8.out.2.1.chg c13 (fun k j hj hm => by
      have e : j = gE := by simpa using hm
      subst e
      exact H8.out.2.2.1 k hj) (by have : W.heap.size ≤ w.heap.size := HM.out.c.size; have := H1.out.2.2.2.2.1; simp; omega)
    exact ⟨rfl, _, results_cell_row (P := Tryz.prog) (fn := Tryz.f33) rfl _ _ gE 48 _ _ _ rfl B13 Tryz.underlying48 rfl (by kernel_rfl), p3, rfl, H8.out.2.2.2, M13⟩
theorem m_step_on (q g : Nat) (vic : Int) (hq : q < m.np) (hP : m.np ≤ 64) (hg : g < m.ng) (hpg : (m.ps q).g = (g : Nat)) (hvt : p.vtm = .slice none 0 0) (htm : m.tm = []) (hmade : m.made = 0) (hvf : p.vfr = .slice none 0 0)
    (hout : m.out = false) (hstV : stV m = 0) (h0 : m.ph.ph = 0) (hfo : m.force = 0) (hcy : 0 ≤ m.ph.cyc) (hlv : m.A.a.live = 0) (hT : 0 < m.gT) (wk al pk sp ck : Nat) (hwk : (m.ps q).worked = wk) (hal : (m.ps q).all = al) (hpk : (m.ps q).picks = pk) (hsp : m.steps = sp) (hck : m.clock = ck) (bwk : wk ≤ 1000000) (bal : al + 1 ≤ 1000000) (bpk : pk ≤ 1000000) (bsp : sp ≤ 1000000) (bck : ck ≤ 1000000)
    (hsl : m.sts.length ≤ 1024)
    (R : MAt → Prop) (m3 : Mac) (ek eg : Int) (hRun : ∀ (B : Bs) (w' : World), MM B w' p (tickA m q) → Calls Tryz.prog 87 #[.pointer (some ⟨p.gm, 0, none⟩), .int .i64 (q : Nat)] w' (RunE B R m3 ek eg)) :
    Calls Tryz.prog 33 #[.pointer (some ⟨p.gm, 0, none⟩), .agg #[.int .i64 (q : Nat), .int .i64 vic, .bool false, .int .i64 0]] w (RunE W R m3 ek eg) := by
  have HR0 := Lib.hid hRun; clear hRun
  have HM := Lib.hid M
  clear M
  go_enter Tryz.func33, Tryz.ntmps33
  go_upto_region 1 with fail
  generalize hw1 : World.alloc (World.alloc w _) _ = w1
  have BB : Blk w1 w.heap.size 43 #[.int .i64 (q : Nat), .int .i64 vic, .bool false, .int .i64 0] := by
    rw [← hw1]; exact (Blk.new w _ _).alloc _
  have BE : Blk w1 (w.heap.size + 1) 48 #[.int .i64 0, .int .i64 0, .int .i64 0] := by
    rw [← hw1]
    have h := Blk.new (w.alloc (.cells #[.int .i64 (q : Nat), .int .i64 vic, .bool false, .int .i64 0] 43)) 48 #[.int .i64 0, .int .i64 0, .int .i64 0]
    simp only [World.size_alloc] at h
    exact h
  have c01 : Chg [] w w1 := by rw [← hw1]; exact ((Chg.refl [] w).alloc _).alloc _
  have M1 := HM.out.chg0 c01
  clear hw1
  obtain ⟨gE, hgE⟩ : ∃ gE, gE = w.heap.size + 1 := ⟨_, rfl⟩
  obtain ⟨gB, hgB⟩ : ∃ gB, gB = w.heap.size := ⟨_, rfl⟩
  rw [← hgE] at BE ⊢
  rw [← hgB] at BB ⊢
  have hnB : w.heap.size ≤ gB := by omega
  have hnE : w.heap.size ≤ gE := by omega
  have hne : gB ≠ gE := by omega
  have zf := M1.mb.frozen 25
  have zc : w1.cell? ⟨p.gm, 25, none⟩ = some (.slice none 0 0) := by rw [← hvf]; exact M1.mb.cellv 25 rfl
  have H1 := Lib.hid (And.intro M1 (And.intro BB (And.intro BE (And.intro hnB (And.intro hnE hne))))); clear M1 BB BE hnB hnE hne hgE hgB c01
  go_upto_region 3 with fail
  have B2 := H1.out.1.mset (p' := p) (m' := m) 25 (.slice none 0 0) rfl (by unfold mC; simp [hvf]) (fun _ _ => ⟨rfl, fun _ => rfl⟩)
  obtain ⟨w2, hw2⟩ : ∃ w2, w2 = w1.setCell ⟨p.gm, 25, none⟩ (.slice none 0 0) := ⟨_, rfl⟩
  rw [← hw2] at B2 ⊢
  have c12 : Chg [p.gm] w1 w2 := by rw [hw2]; exact (Chg.refl _ w1).setCell (.inl (by simp)) _
  have hgm := HM.out.mb.lt
  have b2 := c12.blk H1.out.2.1 (by have := H1.out.2.2.2.1; simp; omega)
  have b3 := c12.blk H1.out.2.2.1 (by have := H1.out.2.2.2.2.1; simp; omega)
  have b0 : w2.cell? ⟨gB, 0, none⟩ = some (.int .i64 (q : Nat)) := b2.cellv 0 rfl
  have KH := m_has B2 q hq
  have KS := m_status B2 (by omega) (by rw [htm]; simp)
  rw [hstV] at KS
  have H2 := Lib.hid (And.intro B2 (And.intro b2 (And.intro b3 (And.intro KH KS)))); clear B2 b2 b3 KH KS c12 hw2 zf zc
  go_upto_region 4 with fail
  go_wp2_with fail
  refine (H2.out.2.2.2.1).mono ?_
  rintro e w3 ⟨rfl, rfl⟩
  go_wp2_with fail
  refine (H2.out.2.2.2.2).mono ?_
  rintro e w4 ⟨rfl, kk, hw4⟩
  have c24 : Chg [] w3 w4 := by rw [hw4]; exact (Chg.refl [] w3).drewN _
  have M4 := H2.out.1.chg0 c24
  have b2 := c24.blk H2.out.2.1 (by simp)
  have b3 := c24.blk H2.out.2.2.1 (by simp)
  obtain ⟨b9, cap9, c9, hps⟩ := M4.psl
  obtain ⟨hv9, hb9, -⟩ := hps q hq
  rw [hv9] at c9
  have e1 : (0 : Int) ≤ q := by omega
  have e2 : (q : Int) < (m.np : Int) := by omega
  have s0 : w4.cell? ⟨p.gm, 26, none⟩ = some (.int .i64 (sp : Nat)) := by rw [← hsp]; exact M4.mb.cellv 26 rfl
  have s1 := M4.mb.frozen 26
  have a0 : w4.cell? ⟨p.bp q, 8, none⟩ = some (.int .i64 (al : Nat)) := by rw [← hal]; exact (M4.pb hq).cellv 8 rfl
  have a1 := (M4.pb hq).frozen 8
  have n1 : ¬ p.gm = p.bp q := M4.mb.ne_ (M4.pb hq) (by decide)
  have n2 : ¬ p.bp q = p.gm := fun e => n1 e.symm
  have H4 := Lib.hid (And.intro M4 (And.intro b2 b3)); clear M4 b2 b3 hps hv9 hw4 c24 b0
  go_upto_region 9 with fail
  obtain ⟨w5, hw5⟩ : ∃ w5, w5 = (w4.setCell ⟨p.gm, 26, none⟩ (.int .i64 ((sp : Int) + 1))).setCell ⟨p.bp q, 8, none⟩ (.int .i64 ((al : Int) + 1)) := ⟨_, rfl⟩
  have M5 : MM W w5 p (tickA m q) := by
    rw [hw5, ← hsp, ← hal]
    exact (H4.out.1.mset (p' := p) (m' := { m with steps := m.steps + 1 }) 26 _ rfl (by unfold mC; simp) (fun k hk => by cases k <;> first | exact absurd rfl hk | exact ⟨rfl, fun _ => rfl⟩)).pset (q := q) hq 8 _ { m.ps q with all := (m.ps q).all + 1 } rfl
  rw [← hw5]
  have c45 : Chg [p.gm, p.bp q] w4 w5 := by rw [hw5]; exact ((Chg.refl _ w4).setCell (.inl (by simp)) _).setCell (.inl (by simp)) _
  have hbq := (HM.out.pb hq).lt
  have b2 := c45.blk H4.out.2.1 (by have := H1.out.2.2.2.1; simp; omega)
  have b3 := c45.blk H4.out.2.2 (by have := H1.out.2.2.2.2.1; simp; omega)
  clear hw5 s0 s1 a0 a1 c45 c9 hb9
  obtain ⟨m5, hm5⟩ : ∃ m5, m5 = tickA m q := ⟨_, rfl⟩
  rw [← hm5] at M5
  have s0 : w5.cell? ⟨p.gm, 14, none⟩ = some (.int .i64 (ck : Nat)) := by rw [← hck]; have h : w5.cell? ⟨p.gm, 14, none⟩ = some (.int .i64 m5.clock) := M5.mb.cellv 14 rfl; rw [h, hm5]; rfl
  have t3 : w5.cell? ⟨gB, 3, none⟩ = some (.int .i64 0) := b2.cellv 3 rfl
  have H5 := Lib.hid (And.intro M5 (And.intro b2 (And.intro b3 hm5))); clear M5 b2 b3 hm5
  go_upto_region 9 with fail
  go_still_tail 12, (by kernel_rfl)
  change wpList _ _ _ _ _ w5.drew
  have M6 := H5.out.1.chg0 (Chg.refl [] w5).drew
  have b2 := H5.out.2.1.drew
  have b3 := H5.out.2.2.1.drew
  have f14 := M6.mb.frozen 14
  have s14 : w5.drew.cell? ⟨p.gm, 14, none⟩ = some (.int .i64 (ck : Nat)) := by rw [← hck]; have h : w5.drew.cell? ⟨p.gm, 14, none⟩ = some (.int .i64 m5.clock) := M6.mb.cellv 14 rfl; rw [h, H5.out.2.2.2]; rfl
  have H6 := Lib.hid (And.intro M6 (And.intro b2 b3)); clear M6 b2 b3
  go_upto_region 10 with fail
  have ec : m5.clock = ck := by rw [H5.out.2.2.2]; exact hck
  have M7 := (H5.out.1.mset (p' := p) (m' := m5) 14 (.int .i64 (ck : Nat)) rfl (by unfold mC; simp [ec]) (fun _ _ => ⟨rfl, fun _ => rfl⟩)).chg0 (Chg.refl [] _).drew
  clear ec
  have c57 : Chg [p.gm] w5 (w5.setCell ⟨p.gm, 14, none⟩ (.int .i64 (ck : Nat))).drew := ((Chg.refl _ w5).setCell (.inl (by simp)) _).drew
  obtain ⟨w7, hw7⟩ : ∃ w7, w7 = (w5.setCell ⟨p.gm, 14, none⟩ (.int .i64 (ck : Nat))).drew := ⟨_, rfl⟩
  rw [← hw7] at M7 c57 ⊢
  have b2 := c57.blk H5.out.2.1 (by have := H1.out.2.2.2.1; simp; omega)
  have b3 := c57.blk H5.out.2.2.1 (by have := H1.out.2.2.2.2.1; simp; omega)
  clear hw7 c57 s14 f14 t3 s0
  have KD : ∀ w', Chg [] w7 w' → Calls Tryz.prog 81 #[.pointer (some ⟨p.gtm, 0, none⟩), .int .i64 (ck : Nat)] w' (QuPost (.slice none 0 0) w') := fun w' c' => tm_due0 w' p.gtm (by
    have h := (show _ ∧ _ from (M7.chg0 c').k .timers).1
    rw [hvt] at h
    have e : m5.made = 0 := by rw [H5.out.2.2.2]; exact hmade
    rw [e] at h
    exact h) _
  have s11 : w7.cell? ⟨p.gm, 11, none⟩ = some (.pointer (some ⟨p.gtm, 0, none⟩)) := M7.mb.cellv 11 rfl
  have s14 : w7.cell? ⟨p.gm, 14, none⟩ = some (.int .i64 (ck : Nat)) := by rw [← hck]; have h : w7.cell? ⟨p.gm, 14, none⟩ = some (.int .i64 m5.clock) := M7.mb.cellv 14 rfl; rw [h, H5.out.2.2.2]; rfl
  have H7 := Lib.hid (And.intro M7 (And.intro b2 (And.intro b3 KD))); clear M7 b2 b3 KD
  go_wp2_with fail
  go_quiet ((go_at_call 81; exact Calls.quiet_of_same (H7.out.2.2.2 _ ((Chg.refl [] w7).drewN _))))
  obtain ⟨w8, hw8⟩ : ∃ w8, w8 = w7.drewN nq := ⟨_, rfl⟩
  rw [← hw8]
  have c78 : Chg [] w7 w8 := by rw [hw8]; exact (Chg.refl [] w7).drewN _
  have M8 := H7.out.1.chg0 c78
  have b2 := c78.blk H7.out.2.1 (by simp)
  have b3 := c78.blk H7.out.2.2.1 (by simp)
  clear hw8 c78 s11 s14
  have H8 := Lib.hid (And.intro M8 (And.intro b2 b3)); clear M8 b2 b3
  go_wp2_with fail
  go_loopg [71] 1 (fun gk idx wr => gk = 1 ∧ idx = .int .i64 0 ∧ wr = w8)
  case atStart => exact ⟨rfl, rfl, rfl⟩
  case round =>
    obtain ⟨rfl, rfl, rfl⟩ := hrel
    have t2 : wr.cell? ⟨gB, 2, none⟩ = some (.bool false) := H8.out.2.1.cellv 2 rfl
    have KC := m_collect H8.out.1 q (by rw [H5.out.2.2.2]; exact hq) (by rw [H5.out.2.2.2]; exact h0) (by rw [H5.out.2.2.2]; exact hfo) (by rw [H5.out.2.2.2]; exact hcy) (by rw [H5.out.2.2.2]; exact hlv) (by rw [H5.out.2.2.2]; exact hT) (by rw [H5.out.2.2.2]; exact hP) wk (al + 1) (by
      rw [H5.out.2.2.2]; show (updV m.ps q _ q).worked = _; rw [updV_same]; exact hwk) (by
      rw [H5.out.2.2.2]; show (updV m.ps q _ q).all = _; rw [updV_same]; show (m.ps q).all + 1 = _; rw [hal]; rfl) bwk bal
    have HKC := Lib.hid KC; clear KC
    go_wp2_with fail
    refine (HKC.out).mono ?_
    rintro e w9 ⟨rfl, c89⟩
    have M9 := H8.out.1.chg0 c89
    have b2 := c89.blk H8.out.2.1 (by simp)
    have b3 := c89.blk H8.out.2.2 (by simp)
    have x0 : w9.cell? ⟨p.bp q, 0, none⟩ = some (.int .i64 (g : Nat)) := by
      have h : w9.cell? ⟨p.bp q, 0, none⟩ = some (.int .i64 (m5.ps q).g) := (M9.pb (by rw [H5.out.2.2.2]; exact hq)).cellv 0 rfl
      rw [h, H5.out.2.2.2]; show some (Value.int .i64 (updV m.ps q _ q).g) = _; rw [updV_same]; show some (Value.int .i64 (m.ps q).g) = _; rw [hpg]
    have d0 : ((g : Int) == -1) = false := by rw [beq_eq_false_iff_ne]; omega
    have t1 : w9.cell? ⟨gB, 1, none⟩ = some (.int .i64 vic) := b2.cellv 1 rfl
    have hb := b2.lt
    have hp9 := (M9.pb (q := q) (by rw [H5.out.2.2.2]; exact hq)).lt
    have H9 := Lib.hid (And.intro M9 (And.intro b2 b3)); clear M9 b2 b3 c89 t2
    go_upto_region 19 with fail
    obtain ⟨w10, hw10⟩ : ∃ w10, w10 = w9.alloc (.cells #[.int .i64 0, .int .i64 0, .int .i64 0] 48) := ⟨_, rfl⟩
    rw [← hw10]
    have c910 : Chg [] w9 w10 := by rw [hw10]; exact (Chg.refl [] w9).alloc _
    have M10 := H9.out.1.chg0 c910
    have b2 := c910.blk H9.out.2.1 (by simp)
    have b3 := c910.blk H9.out.2.2 (by simp)
    have x0 : w10.cell? ⟨p.bp q, 0, none⟩ = some (.int .i64 (g : Nat)) := c910.cellv hp9 (by simp) x0
    have t1 : w10.cell? ⟨gB, 1, none⟩ = some (.int .i64 vic) := b2.cellv 1 rfl
    obtain ⟨D, M10r, hD⟩ := M10.re
    have KR0 := HR0.out ⟨w10, D⟩ w10 (by have h := M10r; rw [H5.out.2.2.2] at h; exact h)
    have HT := Lib.hid (And.intro M10 (And.intro b2 (And.intro b3 (And.intro hD KR0)))); clear M10 M10r b2 b3 hD KR0 hw10 c910 hp9 hb
    have hMF : ∀ k j, MF p m5 k j → j < w.heap.size := fun k j h => HM.out.hi k j (by rw [H5.out.2.2.2] at h; cases k <;> exact h)
    have nE : gE ∉ D := fun hm => by
      obtain ⟨k, h⟩ := HT.out.2.2.2.1 _ hm
      have h1 := hMF k _ h
      have := H1.out.2.2.2.2.1
      omega
    have KR := HT.out.2.2.2.2
    have HR := Lib.hid (And.intro hMF (And.intro nE KR)); clear hMF nE KR
    go_wp2_with fail
    refine (HR.out.2.2).mono ?_
    rintro e w12 ⟨p3, rfl, hR3, M12⟩
    have E12 := M12.c.blk HT.out.2.2.1 HR.out.2.1
    have z0 : w12.cell? ⟨gE, 0, none⟩ = some (.int .i64 0) := E12.cellv 0 rfl
    have z1 : w12.cell? ⟨gE, 1, none⟩ = some (.int .i64 0) := E12.cellv 1 rfl
    have z2 : w12.cell? ⟨gE, 2, none⟩ = some (.int .i64 0) := E12.cellv 2 rfl
    have y0 := E12.frozen 0
    have y1 := E12.frozen 1
    have y2 := E12.frozen 2
    have nM : ∀ k, ¬ MF p3 m3 k gE := fun k h => by
      rcases M12.lo k gE h with h | h
      · exact HR.out.2.1 h
      · have h1 : w10.heap.size ≤ gE := h
        have := HT.out.2.2.1.lt
        omega
    have M12' := HT.out.1.back HT.out.2.2.2.1 M12
    have H8 := Lib.hid (And.intro E12 (And.intro M12' (And.intro nM hR3))); clear E12 M12 M12' nM hR3
    unfold evV
    go_wp2_with fail
    have B13 := ((H8.out.1.setv 0 (.int .i64 ek) rfl).setv 1 (.int .i64 eg) rfl).setv 2 (.int .i64 0) (cs' := #[.int .i64 ek, .int .i64 eg, .int .i64 0]) rfl
    have c13 : Chg [gE] w12 (((w12.setCell ⟨gE, 0, none⟩ (.int .i64 ek)).setCell ⟨gE, 1, none⟩ (.int .i64 eg)).setCell ⟨gE, 2, none⟩ (.int .i64 0)) := (((Chg.refl [gE] w12).setCell (.inl (by simp)) _).setCell (.inl (by simp)) _).setCell (.inl (by simp)) _
    have M13 := H8.out.2.1.chg c13 (fun k j hj hm => by
      have e : j = gE := by simpa using hm
      subst e
      exact H8.out.2.2.1 k hj) (by have : W.heap.size ≤ w.heap.size := HM.out.c.size; have := H1.out.2.2.2.2.1; simp; omega)
    exact ⟨rfl, _, results_cell_row (P := Tryz.prog) (fn := Tryz.f33) rfl _ _ gE 48 _ _ _ rfl B13 Tryz.underlying48 rfl (by kernel_rfl), p3, rfl, H8.out.2.2.2, M13⟩
theorem m_step_none (q : Nat) (vic : Int) (hq : q < m.np) (hP : m.np ≤ 64) (hpg : (m.ps q).g = -1) (hvt : p.vtm = .slice none 0 0) (htm : m.tm = []) (hmade : m.made = 0) (hvf : p.vfr = .slice none 0 0)
    (hout : m.out = false) (hstV : stV m = 0) (h0 : m.ph.ph = 0) (hfo : m.force = 0) (hcy : 0 ≤ m.ph.cyc) (hlv : m.A.a.live = 0) (hT : 0 < m.gT) (wk al pk sp ck : Nat) (hwk : (m.ps q).worked = wk) (hal : (m.ps q).all = al) (hpk : (m.ps q).picks = pk) (hsp : m.steps = sp) (hck : m.clock = ck) (bwk : wk ≤ 1000000) (bal : al + 1 ≤ 1000000) (bpk : pk ≤ 1000000) (bsp : sp ≤ 1000000) (bck : ck ≤ 1000000)
    (r2 : Nat → RgR) (hPk : PkK p m q vic r2 0 false) (hsl : m.sts.length ≤ 1024) :
    Calls Tryz.prog 33 #[.pointer (some ⟨p.gm, 0, none⟩), .agg #[.int .i64 (q : Nat), .int .i64 vic, .bool false, .int .i64 0]] w (RunE W (fun p2 => p2 = p) (takeN (tickA m q) q r2) 0 (-1)) := by
  have HM := Lib.hid M
  clear M
  go_enter Tryz.func33, Tryz.ntmps33
  go_upto_region 1 with fail
  generalize hw1 : World.alloc (World.alloc w _) _ = w1
  have BB : Blk w1 w.heap.size 43 #[.int .i64 (q : Nat), .int .i64 vic, .bool false, .int .i64 0] := by
    rw [← hw1]; exact (Blk.new w _ _).alloc _
  have BE : Blk w1 (w.heap.size + 1) 48 #[.int .i64 0, .int .i64 0, .int .i64 0] := by
    rw [← hw1]
    have h := Blk.new (w.alloc (.cells #[.int .i64 (q : Nat), .int .i64 vic, .bool false, .int .i64 0] 43)) 48 #[.int .i64 0, .int .i64 0, .int .i64 0]
    simp only [World.size_alloc] at h
    exact h
  have c01 : Chg [] w w1 := by rw [← hw1]; exact ((Chg.refl [] w).alloc _).alloc _
  have M1 := HM.out.chg0 c01
  clear hw1
  obtain ⟨gE, hgE⟩ : ∃ gE, gE = w.heap.size + 1 := ⟨_, rfl⟩
  obtain ⟨gB, hgB⟩ : ∃ gB, gB = w.heap.size := ⟨_, rfl⟩
  rw [← hgE] at BE ⊢
  rw [← hgB] at BB ⊢
  have hnB : w.heap.size ≤ gB := by omega
  have hnE : w.heap.size ≤ gE := by omega
  have hne : gB ≠ gE := by omega
  have zf := M1.mb.frozen 25
  have zc : w1.cell? ⟨p.gm, 25, none⟩ = some (.slice none 0 0) := by rw [← hvf]; exact M1.mb.cellv 25 rfl
  have H1 := Lib.hid (And.intro M1 (And.intro BB (And.intro BE (And.intro hnB (And.intro hnE hne))))); clear M1 BB BE hnB hnE hne hgE hgB c01
  go_upto_region 3 with fail
  have B2 := H1.out.1.mset (p' := p) (m' := m) 25 (.slice none 0 0) rfl (by unfold mC; simp [hvf]) (fun _ _ => ⟨rfl, fun _ => rfl⟩)
  obtain ⟨w2, hw2⟩ : ∃ w2, w2 = w1.setCell ⟨p.gm, 25, none⟩ (.slice none 0 0) := ⟨_, rfl⟩
  rw [← hw2] at B2 ⊢
  have c12 : Chg [p.gm] w1 w2 := by rw [hw2]; exact (Chg.refl _ w1).setCell (.inl (by simp)) _
  have hgm := HM.out.mb.lt
  have b2 := c12.blk H1.out.2.1 (by have := H1.out.2.2.2.1; simp; omega)
  have b3 := c12.blk H1.out.2.2.1 (by have := H1.out.2.2.2.2.1; simp; omega)
  have b0 : w2.cell? ⟨gB, 0, none⟩ = some (.int .i64 (q : Nat)) := b2.cellv 0 rfl
  have KH := m_has B2 q hq
  have KS := m_status B2 (by omega) (by rw [htm]; simp)
  rw [hstV] at KS
  have H2 := Lib.hid (And.intro B2 (And.intro b2 (And.intro b3 (And.intro KH KS)))); clear B2 b2 b3 KH KS c12 hw2 zf zc
  go_upto_region 4 with fail
  go_wp2_with fail
  refine (H2.out.2.2.2.1).mono ?_
  rintro e w3 ⟨rfl, rfl⟩
  go_wp2_with fail
  refine (H2.out.2.2.2.2).mono ?_
  rintro e w4 ⟨rfl, kk, hw4⟩
  have c24 : Chg [] w3 w4 := by rw [hw4]; exact (Chg.refl [] w3).drewN _
  have M4 := H2.out.1.chg0 c24
  have b2 := c24.blk H2.out.2.1 (by simp)
  have b3 := c24.blk H2.out.2.2.1 (by simp)
  obtain ⟨b9, cap9, c9, hps⟩ := M4.psl
  obtain ⟨hv9, hb9, -⟩ := hps q hq
  rw [hv9] at c9
  have e1 : (0 : Int) ≤ q := by omega
  have e2 : (q : Int) < (m.np : Int) := by omega
  have s0 : w4.cell? ⟨p.gm, 26, none⟩ = some (.int .i64 (sp : Nat)) := by rw [← hsp]; exact M4.mb.cellv 26 rfl
  have s1 := M4.mb.frozen 26
  have a0 : w4.cell? ⟨p.bp q, 8, none⟩ = some (.int .i64 (al : Nat)) := by rw [← hal]; exact (M4.pb hq).cellv 8 rfl
  have a1 := (M4.pb hq).frozen 8
  have n1 : ¬ p.gm = p.bp q := M4.mb.ne_ (M4.pb hq) (by decide)
  have n2 : ¬ p.bp q = p.gm := fun e => n1 e.symm
  have H4 := Lib.hid (And.intro M4 (And.intro b2 b3)); clear M4 b2 b3 hps hv9 hw4 c24 b0
  go_upto_region 9 with fail
  obtain ⟨w5, hw5⟩ : ∃ w5, w5 = (w4.setCell ⟨p.gm, 26, none⟩ (.int .i64 ((sp : Int) + 1))).setCell ⟨p.bp q, 8, none⟩ (.int .i64 ((al : Int) + 1)) := ⟨_, rfl⟩
  have M5 : MM W w5 p (tickA m q) := by
    rw [hw5, ← hsp, ← hal]
    exact (H4.out.1.mset (p' := p) (m' := { m with steps := m.steps + 1 }) 26 _ rfl (by unfold mC; simp) (fun k hk => by cases k <;> first | exact absurd rfl hk | exact ⟨rfl, fun _ => rfl⟩)).pset (q := q) hq 8 _ { m.ps q with all := (m.ps q).all + 1 } rfl
  rw [← hw5]
  have c45 : Chg [p.gm, p.bp q] w4 w5 := by rw [hw5]; exact ((Chg.refl _ w4).setCell (.inl (by simp)) _).setCell (.inl (by simp)) _
  have hbq := (HM.out.pb hq).lt
  have b2 := c45.blk H4.out.2.1 (by have := H1.out.2.2.2.1; simp; omega)
  have b3 := c45.blk H4.out.2.2 (by have := H1.out.2.2.2.2.1; simp; omega)
  clear hw5 s0 s1 a0 a1 c45 c9 hb9
  obtain ⟨m5, hm5⟩ : ∃ m5, m5 = tickA m q := ⟨_, rfl⟩
  rw [← hm5] at M5
  have s0 : w5.cell? ⟨p.gm, 14, none⟩ = some (.int .i64 (ck : Nat)) := by rw [← hck]; have h : w5.cell? ⟨p.gm, 14, none⟩ = some (.int .i64 m5.clock) := M5.mb.cellv 14 rfl; rw [h, hm5]; rfl
  have t3 : w5.cell? ⟨gB, 3, none⟩ = some (.int .i64 0) := b2.cellv 3 rfl
  have H5 := Lib.hid (And.intro M5 (And.intro b2 (And.intro b3 hm5))); clear M5 b2 b3 hm5
  go_upto_region 9 with fail
  go_still_tail 12, (by kernel_rfl)
  change wpList _ _ _ _ _ w5.drew
  have M6 := H5.out.1.chg0 (Chg.refl [] w5).drew
  have b2 := H5.out.2.1.drew
  have b3 := H5.out.2.2.1.drew
  have f14 := M6.mb.frozen 14
  have s14 : w5.drew.cell? ⟨p.gm, 14, none⟩ = some (.int .i64 (ck : Nat)) := by rw [← hck]; have h : w5.drew.cell? ⟨p.gm, 14, none⟩ = some (.int .i64 m5.clock) := M6.mb.cellv 14 rfl; rw [h, H5.out.2.2.2]; rfl
  have H6 := Lib.hid (And.intro M6 (And.intro b2 b3)); clear M6 b2 b3
  go_upto_region 10 with fail
  have ec : m5.clock = ck := by rw [H5.out.2.2.2]; exact hck
  have M7 := (H5.out.1.mset (p' := p) (m' := m5) 14 (.int .i64 (ck : Nat)) rfl (by unfold mC; simp [ec]) (fun _ _ => ⟨rfl, fun _ => rfl⟩)).chg0 (Chg.refl [] _).drew
  clear ec
  have c57 : Chg [p.gm] w5 (w5.setCell ⟨p.gm, 14, none⟩ (.int .i64 (ck : Nat))).drew := ((Chg.refl _ w5).setCell (.inl (by simp)) _).drew
  obtain ⟨w7, hw7⟩ : ∃ w7, w7 = (w5.setCell ⟨p.gm, 14, none⟩ (.int .i64 (ck : Nat))).drew := ⟨_, rfl⟩
  rw [← hw7] at M7 c57 ⊢
  have b2 := c57.blk H5.out.2.1 (by have := H1.out.2.2.2.1; simp; omega)
  have b3 := c57.blk H5.out.2.2.1 (by have := H1.out.2.2.2.2.1; simp; omega)
  clear hw7 c57 s14 f14 t3 s0
  have KD : ∀ w', Chg [] w7 w' → Calls Tryz.prog 81 #[.pointer (some ⟨p.gtm, 0, none⟩), .int .i64 (ck : Nat)] w' (QuPost (.slice none 0 0) w') := fun w' c' => tm_due0 w' p.gtm (by
    have h := (show _ ∧ _ from (M7.chg0 c').k .timers).1
    rw [hvt] at h
    have e : m5.made = 0 := by rw [H5.out.2.2.2]; exact hmade
    rw [e] at h
    exact h) _
  have s11 : w7.cell? ⟨p.gm, 11, none⟩ = some (.pointer (some ⟨p.gtm, 0, none⟩)) := M7.mb.cellv 11 rfl
  have s14 : w7.cell? ⟨p.gm, 14, none⟩ = some (.int .i64 (ck : Nat)) := by rw [← hck]; have h : w7.cell? ⟨p.gm, 14, none⟩ = some (.int .i64 m5.clock) := M7.mb.cellv 14 rfl; rw [h, H5.out.2.2.2]; rfl
  have H7 := Lib.hid (And.intro M7 (And.intro b2 (And.intro b3 KD))); clear M7 b2 b3 KD
  go_wp2_with fail
  go_quiet ((go_at_call 81; exact Calls.quiet_of_same (H7.out.2.2.2 _ ((Chg.refl [] w7).drewN _))))
  obtain ⟨w8, hw8⟩ : ∃ w8, w8 = w7.drewN nq := ⟨_, rfl⟩
  rw [← hw8]
  have c78 : Chg [] w7 w8 := by rw [hw8]; exact (Chg.refl [] w7).drewN _
  have M8 := H7.out.1.chg0 c78
  have b2 := c78.blk H7.out.2.1 (by simp)
  have b3 := c78.blk H7.out.2.2.1 (by simp)
  clear hw8 c78 s11 s14
  have H8 := Lib.hid (And.intro M8 (And.intro b2 b3)); clear M8 b2 b3
  go_wp2_with fail
  go_loopg [71] 1 (fun gk idx wr => gk = 1 ∧ idx = .int .i64 0 ∧ wr = w8)
  case atStart => exact ⟨rfl, rfl, rfl⟩
  case round =>
    obtain ⟨rfl, rfl, rfl⟩ := hrel
    have t2 : wr.cell? ⟨gB, 2, none⟩ = some (.bool false) := H8.out.2.1.cellv 2 rfl
    have KC := m_collect H8.out.1 q (by rw [H5.out.2.2.2]; exact hq) (by rw [H5.out.2.2.2]; exact h0) (by rw [H5.out.2.2.2]; exact hfo) (by rw [H5.out.2.2.2]; exact hcy) (by rw [H5.out.2.2.2]; exact hlv) (by rw [H5.out.2.2.2]; exact hT) (by rw [H5.out.2.2.2]; exact hP) wk (al + 1) (by
      rw [H5.out.2.2.2]; show (updV m.ps q _ q).worked = _; rw [updV_same]; exact hwk) (by
      rw [H5.out.2.2.2]; show (updV m.ps q _ q).all = _; rw [updV_same]; show (m.ps q).all + 1 = _; rw [hal]; rfl) bwk bal
    have HKC := Lib.hid KC; clear KC
    go_wp2_with fail
    refine (HKC.out).mono ?_
    rintro e w9 ⟨rfl, c89⟩
    have M9 := H8.out.1.chg0 c89
    have b2 := c89.blk H8.out.2.1 (by simp)
    have b3 := c89.blk H8.out.2.2 (by simp)
    have x0 : w9.cell? ⟨p.bp q, 0, none⟩ = some (.int .i64 (-1)) := by
      have h : w9.cell? ⟨p.bp q, 0, none⟩ = some (.int .i64 (m5.ps q).g) := (M9.pb (by rw [H5.out.2.2.2]; exact hq)).cellv 0 rfl
      rw [h, H5.out.2.2.2]; show some (Value.int .i64 (updV m.ps q _ q).g) = _; rw [updV_same]; show some (Value.int .i64 (m.ps q).g) = _; rw [hpg]
    have t1 : w9.cell? ⟨gB, 1, none⟩ = some (.int .i64 vic) := b2.cellv 1 rfl
    have hb := b2.lt
    have hp9 := (M9.pb (q := q) (by rw [H5.out.2.2.2]; exact hq)).lt
    have H9 := Lib.hid (And.intro M9 (And.intro b2 b3)); clear M9 b2 b3 c89 t2
    go_upto_region 19 with fail
    obtain ⟨w10, hw10⟩ : ∃ w10, w10 = w9.alloc (.cells #[.int .i64 0, .int .i64 0, .int .i64 0] 48) := ⟨_, rfl⟩
    rw [← hw10]
    have c910 : Chg [] w9 w10 := by rw [hw10]; exact (Chg.refl [] w9).alloc _
    have M10 := H9.out.1.chg0 c910
    have b2 := c910.blk H9.out.2.1 (by simp)
    have b3 := c910.blk H9.out.2.2 (by simp)
    have x0 : w10.cell? ⟨p.bp q, 0, none⟩ = some (.int .i64 (-1)) := c910.cellv hp9 (by simp) x0
    have t1 : w10.cell? ⟨gB, 1, none⟩ = some (.int .i64 vic) := b2.cellv 1 rfl
    obtain ⟨D, M10r, hD⟩ := M10.re
    have e5 : m5.ps q = { m.ps q with all := (m.ps q).all + 1 } := by rw [H5.out.2.2.2]; exact updV_same _ _ _
    have KT := m_take_none M10r q vic (by rw [H5.out.2.2.2]; exact hq) (by rw [H5.out.2.2.2]; exact h0) pk (by rw [e5]; exact hpk) bpk r2 (by rw [H5.out.2.2.2]; exact hPk)
    have e5' := e5
    have HT := Lib.hid (And.intro M10 (And.intro b2 (And.intro b3 (And.intro hD KT)))); clear M10 M10r b2 b3 hD KT hw10 c910 e5 hp9 hb
    go_wp2_with fail
    refine (HT.out.2.2.2.2).mono ?_
    rintro e w11 ⟨rfl, M11⟩
    have hMF : ∀ k j, MF p m5 k j → j < w.heap.size := fun k j h => HM.out.hi k j (by rw [H5.out.2.2.2] at h; cases k <;> exact h)
    have nE : gE ∉ D := fun hm => by
      obtain ⟨k, h⟩ := HT.out.2.2.2.1 _ hm
      have h1 := hMF k _ h
      have := H1.out.2.2.2.2.1
      omega
    have x0 : w11.cell? ⟨p.bp q, 0, none⟩ = some (.int .i64 (-1)) := by
      have h : w11.cell? ⟨p.bp q, 0, none⟩ = some (.int .i64 ((takeN m5 q r2).ps q).g) := (M11.pb (by rw [H5.out.2.2.2]; exact hq)).cellv 0 rfl
      rw [h]; show some (Value.int .i64 (updV m5.ps q _ q).g) = _; rw [updV_same, e5']; show some (Value.int .i64 (m.ps q).g) = _; rw [hpg]
    have KW := m_work_off M11 q (by show m5.ph.ph = 0; rw [H5.out.2.2.2]; exact h0)
    have HR := Lib.hid (And.intro hMF (And.intro nE (And.intro KW M11))); clear hMF nE KW M11
    go_wp2_with fail
    refine (HR.out.2.2.1).mono ?_
    rintro e w12 ⟨rfl, c112⟩
    have M12 := HR.out.2.2.2.chg0 c112
    have E12 := M12.c.blk HT.out.2.2.1 HR.out.2.1
    have z0 : w12.cell? ⟨gE, 0, none⟩ = some (.int .i64 0) := E12.cellv 0 rfl
    have z1 : w12.cell? ⟨gE, 1, none⟩ = some (.int .i64 0) := E12.cellv 1 rfl
    have z2 : w12.cell? ⟨gE, 2, none⟩ = some (.int .i64 0) := E12.cellv 2 rfl
    have y0 := E12.frozen 0
    have y1 := E12.frozen 1
    have y2 := E12.frozen 2
    have nM : ∀ k, ¬ MF p (takeN m5 q r2) k gE := fun k h => by
      rcases M12.lo k gE h with h | h
      · exact HR.out.2.1 h
      · have h1 : w10.heap.size ≤ gE := h
        have := HT.out.2.2.1.lt
        omega
    have M12' := HT.out.1.back HT.out.2.2.2.1 M12
    have H8 := Lib.hid (And.intro E12 (And.intro M12' nM)); clear E12 M12 M12' nM
    go_wp2_with fail
    refine (m_event w12 0 (-1)).mono ?_
    rintro e w13 ⟨rfl, c13⟩
    have E13 := c13.blk H8.out.1 (by simp)
    have z0 : w13.cell? ⟨gE, 0, none⟩ = some (.int .i64 0) := E13.cellv 0 rfl
    have z1 : w13.cell? ⟨gE, 1, none⟩ = some (.int .i64 0) := E13.cellv 1 rfl
    have z2 : w13.cell? ⟨gE, 2, none⟩ = some (.int .i64 0) := E13.cellv 2 rfl
    have y0 := E13.frozen 0
    have y1 := E13.frozen 1
    have y2 := E13.frozen 2
    have M13 := H8.out.2.1.chg0 c13
    have H9 := Lib.hid (And.intro E13 M13); clear E13 M13 c13
    unfold evV
    go_wp2_with fail
    have B13 := ((H9.out.1.setv 0 (.int .i64 0) rfl).setv 1 (.int .i64 (-1)) rfl).setv 2 (.int .i64 0) (cs' := #[.int .i64 0, .int .i64 (-1), .int .i64 0]) rfl
    have c13 : Chg [gE] w13 (((w13.setCell ⟨gE, 0, none⟩ (.int .i64 0)).setCell ⟨gE, 1, none⟩ (.int .i64 (-1))).setCell ⟨gE, 2, none⟩ (.int .i64 0)) := (((Chg.refl [gE] w13).setCell (.inl (by simp)) _).setCell (.inl (by simp)) _).setCell (.inl (by simp)) _
    have M14 := H9.out.2.chg c13 (fun k j hj hm => by
      have e : j = gE := by simpa using hm
      subst e
      exact H8.out.2.2 k hj) (by have : W.heap.size ≤ w.heap.size := HM.out.c.size; have := H1.out.2.2.2.2.1; simp; omega)
    rw [H5.out.2.2.2] at M14
    exact ⟨rfl, _, results_cell_row (P := Tryz.prog) (fn := Tryz.f33) rfl _ _ gE 48 _ _ _ rfl B13 Tryz.underlying48 rfl (by kernel_rfl), p, rfl, rfl, M14⟩
end
end Go.Proofs.YtcpljjacamibeaaGreatDoor
