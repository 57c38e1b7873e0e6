/- Package machine: spawn. -/
/- Package machine: commit, whatever the instruction does. -/
/- Package machine: control: Set, Dec, Jump, Spawn. -/
/- Package machine: commit's inner function: Exit, Yield, what control does. -/
/- Package machine: run, whatever the instruction. -/
/- Package machine: one Step of a P that takes a goroutine of its own, or goes on with the one that it runs. -/
import Derived.Test.YtcpljjacamibeaaGreatDoorMd8J
namespace Go.Proofs.YtcpljjacamibeaaGreatDoor
set_option maxHeartbeats 16000000
set_option maxRecDepth 100000
open Go.RowKit Go.Maps
theorem tyGr : SlV Tryz.prog 98 115 (.pointer none) 8 := ⟨Tryz.underlying98, by kernel_rfl, rfl, by decide⟩
section
variable {W : Bs} {w : World} {p : MAt} {m : Mac} (M : MM W w p m)
include M
theorem MM.gorT {w2 w' : World} {gn : Nat} {v' : Value} {x : GorA} (c2 : Chg [] w w2) (B : Blk w2 gn 118 (gorC x)) (hgn : w.heap.size ≤ gn) (O : OwnV 115 w' v' (ptrs p.bg m.ng ++ [.pointer (some ⟨gn, 0, none⟩)])) (s : Stp (fpv p.vgs) (fpv v') w2 w') :
    MM W (w'.setCell ⟨p.gm, 8, none⟩ v') { p with vgs := v', bg := updV p.bg m.ng gn } { m with ng := m.ng + 1, gs := updV m.gs m.ng x } := by
  have hgm : p.gm < w.heap.size := M.hi .mach _ rfl
  have n1 : p.gm ∉ fpv p.vgs := fun hm => by have := M.ap .mach .gsl p.gm rfl hm; cases this
  have hvl : ∀ k ∈ fpv p.vgs, k < w.heap.size := fun k hk => M.hi .gsl k hk
  have n2 : p.gm ∉ fpv v' := fun hm => by
    rcases s.f _ hm with h | h
    · exact n1 h
    · have := c2.size; omega
  have n3 : gn ∉ fpv p.vgs := fun hm => by have := hvl _ hm; omega
  have c3 : Chg [p.gm] w' (w'.setCell ⟨p.gm, 8, none⟩ v') := (Chg.refl _ w').setCell (.inl (by simp)) _
  have cc : Chg (p.gm :: fpv p.vgs) w (w'.setCell ⟨p.gm, 8, none⟩ v') := ((c2.mono (by simp)).trans (s.c.mono (fun k hk => .inl (List.mem_cons_of_mem _ hk)))).trans (c3.mono (by simp))
  have Bm := ((s.c.blk (c2.blk M.mb (by simp)) n1).setv 8 v' (cs' := mC { p with vgs := v', bg := updV p.bg m.ng gn } { m with ng := m.ng + 1, gs := updV m.gs m.ng x }) (by unfold mC; simp))
  have Bn := c3.blk (s.c.blk B n3) (by simp; omega)
  have On := O.chg c3 (fun k hk hm => n2 (by have e : k = p.gm := (by simpa using hm); rw [← e]; exact hk))
  refine M.turns (fun k => k = .mach ∨ k = .gsl ∨ k = .gor m.ng) cc (fun j hj => ?_) (fun k hk j hj => ?_) (fun k k' j hk hk' hw hj hj' => ?_) (fun k hk => ?_) (fun k hk => ?_)
  · rcases List.mem_cons.1 hj with h | h
    · exact .inl ⟨.mach, .inl rfl, h⟩
    · exact .inl ⟨.gsl, .inr (.inl rfl), h⟩
  · rcases hk with rfl | rfl | rfl
    · have e : j = p.gm := hj
      subst e
      exact ⟨.inl rfl, Bm.lt⟩
    · have h : j ∈ fpv v' := hj
      refine ⟨?_, On.lt h⟩
      rcases s.f j h with h | h
      · exact .inl h
      · exact .inr (Nat.le_trans c2.size h)
    · have e : j = gn := by have h : j = updV p.bg m.ng gn m.ng := hj.2; rw [updV_same] at h; exact h
      subst e
      exact ⟨.inr hgn, Bn.lt⟩
  · have f1 : MF { p with vgs := v', bg := updV p.bg m.ng gn } { m with ng := m.ng + 1, gs := updV m.gs m.ng x } .mach j → False := fun h => by have e : j = p.gm := h; omega
    have f2 : MF { p with vgs := v', bg := updV p.bg m.ng gn } { m with ng := m.ng + 1, gs := updV m.gs m.ng x } .gsl j → w2.heap.size ≤ j := fun h => by
      rcases s.f j h with h | h
      · have := hvl j h; omega
      · exact h
    have f3 : MF { p with vgs := v', bg := updV p.bg m.ng gn } { m with ng := m.ng + 1, gs := updV m.gs m.ng x } (.gor m.ng) j → j < w2.heap.size := fun h => by
      have e : j = updV p.bg m.ng gn m.ng := h.2
      rw [updV_same] at e
      rw [e]; exact B.lt
    rcases hk with rfl | rfl | rfl <;> rcases hk' with rfl | rfl | rfl
    · rfl
    · exact (f1 hj).elim
    · exact (f1 hj).elim
    · exact (f1 hj').elim
    · rfl
    · have a := f2 hj; have b := f3 hj'; omega
    · exact (f1 hj').elim
    · have a := f2 hj'; have b := f3 hj; omega
    · rfl
  · rcases hk with rfl | rfl | rfl
    · exact Bm
    · show OwnV _ _ v' (ptrs (updV p.bg m.ng gn) (m.ng + 1))
      rw [ptrs_succ, updV_same, ptrs_congr (b := updV p.bg m.ng gn) (b' := p.bg) (fun j hj => updV_other _ _ (by omega))]
      exact On
    · intro _
      show Blk _ (updV p.bg m.ng gn m.ng) _ (gorC (updV m.gs m.ng x m.ng))
      rw [updV_same, updV_same]
      exact Bn
  · cases k
    case mach => exact absurd (.inl rfl) hk
    case gsl => exact absurd (.inr (.inl rfl)) hk
    case gor g =>
      have hne : g ≠ m.ng := fun e => hk (.inr (.inr (by rw [e])))
      refine ⟨funext fun j => propext ⟨fun h => ?_, fun h => ?_⟩, fun w => propext ⟨fun h hg => ?_, fun h hg => ?_⟩⟩
      · have h1 : g < m.ng + 1 := h.1
        have h2 : j = updV p.bg m.ng gn g := h.2
        rw [updV_other _ _ hne] at h2
        exact ⟨by omega, h2⟩
      · refine ⟨Nat.lt_succ_of_lt h.1, ?_⟩
        show j = updV p.bg m.ng gn g
        rw [updV_other _ _ hne]; exact h.2
      · have h2 : Blk w (updV p.bg m.ng gn g) _ (gorC (updV m.gs m.ng x g)) := h (Nat.lt_succ_of_lt hg)
        rw [updV_other _ _ hne, updV_other _ _ hne] at h2
        exact h2
      · have h1 : g < m.ng + 1 := hg
        show Blk w (updV p.bg m.ng gn g) _ (gorC (updV m.gs m.ng x g))
        rw [updV_other _ _ hne, updV_other _ _ hne]
        exact h (by omega)
    all_goals exact ⟨rfl, fun _ => rfl⟩
def spawnA (m : Mac) (q : Nat) (F : Int) (x : Int) : Mac := { m with sts := m.sts ++ [1], ng := m.ng + 1, gs := updV m.gs m.ng ⟨F, 0, 0, updV (fun _ => 0) 0 x, 0, 0⟩, rg := updV m.rg q (rgPut (m.rg q) (m.ng : Nat)) }
theorem m_spawn (q : Nat) (F x : Int) (hq : q < m.np) (hsl : m.sts.length = m.ng) (hng : m.ng < 1024) (hvq : p.vq = .slice none 0 0) (hfr : (m.rg q).fr < 256) (hn : (m.rg q).n < 256) (h0 : m.ph.ph = 0) :
    Calls Tryz.prog 63 #[.pointer (some ⟨p.gm, 0, none⟩), .int .i64 (q : Nat), .int .i64 F, .int .i64 x] w (fun e w' => ∃ vst vgs gn, e = .returned (.int .i64 (m.ng : Nat)) ∧ MM W w' { p with vst := vst, vgs := vgs, bg := updV p.bg m.ng gn } (spawnA m q F x)) := by
  have KS := st_spawn w p.gst p.vst m.sts M.st (by omega)
  have c7 : w.cell? ⟨p.gm, 7, none⟩ = some (.pointer (some ⟨p.gst, 0, none⟩)) := M.mb.cellv 7 rfl
  have HM := Lib.hid (And.intro M KS); clear M KS
  go_enter Tryz.func63, Tryz.ntmps63
  go_wp2_with fail
  refine (HM.out.2).mono ?_
  rintro e w1 ⟨vst, rfl, I1, S1⟩
  rw [hsl]
  have M1 := HM.out.1.stT' I1 S1
  obtain ⟨p1, hp1⟩ : ∃ p1 : MAt, p1 = { p with vst := vst } := ⟨_, rfl⟩
  obtain ⟨m1, hm1⟩ : ∃ m1, m1 = { m with sts := m.sts ++ [1] } := ⟨_, rfl⟩
  rw [← hp1, ← hm1] at M1
  have og : OwnV 115 w1 p1.vgs (ptrs p1.bg m1.ng) := M1.k .gsl
  obtain ⟨Ag, cg, hvg⟩ := og.slice
  rw [ptrs_len] at hvg
  have eng : m1.ng = m.ng := by rw [hm1]
  have egm : p1.gm = p.gm := by rw [hp1]
  rw [eng] at hvg og
  have c8 : w1.cell? ⟨p.gm, 8, none⟩ = some (.slice Ag m.ng cg) := by rw [← hvg, ← egm]; exact M1.mb.cellv 8 rfl
  have H1 := Lib.hid (And.intro M1 (And.intro og (And.intro hvg (And.intro hp1 (And.intro hm1 (And.intro eng egm)))))); clear M1 og hvg hp1 hm1 eng egm I1 S1 c7
  obtain ⟨gn, hgn⟩ : ∃ gn, gn = w1.heap.size := ⟨_, rfl⟩
  obtain ⟨w2, hw2⟩ : ∃ w2, w2 = w1.alloc (.cells (gorC ⟨F, 0, 0, fun _ => 0, 0, 0⟩) 118) := ⟨_, rfl⟩
  have B2 : Blk w2 gn 118 (gorC ⟨F, 0, 0, fun _ => 0, 0, 0⟩) := by rw [hw2, hgn]; exact Blk.new _ _ _
  have c12 : Chg [] w1 w2 := by rw [hw2]; exact (Chg.refl [] w1).alloc _
  obtain ⟨w3, hw3⟩ : ∃ w3, w3 = w2.alloc (.cells #[.pointer (some ⟨gn, 0, none⟩)] 115) := ⟨_, rfl⟩
  have c23 : Chg [] w2 w3 := by rw [hw3]; exact (Chg.refl [] w2).alloc _
  have S3 : RdV w3 w3.heap.size (.slice (some ⟨w2.heap.size, 0, none⟩) 1 1) [.pointer (some ⟨gn, 0, none⟩)] := by rw [hw3]; exact RdV.one_ (Blk.new _ _ _) rfl
  have hs2 : w2.heap.size = gn + 1 := by rw [hw2, hgn]; simp
  rw [hs2] at S3
  have OO : OwnV 115 w3 (.slice Ag m.ng cg) (ptrs p1.bg m.ng) := by rw [← H1.out.2.2.1]; exact H1.out.2.1.chg0 (c12.trans c23)
  have Bm3 := (c12.trans c23).blk (by have h := H1.out.1.mb; rw [H1.out.2.2.2.2.2.2] at h; exact h) (by simp)
  have nm : p.gm ∉ fpv p1.vgs := fun hm => by have := H1.out.1.ap .mach .gsl p1.gm rfl (by rw [H1.out.2.2.2.2.2.2]; exact hm); cases this
  have H3 := Lib.hid (And.intro B2 (And.intro c12 (And.intro c23 (And.intro S3 (And.intro OO (And.intro Bm3 (And.intro nm (And.intro hw2 (And.intro hw3 hgn))))))))); clear B2 c12 c23 S3 OO Bm3 nm hw2 hw3 hgn hs2
  have ew : ∀ x : World, (w1.alloc (.cells #[.int .i64 F, .int .i64 0, .int .i64 0, .int .i64 0, .int .i64 0, .int .i64 0, .int .i64 0, .int .i64 0, .int .i64 0, .int .i64 0, .int .i64 0, .int .i64 0, .int .i64 0, .int .i64 0, .int .i64 0, .int .i64 0, .int .i64 0, .int .i64 0, .int .i64 0, .int .i64 0, .int .i64 0] 118)).alloc (.cells #[.pointer (some ⟨w1.heap.size, 0, none⟩)] 115) = w3 := fun _ => by rw [H3.out.2.2.2.2.2.2.2.2.1, H3.out.2.2.2.2.2.2.2.1, H3.out.2.2.2.2.2.2.2.2.2]; rfl
  have ew := Lib.hid ew
  go_upto_region 5 with (at_builtin; rw [ew.out w1]; rw [← H3.out.2.2.2.2.2.2.2.2.2]; refine wpList_cat_v tyGr rfl _ _ rfl (v := .slice Ag m.ng cg) rfl H3.out.2.2.2.2.1 rfl H3.out.2.2.2.1 (by rw [ptrs_len]; simp; omega) ?_; intro A' c' w9 O9 S9; have B9 := S9.c.blk H3.out.2.2.2.2.2.1 (by rw [← H1.out.2.2.1]; exact H3.out.2.2.2.2.2.2.1); have q9 : w9.cell? ⟨p.gm, 8, none⟩ = some p1.vgs := B9.cellv 8 rfl; have y9 := B9.frozen 8; clear B9)
  have el : (ptrs p1.bg m.ng).length + [Value.pointer (some ⟨gn, 0, none⟩)].length = m.ng + 1 := by rw [ptrs_len]; rfl
  rw [el] at O9 S9
  have el2 : (ptrs p1.bg m.ng).length + 1 = m.ng + 1 := by rw [ptrs_len]
  rw [el2]
  have M5 := H1.out.1.gorT (v' := .slice A' (m.ng + 1) c') (H3.out.2.1.trans H3.out.2.2.1) (H3.out.2.2.1.blk H3.out.1 (by simp)) (by have := H3.out.2.2.2.2.2.2.2.2.2; omega) (by rw [H1.out.2.2.2.2.2.1]; exact O9) (by rw [H1.out.2.2.1]; exact S9)
  obtain ⟨w5, hw5⟩ : ∃ w5, w5 = w9.setCell ⟨p.gm, 8, none⟩ (.slice A' (m.ng + 1) c') := ⟨_, rfl⟩
  rw [← hw5]
  have ew5 : w9.setCell ⟨p1.gm, 8, none⟩ (.slice A' (m.ng + 1) c') = w5 := by rw [hw5, H1.out.2.2.2.2.2.2]
  rw [ew5] at M5
  clear ew5
  obtain ⟨p5, hp5⟩ : ∃ p5 : MAt, p5 = { p1 with vgs := .slice A' (m.ng + 1) c', bg := updV p1.bg m1.ng gn } := ⟨_, rfl⟩
  obtain ⟨m5, hm5⟩ : ∃ m5 : Mac, m5 = { m1 with ng := m1.ng + 1, gs := updV m1.gs m1.ng ⟨F, 0, 0, fun _ => 0, 0, 0⟩ } := ⟨_, rfl⟩
  rw [← hp5, ← hm5] at M5
  have hgm : p5.gm = p.gm := by rw [hp5]; exact H1.out.2.2.2.2.2.2
  have hbg : p5.bg m.ng = gn := by rw [hp5, H1.out.2.2.2.2.2.1]; exact updV_same _ _ _
  have hn5 : m5.ng = m.ng + 1 := by rw [hm5, H1.out.2.2.2.2.2.1]
  have hg5 : m5.gs m.ng = ⟨F, 0, 0, fun _ => 0, 0, 0⟩ := by rw [hm5, H1.out.2.2.2.2.2.1]; exact updV_same _ _ _
  obtain ⟨b8, cap8, c8', hgs⟩ := M5.gsl
  obtain ⟨hv8, hb8, -⟩ := hgs m.ng (by omega)
  rw [hv8, hgm, hn5] at c8'
  rw [hbg] at hb8
  have z3 := (M5.gb (g := m.ng) (by omega)).frozen 3
  have z4 : w5.cell? ⟨gn, 3, none⟩ = some (.int .i64 0) := by
    have h := (M5.gb (g := m.ng) (by omega)).cellv 3 (show (gorC (m5.gs m.ng))[3]? = some (.int .i64 0) by rw [hg5]; rfl)
    rw [hbg] at h; exact h
  rw [hbg] at z3
  have H5 := Lib.hid (And.intro M5 (And.intro hgm (And.intro hbg (And.intro hn5 (And.intro hg5 (And.intro hp5 hm5)))))); clear M5 hgm hbg hn5 hg5 hp5 hm5 O9 S9 q9 y9 hw5 el el2 hgs hv8 c8
  go_upto_region 6 with fail
  obtain ⟨w6, hw6⟩ : ∃ w6, w6 = w5.setCell ⟨gn, 3, none⟩ (.int .i64 x) := ⟨_, rfl⟩
  rw [← hw6]
  have M6 := H5.out.1.gset (g := m.ng) (by have := H5.out.2.2.2.1; omega) (3 + 0) (.int .i64 x) _ (gorC_st _ (by decide) x)
  rw [H5.out.2.2.1, ← hw6, H5.out.2.2.2.2.1] at M6
  obtain ⟨m6, hm6⟩ : ∃ m6 : Mac, m6 = { m5 with gs := updV m5.gs m.ng ⟨F, 0, 0, updV (fun _ => 0) 0 x, 0, 0⟩ } := ⟨_, rfl⟩
  rw [← hm6] at M6
  have e6 : m6.np = m.np ∧ m6.rg = m.rg ∧ m6.ph = m.ph := by rw [hm6, H5.out.2.2.2.2.2.2, H1.out.2.2.2.2.1]; exact ⟨rfl, rfl, rfl⟩
  have c10 : w6.cell? ⟨p.gm, 10, none⟩ = some (.pointer (some ⟨p5.gsd, 0, none⟩)) := by rw [← H5.out.2.1]; exact M6.mb.cellv 10 rfl
  have KR := sc_ready M6.sc (by rw [H5.out.2.2.2.2.2.1, H1.out.2.2.2.1]; exact hvq) q (by rw [e6.1]; exact hq) (m.ng : Nat) (by rw [e6.2.1]; exact hfr) (by rw [e6.2.1]; exact hn)
  have H6 := Lib.hid (And.intro M6 (And.intro hm6 (And.intro e6 KR))); clear M6 hm6 e6 KR hw6 z3 z4 c8' hb8
  go_wp2_with fail
  refine (H6.out.2.2.2).mono ?_
  rintro e w7 ⟨rfl, I7, c67⟩
  have M7 := H6.out.1.scT I7 c67 (fun j hj => by
    rcases List.mem_cons.1 hj with h | h
    · exact .inl (.inr (.inr (.inr (.inr ⟨q, by rw [H6.out.2.2.1.1]; exact hq, h⟩))))
    · exact .inl (.inr (.inl (by simpa using h)))) (fun j hj => .inl hj)
  have c15 : w7.cell? ⟨p.gm, 15, none⟩ = some (.pointer (some ⟨p5.gph, 0, none⟩)) := by rw [← H5.out.2.1]; exact M7.mb.cellv 15 rfl
  have KP := ph_phase_ok p5.gph p5.bsd m6.ph w7 M7.ph
  rw [H6.out.2.2.1.2.2, h0] at KP
  have H7 := Lib.hid (And.intro M7 KP); clear M7 KP I7 c67 c10
  go_wp2_with fail
  refine (H7.out.2).mono ?_
  rintro e w8 ⟨rfl, rfl⟩
  go_wp2_with fail
  go_ret
  have h := H7.out.1
  refine ⟨vst, .slice A' (m.ng + 1) c', gn, rfl, ?_⟩
  rw [H6.out.2.1, H5.out.2.2.2.2.2.2, H5.out.2.2.2.2.2.1, H1.out.2.2.2.2.1, H1.out.2.2.2.1] at h
  simp only [updV_updV] at h
  exact h
end
def preA (m : Mac) (q g : Nat) : Mac := { m with gs := updV m.gs g { m.gs g with pc := (m.gs g).pc + 1 }, ps := updV m.ps q { m.ps q with row := (m.ps q).row + 1 } }
def finA (m : Mac) (q g : Nat) (c : ComA) (tz : Nat) : Mac :=
  { m with sts := if tz = 2 then m.sts else m.sts.set g (tz : Nat), ps := if tz = 2 then m.ps else updV m.ps q { m.ps q with g := -1 }, rg := if tz = 1 then updV m.rg q (rgPut (m.rg q) (g : Nat)) else m.rg, cms := m.cms ++ [c] }
def InnrPost (D : List Nat) (w7 : World) (gC gT : Nat) (Q : MAt → Prop) (m2 : Mac) (c : ComA) (tz : Nat) (e : Ending) (w8 : World) : Prop :=
  e = .returned (.tuple #[]) ∧ ∃ w7a p2, Q p2 ∧ MM ⟨w7, D⟩ w7a p2 m2 ∧ Chg [gC, gT] w7a w8 ∧ Blk w8 gC 59 (comC c).toArray ∧ Blk w8 gT 3 #[.int .i64 (tz : Nat)]
def CgPost (W : Bs) (Q : MAt → Prop) (m2 : Mac) (q g : Nat) (c : ComA) (tz : Nat) (e : Ending) (w' : World) : Prop := ∃ p2 v, e = .returned (evV 1 (g : Nat) 0) ∧ Q p2 ∧ MM W w' { p2 with vco := v } (finA m2 q g c tz)
section
variable {W : Bs} {w : World} {p : MAt} {m : Mac} (M : MM W w p m)
include M
end
structure CtV (w0 : World) (gY gI yb : Nat) (i : Ins) (w : World) : Prop where
  Y : Blk w gY 115 #[.pointer (some ⟨yb, 0, none⟩)]
  I : Blk w gI 33 #[.int .i64 (i.o : Nat), .int .i64 (i.a : Nat), .int .i64 (i.b : Nat), .int .i64 (i.c : Nat)]
  c : Chg [] w0 w
  n1 : w0.heap.size ≤ gY
  n2 : w0.heap.size ≤ gI
def setGor (m : Mac) (g : Nat) (x : GorA) : Mac := { m with gs := updV m.gs g x }
def CtPost (W : Bs) (p : MAt) (m2 : Mac) (v : Int) (e : Ending) (w' : World) : Prop := e = .returned (.int .i64 v) ∧ MM W w' p m2
section
variable {W : Bs} {w : World} {p : MAt} {m : Mac} (M : MM W w p m)
include M
end
section
variable {w0 w : World} {gC gT gI gA gY gM gp gg : Nat} {c : ComA} {i : Ins} {addr : Int} {yb gm q g : Nat} {D : List Nat} {p : MAt} {m : Mac} {Q : MAt → Prop}
def CtlPost (D : List Nat) (w : World) (Q : MAt → Prop) (m2 : Mac) (v : Int) (e : Ending) (w' : World) : Prop := e = .returned (.int .i64 v) ∧ ∃ p2, Q p2 ∧ MM ⟨w, D⟩ w' p2 m2
end
def RunPost (W : Bs) (R : MAt → Prop) (m3 : Mac) (g : Nat) (e : Ending) (w' : World) : Prop := ∃ p3, e = .returned (evV 1 (g : Nat) 0) ∧ R p3 ∧ MM W w' p3 m3
section
variable {W : Bs} {w : World} {p : MAt} {m : Mac} (M : MM W w p m)
include M
end
section
variable {W : Bs} {w : World} {p : MAt} {m : Mac} (M : MM W w p m)
include M
end
end Go.Proofs.YtcpljjacamibeaaGreatDoor
