/- Package machine: take, where the P's own ring serves. -/
/- Package machine: commit's inner function: exit. -/
import Derived.Test.YtoeppmnoifankaaGreatDoorMd4
import Derived.Test.YtoeppmnoifankaaGreatDoorMcV
import Derived.Test.YtoeppmnoifankaaGreatDoorMcN
namespace Go.Proofs.YtoeppmnoifankaaGreatDoor
open Go.RowKit Go.Maps

def takeA (m : Mac) (q g : Nat) : Mac := { m with ps := updV m.ps q { m.ps q with g := (g : Nat), row := 0, picks := (m.ps q).picks + 1 }, rg := updV m.rg q (rgPop (m.rg q)), sts := m.sts.set g 2, gs := updV m.gs g { m.gs g with p := (q : Nat) } }
theorem updV_updV {α : Type} (f : Nat → α) (i : Nat) (x y : α) : updV (updV f i x) i y = updV f i y := by
  funext k; unfold updV; by_cases h : k = i <;> simp [h]
section
variable {W : Bs} {w : World} {p : MAt} {m : Mac} (M : MM W w p m)
include M
set_option maxHeartbeats 6400000 in
set_option maxRecDepth 100000 in
theorem m_take (q g : Nat) (vic : Int) (hq : q < m.np) (h0 : m.ph.ph = 0) (hvq : p.vq = .slice none 0 0) (pk : Nat) (hpk : (m.ps q).picks = pk) (bpk : pk ≤ 1000000) (hs : (m.rg q).hs = false) (hfr : (m.rg q).fr < 256) (hn0 : 0 < (m.rg q).n) (hn : (m.rg q).n ≤ 256) (hg : (m.rg q).l (m.rg q).fr = (g : Nat)) (hgn : g < m.ng) (hst : m.sts[g]? = some 1) (hsl : m.sts.length ≤ 1000000) :
    Calls Tryz.prog 53 #[.pointer (some ⟨p.gm, 0, none⟩), .int .i64 (q : Nat), .int .i64 vic] w (fun e w' => e = .returned (.tuple #[]) ∧ MM W w' p (takeA m q g)) := by
  obtain ⟨b, cap, c9, hps⟩ := M.psl
  obtain ⟨hv, hbq, hbl⟩ := hps q hq
  rw [hv] at c9
  have e1 : (0 : Int) ≤ q := by omega
  have e2 : (q : Int) < (m.np : Int) := by omega
  have k2 : w.cell? ⟨p.bp q, 2, none⟩ = some (.int .i64 (pk : Nat)) := by rw [← hpk]; exact (M.pb hq).cellv 2 rfl
  have f2 := (M.pb hq).frozen 2
  have HM := Lib.hid M
  clear hps hv M
  go_enter Tryz.func53, Tryz.ntmps53
  go_upto_region 3 with fail
  obtain ⟨w1, hw1⟩ : ∃ w1, w1 = w.setCell ⟨p.bp q, 2, none⟩ (.int .i64 ((pk : Int) + 1)) := ⟨_, rfl⟩
  rw [← hw1]
  have M1 : MM W w1 p { m with ps := updV m.ps q { m.ps q with picks := (m.ps q).picks + 1 } } := by
    rw [hw1, ← hpk]
    exact HM.out.pset hq 2 _ _ rfl
  obtain ⟨m1, hm1⟩ : ∃ m1, m1 = { m with ps := updV m.ps q { m.ps q with picks := (m.ps q).picks + 1 } } := ⟨_, rfl⟩
  rw [← hm1] at M1
  have x1 : m1.ps q = { m.ps q with picks := (m.ps q).picks + 1 } := by rw [hm1]; exact updV_same _ _ _
  have k2 : w1.cell? ⟨p.bp q, 2, none⟩ = some (.int .i64 ((pk : Int) + 1)) := by
    have h := (M1.pb (q := q) (by rw [hm1]; exact hq)).cellv 2 (show (prcC (m1.ps q) (p.vsc q) (p.bn q))[2]? = some (.int .i64 ((m1.ps q).picks)) from rfl)
    rw [x1] at h
    rw [h]
    show some (Value.int .i64 ((m.ps q).picks + 1)) = _
    rw [hpk]
  have c15 : w1.cell? ⟨p.gm, 15, none⟩ = some (.pointer (some ⟨p.gph, 0, none⟩)) := M1.mb.cellv 15 rfl
  have c10 : w1.cell? ⟨p.gm, 10, none⟩ = some (.pointer (some ⟨p.gsd, 0, none⟩)) := M1.mb.cellv 10 rfl
  have c7 : w1.cell? ⟨p.gm, 7, none⟩ = some (.pointer (some ⟨p.gst, 0, none⟩)) := M1.mb.cellv 7 rfl
  have KP := ph_phase_ok p.gph p.bsd m1.ph w1 M1.ph
  have hm1ph : m1.ph = m.ph := by rw [hm1]
  rw [hm1ph, h0] at KP
  have KS := sc_pick_own M1.sc hvq q (by rw [hm1]; exact hq) 61 vic (.inr rfl) (by rw [hm1]; exact hs) (by rw [hm1]; exact hfr) (by rw [hm1]; exact hn0) (by rw [hm1]; exact hn)
  have H1 := Lib.hid (And.intro M1 (And.intro KP (And.intro KS hm1)))
  clear M1 KP KS hw1 c9 hbq hbl f2 hm1ph x1
  by_cases hpar : ((pk : Int) + 1) % 2 = 0
  · have d1 : (((pk : Int) + 1) % 2 == 0) = true := by rw [beq_iff_eq]; exact hpar
    go_wp2_with fail
    clear d1 hpar k2 c15
    refine H1.out.2.2.1.mono ?_
    rintro e w2 ⟨rfl, I2, C2⟩
    have M2 := H1.out.1.scT I2 C2 (fun j hj => .inl (.inr (.inr (.inr (.inr ⟨q, by rw [H1.out.2.2.2]; exact hq, by simpa using hj⟩))))) (fun j hj => .inl hj)
    have eg : (m1.rg q).l (m1.rg q).fr = (g : Nat) := by rw [H1.out.2.2.2]; exact hg
    rw [eg]
    have Cl := C2.blk (by exact H1.out.1.mb) (by have := H1.out.1.ap .mach .sched p.gm rfl; simp; intro e; exact absurd (this (.inr (.inr (.inr (.inr ⟨q, by rw [H1.out.2.2.2]; exact hq, e⟩))))) (by simp))
    have c7' : w2.cell? ⟨p.gm, 7, none⟩ = some (.pointer (some ⟨p.gst, 0, none⟩)) := Cl.cellv 7 rfl
    have H2 := Lib.hid M2; clear M2 I2 C2 Cl c10 c7 eg
    go_wp2_with fail
    obtain ⟨m2, hm2⟩ : ∃ m2, m2 = { m1 with rg := updV m1.rg q (rgPop (m1.rg q)), com := m1.com } := ⟨_, rfl⟩
    have M2 : MM W w2 p m2 := by rw [hm2]; exact H2.out
    have KM := st_move w2 p.gst p.vst m2.sts M2.st g 1 2 (by rw [hm2, H1.out.2.2.2]; exact hst) (.inl ⟨rfl, rfl⟩) (by rw [hm2, H1.out.2.2.2]; exact hsl)
    refine KM.mono ?_
    rintro e w3 ⟨rfl, I3, S3⟩
    have M3 := M2.stT I3 rfl S3
    obtain ⟨m3, hm3⟩ : ∃ m3, m3 = { m2 with sts := m2.sts.set g ((2 : Nat) : Int) } := ⟨_, rfl⟩
    rw [← hm3] at M3
    have hgn3 : g < m3.ng := by rw [hm3, hm2, H1.out.2.2.2]; exact hgn
    have hq3 : q < m3.np := by rw [hm3, hm2, H1.out.2.2.2]; exact hq
    obtain ⟨bb, cap2, c8, hgs⟩ := M3.gsl
    obtain ⟨hv8, hbg, -⟩ := hgs g hgn3
    rw [hv8] at c8
    have z0 := (M3.pb hq3).cellv 0 rfl
    have z1 := (M3.pb hq3).cellv 1 rfl
    have y0 := (M3.pb hq3).frozen 0
    have y1 := (M3.pb hq3).frozen 1
    have z2 := (M3.gb hgn3).cellv 19 (gorC_19 _)
    have y2 := (M3.gb hgn3).frozen 19
    have n1 : ¬ p.bg g = p.bp q := (M3.gb hgn3).ne_ (M3.pb hq3) (by decide)
    have n2 : ¬ p.bp q = p.bg g := fun e => n1 e.symm
    have u1 : (0 : Int) ≤ (g : Int) := by omega
    have u2 : (g : Int) < (m3.ng : Int) := by omega
    have H3 := Lib.hid (And.intro M3 (And.intro hm3 hm2)); clear M3 I3 S3 KM M2 hgs hv8 hm3 hm2
    go_wp2_with fail
    go_end0
    have M4 := ((H3.out.1.pset hq3 0 (.int .i64 (g : Nat)) { m3.ps q with g := (g : Nat) } rfl).pset (q := q) hq3 1 (.int .i64 0) { m3.ps q with g := (g : Nat), row := 0 } (by show (prcC (updV m3.ps q _ q) _ _).setIfInBounds 1 _ = _; rw [updV_same]; rfl)).gset (g := g) hgn3 19 (.int .i64 (q : Nat)) { m3.gs g with p := (q : Nat) } rfl
    refine ⟨rfl, ?_⟩
    have h := M4
    rw [H3.out.2.1, H3.out.2.2, H1.out.2.2.2] at h
    simp only [updV_same, updV_updV] at h
    exact h
  · have d1 : (((pk : Int) + 1) % 2 == 0) = false := by rw [beq_eq_false_iff_ne]; exact hpar
    go_wp2_with fail
    refine H1.out.2.1.mono ?_
    rintro e w1 ⟨rfl, rfl⟩
    go_wp2_with fail
    clear d1 hpar k2 c15
    refine H1.out.2.2.1.mono ?_
    rintro e w2 ⟨rfl, I2, C2⟩
    have M2 := H1.out.1.scT I2 C2 (fun j hj => .inl (.inr (.inr (.inr (.inr ⟨q, by rw [H1.out.2.2.2]; exact hq, by simpa using hj⟩))))) (fun j hj => .inl hj)
    have eg : (m1.rg q).l (m1.rg q).fr = (g : Nat) := by rw [H1.out.2.2.2]; exact hg
    rw [eg]
    have Cl := C2.blk (by exact H1.out.1.mb) (by have := H1.out.1.ap .mach .sched p.gm rfl; simp; intro e; exact absurd (this (.inr (.inr (.inr (.inr ⟨q, by rw [H1.out.2.2.2]; exact hq, e⟩))))) (by simp))
    have c7' : w2.cell? ⟨p.gm, 7, none⟩ = some (.pointer (some ⟨p.gst, 0, none⟩)) := Cl.cellv 7 rfl
    have H2 := Lib.hid M2; clear M2 I2 C2 Cl c10 c7 eg
    go_wp2_with fail
    obtain ⟨m2, hm2⟩ : ∃ m2, m2 = { m1 with rg := updV m1.rg q (rgPop (m1.rg q)), com := m1.com } := ⟨_, rfl⟩
    have M2 : MM W w2 p m2 := by rw [hm2]; exact H2.out
    have KM := st_move w2 p.gst p.vst m2.sts M2.st g 1 2 (by rw [hm2, H1.out.2.2.2]; exact hst) (.inl ⟨rfl, rfl⟩) (by rw [hm2, H1.out.2.2.2]; exact hsl)
    refine KM.mono ?_
    rintro e w3 ⟨rfl, I3, S3⟩
    have M3 := M2.stT I3 rfl S3
    obtain ⟨m3, hm3⟩ : ∃ m3, m3 = { m2 with sts := m2.sts.set g ((2 : Nat) : Int) } := ⟨_, rfl⟩
    rw [← hm3] at M3
    have hgn3 : g < m3.ng := by rw [hm3, hm2, H1.out.2.2.2]; exact hgn
    have hq3 : q < m3.np := by rw [hm3, hm2, H1.out.2.2.2]; exact hq
    obtain ⟨bb, cap2, c8, hgs⟩ := M3.gsl
    obtain ⟨hv8, hbg, -⟩ := hgs g hgn3
    rw [hv8] at c8
    have z0 := (M3.pb hq3).cellv 0 rfl
    have z1 := (M3.pb hq3).cellv 1 rfl
    have y0 := (M3.pb hq3).frozen 0
    have y1 := (M3.pb hq3).frozen 1
    have z2 := (M3.gb hgn3).cellv 19 (gorC_19 _)
    have y2 := (M3.gb hgn3).frozen 19
    have n1 : ¬ p.bg g = p.bp q := (M3.gb hgn3).ne_ (M3.pb hq3) (by decide)
    have n2 : ¬ p.bp q = p.bg g := fun e => n1 e.symm
    have u1 : (0 : Int) ≤ (g : Int) := by omega
    have u2 : (g : Int) < (m3.ng : Int) := by omega
    have H3 := Lib.hid (And.intro M3 (And.intro hm3 hm2)); clear M3 I3 S3 KM M2 hgs hv8 hm3 hm2
    go_wp2_with fail
    go_end0
    have M4 := ((H3.out.1.pset hq3 0 (.int .i64 (g : Nat)) { m3.ps q with g := (g : Nat) } rfl).pset (q := q) hq3 1 (.int .i64 0) { m3.ps q with g := (g : Nat), row := 0 } (by show (prcC (updV m3.ps q _ q) _ _).setIfInBounds 1 _ = _; rw [updV_same]; rfl)).gset (g := g) hgn3 19 (.int .i64 (q : Nat)) { m3.gs g with p := (q : Nat) } rfl
    refine ⟨rfl, ?_⟩
    have h := M4
    rw [H3.out.2.1, H3.out.2.2, H1.out.2.2.2] at h
    simp only [updV_same, updV_updV] at h
    exact h
end
end Go.Proofs.YtoeppmnoifankaaGreatDoor
namespace Go.Proofs.YtoeppmnoifankaaGreatDoor
open Go.RowKit Go.Maps

theorem run_tf_nil (w : World) : (Instr.typeAssert .nilIface 20 289 true).run Tryz.prog w = .ok (.tuple #[.agg #[], .bool false]) w := by kernel_rfl
theorem tm12 (a b r t g o p : Value) : (#[a, b] ++ (((((((Array.replicate 10 undef).setIfInBounds 3 r).setIfInBounds 4 t).setIfInBounds 2 t).setIfInBounds 5 g).setIfInBounds 6 o).setIfInBounds 0 p).setIfInBounds 1 o) = #[a, b, p, o, t, r, t, g, o, undef, undef, undef] := by
  rw [← Array.toList_inj]
  simp only [Array.toList_append, Array.toList_setIfInBounds, Array.toList_replicate]
  rfl
set_option maxHeartbeats 1600000 in
set_option maxRecDepth 100000 in
theorem cm_catch_idle (w : World) (a b : Addr) : CallsD Tryz.prog 191 #[.pointer (some a), .pointer (some b)] .returning w fun e u' w' => e = .returned (.tuple #[]) ∧ u' = .returning ∧ Chg [] w w' := by
  refine callsD_of_wpS Tryz.func191 rfl fun c₀ cs hu => ?_
  apply wpS_seq
  apply wpS_region
  simp [wpOpsS, go_sem, recoverD, hu, run_tf_nil, Tryz.ntmps191, Exit.thenS]
  rw [tm12]
  refine wpS_of_wp ?_
  go_wp2_with fail
  cases c₀
  simp_all [bodyPostS, results, Tryz.results191]
  exact (Chg.refl [] w).alloc _
/-- The variables that commit's inner function captures. -/
structure CmW (w0 : World) (gC gT gI gA gY gM gp gg : Nat) (c : ComA) (tov : Int) (i : Ins) (addr : Int) (yb gm : Nat) (q g : Nat) (w : World) : Prop where
  C : Blk w gC 53 (comC c).toArray
  T : Blk w gT 3 #[.int .i64 tov]
  I : Blk w gI 33 #[.int .i64 (i.o : Nat), .int .i64 (i.a : Nat), .int .i64 (i.b : Nat), .int .i64 (i.c : Nat)]
  A : Blk w gA 3 #[.int .i64 addr]
  Y : Blk w gY 89 #[.pointer (some ⟨yb, 0, none⟩)]
  M : Blk w gM 35 #[.pointer (some ⟨gm, 0, none⟩)]
  p : Blk w gp 3 #[.int .i64 (q : Nat)]
  g : Blk w gg 3 #[.int .i64 (g : Nat)]
  n : ∀ k ∈ [gC, gT, gI, gA, gY, gM, gp, gg], w0.heap.size ≤ k
  d : [gT, gA, gp, gg].Nodup
section
variable {w0 w w' : World} {gC gT gI gA gY gM gp gg : Nat} {c : ComA} {tov : Int} {i : Ins} {addr : Int} {yb gm q g : Nat}
theorem CmW.far {S : List Nat} (K : CmW w0 gC gT gI gA gY gM gp gg c tov i addr yb gm q g w) (h : Chg S w w') (hn : ∀ k ∈ [gC, gT, gI, gA, gY, gM, gp, gg], k ∉ S) : CmW w0 gC gT gI gA gY gM gp gg c tov i addr yb gm q g w' :=
  ⟨h.blk K.C (hn _ (by simp)), h.blk K.T (hn _ (by simp)), h.blk K.I (hn _ (by simp)), h.blk K.A (hn _ (by simp)), h.blk K.Y (hn _ (by simp)), h.blk K.M (hn _ (by simp)), h.blk K.p (hn _ (by simp)), h.blk K.g (hn _ (by simp)), K.n, K.d⟩
theorem CmW.toS (K : CmW w0 gC gT gI gA gY gM gp gg c tov i addr yb gm q g w) (x : Int) : CmW w0 gC gT gI gA gY gM gp gg c x i addr yb gm q g (w.setCell ⟨gT, 0, none⟩ (.int .i64 x)) := by
  have d := K.d
  simp only [List.nodup_cons, List.mem_cons, List.not_mem_nil, or_false, not_or] at d
  exact ⟨K.C.far (p := ⟨gT, 0, none⟩) (K.C.ne_ K.T (by decide)) _, K.T.setv 0 _ rfl, K.I.far (p := ⟨gT, 0, none⟩) (K.I.ne_ K.T (by decide)) _, K.A.far (p := ⟨gT, 0, none⟩) (Ne.symm d.1.1) _, K.Y.far (p := ⟨gT, 0, none⟩) (K.Y.ne_ K.T (by decide)) _, K.M.far (p := ⟨gT, 0, none⟩) (K.M.ne_ K.T (by decide)) _, K.p.far (p := ⟨gT, 0, none⟩) (Ne.symm d.1.2.1) _, K.g.far (p := ⟨gT, 0, none⟩) (Ne.symm d.1.2.2) _, K.n, K.d⟩
set_option maxHeartbeats 3200000 in
set_option maxRecDepth 100000 in
theorem cm_exit (K : CmW w0 gC gT gI gA gY gM gp gg c tov i addr yb gm q g w) (hi : i.o = 0) :
    Calls Tryz.prog 190 #[.pointer (some ⟨gC, 0, none⟩), .pointer (some ⟨gT, 0, none⟩), .pointer (some ⟨gI, 0, none⟩), .pointer (some ⟨gA, 0, none⟩), .pointer (some ⟨gY, 0, none⟩), .pointer (some ⟨gM, 0, none⟩), .pointer (some ⟨gp, 0, none⟩), .pointer (some ⟨gg, 0, none⟩)] w
      (fun e w' => e = .returned (.tuple #[]) ∧ CmW w0 gC gT gI gA gY gM gp gg c 5 i addr yb gm q g w' ∧ Chg [gT] w w') := by
  have hmf : ∀ (fn : Fn) (first cap : Array Value) (w : World), (Instr.makeFunc fn first cap).run Tryz.prog w = .ok (.func fn first cap) w := fun _ _ _ _ => rfl
  have i0 : w.cell? ⟨gI, 0, none⟩ = some (.int .i64 0) := by
    have h : w.cell? ⟨gI, 0, none⟩ = some (.int .i64 (i.o : Nat)) := K.I.cellv 0 rfl
    rw [hi] at h; exact h
  have t0 : w.cell? ⟨gT, 0, none⟩ = some (.int .i64 tov) := K.T.cellv 0 rfl
  have ft := K.T.frozen 0
  have HK := Lib.hid K; clear K
  go_enter_defers Tryz.func190, Tryz.ntmps190
  go_wp2_with fail
  refine leaves_cons (f := 191) (args := #[.pointer (some ⟨gC, 0, none⟩), .pointer (some ⟨gT, 0, none⟩)]) (by simp) (by simp [go_sem]) ?_
  refine (cm_catch_idle _ _ _).mono ?_
  rintro e u' w'' ⟨rfl, rfl, c⟩
  show Leaves _ _ _ _ [] .returning w''
  exact ⟨_, results_none rfl _ _ _, rfl, (HK.out.toS 5).far c (by simp), ((Chg.refl [gT] w).setCell (.inl (by simp)) _).trans (c.mono (by simp))⟩
end
end Go.Proofs.YtoeppmnoifankaaGreatDoor
