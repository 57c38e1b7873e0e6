/- Package machine: take, where the P's own ring serves. -/
/- Package code: which part of an instruction is wrong. -/
import Derived.Test.YtepnlcemlnkpdaaGreatDoorMd4
import Derived.Test.YtepnlcemlnkpdaaGreatDoorMcUJ
import Derived.Test.YtepnlcemlnkpdaaGreatDoorMcCJ
namespace Go.Proofs.YtepnlcemlnkpdaaGreatDoor
set_option maxHeartbeats 16000000
set_option maxRecDepth 100000
open Go.RowKit Go.Maps
def takeA (m : Mac) (q g : Nat) : Mac := { m with ps := updV m.ps q { m.ps q with g := (g : Nat), row := 0, picks := (m.ps q).picks + 1 }, rg := updV m.rg q (rgPop (m.rg q)), sts := m.sts.set g 2, gs := updV m.gs g { m.gs g with p := (q : Nat) } }
theorem updV_updV {α : Type} (f : Nat → α) (i : Nat) (x y : α) : updV (updV f i x) i y = updV f i y := by
  funext k; unfold updV; by_cases h : k = i <;> simp [h]
section
variable {W : Bs} {w : World} {p : MAt} {m : Mac} (M : MM W w p m)
include M
theorem m_take (q g : Nat) (vic : Int) (hq : q < m.np) (h0 : m.ph.ph = 0) (hvq : p.vq = .slice none 0 0) (pk : Nat) (hpk : (m.ps q).picks = pk) (bpk : pk ≤ 1000000) (hs : (m.rg q).hs = false) (hfr : (m.rg q).fr < 256) (hn0 : 0 < (m.rg q).n) (hn : (m.rg q).n ≤ 256) (hg : (m.rg q).l (m.rg q).fr = (g : Nat)) (hgn : g < m.ng) (hst : m.sts[g]? = some 1) (hsl : m.sts.length ≤ 1000000) :
    Calls Tryz.prog 86 #[.pointer (some ⟨p.gm, 0, none⟩), .int .i64 (q : Nat), .int .i64 vic] w (fun e w' => e = .returned (.tuple #[]) ∧ MM W w' p (takeA m q g)) := by
  obtain ⟨b, cap, c9, hps⟩ := M.psl
  obtain ⟨hv, hbq, hbl⟩ := hps q hq
  rw [hv] at c9
  have e1 : (0 : Int) ≤ q := by omega
  have e2 : (q : Int) < (m.np : Int) := by omega
  have k2 : w.cell? ⟨p.bp q, 2, none⟩ = some (.int .i64 (pk : Nat)) := by rw [← hpk]; exact (M.pb hq).cellv 2 rfl
  have f2 := (M.pb hq).frozen 2
  have HM := Lib.hid M
  clear hps hv M
  go_enter Tryz.func86, Tryz.ntmps86
  go_upto_region 3 with fail
  obtain ⟨w1, hw1⟩ : ∃ w1, w1 = w.setCell ⟨p.bp q, 2, none⟩ (.int .i64 ((pk : Int) + 1)) := ⟨_, rfl⟩
  rw [← hw1]
  have M1 : MM W w1 p { m with ps := updV m.ps q { m.ps q with picks := (m.ps q).picks + 1 } } := by
    rw [hw1, ← hpk]
    exact HM.out.pset hq 2 _ _ rfl
  obtain ⟨m1, hm1⟩ : ∃ m1, m1 = { m with ps := updV m.ps q { m.ps q with picks := (m.ps q).picks + 1 } } := ⟨_, rfl⟩
  rw [← hm1] at M1
  have x1 : m1.ps q = { m.ps q with picks := (m.ps q).picks + 1 } := by rw [hm1]; exact updV_same _ _ _
  have k2 : w1.cell? ⟨p.bp q, 2, none⟩ = some (.int .i64 ((pk : Int) + 1)) := by
    have h := (M1.pb (q := q) (by rw [hm1]; exact hq)).cellv 2 (show (prcC (m1.ps q) (p.vsc q) (p.bn q))[2]? = some (.int .i64 ((m1.ps q).picks)) from rfl)
    rw [x1] at h
    rw [h]
    show some (Value.int .i64 ((m.ps q).picks + 1)) = _
    rw [hpk]
  have c15 : w1.cell? ⟨p.gm, 15, none⟩ = some (.pointer (some ⟨p.gph, 0, none⟩)) := M1.mb.cellv 15 rfl
  have c10 : w1.cell? ⟨p.gm, 10, none⟩ = some (.pointer (some ⟨p.gsd, 0, none⟩)) := M1.mb.cellv 10 rfl
  have c7 : w1.cell? ⟨p.gm, 7, none⟩ = some (.pointer (some ⟨p.gst, 0, none⟩)) := M1.mb.cellv 7 rfl
  have KP := ph_phase_ok p.gph p.bsd m1.ph w1 M1.ph
  have hm1ph : m1.ph = m.ph := by rw [hm1]
  rw [hm1ph, h0] at KP
  have KS := sc_pick_own M1.sc hvq q (by rw [hm1]; exact hq) 61 vic (.inr rfl) (by rw [hm1]; exact hs) (by rw [hm1]; exact hfr) (by rw [hm1]; exact hn0) (by rw [hm1]; exact hn)
  have H1 := Lib.hid (And.intro M1 (And.intro KP (And.intro KS hm1)))
  clear M1 KP KS hw1 c9 hbq hbl f2 hm1ph x1
  by_cases hpar : ((pk : Int) + 1) % 2 = 0
  · have d1 : (((pk : Int) + 1) % 2 == 0) = true := by rw [beq_iff_eq]; exact hpar
    go_wp2_with fail
    clear d1 hpar k2 c15
    refine H1.out.2.2.1.mono ?_
    rintro e w2 ⟨rfl, I2, C2⟩
    have M2 := H1.out.1.scT I2 C2 (fun j hj => .inl (.inr (.inr (.inr (.inr ⟨q, by rw [H1.out.2.2.2]; exact hq, by simpa using hj⟩))))) (fun j hj => .inl hj)
    have eg : (m1.rg q).l (m1.rg q).fr = (g : Nat) := by rw [H1.out.2.2.2]; exact hg
    rw [eg]
    have Cl := C2.blk (by exact H1.out.1.mb) (by have := H1.out.1.ap .mach .sched p.gm rfl; simp; intro e; exact absurd (this (.inr (.inr (.inr (.inr ⟨q, by rw [H1.out.2.2.2]; exact hq, e⟩))))) (by simp))
    have c7' : w2.cell? ⟨p.gm, 7, none⟩ = some (.pointer (some ⟨p.gst, 0, none⟩)) := Cl.cellv 7 rfl
    have H2 := Lib.hid M2; clear M2 I2 C2 Cl c10 c7 eg
    go_wp2_with fail
    obtain ⟨m2, hm2⟩ : ∃ m2, m2 = { m1 with rg := updV m1.rg q (rgPop (m1.rg q)), com := m1.com } := ⟨_, rfl⟩
    have M2 : MM W w2 p m2 := by rw [hm2]; exact H2.out
    have KM := st_move w2 p.gst p.vst m2.sts M2.st g 1 2 (by rw [hm2, H1.out.2.2.2]; exact hst) (.inl ⟨rfl, rfl⟩) (by rw [hm2, H1.out.2.2.2]; exact hsl)
    refine KM.mono ?_
    rintro e w3 ⟨rfl, I3, S3⟩
    have M3 := M2.stT I3 rfl S3
    obtain ⟨m3, hm3⟩ : ∃ m3, m3 = { m2 with sts := m2.sts.set g ((2 : Nat) : Int) } := ⟨_, rfl⟩
    rw [← hm3] at M3
    have hgn3 : g < m3.ng := by rw [hm3, hm2, H1.out.2.2.2]; exact hgn
    have hq3 : q < m3.np := by rw [hm3, hm2, H1.out.2.2.2]; exact hq
    obtain ⟨bb, cap2, c8, hgs⟩ := M3.gsl
    obtain ⟨hv8, hbg, -⟩ := hgs g hgn3
    rw [hv8] at c8
    have z0 := (M3.pb hq3).cellv 0 rfl
    have z1 := (M3.pb hq3).cellv 1 rfl
    have y0 := (M3.pb hq3).frozen 0
    have y1 := (M3.pb hq3).frozen 1
    have z2 := (M3.gb hgn3).cellv 19 (gorC_19 _)
    have y2 := (M3.gb hgn3).frozen 19
    have n1 : ¬ p.bg g = p.bp q := (M3.gb hgn3).ne_ (M3.pb hq3) (by decide)
    have n2 : ¬ p.bp q = p.bg g := fun e => n1 e.symm
    have u1 : (0 : Int) ≤ (g : Int) := by omega
    have u2 : (g : Int) < (m3.ng : Int) := by omega
    have H3 := Lib.hid (And.intro M3 (And.intro hm3 hm2)); clear M3 I3 S3 KM M2 hgs hv8 hm3 hm2
    go_wp2_with fail
    go_end0
    have M4 := ((H3.out.1.pset hq3 0 (.int .i64 (g : Nat)) { m3.ps q with g := (g : Nat) } rfl).pset (q := q) hq3 1 (.int .i64 0) { m3.ps q with g := (g : Nat), row := 0 } (by show (prcC (updV m3.ps q _ q) _ _).setIfInBounds 1 _ = _; rw [updV_same]; rfl)).gset (g := g) hgn3 19 (.int .i64 (q : Nat)) { m3.gs g with p := (q : Nat) } rfl
    refine ⟨rfl, ?_⟩
    have h := M4
    rw [H3.out.2.1, H3.out.2.2, H1.out.2.2.2] at h
    simp only [updV_same, updV_updV] at h
    exact h
  · have d1 : (((pk : Int) + 1) % 2 == 0) = false := by rw [beq_eq_false_iff_ne]; exact hpar
    go_wp2_with fail
    refine H1.out.2.1.mono ?_
    rintro e w1 ⟨rfl, rfl⟩
    go_wp2_with fail
    clear d1 hpar k2 c15
    refine H1.out.2.2.1.mono ?_
    rintro e w2 ⟨rfl, I2, C2⟩
    have M2 := H1.out.1.scT I2 C2 (fun j hj => .inl (.inr (.inr (.inr (.inr ⟨q, by rw [H1.out.2.2.2]; exact hq, by simpa using hj⟩))))) (fun j hj => .inl hj)
    have eg : (m1.rg q).l (m1.rg q).fr = (g : Nat) := by rw [H1.out.2.2.2]; exact hg
    rw [eg]
    have Cl := C2.blk (by exact H1.out.1.mb) (by have := H1.out.1.ap .mach .sched p.gm rfl; simp; intro e; exact absurd (this (.inr (.inr (.inr (.inr ⟨q, by rw [H1.out.2.2.2]; exact hq, e⟩))))) (by simp))
    have c7' : w2.cell? ⟨p.gm, 7, none⟩ = some (.pointer (some ⟨p.gst, 0, none⟩)) := Cl.cellv 7 rfl
    have H2 := Lib.hid M2; clear M2 I2 C2 Cl c10 c7 eg
    go_wp2_with fail
    obtain ⟨m2, hm2⟩ : ∃ m2, m2 = { m1 with rg := updV m1.rg q (rgPop (m1.rg q)), com := m1.com } := ⟨_, rfl⟩
    have M2 : MM W w2 p m2 := by rw [hm2]; exact H2.out
    have KM := st_move w2 p.gst p.vst m2.sts M2.st g 1 2 (by rw [hm2, H1.out.2.2.2]; exact hst) (.inl ⟨rfl, rfl⟩) (by rw [hm2, H1.out.2.2.2]; exact hsl)
    refine KM.mono ?_
    rintro e w3 ⟨rfl, I3, S3⟩
    have M3 := M2.stT I3 rfl S3
    obtain ⟨m3, hm3⟩ : ∃ m3, m3 = { m2 with sts := m2.sts.set g ((2 : Nat) : Int) } := ⟨_, rfl⟩
    rw [← hm3] at M3
    have hgn3 : g < m3.ng := by rw [hm3, hm2, H1.out.2.2.2]; exact hgn
    have hq3 : q < m3.np := by rw [hm3, hm2, H1.out.2.2.2]; exact hq
    obtain ⟨bb, cap2, c8, hgs⟩ := M3.gsl
    obtain ⟨hv8, hbg, -⟩ := hgs g hgn3
    rw [hv8] at c8
    have z0 := (M3.pb hq3).cellv 0 rfl
    have z1 := (M3.pb hq3).cellv 1 rfl
    have y0 := (M3.pb hq3).frozen 0
    have y1 := (M3.pb hq3).frozen 1
    have z2 := (M3.gb hgn3).cellv 19 (gorC_19 _)
    have y2 := (M3.gb hgn3).frozen 19
    have n1 : ¬ p.bg g = p.bp q := (M3.gb hgn3).ne_ (M3.pb hq3) (by decide)
    have n2 : ¬ p.bp q = p.bg g := fun e => n1 e.symm
    have u1 : (0 : Int) ≤ (g : Int) := by omega
    have u2 : (g : Int) < (m3.ng : Int) := by omega
    have H3 := Lib.hid (And.intro M3 (And.intro hm3 hm2)); clear M3 I3 S3 KM M2 hgs hv8 hm3 hm2
    go_wp2_with fail
    go_end0
    have M4 := ((H3.out.1.pset hq3 0 (.int .i64 (g : Nat)) { m3.ps q with g := (g : Nat) } rfl).pset (q := q) hq3 1 (.int .i64 0) { m3.ps q with g := (g : Nat), row := 0 } (by show (prcC (updV m3.ps q _ q) _ _).setIfInBounds 1 _ = _; rw [updV_same]; rfl)).gset (g := g) hgn3 19 (.int .i64 (q : Nat)) { m3.gs g with p := (q : Nat) } rfl
    refine ⟨rfl, ?_⟩
    have h := M4
    rw [H3.out.2.1, H3.out.2.2, H1.out.2.2.2] at h
    simp only [updV_same, updV_updV] at h
    exact h
end
theorem ptab_nat {o : Nat} (h : o ≤ 17) : ∃ x y z : Nat, ptab[o]? = some [(x : Int), (y : Int), (z : Int)] ∧ x ≤ 6 ∧ y ≤ 6 ∧ z ≤ 6 := by
  obtain ⟨x, y, z, hp, h1, h2, h3, h4, h5, h6⟩ := ptab_at h
  refine ⟨x.toNat, y.toNat, z.toNat, ?_, by omega, by omega, by omega⟩
  rw [hp, Int.toNat_of_nonneg h1, Int.toNat_of_nonneg h3, Int.toNat_of_nonneg h5]
structure WrW (w0 : World) (g1 g2 : Nat) (G F S : Nat) (i : Ins) (w : World) : Prop where
  b1 : Blk w g1 172 #[.int .i64 (G : Nat), .int .i64 (F : Nat), .int .i64 (S : Nat)]
  b2 : Blk w g2 27 #[.int .i64 (i.o : Nat), .int .i64 (i.a : Nat), .int .i64 (i.b : Nat), .int .i64 (i.c : Nat)]
  c : Chg [] w0 w
theorem WrW.chg {w0 w w' : World} {g1 g2 G F S : Nat} {i : Ins} (h : WrW w0 g1 g2 G F S i w) (c : Chg [] w w') : WrW w0 g1 g2 G F S i w' := ⟨c.blk h.b1 (by simp), c.blk h.b2 (by simp), h.c.trans c⟩
theorem WrW.drew {w0 w : World} {g1 g2 G F S : Nat} {i : Ins} (h : WrW w0 g1 g2 G F S i w) : WrW w0 g1 g2 G F S i w.drew := h.chg (Chg.refl [] w).drew
theorem WrW.alloc {w0 w : World} {g1 g2 G F S : Nat} {i : Ins} (h : WrW w0 g1 g2 G F S i w) (o : Obj) : WrW w0 g1 g2 G F S i (w.alloc o) := h.chg ((Chg.refl [] w).alloc o)
section
variable {w0 w : World} {g1 g2 G F S : Nat} {i : Ins} (h : WrW w0 g1 g2 G F S i w)
include h
theorem WrW.c0 : w.cell? ⟨g1, 0, none⟩ = some (.int .i64 (G : Nat)) := h.b1.cellv 0 rfl
theorem WrW.c1 : w.cell? ⟨g1, 1, none⟩ = some (.int .i64 (F : Nat)) := h.b1.cellv 1 rfl
theorem WrW.c2 : w.cell? ⟨g1, 2, none⟩ = some (.int .i64 (S : Nat)) := h.b1.cellv 2 rfl
theorem WrW.c3 : w.cell? ⟨g2, 1, none⟩ = some (.int .i64 (i.a : Nat)) := h.b2.cellv 1 rfl
theorem WrW.c4 : w.cell? ⟨g2, 2, none⟩ = some (.int .i64 (i.b : Nat)) := h.b2.cellv 2 rfl
theorem WrW.c5 : w.cell? ⟨g2, 3, none⟩ = some (.int .i64 (i.c : Nat)) := h.b2.cellv 3 rfl
end
theorem wrI_form {G F S : Nat} {i : Ins} {x y z : Nat} (h : i.o ≤ 17 ∧ ptab[i.o]? = some [(x : Int), (y : Int), (z : Int)]) : wrI G F S i = if fitsP G F S x i.a then if fitsP G F S y i.b then if fitsP G F S z i.c then -1 else 3 else 2 else 1 := by
  unfold wrI wrongP
  rw [if_neg (by omega), h.2]
theorem run_idx3 (w : World) (a b c : Value) : (Instr.index 338 (.agg #[a, b, c]) (.int .i64 0)).run Tryz.prog w = .ok a w ∧ (Instr.index 338 (.agg #[a, b, c]) (.int .i64 1)).run Tryz.prog w = .ok b w ∧ (Instr.index 338 (.agg #[a, b, c]) (.int .i64 2)).run Tryz.prog w = .ok c w := by
  refine ⟨?_, ?_, ?_⟩ <;> kernel_rfl
def WrRel (w0 : World) (g1 g2 G F S : Nat) (i : Ins) (x y z : Nat) (gk : Nat) (idx : Value) (w : World) : Prop :=
  WrW w0 g1 g2 G F S i w ∧ ((gk = 4 ∧ idx = .int .i64 0) ∨ (gk = 3 ∧ idx = .int .i64 1 ∧ fitsP G F S x i.a = true) ∨ (gk = 2 ∧ idx = .int .i64 2 ∧ fitsP G F S x i.a = true ∧ fitsP G F S y i.b = true) ∨ (gk = 1 ∧ idx = .int .i64 3 ∧ fitsP G F S x i.a = true ∧ fitsP G F S y i.b = true ∧ fitsP G F S z i.c = true))
set_option maxHeartbeats 4000000 in
theorem cd_wrong (w : World) (G F S : Nat) (i : Ins) : Calls Tryz.prog 152 #[.agg #[.int .i64 (G : Nat), .int .i64 (F : Nat), .int .i64 (S : Nat)], .agg #[.int .i64 (i.o : Nat), .int .i64 (i.a : Nat), .int .i64 (i.b : Nat), .int .i64 (i.c : Nat)]] w (NwPost (.int .i64 (wrI G F S i)) w) := by
  obtain ⟨w2, hw2⟩ : ∃ w2, w2 = (w.alloc (.cells #[.int .i64 (G : Nat), .int .i64 (F : Nat), .int .i64 (S : Nat)] 172)).alloc (.cells #[.int .i64 (i.o : Nat), .int .i64 (i.a : Nat), .int .i64 (i.b : Nat), .int .i64 (i.c : Nat)] 27) := ⟨_, rfl⟩
  have K : WrW w w.heap.size (w.heap.size + 1) G F S i w2 := by
    rw [hw2]
    refine ⟨(Blk.new _ _ _).alloc _, ?_, ((Chg.refl _ _).alloc _).alloc _⟩
    have := Blk.new (w.alloc (.cells #[.int .i64 (G : Nat), .int .i64 (F : Nat), .int .i64 (S : Nat)] 172)) 27 #[.int .i64 (i.o : Nat), .int .i64 (i.a : Nat), .int .i64 (i.b : Nat), .int .i64 (i.c : Nat)]
    rwa [World.size_alloc] at this
  have k0 : w2.cell? ⟨w.heap.size + 1, 0, none⟩ = some (.int .i64 (i.o : Nat)) := K.b2.cellv 0 rfl
  by_cases ho : i.o ≤ 17
  · obtain ⟨x, y, z, hp, hx, hy, hz⟩ := ptab_nat ho
    have hidx := fun w => run_parts_at w ho hp
    have d1 : decide ((i.o : Int) < 0) = false := decide_eq_false (by omega)
    have d2 : decide ((i.o : Int) > 17) = false := decide_eq_false (by omega)
    have d3 : ¬ ((i.o : Int) > 17) := by omega
    go_enter Tryz.func152, Tryz.ntmps152
    go_upto_region 1 with fail
    rw [← hw2]
    have HK := Lib.hid (And.intro K hp); clear K hp hw2
    go_wp2_with fail
    have k1 : Chg [] w2 w2.drew := (Chg.refl [] w2).drew
    go_region_held3 (fun w' => w'.cell? ⟨w.heap.size + 1, 0, none⟩ = some (.int .i64 (i.o : Nat)) ∧ Chg [] w2 w') (go_keep)
      (first | (go_at_call 247; refine (cd_parts _).mono ?_; rintro e w' ⟨rfl, C⟩; have D := Chg.trans ‹Chg [] w2 _› C; have z1 := D.cellv HK.out.1.b2.lt (by simp) k0))
    have HR := Lib.hid (And.intro (HK.out.1.chg ‹Chg [] w2 w'›) (And.intro ho HK.out.2))
    clear HK ho d1 d2 d3 hidx k1 k0
    go_wp2_with fail
    go_loopg [19] 4 (fun gk idx wr => WrRel w w.heap.size (w.heap.size + 1) G F S i x y z gk idx wr)
    case atStart => exact ⟨HR.out.1, .inl ⟨rfl, rfl⟩⟩
    case round =>
      obtain ⟨V, hk⟩ := hrel
      have HR := Lib.hid HR.out.2
      obtain ⟨i0, i1, i2⟩ := run_idx3 wr (.int .i64 (x : Nat)) (.int .i64 (y : Nat)) (.int .i64 (z : Nat))
      rcases hk with ⟨rfl, rfl⟩ | ⟨rfl, rfl, q0⟩ | ⟨rfl, rfl, q0, q1⟩ | ⟨rfl, rfl, q0, q1, q2⟩
      · go_wp2_with fail
        refine wp_region_takes (fuel := 5) 12 (fun w' => WrW w w.heap.size (w.heap.size + 1) G F S i w') [0, 1, 2, 3, 4, 5, 6, 7, 9] (by kernel_rfl) (by kernel_rfl) (fun _ _ _ _ _ h => h) (V.drew) ?_
        simp only [List.filterMap_cons, List.filterMap_nil, qGa, qGb]
        iterate 9
          refine wpTake_step (fun K hK => ?_)
          rw [if_pos (by rfl)]
          refine ⟨?_, fun w' hS' => ?_, ?_⟩
          rotate_left 1
          focus
            have j0 := hS'.c0
            have j1 := hS'.c1
            have j2 := hS'.c2
            have j3 := hS'.c3
            have j4 := hS'.c4
            have j5 := hS'.c5
            go_simp
            try with_reducible rfl
            done
          simp only [Act.put, qSa, qSb, qSc]
          refine hK _ ?_
          clear hK K
        refine wpTake_nil ?_
        generalize hx0 : wr.drew = x0
        have D0 : WrW w w.heap.size (w.heap.size + 1) G F S i x0 := by rw [← hx0]; exact V.drew
        clear hx0
        refine wpAnyS_ready (rs := [8]) (by kernel_rfl) (by simp) ?_
        refine AllReadyS.o (fun K hK => ?_)
        rw [if_pos (by rfl)]
        go_simp
        refine hK _ _ (D0.alloc _) ?_
        clear hK K
        try simp only [Act.put, qSa, qSb, qSc]
        refine wpAnyS_ready (rs := [10]) (by kernel_rfl) (by simp) ?_
        refine AllReadyS.o (fun K hK => ?_)
        rw [if_pos (by rfl)]
        go_simp
        refine hK _ _ ((D0.alloc _)) ?_
        clear hK K
        try simp only [Act.put, qSa, qSb, qSc]
        refine wpAnyS_ready (rs := [11]) (by kernel_rfl) (by simp) ?_
        refine AllReadyS.o (fun K hK => ?_)
        rw [if_pos (by rfl)]
        go_simp
        refine hK _ _ ((D0.alloc _)) ?_
        clear hK K
        try simp only [Act.put, qSa, qSb, qSc]
        refine wpAnyS_tail 12 2 (by kernel_rfl) rfl ?_
        simp only [qDa, qDb]
        go_wp2_with fail
        refine (cd_fits _ G F S x i.a hx).mono ?_
        rintro e w6 ⟨rfl, c6⟩
        have D6 := WrW.chg (D0.alloc _) c6
        cases hf : fitsP G F S x i.a
        · have HD := Lib.hid (And.intro D6 hf)
          clear D6 D0 hf c6
          go_wp2_with fail
          go_ret
          exact ⟨by rw [wrI_form HR.out]; simp [HD.out.2], HD.out.1.c⟩
        · have HD := Lib.hid (And.intro D6 hf)
          clear D6 D0 hf c6
          go_wp2_with fail
          go_roundg 3
          case measure => omega
          case rel => exact ⟨HD.out.1, .inr (.inl ⟨rfl, rfl, HD.out.2⟩)⟩
      · go_wp2_with fail
        refine wp_region_takes (fuel := 5) 12 (fun w' => WrW w w.heap.size (w.heap.size + 1) G F S i w') [0, 1, 2, 3, 4, 5, 6, 7, 9] (by kernel_rfl) (by kernel_rfl) (fun _ _ _ _ _ h => h) (V.drew) ?_
        simp only [List.filterMap_cons, List.filterMap_nil, qGa, qGb]
        iterate 9
          refine wpTake_step (fun K hK => ?_)
          rw [if_pos (by rfl)]
          refine ⟨?_, fun w' hS' => ?_, ?_⟩
          rotate_left 1
          focus
            have j0 := hS'.c0
            have j1 := hS'.c1
            have j2 := hS'.c2
            have j3 := hS'.c3
            have j4 := hS'.c4
            have j5 := hS'.c5
            go_simp
            try with_reducible rfl
            done
          simp only [Act.put, qSa, qSb, qSc]
          refine hK _ ?_
          clear hK K
        refine wpTake_nil ?_
        generalize hx0 : wr.drew = x0
        have D0 : WrW w w.heap.size (w.heap.size + 1) G F S i x0 := by rw [← hx0]; exact V.drew
        clear hx0
        refine wpAnyS_ready (rs := [8]) (by kernel_rfl) (by simp) ?_
        refine AllReadyS.o (fun K hK => ?_)
        rw [if_pos (by rfl)]
        go_simp
        refine hK _ _ (D0.alloc _) ?_
        clear hK K
        try simp only [Act.put, qSa, qSb, qSc]
        refine wpAnyS_ready (rs := [10]) (by kernel_rfl) (by simp) ?_
        refine AllReadyS.o (fun K hK => ?_)
        rw [if_pos (by rfl)]
        go_simp
        refine hK _ _ ((D0.alloc _)) ?_
        clear hK K
        try simp only [Act.put, qSa, qSb, qSc]
        refine wpAnyS_ready (rs := [11]) (by kernel_rfl) (by simp) ?_
        refine AllReadyS.o (fun K hK => ?_)
        rw [if_pos (by rfl)]
        go_simp
        refine hK _ _ ((D0.alloc _)) ?_
        clear hK K
        try simp only [Act.put, qSa, qSb, qSc]
        refine wpAnyS_tail 12 2 (by kernel_rfl) rfl ?_
        simp only [qDa, qDb]
        go_wp2_with fail
        refine (cd_fits _ G F S y i.b hy).mono ?_
        rintro e w6 ⟨rfl, c6⟩
        have D6 := WrW.chg (D0.alloc _) c6
        cases hf : fitsP G F S y i.b
        · have HD := Lib.hid (And.intro D6 hf)
          clear D6 D0 hf c6
          go_wp2_with fail
          go_ret
          exact ⟨by rw [wrI_form HR.out]; simp [HD.out.2, q0], HD.out.1.c⟩
        · have HD := Lib.hid (And.intro D6 hf)
          clear D6 D0 hf c6
          go_wp2_with fail
          go_roundg 2
          case measure => omega
          case rel => exact ⟨HD.out.1, .inr (.inr (.inl ⟨rfl, rfl, q0, HD.out.2⟩))⟩
      · go_wp2_with fail
        refine wp_region_takes (fuel := 5) 12 (fun w' => WrW w w.heap.size (w.heap.size + 1) G F S i w') [0, 1, 2, 3, 4, 5, 6, 7, 9] (by kernel_rfl) (by kernel_rfl) (fun _ _ _ _ _ h => h) (V.drew) ?_
        simp only [List.filterMap_cons, List.filterMap_nil, qGa, qGb]
        iterate 9
          refine wpTake_step (fun K hK => ?_)
          rw [if_pos (by rfl)]
          refine ⟨?_, fun w' hS' => ?_, ?_⟩
          rotate_left 1
          focus
            have j0 := hS'.c0
            have j1 := hS'.c1
            have j2 := hS'.c2
            have j3 := hS'.c3
            have j4 := hS'.c4
            have j5 := hS'.c5
            go_simp
            try with_reducible rfl
            done
          simp only [Act.put, qSa, qSb, qSc]
          refine hK _ ?_
          clear hK K
        refine wpTake_nil ?_
        generalize hx0 : wr.drew = x0
        have D0 : WrW w w.heap.size (w.heap.size + 1) G F S i x0 := by rw [← hx0]; exact V.drew
        clear hx0
        refine wpAnyS_ready (rs := [8]) (by kernel_rfl) (by simp) ?_
        refine AllReadyS.o (fun K hK => ?_)
        rw [if_pos (by rfl)]
        go_simp
        refine hK _ _ (D0.alloc _) ?_
        clear hK K
        try simp only [Act.put, qSa, qSb, qSc]
        refine wpAnyS_ready (rs := [10]) (by kernel_rfl) (by simp) ?_
        refine AllReadyS.o (fun K hK => ?_)
        rw [if_pos (by rfl)]
        go_simp
        refine hK _ _ ((D0.alloc _)) ?_
        clear hK K
        try simp only [Act.put, qSa, qSb, qSc]
        refine wpAnyS_ready (rs := [11]) (by kernel_rfl) (by simp) ?_
        refine AllReadyS.o (fun K hK => ?_)
        rw [if_pos (by rfl)]
        go_simp
        refine hK _ _ ((D0.alloc _)) ?_
        clear hK K
        try simp only [Act.put, qSa, qSb, qSc]
        refine wpAnyS_tail 12 2 (by kernel_rfl) rfl ?_
        simp only [qDa, qDb]
        go_wp2_with fail
        refine (cd_fits _ G F S z i.c hz).mono ?_
        rintro e w6 ⟨rfl, c6⟩
        have D6 := WrW.chg (D0.alloc _) c6
        cases hf : fitsP G F S z i.c
        · have HD := Lib.hid (And.intro D6 hf)
          clear D6 D0 hf c6
          go_wp2_with fail
          go_ret
          exact ⟨by rw [wrI_form HR.out]; simp [HD.out.2, q0, q1], HD.out.1.c⟩
        · have HD := Lib.hid (And.intro D6 hf)
          clear D6 D0 hf c6
          go_wp2_with fail
          go_roundg 1
          case measure => omega
          case rel => exact ⟨HD.out.1, .inr (.inr (.inr ⟨rfl, rfl, q0, q1, HD.out.2⟩))⟩
      · have HD := Lib.hid (And.intro V (And.intro q0 (And.intro q1 q2)))
        clear V q0 q1 q2
        go_wp2_with fail
        go_ret
        exact ⟨by rw [wrI_form HR.out]; simp [HD.out.2.1, HD.out.2.2.1, HD.out.2.2.2], HD.out.1.c⟩
  · have d1 : decide ((i.o : Int) < 0) = false := decide_eq_false (by omega)
    have d2 : decide ((i.o : Int) > 17) = true := decide_eq_true (by omega)
    have d3 : (i.o : Int) > 17 := by omega
    have e : wrI G F S i = 0 := by unfold wrI wrongP; rw [if_pos (by omega)]
    rw [e]
    go_enter Tryz.func152, Tryz.ntmps152
    go_upto_region 1 with fail
    rw [← hw2]
    have HK := Lib.hid K; clear K hw2
    go_wp2_with fail
    go_ret
    exact ⟨rfl, HK.out.c⟩
end Go.Proofs.YtepnlcemlnkpdaaGreatDoor
