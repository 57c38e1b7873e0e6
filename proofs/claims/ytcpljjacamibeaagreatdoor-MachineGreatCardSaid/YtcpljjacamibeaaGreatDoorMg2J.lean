/- Package machine: control: Set, Dec, Jump, Spawn. -/
/- Package machine: commit's inner function: Exit, Yield, what control does. -/
import Derived.Test.YtcpljjacamibeaaGreatDoorMg1
namespace Go.Proofs.YtcpljjacamibeaaGreatDoor
set_option maxHeartbeats 16000000
set_option maxRecDepth 100000
open Go.RowKit Go.Maps
theorem gorC_at3 (x : GorA) {j : Nat} (h : j < 16) : (gorC x)[3 + j]? = some (.int .i64 (x.st j)) := by
  unfold gorC
  rw [List.getElem?_toArray, List.append_assoc, List.getElem?_append_right (by simp), List.getElem?_append_left (by simp; omega)]
  simp [h]
structure CtV (w0 : World) (gY gI yb : Nat) (i : Ins) (w : World) : Prop where
  Y : Blk w gY 115 #[.pointer (some ⟨yb, 0, none⟩)]
  I : Blk w gI 33 #[.int .i64 (i.o : Nat), .int .i64 (i.a : Nat), .int .i64 (i.b : Nat), .int .i64 (i.c : Nat)]
  c : Chg [] w0 w
  n1 : w0.heap.size ≤ gY
  n2 : w0.heap.size ≤ gI
theorem CtV.mk_ (w : World) (yb : Nat) (i : Ins) : CtV w w.heap.size (w.heap.size + 1) yb i ((w.alloc (.cells #[.pointer (some ⟨yb, 0, none⟩)] 115)).alloc (.cells #[.int .i64 (i.o : Nat), .int .i64 (i.a : Nat), .int .i64 (i.b : Nat), .int .i64 (i.c : Nat)] 33)) := by
  have h := Blk.new (w.alloc (.cells #[.pointer (some ⟨yb, 0, none⟩)] 115)) 33 #[.int .i64 (i.o : Nat), .int .i64 (i.a : Nat), .int .i64 (i.b : Nat), .int .i64 (i.c : Nat)]
  rw [World.size_alloc] at h
  exact ⟨(Blk.new w _ _).alloc _, h, ((Chg.refl [] w).alloc _).alloc _, by omega, by omega⟩
def setGor (m : Mac) (g : Nat) (x : GorA) : Mac := { m with gs := updV m.gs g x }
def CtPost (W : Bs) (p : MAt) (m2 : Mac) (v : Int) (e : Ending) (w' : World) : Prop := e = .returned (.int .i64 v) ∧ MM W w' p m2
section
variable {W : Bs} {w : World} {p : MAt} {m : Mac} (M : MM W w p m)
include M
theorem ctl_set (q g : Nat) (i : Ins) (hi : i.o = 16) (hg : g < m.ng) (ha : i.a < 256) (hb : i.b < 256) : Calls Tryz.prog 228 #[.pointer (some ⟨p.gm, 0, none⟩), .int .i64 (q : Nat), .pointer (some ⟨p.bg g, 0, none⟩), insV i] w (CtPost W p (setGor m g { m.gs g with cnt := 256 * (i.a : Nat) + (i.b : Nat) }) 0) := by
  obtain ⟨io, ia, ib, ic⟩ := i
  have hi : io = 16 := hi
  subst hi
  have ha : (ia : Int) < 256 := by have h : ia < 256 := ha; omega
  have hb : (ib : Int) < 256 := by have h : ib < 256 := hb; omega
  have hmf : ∀ (fn : Fn) (first cap : Array Value) (w : World), (Instr.makeFunc fn first cap).run Tryz.prog w = .ok (.func fn first cap) w := fun _ _ _ _ => rfl
  have HM := Lib.hid M; clear M
  unfold insV
  go_enter Tryz.func228, Tryz.ntmps228
  go_upto_region 2 with fail
  obtain ⟨gY, hgY⟩ : ∃ g', g' = w.heap.size := ⟨_, rfl⟩
  obtain ⟨gI, hgI⟩ : ∃ g', g' = w.heap.size + 1 := ⟨_, rfl⟩
  obtain ⟨w1, hw1⟩ : ∃ w1, w1 = (w.alloc (.cells #[.pointer (some ⟨p.bg g, 0, none⟩)] 115)).alloc (.cells #[.int .i64 16, .int .i64 (ia : Nat), .int .i64 (ib : Nat), .int .i64 (ic : Nat)] 33) := ⟨_, rfl⟩
  rw [← hw1, ← hgI, ← hgY]
  have V1 : CtV w gY gI (p.bg g) ⟨16, ia, ib, ic⟩ w1 := by rw [hw1, hgY, hgI]; exact CtV.mk_ w (p.bg g) ⟨16, ia, ib, ic⟩
  have M1 := HM.out.chg0 V1.c
  have y0 : w1.cell? ⟨gY, 0, none⟩ = some (.pointer (some ⟨p.bg g, 0, none⟩)) := V1.Y.cellv 0 rfl
  have i0 : w1.cell? ⟨gI, 0, none⟩ = some (.int .i64 16) := V1.I.cellv 0 rfl
  have i1 : w1.cell? ⟨gI, 1, none⟩ = some (.int .i64 (ia : Nat)) := V1.I.cellv 1 rfl
  have i2 : w1.cell? ⟨gI, 2, none⟩ = some (.int .i64 (ib : Nat)) := V1.I.cellv 2 rfl
  have i3 : w1.cell? ⟨gI, 3, none⟩ = some (.int .i64 (ic : Nat)) := V1.I.cellv 3 rfl
  clear hw1 hgY hgI
  have f2 := (M1.gb hg).frozen 2
  have g2 : w1.cell? ⟨p.bg g, 2, none⟩ = some (.int .i64 (m.gs g).cnt) := (M1.gb hg).cellv 2 rfl
  have H1 := Lib.hid (And.intro V1 M1); clear V1 M1
  go_wp2_with fail
  go_ret
  exact ⟨rfl, by
    have h := H1.out.2.gset hg 2 (.int .i64 (256 * (ia : Nat) + (ib : Nat) : Int)) { m.gs g with cnt := 256 * (ia : Nat) + (ib : Nat) } rfl
    exact h⟩
theorem ctl_jump (q g : Nat) (i : Ins) (hi : i.o = 14) (hg : g < m.ng) (ha : i.a < 256) (hb : i.b < 256) : Calls Tryz.prog 228 #[.pointer (some ⟨p.gm, 0, none⟩), .int .i64 (q : Nat), .pointer (some ⟨p.bg g, 0, none⟩), insV i] w (CtPost W p (setGor m g { m.gs g with pc := (i.a : Nat) }) 0) := by
  obtain ⟨io, ia, ib, ic⟩ := i
  have hi : io = 14 := hi
  subst hi
  have ha : (ia : Int) < 256 := by have h : ia < 256 := ha; omega
  have hb : (ib : Int) < 256 := by have h : ib < 256 := hb; omega
  have hmf : ∀ (fn : Fn) (first cap : Array Value) (w : World), (Instr.makeFunc fn first cap).run Tryz.prog w = .ok (.func fn first cap) w := fun _ _ _ _ => rfl
  have HM := Lib.hid M; clear M
  unfold insV
  go_enter Tryz.func228, Tryz.ntmps228
  go_upto_region 2 with fail
  obtain ⟨gY, hgY⟩ : ∃ g', g' = w.heap.size := ⟨_, rfl⟩
  obtain ⟨gI, hgI⟩ : ∃ g', g' = w.heap.size + 1 := ⟨_, rfl⟩
  obtain ⟨w1, hw1⟩ : ∃ w1, w1 = (w.alloc (.cells #[.pointer (some ⟨p.bg g, 0, none⟩)] 115)).alloc (.cells #[.int .i64 14, .int .i64 (ia : Nat), .int .i64 (ib : Nat), .int .i64 (ic : Nat)] 33) := ⟨_, rfl⟩
  rw [← hw1, ← hgI, ← hgY]
  have V1 : CtV w gY gI (p.bg g) ⟨14, ia, ib, ic⟩ w1 := by rw [hw1, hgY, hgI]; exact CtV.mk_ w (p.bg g) ⟨14, ia, ib, ic⟩
  have M1 := HM.out.chg0 V1.c
  have y0 : w1.cell? ⟨gY, 0, none⟩ = some (.pointer (some ⟨p.bg g, 0, none⟩)) := V1.Y.cellv 0 rfl
  have i0 : w1.cell? ⟨gI, 0, none⟩ = some (.int .i64 14) := V1.I.cellv 0 rfl
  have i1 : w1.cell? ⟨gI, 1, none⟩ = some (.int .i64 (ia : Nat)) := V1.I.cellv 1 rfl
  have i2 : w1.cell? ⟨gI, 2, none⟩ = some (.int .i64 (ib : Nat)) := V1.I.cellv 2 rfl
  have i3 : w1.cell? ⟨gI, 3, none⟩ = some (.int .i64 (ic : Nat)) := V1.I.cellv 3 rfl
  clear hw1 hgY hgI
  have f1 := (M1.gb hg).frozen 1
  have g1 : w1.cell? ⟨p.bg g, 1, none⟩ = some (.int .i64 (m.gs g).pc) := (M1.gb hg).cellv 1 rfl
  have H1 := Lib.hid (And.intro V1 M1); clear V1 M1
  go_wp2_with fail
  go_ret
  exact ⟨rfl, by
    have h := H1.out.2.gset hg 1 (.int .i64 (ia : Nat)) { m.gs g with pc := (ia : Nat) } rfl
    exact h⟩
theorem ctl_dec0 (q g : Nat) (i : Ins) (hi : i.o = 17) (hg : g < m.ng) (ha : i.a < 256) (hb : i.b < 256) (hcnt : (m.gs g).cnt = 0) : Calls Tryz.prog 228 #[.pointer (some ⟨p.gm, 0, none⟩), .int .i64 (q : Nat), .pointer (some ⟨p.bg g, 0, none⟩), insV i] w (CtPost W p (m) 0) := by
  obtain ⟨io, ia, ib, ic⟩ := i
  have hi : io = 17 := hi
  subst hi
  have ha : (ia : Int) < 256 := by have h : ia < 256 := ha; omega
  have hb : (ib : Int) < 256 := by have h : ib < 256 := hb; omega
  have hmf : ∀ (fn : Fn) (first cap : Array Value) (w : World), (Instr.makeFunc fn first cap).run Tryz.prog w = .ok (.func fn first cap) w := fun _ _ _ _ => rfl
  have HM := Lib.hid M; clear M
  unfold insV
  go_enter Tryz.func228, Tryz.ntmps228
  go_upto_region 2 with fail
  obtain ⟨gY, hgY⟩ : ∃ g', g' = w.heap.size := ⟨_, rfl⟩
  obtain ⟨gI, hgI⟩ : ∃ g', g' = w.heap.size + 1 := ⟨_, rfl⟩
  obtain ⟨w1, hw1⟩ : ∃ w1, w1 = (w.alloc (.cells #[.pointer (some ⟨p.bg g, 0, none⟩)] 115)).alloc (.cells #[.int .i64 17, .int .i64 (ia : Nat), .int .i64 (ib : Nat), .int .i64 (ic : Nat)] 33) := ⟨_, rfl⟩
  rw [← hw1, ← hgI, ← hgY]
  have V1 : CtV w gY gI (p.bg g) ⟨17, ia, ib, ic⟩ w1 := by rw [hw1, hgY, hgI]; exact CtV.mk_ w (p.bg g) ⟨17, ia, ib, ic⟩
  have M1 := HM.out.chg0 V1.c
  have y0 : w1.cell? ⟨gY, 0, none⟩ = some (.pointer (some ⟨p.bg g, 0, none⟩)) := V1.Y.cellv 0 rfl
  have i0 : w1.cell? ⟨gI, 0, none⟩ = some (.int .i64 17) := V1.I.cellv 0 rfl
  have i1 : w1.cell? ⟨gI, 1, none⟩ = some (.int .i64 (ia : Nat)) := V1.I.cellv 1 rfl
  have i2 : w1.cell? ⟨gI, 2, none⟩ = some (.int .i64 (ib : Nat)) := V1.I.cellv 2 rfl
  have i3 : w1.cell? ⟨gI, 3, none⟩ = some (.int .i64 (ic : Nat)) := V1.I.cellv 3 rfl
  clear hw1 hgY hgI
  have g2 : w1.cell? ⟨p.bg g, 2, none⟩ = some (.int .i64 0) := by rw [← hcnt]; exact (M1.gb hg).cellv 2 rfl
  have H1 := Lib.hid (And.intro V1 M1); clear V1 M1 hcnt
  go_wp2_with fail
  go_ret
  exact ⟨rfl, H1.out.2⟩
theorem ctl_dec (q g : Nat) (i : Ins) (hi : i.o = 17) (hg : g < m.ng) (ha : i.a < 256) (hb : i.b < 256) (n : Nat) (hcnt : (m.gs g).cnt = (n : Nat)) (hn0 : 1 ≤ n) (hn1 : n ≤ 1000000) : Calls Tryz.prog 228 #[.pointer (some ⟨p.gm, 0, none⟩), .int .i64 (q : Nat), .pointer (some ⟨p.bg g, 0, none⟩), insV i] w (CtPost W p (setGor m g { m.gs g with cnt := (n : Int) - 1, pc := (i.a : Nat) }) 0) := by
  obtain ⟨io, ia, ib, ic⟩ := i
  have hi : io = 17 := hi
  subst hi
  have ha : (ia : Int) < 256 := by have h : ia < 256 := ha; omega
  have hb : (ib : Int) < 256 := by have h : ib < 256 := hb; omega
  have hmf : ∀ (fn : Fn) (first cap : Array Value) (w : World), (Instr.makeFunc fn first cap).run Tryz.prog w = .ok (.func fn first cap) w := fun _ _ _ _ => rfl
  have HM := Lib.hid M; clear M
  unfold insV
  go_enter Tryz.func228, Tryz.ntmps228
  go_upto_region 2 with fail
  obtain ⟨gY, hgY⟩ : ∃ g', g' = w.heap.size := ⟨_, rfl⟩
  obtain ⟨gI, hgI⟩ : ∃ g', g' = w.heap.size + 1 := ⟨_, rfl⟩
  obtain ⟨w1, hw1⟩ : ∃ w1, w1 = (w.alloc (.cells #[.pointer (some ⟨p.bg g, 0, none⟩)] 115)).alloc (.cells #[.int .i64 17, .int .i64 (ia : Nat), .int .i64 (ib : Nat), .int .i64 (ic : Nat)] 33) := ⟨_, rfl⟩
  rw [← hw1, ← hgI, ← hgY]
  have V1 : CtV w gY gI (p.bg g) ⟨17, ia, ib, ic⟩ w1 := by rw [hw1, hgY, hgI]; exact CtV.mk_ w (p.bg g) ⟨17, ia, ib, ic⟩
  have M1 := HM.out.chg0 V1.c
  have y0 : w1.cell? ⟨gY, 0, none⟩ = some (.pointer (some ⟨p.bg g, 0, none⟩)) := V1.Y.cellv 0 rfl
  have i0 : w1.cell? ⟨gI, 0, none⟩ = some (.int .i64 17) := V1.I.cellv 0 rfl
  have i1 : w1.cell? ⟨gI, 1, none⟩ = some (.int .i64 (ia : Nat)) := V1.I.cellv 1 rfl
  have i2 : w1.cell? ⟨gI, 2, none⟩ = some (.int .i64 (ib : Nat)) := V1.I.cellv 2 rfl
  have i3 : w1.cell? ⟨gI, 3, none⟩ = some (.int .i64 (ic : Nat)) := V1.I.cellv 3 rfl
  clear hw1 hgY hgI
  have f1 := (M1.gb hg).frozen 1
  have f2 := (M1.gb hg).frozen 2
  have g1 : w1.cell? ⟨p.bg g, 1, none⟩ = some (.int .i64 (m.gs g).pc) := (M1.gb hg).cellv 1 rfl
  have g2 : w1.cell? ⟨p.bg g, 2, none⟩ = some (.int .i64 (n : Nat)) := by rw [← hcnt]; exact (M1.gb hg).cellv 2 rfl
  have h0 : (0 : Int) < n := by omega
  have h1 : (n : Int) > 0 := by omega
  have n1 : ¬ gY = p.bg g := V1.Y.ne_ (M1.gb hg) (by decide)
  have n2 : ¬ gI = p.bg g := V1.I.ne_ (M1.gb hg) (by decide)
  have n3 : ¬ p.bg g = gY := fun e => n1 e.symm
  have n4 : ¬ p.bg g = gI := fun e => n2 e.symm
  have HC := Lib.hid hcnt; clear hcnt
  have H1 := Lib.hid (And.intro V1 M1); clear V1 M1
  go_wp2_with fail
  go_ret
  exact ⟨rfl, by
    have h := (H1.out.2.gset hg 2 (.int .i64 ((n : Int) - 1)) { m.gs g with cnt := (n : Int) - 1 } rfl).gset (g := g) hg 1 (.int .i64 (ia : Nat)) { m.gs g with cnt := (n : Int) - 1, pc := (ia : Nat) } (by show (gorC (updV m.gs g _ g)).setIfInBounds 1 _ = _; rw [updV_same]; rfl)
    unfold setGor
    simp only [updV_updV] at h
    exact h⟩
theorem ctl_spawn (q g : Nat) (i : Ins) (hi : i.o = 8) (hg : g < m.ng) (ha : i.a < 256) (hb : i.b < 256) (hb16 : i.b < 16) (hq : q < m.np) (hsl : m.sts.length = m.ng) (hng : m.ng < 1024) (hvq : p.vq = .slice none 0 0) (hfr : (m.rg q).fr < 256) (hn : (m.rg q).n < 256) (h0 : m.ph.ph = 0) : Calls Tryz.prog 228 #[.pointer (some ⟨p.gm, 0, none⟩), .int .i64 (q : Nat), .pointer (some ⟨p.bg g, 0, none⟩), insV i] w (fun e w' => ∃ vst vgs gn, e = .returned (.int .i64 (m.ng : Nat)) ∧ MM W w' { p with vst := vst, vgs := vgs, bg := updV p.bg m.ng gn } (spawnA m q (i.a : Nat) ((m.gs g).st i.b))) := by
  obtain ⟨io, ia, ib, ic⟩ := i
  have hi : io = 8 := hi
  subst hi
  have ha : (ia : Int) < 256 := by have h : ia < 256 := ha; omega
  have hb : (ib : Int) < 256 := by have h : ib < 256 := hb; omega
  have hmf : ∀ (fn : Fn) (first cap : Array Value) (w : World), (Instr.makeFunc fn first cap).run Tryz.prog w = .ok (.func fn first cap) w := fun _ _ _ _ => rfl
  have HM := Lib.hid M; clear M
  unfold insV
  go_enter Tryz.func228, Tryz.ntmps228
  go_upto_region 2 with fail
  obtain ⟨gY, hgY⟩ : ∃ g', g' = w.heap.size := ⟨_, rfl⟩
  obtain ⟨gI, hgI⟩ : ∃ g', g' = w.heap.size + 1 := ⟨_, rfl⟩
  obtain ⟨w1, hw1⟩ : ∃ w1, w1 = (w.alloc (.cells #[.pointer (some ⟨p.bg g, 0, none⟩)] 115)).alloc (.cells #[.int .i64 8, .int .i64 (ia : Nat), .int .i64 (ib : Nat), .int .i64 (ic : Nat)] 33) := ⟨_, rfl⟩
  rw [← hw1, ← hgI, ← hgY]
  have V1 : CtV w gY gI (p.bg g) ⟨8, ia, ib, ic⟩ w1 := by rw [hw1, hgY, hgI]; exact CtV.mk_ w (p.bg g) ⟨8, ia, ib, ic⟩
  have M1 := HM.out.chg0 V1.c
  have y0 : w1.cell? ⟨gY, 0, none⟩ = some (.pointer (some ⟨p.bg g, 0, none⟩)) := V1.Y.cellv 0 rfl
  have i0 : w1.cell? ⟨gI, 0, none⟩ = some (.int .i64 8) := V1.I.cellv 0 rfl
  have i1 : w1.cell? ⟨gI, 1, none⟩ = some (.int .i64 (ia : Nat)) := V1.I.cellv 1 rfl
  have i2 : w1.cell? ⟨gI, 2, none⟩ = some (.int .i64 (ib : Nat)) := V1.I.cellv 2 rfl
  have i3 : w1.cell? ⟨gI, 3, none⟩ = some (.int .i64 (ic : Nat)) := V1.I.cellv 3 rfl
  clear hw1 hgY hgI
  have hib : ib < 16 := hb16
  have hib2 : (ib : Int) < 16 := by omega
  have gs := (M1.gb hg).cellv (3 + ib) (gorC_at3 (m.gs g) hib)
  obtain ⟨x, hx⟩ : ∃ x, x = (m.gs g).st ib := ⟨_, rfl⟩
  rw [← hx] at gs
  have KS := fun w' (c' : Chg [] w1 w') => m_spawn (M1.chg0 c') q (ia : Nat) x hq hsl hng hvq hfr hn h0
  have HK := Lib.hid (And.intro V1 (And.intro M1 (And.intro KS hx))); clear V1 M1 KS hx hsl hng hvq hfr hn h0
  go_upto_region 4 with fail
  go_still_tail 11, (by kernel_rfl)
  change wpList _ _ _ _ _ w1.drew
  go_wp2_with fail
  refine (HK.out.2.2.1 w1.drew (Chg.refl [] w1).drew).mono ?_
  rintro e w3 ⟨vst, vgs, gn, rfl, M3⟩
  have HM3 := Lib.hid M3; clear M3
  go_wp2_with fail
  go_ret
  exact ⟨vst, vgs, gn, rfl, by rw [← HK.out.2.2.2]; exact HM3.out⟩
end
section
variable {w0 w : World} {gC gT gI gA gY gM gp gg : Nat} {c : ComA} {i : Ins} {addr : Int} {yb gm q g : Nat} {D : List Nat} {p : MAt} {m : Mac} {Q : MAt → Prop}
theorem in_exit (K : CmW w0 gC gT gI gA gY gM gp gg c 2 i addr yb gm q g w) (hi : i.o = 0) (M : MM ⟨w, D⟩ w p m) (hQ : Q p) :
    Calls Tryz.prog 223 #[.pointer (some ⟨gC, 0, none⟩), .pointer (some ⟨gT, 0, none⟩), .pointer (some ⟨gI, 0, none⟩), .pointer (some ⟨gA, 0, none⟩), .pointer (some ⟨gY, 0, none⟩), .pointer (some ⟨gM, 0, none⟩), .pointer (some ⟨gp, 0, none⟩), .pointer (some ⟨gg, 0, none⟩)] w (InnrPost D w gC gT Q m c 5) :=
  (cm_exit K hi).mono fun e w' ⟨he, K', c'⟩ => ⟨he, w, p, hQ, M, c'.mono (by simp), K'.C, K'.T⟩
theorem in_yield (K : CmW w0 gC gT gI gA gY gM gp gg c 2 i addr yb gm q g w) (hi : i.o = 9) (M : MM ⟨w, D⟩ w p m) (hQ : Q p) :
    Calls Tryz.prog 223 #[.pointer (some ⟨gC, 0, none⟩), .pointer (some ⟨gT, 0, none⟩), .pointer (some ⟨gI, 0, none⟩), .pointer (some ⟨gA, 0, none⟩), .pointer (some ⟨gY, 0, none⟩), .pointer (some ⟨gM, 0, none⟩), .pointer (some ⟨gp, 0, none⟩), .pointer (some ⟨gg, 0, none⟩)] w (InnrPost D w gC gT Q m c 1) := by
  have hmf : ∀ (fn : Fn) (first cap : Array Value) (w : World), (Instr.makeFunc fn first cap).run Tryz.prog w = .ok (.func fn first cap) w := fun _ _ _ _ => rfl
  have i0 : w.cell? ⟨gI, 0, none⟩ = some (.int .i64 9) := by
    have h : w.cell? ⟨gI, 0, none⟩ = some (.int .i64 (i.o : Nat)) := K.I.cellv 0 rfl
    rw [hi] at h; exact h
  have t0 : w.cell? ⟨gT, 0, none⟩ = some (.int .i64 2) := K.T.cellv 0 rfl
  have ft := K.T.frozen 0
  have HK := Lib.hid (And.intro K (And.intro M hQ)); clear K M hQ hi
  go_enter_defers Tryz.func223, Tryz.ntmps223
  go_wp2_with fail
  refine leaves_cons (f := 224) (args := #[.pointer (some ⟨gC, 0, none⟩), .pointer (some ⟨gT, 0, none⟩)]) (by simp) (by simp [go_sem]) ?_
  refine (cm_catch_idle _ _ _).mono ?_
  rintro e u' w'' ⟨rfl, rfl, c'⟩
  show Leaves _ _ _ _ [] .returning w''
  have K' := (HK.out.1.toS 1).far c' (by simp)
  exact ⟨_, results_none rfl _ _ _, rfl, w, p, HK.out.2.2, HK.out.2.1, (((Chg.refl [gT] w).setCell (.inl (by simp)) (.int .i64 1)).trans (c'.mono (by simp))).mono (by simp), K'.C, K'.T⟩
def CtlPost (D : List Nat) (w : World) (Q : MAt → Prop) (m2 : Mac) (v : Int) (e : Ending) (w' : World) : Prop := e = .returned (.int .i64 v) ∧ ∃ p2, Q p2 ∧ MM ⟨w, D⟩ w' p2 m2
theorem in_ctl (K : CmW w0 gC gT gI gA gY gM gp gg c 2 i addr yb gm q g w) (hi : i.o = 8 ∨ i.o = 12 ∨ i.o = 14 ∨ i.o = 16 ∨ i.o = 17) (hn : ∀ k ∈ [gC, gT, gI, gA, gY, gM, gp, gg], k ∉ D) (m2 : Mac) (v : Int)
    (hc : Calls Tryz.prog 228 #[.pointer (some ⟨gm, 0, none⟩), .int .i64 (q : Nat), .pointer (some ⟨yb, 0, none⟩), insV i] w (CtlPost D w Q m2 v)) :
    Calls Tryz.prog 223 #[.pointer (some ⟨gC, 0, none⟩), .pointer (some ⟨gT, 0, none⟩), .pointer (some ⟨gI, 0, none⟩), .pointer (some ⟨gA, 0, none⟩), .pointer (some ⟨gY, 0, none⟩), .pointer (some ⟨gM, 0, none⟩), .pointer (some ⟨gp, 0, none⟩), .pointer (some ⟨gg, 0, none⟩)] w (InnrPost D w gC gT Q m2 { c with v := v } 2) := by
  have hmf : ∀ (fn : Fn) (first cap : Array Value) (w : World), (Instr.makeFunc fn first cap).run Tryz.prog w = .ok (.func fn first cap) w := fun _ _ _ _ => rfl
  obtain ⟨io, ia, ib, ic⟩ := i
  have i0 : w.cell? ⟨gI, 0, none⟩ = some (.int .i64 (io : Nat)) := K.I.cellv 0 rfl
  have i1 : w.cell? ⟨gI, 1, none⟩ = some (.int .i64 (ia : Nat)) := K.I.cellv 1 rfl
  have i2 : w.cell? ⟨gI, 2, none⟩ = some (.int .i64 (ib : Nat)) := K.I.cellv 2 rfl
  have i3 : w.cell? ⟨gI, 3, none⟩ = some (.int .i64 (ic : Nat)) := K.I.cellv 3 rfl
  have m0 : w.cell? ⟨gM, 0, none⟩ = some (.pointer (some ⟨gm, 0, none⟩)) := K.M.cellv 0 rfl
  have p0 : w.cell? ⟨gp, 0, none⟩ = some (.int .i64 (q : Nat)) := K.p.cellv 0 rfl
  have y0 : w.cell? ⟨gY, 0, none⟩ = some (.pointer (some ⟨yb, 0, none⟩)) := K.Y.cellv 0 rfl
  have HK := Lib.hid (And.intro K (And.intro hn hc)); clear K hn hc
  have hi : io = 8 ∨ io = 12 ∨ io = 14 ∨ io = 16 ∨ io = 17 := hi
  rcases hi with rfl | rfl | rfl | rfl | rfl
  all_goals
    go_enter_defers Tryz.func223, Tryz.ntmps223
    go_wp2_with fail
    refine (HK.out.2.2).mono ?_
    rintro e w2 ⟨rfl, p2, hQ2, M2⟩
    have C2 := M2.c.blk HK.out.1.C (HK.out.2.1 _ (by simp))
    have T2 := M2.c.blk HK.out.1.T (HK.out.2.1 _ (by simp))
    have z4 : w2.cell? ⟨gC, 4, none⟩ = some (.int .i64 c.v) := C2.cellv 4 rfl
    have f4 := C2.frozen 4
    have H2 := Lib.hid (And.intro hQ2 (And.intro M2 (And.intro C2 T2))); clear hQ2 M2 C2 T2
    go_wp2_with fail
    refine leaves_cons (f := 224) (args := #[.pointer (some ⟨gC, 0, none⟩), .pointer (some ⟨gT, 0, none⟩)]) (by simp) (by simp [go_sem]) ?_
    refine (cm_catch_idle _ _ _).mono ?_
    rintro e u' w'' ⟨rfl, rfl, c'⟩
    show Leaves _ _ _ _ [] .returning w''
    have C3 := H2.out.2.2.1.setv 4 (.int .i64 v) (cs' := (comC { c with v := v }).toArray) rfl
    have n2 : gT ≠ gC := fun e => HK.out.1.C.ne_ HK.out.1.T (by decide) e.symm
    have T3 := H2.out.2.2.2.far (p := ⟨gC, 4, none⟩) n2 (.int .i64 v)
    exact ⟨_, results_none rfl _ _ _, rfl, w2, p2, H2.out.1, H2.out.2.1, (((Chg.refl [gC] w2).setCell (.inl (by simp)) (.int .i64 v)).trans (c'.mono (by simp))).mono (by simp), c'.blk C3 (by simp), c'.blk T3 (by simp)⟩
end
end Go.Proofs.YtcpljjacamibeaaGreatDoor
