/- Package machine: commit, whatever the instruction does. -/
import Derived.Test.YtcpljjacamibeaaGreatDoorMe1
import Derived.Test.YtcpljjacamibeaaGreatDoorMd8J
namespace Go.Proofs.YtcpljjacamibeaaGreatDoor
set_option maxHeartbeats 16000000
set_option maxRecDepth 100000
open Go.RowKit Go.Maps
def preA (m : Mac) (q g : Nat) : Mac := { m with gs := updV m.gs g { m.gs g with pc := (m.gs g).pc + 1 }, ps := updV m.ps q { m.ps q with row := (m.ps q).row + 1 } }
def finA (m : Mac) (q g : Nat) (c : ComA) (tz : Nat) : Mac :=
  { m with sts := if tz = 2 then m.sts else m.sts.set g (tz : Nat), ps := if tz = 2 then m.ps else updV m.ps q { m.ps q with g := -1 }, rg := if tz = 1 then updV m.rg q (rgPut (m.rg q) (g : Nat)) else m.rg, cms := m.cms ++ [c] }
def InnrPost (D : List Nat) (w7 : World) (gC gT : Nat) (Q : MAt → Prop) (m2 : Mac) (c : ComA) (tz : Nat) (e : Ending) (w8 : World) : Prop :=
  e = .returned (.tuple #[]) ∧ ∃ w7a p2, Q p2 ∧ MM ⟨w7, D⟩ w7a p2 m2 ∧ Chg [gC, gT] w7a w8 ∧ Blk w8 gC 59 (comC c).toArray ∧ Blk w8 gT 3 #[.int .i64 (tz : Nat)]
def CgPost (W : Bs) (Q : MAt → Prop) (m2 : Mac) (q g : Nat) (c : ComA) (tz : Nat) (e : Ending) (w' : World) : Prop := ∃ p2 v, e = .returned (evV 1 (g : Nat) 0) ∧ Q p2 ∧ MM W w' { p2 with vco := v } (finA m2 q g c tz)
section
variable {W : Bs} {w : World} {p : MAt} {m : Mac} (M : MM W w p m)
include M
theorem m_commit_gen (q g : Nat) (addr : Int) (i : Ins) (hq : q < m.np) (hg : g < m.ng) (hxg : (m.ps q).g = (g : Nat)) (rw_ : Nat) (hrow : (m.ps q).row = rw_) (brow : rw_ ≤ 1000000) (pc : Nat) (hpc : (m.gs g).pc = pc) (bpc : pc ≤ 1000000)
    (Q : MAt → Prop) (m2 : Mac) (c : ComA) (tz : Nat) (hto : tz = 1 ∨ tz = 2 ∨ tz = 3 ∨ tz = 5) (hQ : ∀ p2, Q p2 → p2.gm = p.gm ∧ p2.bp = p.bp ∧ p2.vq = .slice none 0 0) (hcg : c.g = (g : Nat)) (hnp : m2.np = m.np) (hst : m2.sts[g]? = some 2) (hsl : m2.sts.length ≤ 1000000) (hcl : m2.cms.length ≤ 100000000) (hrn : tz = 1 → (m2.rg q).fr < 256 ∧ (m2.rg q).n < 256)
    (hIn : ∀ (w7 : World) (D : List Nat) (gC gT gI gA gY gM gp gg : Nat), CmW w gC gT gI gA gY gM gp gg ⟨(g : Nat), (m.gs g).f, (pc : Nat), (i.o : Nat), 0, false⟩ 2 i addr (p.bg g) p.gm q g w7 → MM ⟨w7, D⟩ w7 p (preA m q g) → (∀ k ∈ [gC, gT, gI, gA, gY, gM, gp, gg], k ∉ D) →
      Calls Tryz.prog 223 #[.pointer (some ⟨gC, 0, none⟩), .pointer (some ⟨gT, 0, none⟩), .pointer (some ⟨gI, 0, none⟩), .pointer (some ⟨gA, 0, none⟩), .pointer (some ⟨gY, 0, none⟩), .pointer (some ⟨gM, 0, none⟩), .pointer (some ⟨gp, 0, none⟩), .pointer (some ⟨gg, 0, none⟩)] w7 (InnrPost D w7 gC gT Q m2 c tz)) :
    Calls Tryz.prog 146 #[.pointer (some ⟨p.gm, 0, none⟩), .int .i64 (q : Nat), insV i, .int .i64 addr] w (CgPost W Q m2 q g c tz) := by
  have hmf : ∀ (fn : Fn) (first cap : Array Value) (w : World), (Instr.makeFunc fn first cap).run Tryz.prog w = .ok (.func fn first cap) w := fun _ _ _ _ => rfl
  unfold insV
  have HIN := Lib.hid (And.intro hIn (And.intro hQ hrn)); clear hIn hQ hrn
  have HF := Lib.hid (And.intro hcg (And.intro hnp (And.intro hst (And.intro hsl hcl)))); clear hcg hnp hst hsl hcl
  have HM := Lib.hid M
  go_enter Tryz.func146, Tryz.ntmps146
  go_upto_region 1 with fail
  generalize hw1 : World.alloc (World.alloc (World.alloc (World.alloc (World.alloc w _) _) _) _) _ = w1
  have K1 : CmB w w.heap.size (w.heap.size + 1) (w.heap.size + 1 + 1) (w.heap.size + 1 + 1 + 1) (w.heap.size + 1 + 1 + 1 + 1) p.gm q i addr w1 := by
    rw [← hw1]
    have b1 := Blk.new w 35 #[.pointer (some ⟨p.gm, 0, none⟩)]
    have b2 := Blk.new (w.alloc (.cells #[.pointer (some ⟨p.gm, 0, none⟩)] 35)) 3 #[.int .i64 (q : Nat)]
    have b3 := Blk.new ((w.alloc (.cells #[.pointer (some ⟨p.gm, 0, none⟩)] 35)).alloc (.cells #[.int .i64 (q : Nat)] 3)) 33 #[.int .i64 (i.o : Nat), .int .i64 (i.a : Nat), .int .i64 (i.b : Nat), .int .i64 (i.c : Nat)]
    have b4 := Blk.new (((w.alloc (.cells #[.pointer (some ⟨p.gm, 0, none⟩)] 35)).alloc (.cells #[.int .i64 (q : Nat)] 3)).alloc (.cells #[.int .i64 (i.o : Nat), .int .i64 (i.a : Nat), .int .i64 (i.b : Nat), .int .i64 (i.c : Nat)] 33)) 3 #[.int .i64 addr]
    have b5 := Blk.new ((((w.alloc (.cells #[.pointer (some ⟨p.gm, 0, none⟩)] 35)).alloc (.cells #[.int .i64 (q : Nat)] 3)).alloc (.cells #[.int .i64 (i.o : Nat), .int .i64 (i.a : Nat), .int .i64 (i.b : Nat), .int .i64 (i.c : Nat)] 33)).alloc (.cells #[.int .i64 addr] 3)) 48 #[.int .i64 0, .int .i64 0, .int .i64 0]
    simp only [World.size_alloc] at b2 b3 b4 b5
    exact ⟨(((b1.alloc _).alloc _).alloc _).alloc _, ((b2.alloc _).alloc _).alloc _, (b3.alloc _).alloc _, b4.alloc _, b5, (((((Chg.refl [] w).alloc _).alloc _).alloc _).alloc _).alloc _, by simp; omega, by omega⟩
  clear hw1
  generalize w.heap.size + 1 + 1 + 1 + 1 = gE at K1 ⊢
  generalize w.heap.size + 1 + 1 + 1 = gA at K1 ⊢
  generalize w.heap.size + 1 + 1 = gI at K1 ⊢
  generalize w.heap.size + 1 = gp at K1 ⊢
  generalize hgM : w.heap.size = gM at K1 ⊢
  have M1 := M.chg0 K1.c
  clear M
  have m0 : w1.cell? ⟨gM, 0, none⟩ = some (.pointer (some ⟨p.gm, 0, none⟩)) := K1.M.cellv 0 rfl
  have p0 : w1.cell? ⟨gp, 0, none⟩ = some (.int .i64 (q : Nat)) := K1.p.cellv 0 rfl
  obtain ⟨b9, cap9, c9, hps⟩ := M1.psl
  obtain ⟨hv9, hb9, -⟩ := hps q hq
  rw [hv9] at c9
  have e1 : (0 : Int) ≤ q := by omega
  have e2 : (q : Int) < (m.np : Int) := by omega
  have H1 := Lib.hid (And.intro K1 (And.intro M1 hgM)); clear K1 M1 hgM hps hv9
  go_quiet (fail)
  generalize hw2 : World.drewN _ nq = w2
  have c12 : Chg [] w1 w2 := by rw [← hw2]; exact (Chg.refl [] w1).drewN _
  clear hw2 m0 p0 c9 hb9
  have M2 := H1.out.2.1.chg0 c12
  have K2 := H1.out.1.chg0 c12
  have x0 : w2.cell? ⟨p.bp q, 0, none⟩ = some (.int .i64 (g : Nat)) := by rw [← hxg]; exact (M2.pb hq).cellv 0 rfl
  have H2 := Lib.hid (And.intro K2 M2); clear K2 M2 c12
  go_upto_region 3 with fail
  obtain ⟨gg, hgg⟩ : ∃ gg, gg = w2.heap.size := ⟨_, rfl⟩
  obtain ⟨w3, hw3⟩ : ∃ w3, w3 = w2.alloc (.cells #[.int .i64 (g : Nat)] 3) := ⟨_, rfl⟩
  have c23 : Chg [] w2 w3 := by rw [hw3]; exact (Chg.refl [] w2).alloc _
  have Bg : Blk w3 gg 3 #[.int .i64 (g : Nat)] := by rw [hw3, hgg]; exact Blk.new _ _ _
  rw [← hgg, ← hw3]
  have K3 := H2.out.1.chg0 c23
  have M3 := H2.out.2.chg0 c23
  have g1 : gp < gg := by rw [hgg]; exact H2.out.1.p.lt
  have g2 : gA < gg := by rw [hgg]; exact H2.out.1.A.lt
  clear hw3 hgg x0 c23
  have m0 : w3.cell? ⟨gM, 0, none⟩ = some (.pointer (some ⟨p.gm, 0, none⟩)) := K3.M.cellv 0 rfl
  have p0 : w3.cell? ⟨gg, 0, none⟩ = some (.int .i64 (g : Nat)) := Bg.cellv 0 rfl
  obtain ⟨b8, cap8, c8, hgs⟩ := M3.gsl
  obtain ⟨hv8, hb8, hbl8⟩ := hgs g hg
  rw [hv8] at c8
  have e3 : (0 : Int) ≤ g := by omega
  have e4 : (g : Int) < (m.ng : Int) := by omega
  have l0 := K3.M.lt
  have l1 := Bg.lt
  have l2 := M3.mb.lt
  have H3 := Lib.hid (And.intro K3 (And.intro M3 (And.intro Bg (And.intro g1 g2)))); clear K3 M3 Bg hgs hv8 g1 g2 H2
  refine wp_region_takes (fuel := 2) 8 (fun w' => Chg [] w3 w') [0, 1, 2, 3, 4, 5, 6] (by kernel_rfl) (by kernel_rfl) (fun _ _ _ _ _ h => h) ((Chg.refl [] w3).drew) ?_
  simp only [List.filterMap_cons, List.filterMap_nil, qGa, qGb]
  iterate 7
    refine wpTake_step (fun K hK => ?_)
    rw [if_pos (by rfl)]
    refine ⟨?_, fun w' hS' => ?_, ?_⟩
    rotate_left 1
    focus
      have j0 := hS'.cellv l0 (by simp) m0
      have j1 := hS'.cellv l1 (by simp) p0
      have j2 := hS'.cellv l2 (by simp) c8
      have j3 := hS'.cellv hbl8 (by simp) hb8
      go_simp
      try with_reducible rfl
      done
    simp only [Act.put, qSa, qSb, qSc]
    refine hK _ ?_
    clear hK K
  refine wpTake_nil ?_
  generalize hx0 : w3.drew = x0
  have D0 : Chg [] w3 x0 := by rw [← hx0]; exact (Chg.refl [] w3).drew
  clear hx0
  refine wpAnyS_ready (rs := [7]) (by kernel_rfl) (by simp) ?_
  refine AllReadyS.o (fun K hK => ?_)
  rw [if_pos (by rfl)]
  go_simp
  refine hK _ _ ((D0.alloc _)) ?_
  clear hK K
  try simp only [Act.put, qSa, qSb, qSc]
  refine wpAnyS_tail 8 1 (by kernel_rfl) rfl ?_
  simp only [qDa, qDb]
  go_upto_region 4 with fail
  obtain ⟨gY, hgY⟩ : ∃ gY, gY = x0.heap.size := ⟨_, rfl⟩
  obtain ⟨w4, hw4⟩ : ∃ w4, w4 = x0.alloc (.cells #[.pointer (some ⟨p.bg g, 0, none⟩)] 115) := ⟨_, rfl⟩
  rw [← hgY, ← hw4]
  have c34 : Chg [] w3 w4 := by rw [hw4]; exact D0.alloc _
  have BY : Blk w4 gY 115 #[.pointer (some ⟨p.bg g, 0, none⟩)] := by rw [hw4, hgY]; exact Blk.new _ _ _
  have K4 := H3.out.1.chg0 c34
  have M4 := H3.out.2.1.chg0 c34
  have Bg4 := c34.blk H3.out.2.2.1 (by simp)
  have hY : w.heap.size ≤ gY := by rw [hgY]; exact Nat.le_trans H3.out.1.c.size D0.size
  clear hw4 hgY D0 c34 m0 p0 c8 hb8 hbl8 l0 l1 l2
  have p0 : w4.cell? ⟨gg, 0, none⟩ = some (.int .i64 (g : Nat)) := Bg4.cellv 0 rfl
  have y0 : w4.cell? ⟨gY, 0, none⟩ = some (.pointer (some ⟨p.bg g, 0, none⟩)) := BY.cellv 0 rfl
  have f0 : w4.cell? ⟨p.bg g, 0, none⟩ = some (.int .i64 (m.gs g).f) := (M4.gb hg).cellv 0 rfl
  have f1 : w4.cell? ⟨p.bg g, 1, none⟩ = some (.int .i64 (pc : Nat)) := by rw [← hpc]; exact (M4.gb hg).cellv 1 rfl
  have i0 : w4.cell? ⟨gI, 0, none⟩ = some (.int .i64 (i.o : Nat)) := by
    have h : w4.cell? ⟨gI, 0, none⟩ = some (.int .i64 (i.o : Nat)) := K4.I.cellv 0 rfl
    exact h
  have l0 := Bg4.lt
  have l1 := BY.lt
  have l2 := (M4.gb hg).lt
  have l3 := K4.I.lt
  have H4 := Lib.hid (And.intro K4 (And.intro M4 (And.intro Bg4 (And.intro BY (And.intro hY H3.out.2.2.2))))); clear K4 M4 Bg4 BY hY H3
  go_wp2_with fail
  refine wp_region_takes (fuel := 2) 13 (fun w' => Chg [] w4 w') [0, 1, 2, 3, 4, 5, 6, 7, 8, 9, 10, 11] (by kernel_rfl) (by kernel_rfl) (fun _ _ _ _ _ h => h) ((Chg.refl [] w4).drew) ?_
  simp only [List.filterMap_cons, List.filterMap_nil, qGa, qGb]
  iterate 12
    refine wpTake_step (fun K hK => ?_)
    rw [if_pos (by rfl)]
    refine ⟨?_, fun w' hS' => ?_, ?_⟩
    rotate_left 1
    focus
      have j0 := hS'.cellv l0 (by simp) p0
      have j1 := hS'.cellv l1 (by simp) y0
      have j2 := hS'.cellv l2 (by simp) f0
      have j3 := hS'.cellv l2 (by simp) f1
      have j4 := hS'.cellv l3 (by simp) i0
      go_simp
      try with_reducible rfl
      done
    simp only [Act.put, qSa, qSb, qSc]
    refine hK _ ?_
    clear hK K
  refine wpTake_nil ?_
  generalize hx0 : w4.drew = x0
  have D0 : Chg [] w4 x0 := by rw [← hx0]; exact (Chg.refl [] w4).drew
  clear hx0
  refine wpAnyS_ready (rs := [12]) (by kernel_rfl) (by simp) ?_
  refine AllReadyS.o (fun K hK => ?_)
  rw [if_pos (by rfl)]
  go_simp
  refine hK _ _ ((D0.alloc _)) ?_
  clear hK K
  try simp only [Act.put, qSa, qSb, qSc]
  refine wpAnyS_tail 13 1 (by kernel_rfl) rfl ?_
  simp only [qDa, qDb]
  go_upto_region 5 with fail
  obtain ⟨gC, hgC⟩ : ∃ gC, gC = x0.heap.size := ⟨_, rfl⟩
  obtain ⟨w5, hw5⟩ : ∃ w5, w5 = x0.alloc (.cells #[.int .i64 (g : Nat), .int .i64 (m.gs g).f, .int .i64 (pc : Nat), .int .i64 (i.o : Nat), .int .i64 0, .bool false] 59) := ⟨_, rfl⟩
  rw [← hgC, ← hw5]
  have c45 : Chg [] w4 w5 := by rw [hw5]; exact D0.alloc _
  have BC : Blk w5 gC 59 #[.int .i64 (g : Nat), .int .i64 (m.gs g).f, .int .i64 (pc : Nat), .int .i64 (i.o : Nat), .int .i64 0, .bool false] := by rw [hw5, hgC]; exact Blk.new _ _ _
  have K5 := H4.out.1.chg0 c45
  have M5 := H4.out.2.1.chg0 c45
  have Bg5 := c45.blk H4.out.2.2.1 (by simp)
  have BY5 := c45.blk H4.out.2.2.2.1 (by simp)
  have hC : w.heap.size ≤ gC := by rw [hgC]; exact Nat.le_trans H4.out.1.c.size D0.size
  clear hw5 hgC D0 c45 p0 y0 f0 f1 i0 l0 l1 l2 l3
  have y0 : w5.cell? ⟨gY, 0, none⟩ = some (.pointer (some ⟨p.bg g, 0, none⟩)) := BY5.cellv 0 rfl
  have f1 : w5.cell? ⟨p.bg g, 1, none⟩ = some (.int .i64 (pc : Nat)) := by rw [← hpc]; exact (M5.gb hg).cellv 1 rfl
  have z1 := (M5.gb hg).frozen 1
  have k1 : w5.cell? ⟨p.bp q, 1, none⟩ = some (.int .i64 (rw_ : Nat)) := by rw [← hrow]; exact (M5.pb hq).cellv 1 rfl
  have z2 := (M5.pb hq).frozen 1
  have n1 : ¬ p.bg g = p.bp q := (M5.gb hg).ne_ (M5.pb hq) (by decide)
  have n2 : ¬ p.bp q = p.bg g := fun e => n1 e.symm
  have H5 := Lib.hid (And.intro K5 (And.intro M5 (And.intro Bg5 (And.intro BY5 (And.intro hC (And.intro H4.out.2.2.2.2 BC)))))); clear K5 M5 Bg5 BY5 hC BC H4
  go_upto_region 8 with fail
  obtain ⟨w6, hw6⟩ : ∃ w6, w6 = (w5.setCell ⟨p.bg g, 1, none⟩ (.int .i64 ((pc : Int) + 1))).setCell ⟨p.bp q, 1, none⟩ (.int .i64 ((rw_ : Int) + 1)) := ⟨_, rfl⟩
  obtain ⟨m6, hm6⟩ : ∃ m6, m6 = { m with gs := updV m.gs g { m.gs g with pc := (m.gs g).pc + 1 }, ps := updV m.ps q { m.ps q with row := (m.ps q).row + 1 } } := ⟨_, rfl⟩
  have M6 : MM W w6 p m6 := by
    rw [hw6, hm6, ← hpc, ← hrow]
    exact (H5.out.2.1.gset hg 1 _ { m.gs g with pc := (m.gs g).pc + 1 } rfl).pset (q := q) hq 1 _ { m.ps q with row := (m.ps q).row + 1 } rfl
  have c56 : Chg [p.bg g, p.bp q] w5 w6 := by rw [hw6]; exact ((Chg.refl _ w5).setCell (.inl (by simp)) _).setCell (.inl (by simp)) _
  obtain ⟨w7, hw7⟩ : ∃ w7, w7 = w6.alloc (.cells #[.int .i64 2] 3) := ⟨_, rfl⟩
  obtain ⟨gT, hgT⟩ : ∃ gT, gT = w5.heap.size := ⟨_, rfl⟩
  have hs6 : w6.heap.size = w5.heap.size := by rw [hw6, size_setCell, size_setCell]
  rw [← hw6, ← hw7]
  try rw [hs6]
  rw [← hgT]
  have BT : Blk w7 gT 3 #[.int .i64 2] := by rw [hw7, hgT, ← hs6]; exact Blk.new _ _ _
  have M7 : MM W w7 p m6 := by rw [hw7]; exact M6.chg0 ((Chg.refl [] w6).alloc _)
  have c57 : Chg [p.bg g, p.bp q] w5 w7 := by rw [hw7]; exact c56.alloc _
  have olo : ∀ k, w.heap.size ≤ k → k ∉ [p.bg g, p.bp q] := fun k hk hm => by
    have h1 := (HM.out.gb hg).lt
    have h2 := (HM.out.pb hq).lt
    simp only [List.mem_cons, List.not_mem_nil, or_false] at hm
    omega
  have K5 := H5.out.1
  have nn := K5.n
  simp only [List.mem_cons, List.not_mem_nil, or_false, forall_eq_or_imp, forall_eq] at nn
  obtain ⟨nM, np, nI, nA, nE⟩ := nn
  have ngg : w.heap.size ≤ gg := by have := H5.out.2.2.2.2.2.1.2; omega
  have ngT : w.heap.size ≤ gT := by rw [hgT]; exact K5.c.size
  have hTgg : gg < gT := by rw [hgT]; exact H5.out.2.2.1.lt
  have hTA : gA < gT := by rw [hgT]; exact K5.A.lt
  have hTp : gp < gT := by rw [hgT]; exact K5.p.lt
  have KC : CmW w gC gT gI gA gY gM gp gg ⟨(g : Nat), (m.gs g).f, (pc : Nat), (i.o : Nat), 0, false⟩ 2 i addr (p.bg g) p.gm q g w7 :=
    ⟨c57.blk H5.out.2.2.2.2.2.2 (olo _ H5.out.2.2.2.2.1), BT, c57.blk K5.I (olo _ nI), c57.blk K5.A (olo _ nA), c57.blk H5.out.2.2.2.1 (olo _ H5.out.2.2.2.2.2.1.1), c57.blk K5.M (olo _ nM), c57.blk K5.p (olo _ np), c57.blk H5.out.2.2.1 (olo _ ngg),
      by simp only [List.mem_cons, List.not_mem_nil, or_false, forall_eq_or_imp, forall_eq]; exact ⟨H5.out.2.2.2.2.1, ngT, nI, nA, H5.out.2.2.2.2.2.1.1, nM, np, ngg⟩,
      by have := K5.d; have := H5.out.2.2.2.2.2.1.2; simp; omega⟩
  have E7 := c57.blk K5.E (olo _ nE)
  have F6 : ∀ k j, MF p m6 k j → j < w.heap.size := fun k j hj => HM.out.hi k j (by rw [hm6] at hj; cases k <;> exact hj)
  have F6 := Lib.hid F6
  have H7 := Lib.hid (And.intro KC (And.intro M7 (And.intro hm6 (And.intro E7 nE)))); clear KC M7 hm6 E7 nE M6 c56 c57 BT K5 hw6 hw7 hs6 hgT y0 f1 z1 k1 z2 olo nM np nI nA ngT hTA hTp ngg
  go_wp2_with fail
  obtain ⟨D, M7r, hD⟩ := H7.out.2.1.re
  have nD : ∀ k ∈ [gC, gT, gI, gA, gY, gM, gp, gg], k ∉ D := fun k hk hm => by
    obtain ⟨kk, h⟩ := hD k hm
    have h1 := F6.out kk k h
    have h2 := H7.out.1.n k hk
    omega
  have nED : gE ∉ D := fun hm => by
    obtain ⟨kk, h⟩ := hD gE hm
    have h1 := F6.out kk gE h
    have h2 := H7.out.2.2.2.2
    omega
  have KIN := HIN.out.1 w7 D gC gT gI gA gY gM gp gg H7.out.1 (by have h := M7r; rw [H7.out.2.2.1] at h; exact h) nD
  have HD := Lib.hid (And.intro hD (And.intro nD (And.intro nED KIN))); clear hD nD nED KIN M7r
  refine (HD.out.2.2.2).mono ?_
  rintro e w8 ⟨rfl, w7a, p2, hQ2, M7a, cCT, BC8, BT8⟩
  obtain ⟨hq1, hq2, hq3⟩ := HIN.out.2.1 p2 hQ2
  have F8 : ∀ k j, MF p2 m2 k j → j < w.heap.size ∨ w7.heap.size ≤ j := fun k j hj => by
    rcases M7a.lo k j hj with h | h
    · obtain ⟨kk, h'⟩ := HD.out.1 j h
      exact .inl (F6.out kk j h')
    · exact .inr h
  have K7 := H7.out.1
  have HL : ∀ k ∈ [gC, gT, gI, gA, gY, gM, gp, gg], k < w7.heap.size := by
    simp only [List.mem_cons, List.not_mem_nil, or_false, forall_eq_or_imp, forall_eq]
    exact ⟨K7.C.lt, K7.T.lt, K7.I.lt, K7.A.lt, K7.Y.lt, K7.M.lt, K7.p.lt, K7.g.lt⟩
  have c7a : Chg D w7 w7a := M7a.c
  have K7a := K7.far c7a HD.out.2.1
  have d := K7.d
  simp only [List.nodup_cons, List.mem_cons, List.not_mem_nil, or_false, not_or] at d
  have KC8 : CmW w gC gT gI gA gY gM gp gg c tz i addr (p.bg g) p.gm q g w8 :=
    ⟨BC8, BT8, cCT.blk K7a.I (by simp; exact ⟨K7.I.ne_ K7.C (by decide), K7.I.ne_ K7.T (by decide)⟩), cCT.blk K7a.A (by simp; exact ⟨K7.A.ne_ K7.C (by decide), fun e => d.1.1 e.symm⟩), cCT.blk K7a.Y (by simp; exact ⟨K7.Y.ne_ K7.C (by decide), K7.Y.ne_ K7.T (by decide)⟩),
      cCT.blk K7a.M (by simp; exact ⟨K7.M.ne_ K7.C (by decide), K7.M.ne_ K7.T (by decide)⟩), cCT.blk K7a.p (by simp; exact ⟨K7.p.ne_ K7.C (by decide), fun e => d.1.2.1 e.symm⟩), cCT.blk K7a.g (by simp; exact ⟨K7.g.ne_ K7.C (by decide), fun e => d.1.2.2 e.symm⟩), K7.n, K7.d⟩
  have HEl := Lib.hid H7.out.2.2.2.1.lt
  have E8 := cCT.blk (c7a.blk H7.out.2.2.2.1 HD.out.2.2.1) (by simp; exact ⟨H7.out.2.2.2.1.ne_ K7.C (by decide), H7.out.2.2.2.1.ne_ K7.T (by decide)⟩)
  have M8 : MM W w8 p2 m2 := (H7.out.2.1.back HD.out.1 M7a).chg cCT (fun k j hj hm => by
    simp only [List.mem_cons, List.not_mem_nil, or_false] at hm
    have h0 : w.heap.size ≤ j ∧ j < w7.heap.size := by rcases hm with rfl | rfl; exact ⟨K7.n _ (by simp), HL _ (by simp)⟩; exact ⟨K7.n _ (by simp), HL _ (by simp)⟩
    rcases F8 k j hj with h | h <;> omega) (fun j hj => by
    simp only [List.mem_cons, List.not_mem_nil, or_false] at hj
    have h0 : w.heap.size ≤ j := by rcases hj with rfl | rfl <;> exact K7.n _ (by simp)
    have : W.heap.size ≤ w.heap.size := HM.out.c.size
    omega)
  have F8 := Lib.hid F8
  have HL := Lib.hid HL
  have HPQ := Lib.hid (And.intro hq1 (And.intro hq2 (And.intro hq3 hQ2)))
  have hq8 : q < m2.np := by rw [HF.out.2.1]; exact hq
  have t0 : w8.cell? ⟨gT, 0, none⟩ = some (.int .i64 (tz : Nat)) := KC8.T.cellv 0 rfl
  have H8 := Lib.hid (And.intro KC8 (And.intro M8 E8)); clear KC8 M8 E8 hq1 hq2 hq3 hQ2 M7a cCT BC8 BT8 K7 c7a K7a d
  rcases hto with rfl | rfl | rfl | rfl
  · have m0 : w8.cell? ⟨gM, 0, none⟩ = some (.pointer (some ⟨p.gm, 0, none⟩)) := H8.out.1.M.cellv 0 rfl
    have g0 : w8.cell? ⟨gg, 0, none⟩ = some (.int .i64 (g : Nat)) := H8.out.1.g.cellv 0 rfl
    have c7 : w8.cell? ⟨p.gm, 7, none⟩ = some (.pointer (some ⟨p2.gst, 0, none⟩)) := by rw [← HPQ.out.1]; exact H8.out.2.1.mb.cellv 7 rfl
    go_wp2_with fail
    go_still_tail 6, (by kernel_rfl)
    change wpList _ _ _ _ _ w8.drew
    go_wp2_with fail
    have M8' := H8.out.2.1.chg0 (Chg.refl [] w8).drew
    have KC8' := H8.out.1.far (Chg.refl [] w8).drew (by simp)
    have E8' := (H8.out.2.2).drew
    refine (st_move w8.drew p2.gst p2.vst m2.sts M8'.st g 2 1 HF.out.2.2.1 (by unfold okT; omega) HF.out.2.2.2.1).mono ?_
    rintro e w9 ⟨rfl, I9, S9⟩
    have M9 := M8'.stT I9 rfl S9
    have far9 : ∀ k, w.heap.size ≤ k → k < w7.heap.size → k ∉ p2.gst :: fpv p2.vst := fun k hk hk2 hm => by
      rcases F8.out .states k (by rcases List.mem_cons.1 hm with h | h; exact .inl h; exact .inr h) with h | h <;> omega
    have KC9 := KC8'.far S9.c (fun k hk => far9 k (KC8'.n k hk) (HL.out k hk))
    have E9 := S9.c.blk E8' (far9 _ H7.out.2.2.2.2 HEl.out)
    obtain ⟨m9, hm9⟩ : ∃ m9, m9 = { m2 with sts := m2.sts.set g ((1 : Nat) : Int) } := ⟨_, rfl⟩
    rw [← hm9] at M9
    have hq9 : q < m9.np := by rw [hm9]; exact hq8
    have x0 : w9.cell? ⟨p.bp q, 0, none⟩ = some (.int .i64 (m9.ps q).g) := by rw [← HPQ.out.2.1]; exact (M9.pb hq9).cellv 0 rfl
    have z0 : w9.frozen? ⟨p.bp q, 0, none⟩ = false := by rw [← HPQ.out.2.1]; exact (M9.pb hq9).frozen 0
    have H9 := Lib.hid (And.intro KC9 (And.intro M9 (And.intro E9 hm9))); clear KC9 M9 E9 hm9 I9 S9 M8' KC8' E8' t0 m0 g0 c7 far9
    go_upto_region 12 with fail
    obtain ⟨wa, hwa⟩ : ∃ wa, wa = w9.setCell ⟨p.bp q, 0, none⟩ (.int .i64 (-1)) := ⟨_, rfl⟩
    rw [← hwa]
    obtain ⟨ma, hma⟩ : ∃ ma, ma = { m9 with ps := updV m9.ps q { m9.ps q with g := -1 } } := ⟨_, rfl⟩
    have Ma : MM W wa p2 ma := by rw [hwa, hma, ← HPQ.out.2.1]; exact H9.out.2.1.pset hq9 0 _ { m9.ps q with g := -1 } rfl
    have c9a : Chg [p.bp q] w9 wa := by rw [hwa]; exact (Chg.refl _ w9).setCell (.inl (by simp)) _
    have fara : ∀ k, w.heap.size ≤ k → k ∉ [p.bp q] := fun k hk hm => by
      have h2 := (HM.out.pb hq).lt
      have e : k = p.bp q := by simpa using hm
      omega
    have KCa := H9.out.1.far c9a (fun k hk => fara k (H9.out.1.n k hk))
    have Ea := c9a.blk H9.out.2.2.1 (fara _ H7.out.2.2.2.2)
    have Hmx := Lib.hid (And.intro hma H9.out.2.2.2)
    have Ha := Lib.hid (And.intro KCa (And.intro Ma Ea)); clear KCa Ma Ea hwa c9a fara x0 z0 hma
    have t0 : wa.cell? ⟨gT, 0, none⟩ = some (.int .i64 1) := Ha.out.1.T.cellv 0 rfl
    have m0 : wa.cell? ⟨gM, 0, none⟩ = some (.pointer (some ⟨p.gm, 0, none⟩)) := Ha.out.1.M.cellv 0 rfl
    have g0 : wa.cell? ⟨gg, 0, none⟩ = some (.int .i64 (g : Nat)) := Ha.out.1.g.cellv 0 rfl
    have pp0 : wa.cell? ⟨gp, 0, none⟩ = some (.int .i64 (q : Nat)) := Ha.out.1.p.cellv 0 rfl
    have c10 : wa.cell? ⟨p.gm, 10, none⟩ = some (.pointer (some ⟨p2.gsd, 0, none⟩)) := by rw [← HPQ.out.1]; exact Ha.out.2.1.mb.cellv 10 rfl
    go_wp2_with fail
    go_still_tail 6, (by kernel_rfl)
    change wpList _ _ _ _ _ wa.drew
    go_wp2_with fail
    have Ma' := Ha.out.2.1.chg0 (Chg.refl [] wa).drew
    have KCa' := Ha.out.1.far (Chg.refl [] wa).drew (by simp)
    have Ea' := (Ha.out.2.2).drew
    have hnpa : q < ma.np := by rw [Hmx.out.1]; exact hq9
    have hrga : ma.rg = m2.rg := by rw [Hmx.out.1, Hmx.out.2]
    refine (sc_ready Ma'.sc HPQ.out.2.2.1 q hnpa (g : Nat) (by rw [hrga]; exact (HIN.out.2.2 (by first | exact rfl | trivial)).1) (by rw [hrga]; exact (HIN.out.2.2 (by first | exact rfl | trivial)).2)).mono ?_
    rintro e w10 ⟨rfl, I10, c10'⟩
    have M10 := Ma'.scT I10 c10' (fun j hj => .inl (by simp only [List.mem_cons, List.not_mem_nil, or_false] at hj; rcases hj with rfl | rfl; exact .inr (.inr (.inr (.inr ⟨q, hnpa, rfl⟩))); exact .inr (.inl rfl))) (fun j hj => .inl hj)
    have fars : ∀ k, w.heap.size ≤ k → k < w7.heap.size → k ∉ [p2.gr q, p2.gq] := fun k hk hk2 hm => by
      have h : MF p2 m2 .sched k := by simp only [List.mem_cons, List.not_mem_nil, or_false] at hm; rcases hm with rfl | rfl; exact .inr (.inr (.inr (.inr ⟨q, hq8, rfl⟩))); exact .inr (.inl rfl)
      rcases F8.out .sched k h with h | h <;> omega
    have KC10 := KCa'.far c10' (fun k hk => fars k (KCa'.n k hk) (HL.out k hk))
    have E10 := c10'.blk Ea' (fars _ H7.out.2.2.2.2 HEl.out)
    obtain ⟨m10, hm10⟩ : ∃ m10, m10 = { ma with rg := updV ma.rg q (rgPut (ma.rg q) (g : Nat)), com := ma.com } := ⟨_, rfl⟩
    rw [← hm10] at M10
    have HX := Lib.hid (And.intro KC10 (And.intro (show MM W w10 p2 m10 from M10) (And.intro E10 (And.intro (show m10.cms = m2.cms by rw [hm10, Hmx.out.1, Hmx.out.2]) (And.intro (show ∀ k j, MF p2 m10 k j → MF p2 m2 k j from fun k j h => by rw [hm10, Hmx.out.1, Hmx.out.2] at h; cases k <;> exact h) (show ({ m10 with cms := m10.cms ++ [c] } : Mac) = finA m2 q g c 1 by rw [hm10, Hmx.out.1, Hmx.out.2]; rfl))))))
    clear KC10 M10 E10 hm10 I10 c10' fars Ma' KCa' Ea' t0 m0 g0 pp0 c10 hnpa hrga
    go_wp2_with fail
    have t0 : w10.cell? ⟨gT, 0, none⟩ = some (.int .i64 (1 : Nat)) := HX.out.1.T.cellv 0 rfl
    have m0 : w10.cell? ⟨gM, 0, none⟩ = some (.pointer (some ⟨p.gm, 0, none⟩)) := HX.out.1.M.cellv 0 rfl
    have c24 : w10.cell? ⟨p.gm, 24, none⟩ = some p2.vco := by rw [← HPQ.out.1]; exact HX.out.2.1.mb.cellv 24 rfl
    have OC : OwnG comC 6 59 w10 p2.vco m10.cms := HX.out.2.1.k .commits
    obtain ⟨Ac, cc, hvc⟩ := OC.slice
    rw [hvc] at c24
    have q0 : w10.cell? ⟨gC, 0, none⟩ = some (.int .i64 c.g) := HX.out.1.C.cellv 0 rfl
    have q1 : w10.cell? ⟨gC, 1, none⟩ = some (.int .i64 c.f) := HX.out.1.C.cellv 1 rfl
    have q2 : w10.cell? ⟨gC, 2, none⟩ = some (.int .i64 c.pc) := HX.out.1.C.cellv 2 rfl
    have q3 : w10.cell? ⟨gC, 3, none⟩ = some (.int .i64 c.op) := HX.out.1.C.cellv 3 rfl
    have q4 : w10.cell? ⟨gC, 4, none⟩ = some (.int .i64 c.v) := HX.out.1.C.cellv 4 rfl
    have q5 : w10.cell? ⟨gC, 5, none⟩ = some (.bool c.flt) := HX.out.1.C.cellv 5 rfl
    have l0 := HX.out.1.M.lt
    have l1 := HX.out.1.C.lt
    have l2 : p.gm < w10.heap.size := by rw [← HPQ.out.1]; exact HX.out.2.1.mb.lt
    have nv : ∀ k, w.heap.size ≤ k → k < w7.heap.size → k ∉ fpv p2.vco := fun k hk hk2 hm => by
      have h : MF p2 m2 .commits k := hm
      rcases F8.out .commits k h with h | h <;> omega
    have n0 := nv _ (HX.out.1.n gM (by simp)) (HL.out gM (by simp))
    have n1 := nv _ (HX.out.1.n gC (by simp)) (HL.out gC (by simp))
    have n2 : p.gm ∉ fpv p2.vco := fun hm => by rw [← HPQ.out.1] at hm; have := HX.out.2.1.ap .mach .commits p2.gm rfl hm; cases this
    clear nv
    have H10 := Lib.hid (And.intro OC hvc); clear OC hvc
    refine wp_region_takes (fuel := 5) 8 (fun w' => Chg (fpv p2.vco) w10 w') [0, 1, 2, 3, 4, 5] (by kernel_rfl) (by kernel_rfl) (fun _ _ _ _ _ h => h) (((Chg.refl [] w10).drew.mono (by simp))) ?_
    simp only [List.filterMap_cons, List.filterMap_nil, qGa, qGb]
    iterate 6
      refine wpTake_step (fun K hK => ?_)
      rw [if_pos (by rfl)]
      refine ⟨?_, fun w' hS' => ?_, ?_⟩
      rotate_left 1
      focus
        have j0 := hS'.cellv l0 n0 m0
        have j1 := hS'.cellv l2 n2 c24
        have jq0 := hS'.cellv l1 n1 q0
        have jq1 := hS'.cellv l1 n1 q1
        have jq2 := hS'.cellv l1 n1 q2
        have jq3 := hS'.cellv l1 n1 q3
        have jq4 := hS'.cellv l1 n1 q4
        have jq5 := hS'.cellv l1 n1 q5
        go_simp
        try with_reducible rfl
        done
      simp only [Act.put, qSa, qSb, qSc]
      refine hK _ ?_
      clear hK K
    refine wpTake_nil ?_
    generalize hx0 : w10.drew = x0
    have D0 : Chg [] w10 x0 := by rw [← hx0]; exact (Chg.refl [] w10).drew
    clear hx0
    refine wpAnyS_ready (rs := [6]) (by kernel_rfl) (by simp) ?_
    refine AllReadyS.o (fun K hK => ?_)
    rw [if_pos (by rfl)]
    go_simp
    refine hK _ _ ((D0.alloc _).mono (by simp)) ?_
    clear hK K
    try simp only [Act.put, qSa, qSb, qSc]
    refine wpAnyS_ready (rs := [7]) (by kernel_rfl) (by simp) ?_
    refine AllReadyS.o (fun K hK => ?_)
    refine step_push_g comC_len comC_one tyCo c rfl (by rfl) _ _ (by rfl) (by rfl) (by have h := H10.out.1.chg0 D0; rw [H10.out.2] at h; exact h) (by rfl) (by rw [HX.out.2.2.2.1]; exact HF.out.2.2.2.2) ?_
    intro A3 c3 x3 O3 S3
    have D3 : Chg (fpv p2.vco) w10 x3 := (D0.mono (by simp)).trans (by have := S3.c; rw [H10.out.2]; exact this)
    refine hK _ _ (D3) ?_
    clear hK K
    try simp only [Act.put, qSa, qSb, qSc]
    refine wpAnyS_tail 8 3 (by kernel_rfl) rfl ?_
    simp only [qDa, qDb]
    have S3' : Stp (fpv p2.vco) (fpv (.slice A3 (m10.cms.length + 1) c3)) x0 x3 := by rw [H10.out.2]; exact S3
    have M11 : MM W (x3.setCell ⟨p.gm, 24, none⟩ (.slice A3 (m10.cms.length + 1) c3)) { p2 with vco := .slice A3 (m10.cms.length + 1) c3 } { m10 with cms := m10.cms ++ [c] } := by rw [← HPQ.out.1]; exact (HX.out.2.1.chg0 D0).coT O3 S3'
    have Bm : Blk x3 p.gm 109 (mC p2 m10) := by rw [← HPQ.out.1]; exact D3.blk HX.out.2.1.mb (by rw [HPQ.out.1]; exact n2)
    have z0 : x3.cell? ⟨p.gm, 24, none⟩ = some p2.vco := Bm.cellv 24 rfl
    have y0 := Bm.frozen 24
    have c11 : Chg [p.gm] x3 (x3.setCell ⟨p.gm, 24, none⟩ (.slice A3 (m10.cms.length + 1) c3)) := (Chg.refl [p.gm] x3).setCell (.inl (by simp)) _
    have hgml := (HM.out.mb).lt
    have far11 : ∀ k, w.heap.size ≤ k → k ∉ [p.gm] := fun k hk hm => by have e : k = p.gm := (by simpa using hm); omega
    have nv : ∀ k, w.heap.size ≤ k → k < w7.heap.size → k ∉ fpv p2.vco := fun k hk hk2 hm => by
      have h : MF p2 m2 .commits k := hm
      rcases F8.out .commits k h with h | h <;> omega
    have Eg := c11.blk (D3.blk HX.out.1.g (nv _ (HX.out.1.n gg (by simp)) (HL.out gg (by simp)))) (far11 _ (HX.out.1.n gg (by simp)))
    have EE := c11.blk (D3.blk HX.out.2.2.1 (nv _ H7.out.2.2.2.2 HEl.out)) (far11 _ H7.out.2.2.2.2)
    go_upto_region 15 with fail
    obtain ⟨w11, hw11⟩ : ∃ w11, w11 = x3.setCell ⟨p.gm, 24, none⟩ (.slice A3 (m10.cms.length + 1) c3) := ⟨_, rfl⟩
    rw [← hw11] at M11 Eg EE ⊢
    have g0 : w11.cell? ⟨gg, 0, none⟩ = some (.int .i64 (g : Nat)) := Eg.cellv 0 rfl
    have OE : OwnG comC 6 59 w11 (.slice A3 (m10.cms.length + 1) c3) _ := M11.k .commits
    have nEv := OE.ne_blk EE (by decide)
    have HP := Lib.hid (And.intro M11 (And.intro EE nEv)); clear M11 EE D3 S3 S3' O3 D0 Bm c11 Eg hw11 far11 nv z0 y0 OE nEv
    go_wp2_with fail
    refine (m_event w11 1 (g : Nat)).mono ?_
    rintro e w12 ⟨rfl, c12⟩
    have E12 := c12.blk HP.out.2.1 (by simp)
    have z0 : w12.cell? ⟨gE, 0, none⟩ = some (.int .i64 0) := E12.cellv 0 rfl
    have z1 : w12.cell? ⟨gE, 1, none⟩ = some (.int .i64 0) := E12.cellv 1 rfl
    have z2 : w12.cell? ⟨gE, 2, none⟩ = some (.int .i64 0) := E12.cellv 2 rfl
    have y0 := E12.frozen 0
    have y1 := E12.frozen 1
    have y2 := E12.frozen 2
    have HQe := Lib.hid (And.intro E12 c12); clear E12 c12
    unfold evV
    go_wp2_with fail
    have B13 := ((HQe.out.1.set_ 0 (.int .i64 1)).set_ 1 (.int .i64 (g : Nat))).setv 2 (.int .i64 0) (cs' := #[.int .i64 1, .int .i64 (g : Nat), .int .i64 0]) rfl
    have c13 : Chg [gE] w12 (((w12.setCell ⟨gE, 0, none⟩ (.int .i64 1)).setCell ⟨gE, 1, none⟩ (.int .i64 (g : Nat))).setCell ⟨gE, 2, none⟩ (.int .i64 0)) := (((Chg.refl [gE] w12).setCell (.inl (by simp)) _).setCell (.inl (by simp)) _).setCell (.inl (by simp)) _
    have M13 := (HP.out.1.chg0 HQe.out.2).chg c13 (fun k j hj hm => by
      have e : j = gE := by simpa using hm
      subst e
      have nE := H7.out.2.2.2.2
      have nE2 := HEl.out
      by_cases ek : k = .commits
      · subst ek
        exact HP.out.2.2 hj
      · have hj2 : MF p2 m2 k j := HX.out.2.2.2.2.1 k j (by cases k <;> first | exact absurd rfl ek | exact hj)
        rcases F8.out k j hj2 with h | h <;> omega) (by have : W.heap.size ≤ w.heap.size := HM.out.c.size; have := H7.out.2.2.2.2; simp; omega)
    refine ⟨rfl, _, results_cell_row (P := Tryz.prog) (fn := Tryz.f146) rfl _ _ gE 48 _ _ _ rfl B13 Tryz.underlying48 rfl (by kernel_rfl), p2, .slice A3 (m10.cms.length + 1) c3, rfl, HPQ.out.2.2.2, ?_⟩
    rw [HX.out.2.2.2.2.2] at M13
    exact M13
  · obtain ⟨w10, hw10⟩ : ∃ w10, w10 = w8 := ⟨_, rfl⟩
    obtain ⟨m10, hm10⟩ : ∃ m10, m10 = m2 := ⟨_, rfl⟩
    subst hw10
    have HX := Lib.hid (And.intro H8.out.1 (And.intro (show MM W w10 p2 m10 by rw [hm10]; exact H8.out.2.1) (And.intro H8.out.2.2 (And.intro (show m10.cms = m2.cms by rw [hm10]) (And.intro (show ∀ k j, MF p2 m10 k j → MF p2 m2 k j from fun k j h => by rw [hm10] at h; exact h) (show ({ m10 with cms := m10.cms ++ [c] } : Mac) = finA m2 q g c 2 by rw [hm10]; rfl))))))
    clear hm10
    go_wp2_with fail
    have t0 : w10.cell? ⟨gT, 0, none⟩ = some (.int .i64 (2 : Nat)) := HX.out.1.T.cellv 0 rfl
    have m0 : w10.cell? ⟨gM, 0, none⟩ = some (.pointer (some ⟨p.gm, 0, none⟩)) := HX.out.1.M.cellv 0 rfl
    have c24 : w10.cell? ⟨p.gm, 24, none⟩ = some p2.vco := by rw [← HPQ.out.1]; exact HX.out.2.1.mb.cellv 24 rfl
    have OC : OwnG comC 6 59 w10 p2.vco m10.cms := HX.out.2.1.k .commits
    obtain ⟨Ac, cc, hvc⟩ := OC.slice
    rw [hvc] at c24
    have q0 : w10.cell? ⟨gC, 0, none⟩ = some (.int .i64 c.g) := HX.out.1.C.cellv 0 rfl
    have q1 : w10.cell? ⟨gC, 1, none⟩ = some (.int .i64 c.f) := HX.out.1.C.cellv 1 rfl
    have q2 : w10.cell? ⟨gC, 2, none⟩ = some (.int .i64 c.pc) := HX.out.1.C.cellv 2 rfl
    have q3 : w10.cell? ⟨gC, 3, none⟩ = some (.int .i64 c.op) := HX.out.1.C.cellv 3 rfl
    have q4 : w10.cell? ⟨gC, 4, none⟩ = some (.int .i64 c.v) := HX.out.1.C.cellv 4 rfl
    have q5 : w10.cell? ⟨gC, 5, none⟩ = some (.bool c.flt) := HX.out.1.C.cellv 5 rfl
    have l0 := HX.out.1.M.lt
    have l1 := HX.out.1.C.lt
    have l2 : p.gm < w10.heap.size := by rw [← HPQ.out.1]; exact HX.out.2.1.mb.lt
    have nv : ∀ k, w.heap.size ≤ k → k < w7.heap.size → k ∉ fpv p2.vco := fun k hk hk2 hm => by
      have h : MF p2 m2 .commits k := hm
      rcases F8.out .commits k h with h | h <;> omega
    have n0 := nv _ (HX.out.1.n gM (by simp)) (HL.out gM (by simp))
    have n1 := nv _ (HX.out.1.n gC (by simp)) (HL.out gC (by simp))
    have n2 : p.gm ∉ fpv p2.vco := fun hm => by rw [← HPQ.out.1] at hm; have := HX.out.2.1.ap .mach .commits p2.gm rfl hm; cases this
    clear nv
    have H10 := Lib.hid (And.intro OC hvc); clear OC hvc
    refine wp_region_takes (fuel := 5) 8 (fun w' => Chg (fpv p2.vco) w10 w') [0, 1, 2, 3, 4, 5] (by kernel_rfl) (by kernel_rfl) (fun _ _ _ _ _ h => h) (((Chg.refl [] w10).drew.mono (by simp))) ?_
    simp only [List.filterMap_cons, List.filterMap_nil, qGa, qGb]
    iterate 6
      refine wpTake_step (fun K hK => ?_)
      rw [if_pos (by rfl)]
      refine ⟨?_, fun w' hS' => ?_, ?_⟩
      rotate_left 1
      focus
        have j0 := hS'.cellv l0 n0 m0
        have j1 := hS'.cellv l2 n2 c24
        have jq0 := hS'.cellv l1 n1 q0
        have jq1 := hS'.cellv l1 n1 q1
        have jq2 := hS'.cellv l1 n1 q2
        have jq3 := hS'.cellv l1 n1 q3
        have jq4 := hS'.cellv l1 n1 q4
        have jq5 := hS'.cellv l1 n1 q5
        go_simp
        try with_reducible rfl
        done
      simp only [Act.put, qSa, qSb, qSc]
      refine hK _ ?_
      clear hK K
    refine wpTake_nil ?_
    generalize hx0 : w10.drew = x0
    have D0 : Chg [] w10 x0 := by rw [← hx0]; exact (Chg.refl [] w10).drew
    clear hx0
    refine wpAnyS_ready (rs := [6]) (by kernel_rfl) (by simp) ?_
    refine AllReadyS.o (fun K hK => ?_)
    rw [if_pos (by rfl)]
    go_simp
    refine hK _ _ ((D0.alloc _).mono (by simp)) ?_
    clear hK K
    try simp only [Act.put, qSa, qSb, qSc]
    refine wpAnyS_ready (rs := [7]) (by kernel_rfl) (by simp) ?_
    refine AllReadyS.o (fun K hK => ?_)
    refine step_push_g comC_len comC_one tyCo c rfl (by rfl) _ _ (by rfl) (by rfl) (by have h := H10.out.1.chg0 D0; rw [H10.out.2] at h; exact h) (by rfl) (by rw [HX.out.2.2.2.1]; exact HF.out.2.2.2.2) ?_
    intro A3 c3 x3 O3 S3
    have D3 : Chg (fpv p2.vco) w10 x3 := (D0.mono (by simp)).trans (by have := S3.c; rw [H10.out.2]; exact this)
    refine hK _ _ (D3) ?_
    clear hK K
    try simp only [Act.put, qSa, qSb, qSc]
    refine wpAnyS_tail 8 3 (by kernel_rfl) rfl ?_
    simp only [qDa, qDb]
    have S3' : Stp (fpv p2.vco) (fpv (.slice A3 (m10.cms.length + 1) c3)) x0 x3 := by rw [H10.out.2]; exact S3
    have M11 : MM W (x3.setCell ⟨p.gm, 24, none⟩ (.slice A3 (m10.cms.length + 1) c3)) { p2 with vco := .slice A3 (m10.cms.length + 1) c3 } { m10 with cms := m10.cms ++ [c] } := by rw [← HPQ.out.1]; exact (HX.out.2.1.chg0 D0).coT O3 S3'
    have Bm : Blk x3 p.gm 109 (mC p2 m10) := by rw [← HPQ.out.1]; exact D3.blk HX.out.2.1.mb (by rw [HPQ.out.1]; exact n2)
    have z0 : x3.cell? ⟨p.gm, 24, none⟩ = some p2.vco := Bm.cellv 24 rfl
    have y0 := Bm.frozen 24
    have c11 : Chg [p.gm] x3 (x3.setCell ⟨p.gm, 24, none⟩ (.slice A3 (m10.cms.length + 1) c3)) := (Chg.refl [p.gm] x3).setCell (.inl (by simp)) _
    have hgml := (HM.out.mb).lt
    have far11 : ∀ k, w.heap.size ≤ k → k ∉ [p.gm] := fun k hk hm => by have e : k = p.gm := (by simpa using hm); omega
    have nv : ∀ k, w.heap.size ≤ k → k < w7.heap.size → k ∉ fpv p2.vco := fun k hk hk2 hm => by
      have h : MF p2 m2 .commits k := hm
      rcases F8.out .commits k h with h | h <;> omega
    have Eg := c11.blk (D3.blk HX.out.1.g (nv _ (HX.out.1.n gg (by simp)) (HL.out gg (by simp)))) (far11 _ (HX.out.1.n gg (by simp)))
    have EE := c11.blk (D3.blk HX.out.2.2.1 (nv _ H7.out.2.2.2.2 HEl.out)) (far11 _ H7.out.2.2.2.2)
    go_upto_region 15 with fail
    obtain ⟨w11, hw11⟩ : ∃ w11, w11 = x3.setCell ⟨p.gm, 24, none⟩ (.slice A3 (m10.cms.length + 1) c3) := ⟨_, rfl⟩
    rw [← hw11] at M11 Eg EE ⊢
    have g0 : w11.cell? ⟨gg, 0, none⟩ = some (.int .i64 (g : Nat)) := Eg.cellv 0 rfl
    have OE : OwnG comC 6 59 w11 (.slice A3 (m10.cms.length + 1) c3) _ := M11.k .commits
    have nEv := OE.ne_blk EE (by decide)
    have HP := Lib.hid (And.intro M11 (And.intro EE nEv)); clear M11 EE D3 S3 S3' O3 D0 Bm c11 Eg hw11 far11 nv z0 y0 OE nEv
    go_wp2_with fail
    refine (m_event w11 1 (g : Nat)).mono ?_
    rintro e w12 ⟨rfl, c12⟩
    have E12 := c12.blk HP.out.2.1 (by simp)
    have z0 : w12.cell? ⟨gE, 0, none⟩ = some (.int .i64 0) := E12.cellv 0 rfl
    have z1 : w12.cell? ⟨gE, 1, none⟩ = some (.int .i64 0) := E12.cellv 1 rfl
    have z2 : w12.cell? ⟨gE, 2, none⟩ = some (.int .i64 0) := E12.cellv 2 rfl
    have y0 := E12.frozen 0
    have y1 := E12.frozen 1
    have y2 := E12.frozen 2
    have HQe := Lib.hid (And.intro E12 c12); clear E12 c12
    unfold evV
    go_wp2_with fail
    have B13 := ((HQe.out.1.set_ 0 (.int .i64 1)).set_ 1 (.int .i64 (g : Nat))).setv 2 (.int .i64 0) (cs' := #[.int .i64 1, .int .i64 (g : Nat), .int .i64 0]) rfl
    have c13 : Chg [gE] w12 (((w12.setCell ⟨gE, 0, none⟩ (.int .i64 1)).setCell ⟨gE, 1, none⟩ (.int .i64 (g : Nat))).setCell ⟨gE, 2, none⟩ (.int .i64 0)) := (((Chg.refl [gE] w12).setCell (.inl (by simp)) _).setCell (.inl (by simp)) _).setCell (.inl (by simp)) _
    have M13 := (HP.out.1.chg0 HQe.out.2).chg c13 (fun k j hj hm => by
      have e : j = gE := by simpa using hm
      subst e
      have nE := H7.out.2.2.2.2
      have nE2 := HEl.out
      by_cases ek : k = .commits
      · subst ek
        exact HP.out.2.2 hj
      · have hj2 : MF p2 m2 k j := HX.out.2.2.2.2.1 k j (by cases k <;> first | exact absurd rfl ek | exact hj)
        rcases F8.out k j hj2 with h | h <;> omega) (by have : W.heap.size ≤ w.heap.size := HM.out.c.size; have := H7.out.2.2.2.2; simp; omega)
    refine ⟨rfl, _, results_cell_row (P := Tryz.prog) (fn := Tryz.f146) rfl _ _ gE 48 _ _ _ rfl B13 Tryz.underlying48 rfl (by kernel_rfl), p2, .slice A3 (m10.cms.length + 1) c3, rfl, HPQ.out.2.2.2, ?_⟩
    rw [HX.out.2.2.2.2.2] at M13
    exact M13
  · have m0 : w8.cell? ⟨gM, 0, none⟩ = some (.pointer (some ⟨p.gm, 0, none⟩)) := H8.out.1.M.cellv 0 rfl
    have g0 : w8.cell? ⟨gg, 0, none⟩ = some (.int .i64 (g : Nat)) := H8.out.1.g.cellv 0 rfl
    have c7 : w8.cell? ⟨p.gm, 7, none⟩ = some (.pointer (some ⟨p2.gst, 0, none⟩)) := by rw [← HPQ.out.1]; exact H8.out.2.1.mb.cellv 7 rfl
    go_wp2_with fail
    go_still_tail 6, (by kernel_rfl)
    change wpList _ _ _ _ _ w8.drew
    go_wp2_with fail
    have M8' := H8.out.2.1.chg0 (Chg.refl [] w8).drew
    have KC8' := H8.out.1.far (Chg.refl [] w8).drew (by simp)
    have E8' := (H8.out.2.2).drew
    refine (st_move w8.drew p2.gst p2.vst m2.sts M8'.st g 2 3 HF.out.2.2.1 (by unfold okT; omega) HF.out.2.2.2.1).mono ?_
    rintro e w9 ⟨rfl, I9, S9⟩
    have M9 := M8'.stT I9 rfl S9
    have far9 : ∀ k, w.heap.size ≤ k → k < w7.heap.size → k ∉ p2.gst :: fpv p2.vst := fun k hk hk2 hm => by
      rcases F8.out .states k (by rcases List.mem_cons.1 hm with h | h; exact .inl h; exact .inr h) with h | h <;> omega
    have KC9 := KC8'.far S9.c (fun k hk => far9 k (KC8'.n k hk) (HL.out k hk))
    have E9 := S9.c.blk E8' (far9 _ H7.out.2.2.2.2 HEl.out)
    obtain ⟨m9, hm9⟩ : ∃ m9, m9 = { m2 with sts := m2.sts.set g ((3 : Nat) : Int) } := ⟨_, rfl⟩
    rw [← hm9] at M9
    have hq9 : q < m9.np := by rw [hm9]; exact hq8
    have x0 : w9.cell? ⟨p.bp q, 0, none⟩ = some (.int .i64 (m9.ps q).g) := by rw [← HPQ.out.2.1]; exact (M9.pb hq9).cellv 0 rfl
    have z0 : w9.frozen? ⟨p.bp q, 0, none⟩ = false := by rw [← HPQ.out.2.1]; exact (M9.pb hq9).frozen 0
    have H9 := Lib.hid (And.intro KC9 (And.intro M9 (And.intro E9 hm9))); clear KC9 M9 E9 hm9 I9 S9 M8' KC8' E8' t0 m0 g0 c7 far9
    go_upto_region 12 with fail
    obtain ⟨wa, hwa⟩ : ∃ wa, wa = w9.setCell ⟨p.bp q, 0, none⟩ (.int .i64 (-1)) := ⟨_, rfl⟩
    rw [← hwa]
    obtain ⟨ma, hma⟩ : ∃ ma, ma = { m9 with ps := updV m9.ps q { m9.ps q with g := -1 } } := ⟨_, rfl⟩
    have Ma : MM W wa p2 ma := by rw [hwa, hma, ← HPQ.out.2.1]; exact H9.out.2.1.pset hq9 0 _ { m9.ps q with g := -1 } rfl
    have c9a : Chg [p.bp q] w9 wa := by rw [hwa]; exact (Chg.refl _ w9).setCell (.inl (by simp)) _
    have fara : ∀ k, w.heap.size ≤ k → k ∉ [p.bp q] := fun k hk hm => by
      have h2 := (HM.out.pb hq).lt
      have e : k = p.bp q := by simpa using hm
      omega
    have KCa := H9.out.1.far c9a (fun k hk => fara k (H9.out.1.n k hk))
    have Ea := c9a.blk H9.out.2.2.1 (fara _ H7.out.2.2.2.2)
    have Hmx := Lib.hid (And.intro hma H9.out.2.2.2)
    have Ha := Lib.hid (And.intro KCa (And.intro Ma Ea)); clear KCa Ma Ea hwa c9a fara x0 z0 hma
    obtain ⟨w10, hw10⟩ : ∃ w10, w10 = wa := ⟨_, rfl⟩
    obtain ⟨m10, hm10⟩ : ∃ m10, m10 = ma := ⟨_, rfl⟩
    subst hw10 hm10
    have t0 : w10.cell? ⟨gT, 0, none⟩ = some (.int .i64 3) := Ha.out.1.T.cellv 0 rfl
    have HX := Lib.hid (And.intro Ha.out.1 (And.intro Ha.out.2.1 (And.intro Ha.out.2.2 (And.intro (show m10.cms = m2.cms by rw [Hmx.out.1, Hmx.out.2]) (And.intro (show ∀ k j, MF p2 m10 k j → MF p2 m2 k j from fun k j h => by rw [Hmx.out.1, Hmx.out.2] at h; cases k <;> exact h) (show ({ m10 with cms := m10.cms ++ [c] } : Mac) = finA m2 q g c 3 by rw [Hmx.out.1, Hmx.out.2]; rfl))))))
    go_wp2_with fail
    have t0 : w10.cell? ⟨gT, 0, none⟩ = some (.int .i64 (3 : Nat)) := HX.out.1.T.cellv 0 rfl
    have m0 : w10.cell? ⟨gM, 0, none⟩ = some (.pointer (some ⟨p.gm, 0, none⟩)) := HX.out.1.M.cellv 0 rfl
    have c24 : w10.cell? ⟨p.gm, 24, none⟩ = some p2.vco := by rw [← HPQ.out.1]; exact HX.out.2.1.mb.cellv 24 rfl
    have OC : OwnG comC 6 59 w10 p2.vco m10.cms := HX.out.2.1.k .commits
    obtain ⟨Ac, cc, hvc⟩ := OC.slice
    rw [hvc] at c24
    have q0 : w10.cell? ⟨gC, 0, none⟩ = some (.int .i64 c.g) := HX.out.1.C.cellv 0 rfl
    have q1 : w10.cell? ⟨gC, 1, none⟩ = some (.int .i64 c.f) := HX.out.1.C.cellv 1 rfl
    have q2 : w10.cell? ⟨gC, 2, none⟩ = some (.int .i64 c.pc) := HX.out.1.C.cellv 2 rfl
    have q3 : w10.cell? ⟨gC, 3, none⟩ = some (.int .i64 c.op) := HX.out.1.C.cellv 3 rfl
    have q4 : w10.cell? ⟨gC, 4, none⟩ = some (.int .i64 c.v) := HX.out.1.C.cellv 4 rfl
    have q5 : w10.cell? ⟨gC, 5, none⟩ = some (.bool c.flt) := HX.out.1.C.cellv 5 rfl
    have l0 := HX.out.1.M.lt
    have l1 := HX.out.1.C.lt
    have l2 : p.gm < w10.heap.size := by rw [← HPQ.out.1]; exact HX.out.2.1.mb.lt
    have nv : ∀ k, w.heap.size ≤ k → k < w7.heap.size → k ∉ fpv p2.vco := fun k hk hk2 hm => by
      have h : MF p2 m2 .commits k := hm
      rcases F8.out .commits k h with h | h <;> omega
    have n0 := nv _ (HX.out.1.n gM (by simp)) (HL.out gM (by simp))
    have n1 := nv _ (HX.out.1.n gC (by simp)) (HL.out gC (by simp))
    have n2 : p.gm ∉ fpv p2.vco := fun hm => by rw [← HPQ.out.1] at hm; have := HX.out.2.1.ap .mach .commits p2.gm rfl hm; cases this
    clear nv
    have H10 := Lib.hid (And.intro OC hvc); clear OC hvc
    refine wp_region_takes (fuel := 5) 8 (fun w' => Chg (fpv p2.vco) w10 w') [0, 1, 2, 3, 4, 5] (by kernel_rfl) (by kernel_rfl) (fun _ _ _ _ _ h => h) (((Chg.refl [] w10).drew.mono (by simp))) ?_
    simp only [List.filterMap_cons, List.filterMap_nil, qGa, qGb]
    iterate 6
      refine wpTake_step (fun K hK => ?_)
      rw [if_pos (by rfl)]
      refine ⟨?_, fun w' hS' => ?_, ?_⟩
      rotate_left 1
      focus
        have j0 := hS'.cellv l0 n0 m0
        have j1 := hS'.cellv l2 n2 c24
        have jq0 := hS'.cellv l1 n1 q0
        have jq1 := hS'.cellv l1 n1 q1
        have jq2 := hS'.cellv l1 n1 q2
        have jq3 := hS'.cellv l1 n1 q3
        have jq4 := hS'.cellv l1 n1 q4
        have jq5 := hS'.cellv l1 n1 q5
        go_simp
        try with_reducible rfl
        done
      simp only [Act.put, qSa, qSb, qSc]
      refine hK _ ?_
      clear hK K
    refine wpTake_nil ?_
    generalize hx0 : w10.drew = x0
    have D0 : Chg [] w10 x0 := by rw [← hx0]; exact (Chg.refl [] w10).drew
    clear hx0
    refine wpAnyS_ready (rs := [6]) (by kernel_rfl) (by simp) ?_
    refine AllReadyS.o (fun K hK => ?_)
    rw [if_pos (by rfl)]
    go_simp
    refine hK _ _ ((D0.alloc _).mono (by simp)) ?_
    clear hK K
    try simp only [Act.put, qSa, qSb, qSc]
    refine wpAnyS_ready (rs := [7]) (by kernel_rfl) (by simp) ?_
    refine AllReadyS.o (fun K hK => ?_)
    refine step_push_g comC_len comC_one tyCo c rfl (by rfl) _ _ (by rfl) (by rfl) (by have h := H10.out.1.chg0 D0; rw [H10.out.2] at h; exact h) (by rfl) (by rw [HX.out.2.2.2.1]; exact HF.out.2.2.2.2) ?_
    intro A3 c3 x3 O3 S3
    have D3 : Chg (fpv p2.vco) w10 x3 := (D0.mono (by simp)).trans (by have := S3.c; rw [H10.out.2]; exact this)
    refine hK _ _ (D3) ?_
    clear hK K
    try simp only [Act.put, qSa, qSb, qSc]
    refine wpAnyS_tail 8 3 (by kernel_rfl) rfl ?_
    simp only [qDa, qDb]
    have S3' : Stp (fpv p2.vco) (fpv (.slice A3 (m10.cms.length + 1) c3)) x0 x3 := by rw [H10.out.2]; exact S3
    have M11 : MM W (x3.setCell ⟨p.gm, 24, none⟩ (.slice A3 (m10.cms.length + 1) c3)) { p2 with vco := .slice A3 (m10.cms.length + 1) c3 } { m10 with cms := m10.cms ++ [c] } := by rw [← HPQ.out.1]; exact (HX.out.2.1.chg0 D0).coT O3 S3'
    have Bm : Blk x3 p.gm 109 (mC p2 m10) := by rw [← HPQ.out.1]; exact D3.blk HX.out.2.1.mb (by rw [HPQ.out.1]; exact n2)
    have z0 : x3.cell? ⟨p.gm, 24, none⟩ = some p2.vco := Bm.cellv 24 rfl
    have y0 := Bm.frozen 24
    have c11 : Chg [p.gm] x3 (x3.setCell ⟨p.gm, 24, none⟩ (.slice A3 (m10.cms.length + 1) c3)) := (Chg.refl [p.gm] x3).setCell (.inl (by simp)) _
    have hgml := (HM.out.mb).lt
    have far11 : ∀ k, w.heap.size ≤ k → k ∉ [p.gm] := fun k hk hm => by have e : k = p.gm := (by simpa using hm); omega
    have nv : ∀ k, w.heap.size ≤ k → k < w7.heap.size → k ∉ fpv p2.vco := fun k hk hk2 hm => by
      have h : MF p2 m2 .commits k := hm
      rcases F8.out .commits k h with h | h <;> omega
    have Eg := c11.blk (D3.blk HX.out.1.g (nv _ (HX.out.1.n gg (by simp)) (HL.out gg (by simp)))) (far11 _ (HX.out.1.n gg (by simp)))
    have EE := c11.blk (D3.blk HX.out.2.2.1 (nv _ H7.out.2.2.2.2 HEl.out)) (far11 _ H7.out.2.2.2.2)
    go_upto_region 15 with fail
    obtain ⟨w11, hw11⟩ : ∃ w11, w11 = x3.setCell ⟨p.gm, 24, none⟩ (.slice A3 (m10.cms.length + 1) c3) := ⟨_, rfl⟩
    rw [← hw11] at M11 Eg EE ⊢
    have g0 : w11.cell? ⟨gg, 0, none⟩ = some (.int .i64 (g : Nat)) := Eg.cellv 0 rfl
    have OE : OwnG comC 6 59 w11 (.slice A3 (m10.cms.length + 1) c3) _ := M11.k .commits
    have nEv := OE.ne_blk EE (by decide)
    have HP := Lib.hid (And.intro M11 (And.intro EE nEv)); clear M11 EE D3 S3 S3' O3 D0 Bm c11 Eg hw11 far11 nv z0 y0 OE nEv
    go_wp2_with fail
    refine (m_event w11 1 (g : Nat)).mono ?_
    rintro e w12 ⟨rfl, c12⟩
    have E12 := c12.blk HP.out.2.1 (by simp)
    have z0 : w12.cell? ⟨gE, 0, none⟩ = some (.int .i64 0) := E12.cellv 0 rfl
    have z1 : w12.cell? ⟨gE, 1, none⟩ = some (.int .i64 0) := E12.cellv 1 rfl
    have z2 : w12.cell? ⟨gE, 2, none⟩ = some (.int .i64 0) := E12.cellv 2 rfl
    have y0 := E12.frozen 0
    have y1 := E12.frozen 1
    have y2 := E12.frozen 2
    have HQe := Lib.hid (And.intro E12 c12); clear E12 c12
    unfold evV
    go_wp2_with fail
    have B13 := ((HQe.out.1.set_ 0 (.int .i64 1)).set_ 1 (.int .i64 (g : Nat))).setv 2 (.int .i64 0) (cs' := #[.int .i64 1, .int .i64 (g : Nat), .int .i64 0]) rfl
    have c13 : Chg [gE] w12 (((w12.setCell ⟨gE, 0, none⟩ (.int .i64 1)).setCell ⟨gE, 1, none⟩ (.int .i64 (g : Nat))).setCell ⟨gE, 2, none⟩ (.int .i64 0)) := (((Chg.refl [gE] w12).setCell (.inl (by simp)) _).setCell (.inl (by simp)) _).setCell (.inl (by simp)) _
    have M13 := (HP.out.1.chg0 HQe.out.2).chg c13 (fun k j hj hm => by
      have e : j = gE := by simpa using hm
      subst e
      have nE := H7.out.2.2.2.2
      have nE2 := HEl.out
      by_cases ek : k = .commits
      · subst ek
        exact HP.out.2.2 hj
      · have hj2 : MF p2 m2 k j := HX.out.2.2.2.2.1 k j (by cases k <;> first | exact absurd rfl ek | exact hj)
        rcases F8.out k j hj2 with h | h <;> omega) (by have : W.heap.size ≤ w.heap.size := HM.out.c.size; have := H7.out.2.2.2.2; simp; omega)
    refine ⟨rfl, _, results_cell_row (P := Tryz.prog) (fn := Tryz.f146) rfl _ _ gE 48 _ _ _ rfl B13 Tryz.underlying48 rfl (by kernel_rfl), p2, .slice A3 (m10.cms.length + 1) c3, rfl, HPQ.out.2.2.2, ?_⟩
    rw [HX.out.2.2.2.2.2] at M13
    exact M13
  · have m0 : w8.cell? ⟨gM, 0, none⟩ = some (.pointer (some ⟨p.gm, 0, none⟩)) := H8.out.1.M.cellv 0 rfl
    have g0 : w8.cell? ⟨gg, 0, none⟩ = some (.int .i64 (g : Nat)) := H8.out.1.g.cellv 0 rfl
    have c7 : w8.cell? ⟨p.gm, 7, none⟩ = some (.pointer (some ⟨p2.gst, 0, none⟩)) := by rw [← HPQ.out.1]; exact H8.out.2.1.mb.cellv 7 rfl
    go_wp2_with fail
    go_still_tail 6, (by kernel_rfl)
    change wpList _ _ _ _ _ w8.drew
    go_wp2_with fail
    have M8' := H8.out.2.1.chg0 (Chg.refl [] w8).drew
    have KC8' := H8.out.1.far (Chg.refl [] w8).drew (by simp)
    have E8' := (H8.out.2.2).drew
    refine (st_move w8.drew p2.gst p2.vst m2.sts M8'.st g 2 5 HF.out.2.2.1 (by unfold okT; omega) HF.out.2.2.2.1).mono ?_
    rintro e w9 ⟨rfl, I9, S9⟩
    have M9 := M8'.stT I9 rfl S9
    have far9 : ∀ k, w.heap.size ≤ k → k < w7.heap.size → k ∉ p2.gst :: fpv p2.vst := fun k hk hk2 hm => by
      rcases F8.out .states k (by rcases List.mem_cons.1 hm with h | h; exact .inl h; exact .inr h) with h | h <;> omega
    have KC9 := KC8'.far S9.c (fun k hk => far9 k (KC8'.n k hk) (HL.out k hk))
    have E9 := S9.c.blk E8' (far9 _ H7.out.2.2.2.2 HEl.out)
    obtain ⟨m9, hm9⟩ : ∃ m9, m9 = { m2 with sts := m2.sts.set g ((5 : Nat) : Int) } := ⟨_, rfl⟩
    rw [← hm9] at M9
    have hq9 : q < m9.np := by rw [hm9]; exact hq8
    have x0 : w9.cell? ⟨p.bp q, 0, none⟩ = some (.int .i64 (m9.ps q).g) := by rw [← HPQ.out.2.1]; exact (M9.pb hq9).cellv 0 rfl
    have z0 : w9.frozen? ⟨p.bp q, 0, none⟩ = false := by rw [← HPQ.out.2.1]; exact (M9.pb hq9).frozen 0
    have H9 := Lib.hid (And.intro KC9 (And.intro M9 (And.intro E9 hm9))); clear KC9 M9 E9 hm9 I9 S9 M8' KC8' E8' t0 m0 g0 c7 far9
    go_upto_region 12 with fail
    obtain ⟨wa, hwa⟩ : ∃ wa, wa = w9.setCell ⟨p.bp q, 0, none⟩ (.int .i64 (-1)) := ⟨_, rfl⟩
    rw [← hwa]
    obtain ⟨ma, hma⟩ : ∃ ma, ma = { m9 with ps := updV m9.ps q { m9.ps q with g := -1 } } := ⟨_, rfl⟩
    have Ma : MM W wa p2 ma := by rw [hwa, hma, ← HPQ.out.2.1]; exact H9.out.2.1.pset hq9 0 _ { m9.ps q with g := -1 } rfl
    have c9a : Chg [p.bp q] w9 wa := by rw [hwa]; exact (Chg.refl _ w9).setCell (.inl (by simp)) _
    have fara : ∀ k, w.heap.size ≤ k → k ∉ [p.bp q] := fun k hk hm => by
      have h2 := (HM.out.pb hq).lt
      have e : k = p.bp q := by simpa using hm
      omega
    have KCa := H9.out.1.far c9a (fun k hk => fara k (H9.out.1.n k hk))
    have Ea := c9a.blk H9.out.2.2.1 (fara _ H7.out.2.2.2.2)
    have Hmx := Lib.hid (And.intro hma H9.out.2.2.2)
    have Ha := Lib.hid (And.intro KCa (And.intro Ma Ea)); clear KCa Ma Ea hwa c9a fara x0 z0 hma
    obtain ⟨w10, hw10⟩ : ∃ w10, w10 = wa := ⟨_, rfl⟩
    obtain ⟨m10, hm10⟩ : ∃ m10, m10 = ma := ⟨_, rfl⟩
    subst hw10 hm10
    have t0 : w10.cell? ⟨gT, 0, none⟩ = some (.int .i64 5) := Ha.out.1.T.cellv 0 rfl
    have HX := Lib.hid (And.intro Ha.out.1 (And.intro Ha.out.2.1 (And.intro Ha.out.2.2 (And.intro (show m10.cms = m2.cms by rw [Hmx.out.1, Hmx.out.2]) (And.intro (show ∀ k j, MF p2 m10 k j → MF p2 m2 k j from fun k j h => by rw [Hmx.out.1, Hmx.out.2] at h; cases k <;> exact h) (show ({ m10 with cms := m10.cms ++ [c] } : Mac) = finA m2 q g c 5 by rw [Hmx.out.1, Hmx.out.2]; rfl))))))
    go_wp2_with fail
    have t0 : w10.cell? ⟨gT, 0, none⟩ = some (.int .i64 (5 : Nat)) := HX.out.1.T.cellv 0 rfl
    have m0 : w10.cell? ⟨gM, 0, none⟩ = some (.pointer (some ⟨p.gm, 0, none⟩)) := HX.out.1.M.cellv 0 rfl
    have c24 : w10.cell? ⟨p.gm, 24, none⟩ = some p2.vco := by rw [← HPQ.out.1]; exact HX.out.2.1.mb.cellv 24 rfl
    have OC : OwnG comC 6 59 w10 p2.vco m10.cms := HX.out.2.1.k .commits
    obtain ⟨Ac, cc, hvc⟩ := OC.slice
    rw [hvc] at c24
    have q0 : w10.cell? ⟨gC, 0, none⟩ = some (.int .i64 c.g) := HX.out.1.C.cellv 0 rfl
    have q1 : w10.cell? ⟨gC, 1, none⟩ = some (.int .i64 c.f) := HX.out.1.C.cellv 1 rfl
    have q2 : w10.cell? ⟨gC, 2, none⟩ = some (.int .i64 c.pc) := HX.out.1.C.cellv 2 rfl
    have q3 : w10.cell? ⟨gC, 3, none⟩ = some (.int .i64 c.op) := HX.out.1.C.cellv 3 rfl
    have q4 : w10.cell? ⟨gC, 4, none⟩ = some (.int .i64 c.v) := HX.out.1.C.cellv 4 rfl
    have q5 : w10.cell? ⟨gC, 5, none⟩ = some (.bool c.flt) := HX.out.1.C.cellv 5 rfl
    have l0 := HX.out.1.M.lt
    have l1 := HX.out.1.C.lt
    have l2 : p.gm < w10.heap.size := by rw [← HPQ.out.1]; exact HX.out.2.1.mb.lt
    have nv : ∀ k, w.heap.size ≤ k → k < w7.heap.size → k ∉ fpv p2.vco := fun k hk hk2 hm => by
      have h : MF p2 m2 .commits k := hm
      rcases F8.out .commits k h with h | h <;> omega
    have n0 := nv _ (HX.out.1.n gM (by simp)) (HL.out gM (by simp))
    have n1 := nv _ (HX.out.1.n gC (by simp)) (HL.out gC (by simp))
    have n2 : p.gm ∉ fpv p2.vco := fun hm => by rw [← HPQ.out.1] at hm; have := HX.out.2.1.ap .mach .commits p2.gm rfl hm; cases this
    clear nv
    have H10 := Lib.hid (And.intro OC hvc); clear OC hvc
    refine wp_region_takes (fuel := 5) 8 (fun w' => Chg (fpv p2.vco) w10 w') [0, 1, 2, 3, 4, 5] (by kernel_rfl) (by kernel_rfl) (fun _ _ _ _ _ h => h) (((Chg.refl [] w10).drew.mono (by simp))) ?_
    simp only [List.filterMap_cons, List.filterMap_nil, qGa, qGb]
    iterate 6
      refine wpTake_step (fun K hK => ?_)
      rw [if_pos (by rfl)]
      refine ⟨?_, fun w' hS' => ?_, ?_⟩
      rotate_left 1
      focus
        have j0 := hS'.cellv l0 n0 m0
        have j1 := hS'.cellv l2 n2 c24
        have jq0 := hS'.cellv l1 n1 q0
        have jq1 := hS'.cellv l1 n1 q1
        have jq2 := hS'.cellv l1 n1 q2
        have jq3 := hS'.cellv l1 n1 q3
        have jq4 := hS'.cellv l1 n1 q4
        have jq5 := hS'.cellv l1 n1 q5
        go_simp
        try with_reducible rfl
        done
      simp only [Act.put, qSa, qSb, qSc]
      refine hK _ ?_
      clear hK K
    refine wpTake_nil ?_
    generalize hx0 : w10.drew = x0
    have D0 : Chg [] w10 x0 := by rw [← hx0]; exact (Chg.refl [] w10).drew
    clear hx0
    refine wpAnyS_ready (rs := [6]) (by kernel_rfl) (by simp) ?_
    refine AllReadyS.o (fun K hK => ?_)
    rw [if_pos (by rfl)]
    go_simp
    refine hK _ _ ((D0.alloc _).mono (by simp)) ?_
    clear hK K
    try simp only [Act.put, qSa, qSb, qSc]
    refine wpAnyS_ready (rs := [7]) (by kernel_rfl) (by simp) ?_
    refine AllReadyS.o (fun K hK => ?_)
    refine step_push_g comC_len comC_one tyCo c rfl (by rfl) _ _ (by rfl) (by rfl) (by have h := H10.out.1.chg0 D0; rw [H10.out.2] at h; exact h) (by rfl) (by rw [HX.out.2.2.2.1]; exact HF.out.2.2.2.2) ?_
    intro A3 c3 x3 O3 S3
    have D3 : Chg (fpv p2.vco) w10 x3 := (D0.mono (by simp)).trans (by have := S3.c; rw [H10.out.2]; exact this)
    refine hK _ _ (D3) ?_
    clear hK K
    try simp only [Act.put, qSa, qSb, qSc]
    refine wpAnyS_tail 8 3 (by kernel_rfl) rfl ?_
    simp only [qDa, qDb]
    have S3' : Stp (fpv p2.vco) (fpv (.slice A3 (m10.cms.length + 1) c3)) x0 x3 := by rw [H10.out.2]; exact S3
    have M11 : MM W (x3.setCell ⟨p.gm, 24, none⟩ (.slice A3 (m10.cms.length + 1) c3)) { p2 with vco := .slice A3 (m10.cms.length + 1) c3 } { m10 with cms := m10.cms ++ [c] } := by rw [← HPQ.out.1]; exact (HX.out.2.1.chg0 D0).coT O3 S3'
    have Bm : Blk x3 p.gm 109 (mC p2 m10) := by rw [← HPQ.out.1]; exact D3.blk HX.out.2.1.mb (by rw [HPQ.out.1]; exact n2)
    have z0 : x3.cell? ⟨p.gm, 24, none⟩ = some p2.vco := Bm.cellv 24 rfl
    have y0 := Bm.frozen 24
    have c11 : Chg [p.gm] x3 (x3.setCell ⟨p.gm, 24, none⟩ (.slice A3 (m10.cms.length + 1) c3)) := (Chg.refl [p.gm] x3).setCell (.inl (by simp)) _
    have hgml := (HM.out.mb).lt
    have far11 : ∀ k, w.heap.size ≤ k → k ∉ [p.gm] := fun k hk hm => by have e : k = p.gm := (by simpa using hm); omega
    have nv : ∀ k, w.heap.size ≤ k → k < w7.heap.size → k ∉ fpv p2.vco := fun k hk hk2 hm => by
      have h : MF p2 m2 .commits k := hm
      rcases F8.out .commits k h with h | h <;> omega
    have Eg := c11.blk (D3.blk HX.out.1.g (nv _ (HX.out.1.n gg (by simp)) (HL.out gg (by simp)))) (far11 _ (HX.out.1.n gg (by simp)))
    have EE := c11.blk (D3.blk HX.out.2.2.1 (nv _ H7.out.2.2.2.2 HEl.out)) (far11 _ H7.out.2.2.2.2)
    go_upto_region 15 with fail
    obtain ⟨w11, hw11⟩ : ∃ w11, w11 = x3.setCell ⟨p.gm, 24, none⟩ (.slice A3 (m10.cms.length + 1) c3) := ⟨_, rfl⟩
    rw [← hw11] at M11 Eg EE ⊢
    have g0 : w11.cell? ⟨gg, 0, none⟩ = some (.int .i64 (g : Nat)) := Eg.cellv 0 rfl
    have OE : OwnG comC 6 59 w11 (.slice A3 (m10.cms.length + 1) c3) _ := M11.k .commits
    have nEv := OE.ne_blk EE (by decide)
    have HP := Lib.hid (And.intro M11 (And.intro EE nEv)); clear M11 EE D3 S3 S3' O3 D0 Bm c11 Eg hw11 far11 nv z0 y0 OE nEv
    go_wp2_with fail
    refine (m_event w11 1 (g : Nat)).mono ?_
    rintro e w12 ⟨rfl, c12⟩
    have E12 := c12.blk HP.out.2.1 (by simp)
    have z0 : w12.cell? ⟨gE, 0, none⟩ = some (.int .i64 0) := E12.cellv 0 rfl
    have z1 : w12.cell? ⟨gE, 1, none⟩ = some (.int .i64 0) := E12.cellv 1 rfl
    have z2 : w12.cell? ⟨gE, 2, none⟩ = some (.int .i64 0) := E12.cellv 2 rfl
    have y0 := E12.frozen 0
    have y1 := E12.frozen 1
    have y2 := E12.frozen 2
    have HQe := Lib.hid (And.intro E12 c12); clear E12 c12
    unfold evV
    go_wp2_with fail
    have B13 := ((HQe.out.1.set_ 0 (.int .i64 1)).set_ 1 (.int .i64 (g : Nat))).setv 2 (.int .i64 0) (cs' := #[.int .i64 1, .int .i64 (g : Nat), .int .i64 0]) rfl
    have c13 : Chg [gE] w12 (((w12.setCell ⟨gE, 0, none⟩ (.int .i64 1)).setCell ⟨gE, 1, none⟩ (.int .i64 (g : Nat))).setCell ⟨gE, 2, none⟩ (.int .i64 0)) := (((Chg.refl [gE] w12).setCell (.inl (by simp)) _).setCell (.inl (by simp)) _).setCell (.inl (by simp)) _
    have M13 := (HP.out.1.chg0 HQe.out.2).chg c13 (fun k j hj hm => by
      have e : j = gE := by simpa using hm
      subst e
      have nE := H7.out.2.2.2.2
      have nE2 := HEl.out
      by_cases ek : k = .commits
      · subst ek
        exact HP.out.2.2 hj
      · have hj2 : MF p2 m2 k j := HX.out.2.2.2.2.1 k j (by cases k <;> first | exact absurd rfl ek | exact hj)
        rcases F8.out k j hj2 with h | h <;> omega) (by have : W.heap.size ≤ w.heap.size := HM.out.c.size; have := H7.out.2.2.2.2; simp; omega)
    refine ⟨rfl, _, results_cell_row (P := Tryz.prog) (fn := Tryz.f146) rfl _ _ gE 48 _ _ _ rfl B13 Tryz.underlying48 rfl (by kernel_rfl), p2, .slice A3 (m10.cms.length + 1) c3, rfl, HPQ.out.2.2.2, ?_⟩
    rw [HX.out.2.2.2.2.2] at M13
    exact M13
end
end Go.Proofs.YtcpljjacamibeaaGreatDoor
