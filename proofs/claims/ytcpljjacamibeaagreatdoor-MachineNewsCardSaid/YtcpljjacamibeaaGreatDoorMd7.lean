/- Package machine: event; commit of an exit. -/
import Derived.Test.YtcpljjacamibeaaGreatDoorMd6
namespace Go.Proofs.YtcpljjacamibeaaGreatDoor
set_option maxHeartbeats 16000000
set_option maxRecDepth 100000
open Go.RowKit Go.Maps
theorem comC_len (c : ComA) : (comC c).length = 6 := rfl
theorem comC_one (c : ComA) : ∀ u ∈ comC c, u.oneCell' = true := by
  intro u hu
  simp [comC] at hu
  rcases hu with rfl | rfl | rfl | rfl | rfl | rfl <;> rfl
theorem tyCo : TyS Tryz.prog 107 59 6 48 := ⟨Tryz.underlying107, ⟨.agg #[.int .i64 0, .int .i64 0, .int .i64 0, .int .i64 0, .int .i64 0, .bool false], by kernel_rfl, rfl⟩, by decide, by decide⟩
theorem step_push_g {α : Type} {f : α → List Value} {sz by_ : Nat} {P : Program} {T E : TypeId} {w : World} {v : Value} {xs : List α} {ops : Array Oper} {op : Oper} {a : Act} {K : Act → World → Prop} {Q : Exit → Act → World → Prop} {E' : Prop} {cs : Array Value} (hf : ∀ x, (f x).length = sz) (h1 : ∀ x, ∀ u ∈ f x, u.oneCell' = true) (t : TyS P T E sz by_) (x : α) (hcs : cs = (f x).toArray) (hgd : op.guard = none) (s y : Operand)
    (hop : op.op = .call { callee := .builtin .append, args := #[s, y], argTypes := #[T, T] }) (hs : a.eval s = v) (h : OwnG f sz E w v xs) (hx : a.eval y = .slice (some ⟨w.heap.size, 0, none⟩) 1 1) (hl : xs.length ≤ 100000000)
    (hK : ∀ A' c' w', OwnG f sz E w' (.slice A' (xs.length + 1) c') (xs ++ [x]) → Stp (fpv v) (fpv (.slice A' (xs.length + 1) c')) w w' → K (a.put op.dst (.slice A' (xs.length + 1) c')) w') : if Region.wanted op (yielded ops a.tmps) = true then Oper.wp P op a (w.alloc (.cells cs E)) K Q else E' := by
  subst hcs
  have hw : Region.wanted op (yielded ops a.tmps) = true := by simp [Region.wanted, hgd]
  rw [if_pos hw]
  obtain ⟨v', w', hr, h2, h3⟩ := run_push_g hf h1 t op.type h x hl
  obtain ⟨A', c', e⟩ := h2.slice
  rw [List.length_append, List.length_singleton] at e
  subst e
  unfold Oper.wp execOp
  simp only [hop, resolve, invoke, builtin, Sem.run_bind, Sem.run_pure, Result.andThen_ok, List.map_toArray, List.map_cons, List.map_nil, hs, hx, hr]
  exact hK A' c' w' h2 h3
def evV (k g ph : Int) : Value := .agg #[.int .i64 k, .int .i64 g, .int .i64 ph]
theorem m_event (w : World) (k g : Int) : Calls Tryz.prog 80 #[.int .i64 k, .int .i64 g] w (NwPost (evV k g 0) w) := by
  go_enter Tryz.func80, Tryz.ntmps80
  go_wp2_with fail
  exact ⟨rfl, _, results_cell_row (P := Tryz.prog) (fn := Tryz.f80) rfl _ _ w.heap.size 48 _ _ _ rfl (heap_alloc_new w (.cells #[.int .i64 k, .int .i64 g, .int .i64 0] 48)) Tryz.underlying48 rfl (by kernel_rfl), rfl, (Chg.refl [] w).alloc _⟩
def exitA (m : Mac) (q g : Nat) : Mac := { m with gs := updV m.gs g { m.gs g with pc := (m.gs g).pc + 1 }, ps := updV m.ps q { m.ps q with row := (m.ps q).row + 1, g := -1 }, sts := m.sts.set g 5, cms := m.cms ++ [⟨(g : Nat), (m.gs g).f, (m.gs g).pc, 0, 0, false⟩] }
structure CmB (w0 : World) (gM gp gI gA gE gm q : Nat) (i : Ins) (addr : Int) (w : World) : Prop where
  M : Blk w gM 35 #[.pointer (some ⟨gm, 0, none⟩)]
  p : Blk w gp 3 #[.int .i64 (q : Nat)]
  I : Blk w gI 33 #[.int .i64 (i.o : Nat), .int .i64 (i.a : Nat), .int .i64 (i.b : Nat), .int .i64 (i.c : Nat)]
  A : Blk w gA 3 #[.int .i64 addr]
  E : Blk w gE 48 #[.int .i64 0, .int .i64 0, .int .i64 0]
  c : Chg [] w0 w
  n : ∀ k ∈ [gM, gp, gI, gA, gE], w0.heap.size ≤ k
  d : gA ≠ gp
theorem CmB.chg0 {w0 w w' : World} {gM gp gI gA gE gm q : Nat} {i : Ins} {addr : Int} (K : CmB w0 gM gp gI gA gE gm q i addr w) (c : Chg [] w w') : CmB w0 gM gp gI gA gE gm q i addr w' :=
  ⟨c.blk K.M (by simp), c.blk K.p (by simp), c.blk K.I (by simp), c.blk K.A (by simp), c.blk K.E (by simp), K.c.trans c, K.n, K.d⟩
def ExPost (W : Bs) (p : MAt) (m : Mac) (q g : Nat) (e : Ending) (w' : World) : Prop := ∃ v, e = .returned (evV 1 (g : Nat) 0) ∧ MM W w' { p with vco := v } (exitA m q g)
section
variable {W : Bs} {w : World} {p : MAt} {m : Mac} (M : MM W w p m)
include M
theorem m_commit_exit (q g : Nat) (addr : Int) (i : Ins) (hi : i.o = 0) (hq : q < m.np) (hg : g < m.ng) (hxg : (m.ps q).g = (g : Nat)) (rw_ : Nat) (hrow : (m.ps q).row = rw_) (brow : rw_ ≤ 1000000) (pc : Nat) (hpc : (m.gs g).pc = pc) (bpc : pc ≤ 1000000) (hst : m.sts[g]? = some 2) (hsl : m.sts.length ≤ 1000000) (hcl : m.cms.length ≤ 100000000) :
    Calls Tryz.prog 146 #[.pointer (some ⟨p.gm, 0, none⟩), .int .i64 (q : Nat), insV i, .int .i64 addr] w (ExPost W p m q g) := by
  have hmf : ∀ (fn : Fn) (first cap : Array Value) (w : World), (Instr.makeFunc fn first cap).run Tryz.prog w = .ok (.func fn first cap) w := fun _ _ _ _ => rfl
  unfold insV
  have hiH := Lib.hid hi
  clear hi
  have HM := Lib.hid M
  go_enter Tryz.func146, Tryz.ntmps146
  go_upto_region 1 with fail
  generalize hw1 : World.alloc (World.alloc (World.alloc (World.alloc (World.alloc w _) _) _) _) _ = w1
  have K1 : CmB w w.heap.size (w.heap.size + 1) (w.heap.size + 1 + 1) (w.heap.size + 1 + 1 + 1) (w.heap.size + 1 + 1 + 1 + 1) p.gm q i addr w1 := by
    rw [← hw1]
    have b1 := Blk.new w 35 #[.pointer (some ⟨p.gm, 0, none⟩)]
    have b2 := Blk.new (w.alloc (.cells #[.pointer (some ⟨p.gm, 0, none⟩)] 35)) 3 #[.int .i64 (q : Nat)]
    have b3 := Blk.new ((w.alloc (.cells #[.pointer (some ⟨p.gm, 0, none⟩)] 35)).alloc (.cells #[.int .i64 (q : Nat)] 3)) 33 #[.int .i64 (i.o : Nat), .int .i64 (i.a : Nat), .int .i64 (i.b : Nat), .int .i64 (i.c : Nat)]
    have b4 := Blk.new (((w.alloc (.cells #[.pointer (some ⟨p.gm, 0, none⟩)] 35)).alloc (.cells #[.int .i64 (q : Nat)] 3)).alloc (.cells #[.int .i64 (i.o : Nat), .int .i64 (i.a : Nat), .int .i64 (i.b : Nat), .int .i64 (i.c : Nat)] 33)) 3 #[.int .i64 addr]
    have b5 := Blk.new ((((w.alloc (.cells #[.pointer (some ⟨p.gm, 0, none⟩)] 35)).alloc (.cells #[.int .i64 (q : Nat)] 3)).alloc (.cells #[.int .i64 (i.o : Nat), .int .i64 (i.a : Nat), .int .i64 (i.b : Nat), .int .i64 (i.c : Nat)] 33)).alloc (.cells #[.int .i64 addr] 3)) 48 #[.int .i64 0, .int .i64 0, .int .i64 0]
    simp only [World.size_alloc] at b2 b3 b4 b5
    exact ⟨(((b1.alloc _).alloc _).alloc _).alloc _, ((b2.alloc _).alloc _).alloc _, (b3.alloc _).alloc _, b4.alloc _, b5, (((((Chg.refl [] w).alloc _).alloc _).alloc _).alloc _).alloc _, by simp; omega, by omega⟩
  clear hw1
  generalize w.heap.size + 1 + 1 + 1 + 1 = gE at K1 ⊢
  generalize w.heap.size + 1 + 1 + 1 = gA at K1 ⊢
  generalize w.heap.size + 1 + 1 = gI at K1 ⊢
  generalize w.heap.size + 1 = gp at K1 ⊢
  generalize hgM : w.heap.size = gM at K1 ⊢
  have M1 := M.chg0 K1.c
  clear M
  have m0 : w1.cell? ⟨gM, 0, none⟩ = some (.pointer (some ⟨p.gm, 0, none⟩)) := K1.M.cellv 0 rfl
  have p0 : w1.cell? ⟨gp, 0, none⟩ = some (.int .i64 (q : Nat)) := K1.p.cellv 0 rfl
  obtain ⟨b9, cap9, c9, hps⟩ := M1.psl
  obtain ⟨hv9, hb9, -⟩ := hps q hq
  rw [hv9] at c9
  have e1 : (0 : Int) ≤ q := by omega
  have e2 : (q : Int) < (m.np : Int) := by omega
  have H1 := Lib.hid (And.intro K1 (And.intro M1 hgM)); clear K1 M1 hgM hps hv9
  go_quiet (fail)
  generalize hw2 : World.drewN _ nq = w2
  have c12 : Chg [] w1 w2 := by rw [← hw2]; exact (Chg.refl [] w1).drewN _
  clear hw2 m0 p0 c9 hb9
  have M2 := H1.out.2.1.chg0 c12
  have K2 := H1.out.1.chg0 c12
  have x0 : w2.cell? ⟨p.bp q, 0, none⟩ = some (.int .i64 (g : Nat)) := by rw [← hxg]; exact (M2.pb hq).cellv 0 rfl
  have H2 := Lib.hid (And.intro K2 M2); clear K2 M2 c12
  go_upto_region 3 with fail
  obtain ⟨gg, hgg⟩ : ∃ gg, gg = w2.heap.size := ⟨_, rfl⟩
  obtain ⟨w3, hw3⟩ : ∃ w3, w3 = w2.alloc (.cells #[.int .i64 (g : Nat)] 3) := ⟨_, rfl⟩
  have c23 : Chg [] w2 w3 := by rw [hw3]; exact (Chg.refl [] w2).alloc _
  have Bg : Blk w3 gg 3 #[.int .i64 (g : Nat)] := by rw [hw3, hgg]; exact Blk.new _ _ _
  rw [← hgg, ← hw3]
  have K3 := H2.out.1.chg0 c23
  have M3 := H2.out.2.chg0 c23
  have g1 : gp < gg := by rw [hgg]; exact H2.out.1.p.lt
  have g2 : gA < gg := by rw [hgg]; exact H2.out.1.A.lt
  clear hw3 hgg x0 c23
  have m0 : w3.cell? ⟨gM, 0, none⟩ = some (.pointer (some ⟨p.gm, 0, none⟩)) := K3.M.cellv 0 rfl
  have p0 : w3.cell? ⟨gg, 0, none⟩ = some (.int .i64 (g : Nat)) := Bg.cellv 0 rfl
  obtain ⟨b8, cap8, c8, hgs⟩ := M3.gsl
  obtain ⟨hv8, hb8, hbl8⟩ := hgs g hg
  rw [hv8] at c8
  have e3 : (0 : Int) ≤ g := by omega
  have e4 : (g : Int) < (m.ng : Int) := by omega
  have l0 := K3.M.lt
  have l1 := Bg.lt
  have l2 := M3.mb.lt
  have H3 := Lib.hid (And.intro K3 (And.intro M3 (And.intro Bg (And.intro g1 g2)))); clear K3 M3 Bg hgs hv8 g1 g2 H2
  refine wp_region_takes (fuel := 2) 8 (fun w' => Chg [] w3 w') [0, 1, 2, 3, 4, 5, 6] (by kernel_rfl) (by kernel_rfl) (fun _ _ _ _ _ h => h) ((Chg.refl [] w3).drew) ?_
  simp only [List.filterMap_cons, List.filterMap_nil, qGa, qGb]
  iterate 7
    refine wpTake_step (fun K hK => ?_)
    rw [if_pos (by rfl)]
    refine ⟨?_, fun w' hS' => ?_, ?_⟩
    rotate_left 1
    focus
      have j0 := hS'.cellv l0 (by simp) m0
      have j1 := hS'.cellv l1 (by simp) p0
      have j2 := hS'.cellv l2 (by simp) c8
      have j3 := hS'.cellv hbl8 (by simp) hb8
      go_simp
      try with_reducible rfl
      done
    simp only [Act.put, qSa, qSb, qSc]
    refine hK _ ?_
    clear hK K
  refine wpTake_nil ?_
  generalize hx0 : w3.drew = x0
  have D0 : Chg [] w3 x0 := by rw [← hx0]; exact (Chg.refl [] w3).drew
  clear hx0
  refine wpAnyS_ready (rs := [7]) (by kernel_rfl) (by simp) ?_
  refine AllReadyS.o (fun K hK => ?_)
  rw [if_pos (by rfl)]
  go_simp
  refine hK _ _ ((D0.alloc _)) ?_
  clear hK K
  try simp only [Act.put, qSa, qSb, qSc]
  refine wpAnyS_tail 8 1 (by kernel_rfl) rfl ?_
  simp only [qDa, qDb]
  go_upto_region 4 with fail
  obtain ⟨gY, hgY⟩ : ∃ gY, gY = x0.heap.size := ⟨_, rfl⟩
  obtain ⟨w4, hw4⟩ : ∃ w4, w4 = x0.alloc (.cells #[.pointer (some ⟨p.bg g, 0, none⟩)] 115) := ⟨_, rfl⟩
  rw [← hgY, ← hw4]
  have c34 : Chg [] w3 w4 := by rw [hw4]; exact D0.alloc _
  have BY : Blk w4 gY 115 #[.pointer (some ⟨p.bg g, 0, none⟩)] := by rw [hw4, hgY]; exact Blk.new _ _ _
  have K4 := H3.out.1.chg0 c34
  have M4 := H3.out.2.1.chg0 c34
  have Bg4 := c34.blk H3.out.2.2.1 (by simp)
  have hY : w.heap.size ≤ gY := by rw [hgY]; exact Nat.le_trans H3.out.1.c.size D0.size
  clear hw4 hgY D0 c34 m0 p0 c8 hb8 hbl8 l0 l1 l2
  have p0 : w4.cell? ⟨gg, 0, none⟩ = some (.int .i64 (g : Nat)) := Bg4.cellv 0 rfl
  have y0 : w4.cell? ⟨gY, 0, none⟩ = some (.pointer (some ⟨p.bg g, 0, none⟩)) := BY.cellv 0 rfl
  have f0 : w4.cell? ⟨p.bg g, 0, none⟩ = some (.int .i64 (m.gs g).f) := (M4.gb hg).cellv 0 rfl
  have f1 : w4.cell? ⟨p.bg g, 1, none⟩ = some (.int .i64 (pc : Nat)) := by rw [← hpc]; exact (M4.gb hg).cellv 1 rfl
  have i0 : w4.cell? ⟨gI, 0, none⟩ = some (.int .i64 0) := by
    have h : w4.cell? ⟨gI, 0, none⟩ = some (.int .i64 (i.o : Nat)) := K4.I.cellv 0 rfl
    rw [hiH.out] at h; exact h
  have l0 := Bg4.lt
  have l1 := BY.lt
  have l2 := (M4.gb hg).lt
  have l3 := K4.I.lt
  have H4 := Lib.hid (And.intro K4 (And.intro M4 (And.intro Bg4 (And.intro BY (And.intro hY H3.out.2.2.2))))); clear K4 M4 Bg4 BY hY H3
  go_wp2_with fail
  refine wp_region_takes (fuel := 2) 13 (fun w' => Chg [] w4 w') [0, 1, 2, 3, 4, 5, 6, 7, 8, 9, 10, 11] (by kernel_rfl) (by kernel_rfl) (fun _ _ _ _ _ h => h) ((Chg.refl [] w4).drew) ?_
  simp only [List.filterMap_cons, List.filterMap_nil, qGa, qGb]
  iterate 12
    refine wpTake_step (fun K hK => ?_)
    rw [if_pos (by rfl)]
    refine ⟨?_, fun w' hS' => ?_, ?_⟩
    rotate_left 1
    focus
      have j0 := hS'.cellv l0 (by simp) p0
      have j1 := hS'.cellv l1 (by simp) y0
      have j2 := hS'.cellv l2 (by simp) f0
      have j3 := hS'.cellv l2 (by simp) f1
      have j4 := hS'.cellv l3 (by simp) i0
      go_simp
      try with_reducible rfl
      done
    simp only [Act.put, qSa, qSb, qSc]
    refine hK _ ?_
    clear hK K
  refine wpTake_nil ?_
  generalize hx0 : w4.drew = x0
  have D0 : Chg [] w4 x0 := by rw [← hx0]; exact (Chg.refl [] w4).drew
  clear hx0
  refine wpAnyS_ready (rs := [12]) (by kernel_rfl) (by simp) ?_
  refine AllReadyS.o (fun K hK => ?_)
  rw [if_pos (by rfl)]
  go_simp
  refine hK _ _ ((D0.alloc _)) ?_
  clear hK K
  try simp only [Act.put, qSa, qSb, qSc]
  refine wpAnyS_tail 13 1 (by kernel_rfl) rfl ?_
  simp only [qDa, qDb]
  go_upto_region 5 with fail
  obtain ⟨gC, hgC⟩ : ∃ gC, gC = x0.heap.size := ⟨_, rfl⟩
  obtain ⟨w5, hw5⟩ : ∃ w5, w5 = x0.alloc (.cells #[.int .i64 (g : Nat), .int .i64 (m.gs g).f, .int .i64 (pc : Nat), .int .i64 0, .int .i64 0, .bool false] 59) := ⟨_, rfl⟩
  rw [← hgC, ← hw5]
  have c45 : Chg [] w4 w5 := by rw [hw5]; exact D0.alloc _
  have BC : Blk w5 gC 59 #[.int .i64 (g : Nat), .int .i64 (m.gs g).f, .int .i64 (pc : Nat), .int .i64 0, .int .i64 0, .bool false] := by rw [hw5, hgC]; exact Blk.new _ _ _
  have K5 := H4.out.1.chg0 c45
  have M5 := H4.out.2.1.chg0 c45
  have Bg5 := c45.blk H4.out.2.2.1 (by simp)
  have BY5 := c45.blk H4.out.2.2.2.1 (by simp)
  have hC : w.heap.size ≤ gC := by rw [hgC]; exact Nat.le_trans H4.out.1.c.size D0.size
  clear hw5 hgC D0 c45 p0 y0 f0 f1 i0 l0 l1 l2 l3
  have y0 : w5.cell? ⟨gY, 0, none⟩ = some (.pointer (some ⟨p.bg g, 0, none⟩)) := BY5.cellv 0 rfl
  have f1 : w5.cell? ⟨p.bg g, 1, none⟩ = some (.int .i64 (pc : Nat)) := by rw [← hpc]; exact (M5.gb hg).cellv 1 rfl
  have z1 := (M5.gb hg).frozen 1
  have k1 : w5.cell? ⟨p.bp q, 1, none⟩ = some (.int .i64 (rw_ : Nat)) := by rw [← hrow]; exact (M5.pb hq).cellv 1 rfl
  have z2 := (M5.pb hq).frozen 1
  have n1 : ¬ p.bg g = p.bp q := (M5.gb hg).ne_ (M5.pb hq) (by decide)
  have n2 : ¬ p.bp q = p.bg g := fun e => n1 e.symm
  have H5 := Lib.hid (And.intro K5 (And.intro M5 (And.intro Bg5 (And.intro BY5 (And.intro hC (And.intro H4.out.2.2.2.2 BC)))))); clear K5 M5 Bg5 BY5 hC BC H4
  go_upto_region 8 with fail
  obtain ⟨w6, hw6⟩ : ∃ w6, w6 = (w5.setCell ⟨p.bg g, 1, none⟩ (.int .i64 ((pc : Int) + 1))).setCell ⟨p.bp q, 1, none⟩ (.int .i64 ((rw_ : Int) + 1)) := ⟨_, rfl⟩
  obtain ⟨m6, hm6⟩ : ∃ m6, m6 = { m with gs := updV m.gs g { m.gs g with pc := (m.gs g).pc + 1 }, ps := updV m.ps q { m.ps q with row := (m.ps q).row + 1 } } := ⟨_, rfl⟩
  have M6 : MM W w6 p m6 := by
    rw [hw6, hm6, ← hpc, ← hrow]
    exact (H5.out.2.1.gset hg 1 _ { m.gs g with pc := (m.gs g).pc + 1 } rfl).pset (q := q) hq 1 _ { m.ps q with row := (m.ps q).row + 1 } rfl
  have c56 : Chg [p.bg g, p.bp q] w5 w6 := by rw [hw6]; exact ((Chg.refl _ w5).setCell (.inl (by simp)) _).setCell (.inl (by simp)) _
  obtain ⟨w7, hw7⟩ : ∃ w7, w7 = w6.alloc (.cells #[.int .i64 2] 3) := ⟨_, rfl⟩
  obtain ⟨gT, hgT⟩ : ∃ gT, gT = w5.heap.size := ⟨_, rfl⟩
  have hs6 : w6.heap.size = w5.heap.size := by rw [hw6, size_setCell, size_setCell]
  rw [← hw6, ← hw7]
  try rw [hs6]
  rw [← hgT]
  have BT : Blk w7 gT 3 #[.int .i64 2] := by rw [hw7, hgT, ← hs6]; exact Blk.new _ _ _
  have M7 : MM W w7 p m6 := by rw [hw7]; exact M6.chg0 ((Chg.refl [] w6).alloc _)
  have c57 : Chg [p.bg g, p.bp q] w5 w7 := by rw [hw7]; exact c56.alloc _
  have olo : ∀ k, w.heap.size ≤ k → k ∉ [p.bg g, p.bp q] := fun k hk hm => by
    have h1 := (HM.out.gb hg).lt
    have h2 := (HM.out.pb hq).lt
    simp only [List.mem_cons, List.not_mem_nil, or_false] at hm
    omega
  have K5 := H5.out.1
  have nn := K5.n
  simp only [List.mem_cons, List.not_mem_nil, or_false, forall_eq_or_imp, forall_eq] at nn
  obtain ⟨nM, np, nI, nA, nE⟩ := nn
  have ngg : w.heap.size ≤ gg := by have := H5.out.2.2.2.2.2.1.2; omega
  have ngT : w.heap.size ≤ gT := by rw [hgT]; exact K5.c.size
  have hTgg : gg < gT := by rw [hgT]; exact H5.out.2.2.1.lt
  have hTA : gA < gT := by rw [hgT]; exact K5.A.lt
  have hTp : gp < gT := by rw [hgT]; exact K5.p.lt
  have KC : CmW w gC gT gI gA gY gM gp gg ⟨(g : Nat), (m.gs g).f, (pc : Nat), 0, 0, false⟩ 2 i addr (p.bg g) p.gm q g w7 :=
    ⟨c57.blk H5.out.2.2.2.2.2.2 (olo _ H5.out.2.2.2.2.1), BT, c57.blk K5.I (olo _ nI), c57.blk K5.A (olo _ nA), c57.blk H5.out.2.2.2.1 (olo _ H5.out.2.2.2.2.2.1.1), c57.blk K5.M (olo _ nM), c57.blk K5.p (olo _ np), c57.blk H5.out.2.2.1 (olo _ ngg),
      by simp only [List.mem_cons, List.not_mem_nil, or_false, forall_eq_or_imp, forall_eq]; exact ⟨H5.out.2.2.2.2.1, ngT, nI, nA, H5.out.2.2.2.2.2.1.1, nM, np, ngg⟩,
      by have := K5.d; have := H5.out.2.2.2.2.2.1.2; simp; omega⟩
  have E7 := c57.blk K5.E (olo _ nE)
  have F6 : ∀ k j, MF p m6 k j → j < w.heap.size := fun k j hj => HM.out.hi k j (by rw [hm6] at hj; cases k <;> exact hj)
  have F6 := Lib.hid F6
  have H7 := Lib.hid (And.intro KC (And.intro M7 (And.intro hm6 (And.intro E7 nE)))); clear KC M7 hm6 E7 nE M6 c56 c57 BT K5 hw6 hw7 hs6 hgT y0 f1 z1 k1 z2 olo nM np nI nA ngT hTA hTp ngg
  go_wp2_with fail
  refine (cm_exit H7.out.1 hiH.out).mono ?_
  rintro e w8 ⟨rfl, KC8, c8⟩
  have nT := H7.out.1.n gT (by simp)
  have M8 : MM W w8 p m6 := H7.out.2.1.chg c8 (fun k j hj hm => by
    have h1 := F6.out k j hj
    have e : j = gT := by simpa using hm
    omega) (by have : W.heap.size ≤ w.heap.size := HM.out.c.size; simp; omega)
  have E8 := c8.blk H7.out.2.2.2.1 (by simpa using H7.out.2.2.2.1.ne_ H7.out.1.T (by decide))
  have t0 : w8.cell? ⟨gT, 0, none⟩ = some (.int .i64 5) := KC8.T.cellv 0 rfl
  have m0 : w8.cell? ⟨gM, 0, none⟩ = some (.pointer (some ⟨p.gm, 0, none⟩)) := KC8.M.cellv 0 rfl
  have g0 : w8.cell? ⟨gg, 0, none⟩ = some (.int .i64 (g : Nat)) := KC8.g.cellv 0 rfl
  have c7 : w8.cell? ⟨p.gm, 7, none⟩ = some (.pointer (some ⟨p.gst, 0, none⟩)) := M8.mb.cellv 7 rfl
  have H8 := Lib.hid (And.intro KC8 (And.intro M8 (And.intro E8 nT))); clear KC8 M8 E8 nT c8
  go_wp2_with fail
  go_still_tail 6, (by kernel_rfl)
  change wpList _ _ _ _ _ w8.drew
  go_wp2_with fail
  have M8' := H8.out.2.1.chg0 (Chg.refl [] w8).drew
  have KC8' := H8.out.1.far (Chg.refl [] w8).drew (by simp)
  have E8' := (H8.out.2.2.1).drew
  have hst6 : m6.sts = m.sts := by rw [H7.out.2.2.1]
  refine (st_move w8.drew p.gst p.vst m6.sts M8'.st g 2 5 (by rw [hst6]; exact hst) (.inr (.inr (.inr (.inr (.inl ⟨rfl, rfl⟩))))) (by rw [hst6]; exact hsl)).mono ?_
  rintro e w9 ⟨rfl, I9, S9⟩
  have M9 := M8'.stT I9 rfl S9
  have far9 : ∀ k, w.heap.size ≤ k → k ∉ p.gst :: fpv p.vst := fun k hk hm => by
    have := F6.out .states k (by rcases List.mem_cons.1 hm with h | h; exact .inl h; exact .inr h)
    omega
  have KC9 := KC8'.far S9.c (fun k hk => far9 k (KC8'.n k hk))
  have E9 := S9.c.blk E8' (far9 _ H7.out.2.2.2.2)
  obtain ⟨m9, hm9⟩ : ∃ m9, m9 = { m6 with sts := m6.sts.set g ((5 : Nat) : Int) } := ⟨_, rfl⟩
  rw [← hm9] at M9
  have hq9 : q < m9.np := by rw [hm9, H7.out.2.2.1]; exact hq
  have x0 := (M9.pb hq9).cellv 0 rfl
  have z0 := (M9.pb hq9).frozen 0
  have H9 := Lib.hid (And.intro KC9 (And.intro M9 (And.intro E9 hm9))); clear KC9 M9 E9 hm9 I9 S9 M8' KC8' E8' H8 t0 m0 g0 c7 far9 hst6
  go_upto_region 12 with fail
  obtain ⟨w10, hw10⟩ : ∃ w10, w10 = w9.setCell ⟨p.bp q, 0, none⟩ (.int .i64 (-1)) := ⟨_, rfl⟩
  rw [← hw10]
  obtain ⟨m10, hm10⟩ : ∃ m10, m10 = { m9 with ps := updV m9.ps q { m9.ps q with g := -1 } } := ⟨_, rfl⟩
  have M10 : MM W w10 p m10 := by rw [hw10, hm10]; exact H9.out.2.1.pset hq9 0 _ { m9.ps q with g := -1 } rfl
  have c910 : Chg [p.bp q] w9 w10 := by rw [hw10]; exact (Chg.refl _ w9).setCell (.inl (by simp)) _
  have far10 : ∀ k, w.heap.size ≤ k → k ∉ [p.bp q] := fun k hk hm => by
    have h2 := (HM.out.pb hq).lt
    have e : k = p.bp q := by simpa using hm
    omega
  have KC10 := H9.out.1.far c910 (fun k hk => far10 k (H9.out.1.n k hk))
  have E10 := c910.blk H9.out.2.2.1 (far10 _ H7.out.2.2.2.2)
  have t0 : w10.cell? ⟨gT, 0, none⟩ = some (.int .i64 5) := KC10.T.cellv 0 rfl
  have m0 : w10.cell? ⟨gM, 0, none⟩ = some (.pointer (some ⟨p.gm, 0, none⟩)) := KC10.M.cellv 0 rfl
  have c24 : w10.cell? ⟨p.gm, 24, none⟩ = some p.vco := M10.mb.cellv 24 rfl
  have hcm : m10.cms = m.cms := by rw [hm10, H9.out.2.2.2, H7.out.2.2.1]
  have OC : OwnG comC 6 59 w10 p.vco m10.cms := M10.k .commits
  obtain ⟨Ac, cc, hvc⟩ := OC.slice
  rw [hvc] at c24
  have q0 : w10.cell? ⟨gC, 0, none⟩ = some (.int .i64 (g : Nat)) := KC10.C.cellv 0 rfl
  have q1 : w10.cell? ⟨gC, 1, none⟩ = some (.int .i64 (m.gs g).f) := KC10.C.cellv 1 rfl
  have q2 : w10.cell? ⟨gC, 2, none⟩ = some (.int .i64 (pc : Nat)) := KC10.C.cellv 2 rfl
  have q3 : w10.cell? ⟨gC, 3, none⟩ = some (.int .i64 0) := KC10.C.cellv 3 rfl
  have q4 : w10.cell? ⟨gC, 4, none⟩ = some (.int .i64 0) := KC10.C.cellv 4 rfl
  have q5 : w10.cell? ⟨gC, 5, none⟩ = some (.bool false) := KC10.C.cellv 5 rfl
  have l0 := KC10.M.lt
  have l1 := KC10.C.lt
  have l2 := M10.mb.lt
  have nv : ∀ k, w.heap.size ≤ k → k ∉ fpv p.vco := fun k hk hm => by
    have h : MF p m6 .commits k := hm
    have := F6.out .commits k h
    omega
  have n0 := nv _ (KC10.n gM (by simp))
  have n1 := nv _ (KC10.n gC (by simp))
  have n2 : p.gm ∉ fpv p.vco := fun hm => by have := M10.ap .mach .commits p.gm rfl hm; cases this
  clear nv
  have H10 := Lib.hid (And.intro KC10 (And.intro M10 (And.intro E10 (And.intro hm10 (And.intro hcm (And.intro OC hvc)))))); clear KC10 M10 E10 hm10 hcm OC hvc hw10 c910 far10 x0 z0
  go_wp2_with fail
  refine wp_region_takes (fuel := 5) 8 (fun w' => Chg (fpv p.vco) w10 w') [0, 1, 2, 3, 4, 5] (by kernel_rfl) (by kernel_rfl) (fun _ _ _ _ _ h => h) (((Chg.refl [] w10).drew.mono (by simp))) ?_
  simp only [List.filterMap_cons, List.filterMap_nil, qGa, qGb]
  iterate 6
    refine wpTake_step (fun K hK => ?_)
    rw [if_pos (by rfl)]
    refine ⟨?_, fun w' hS' => ?_, ?_⟩
    rotate_left 1
    focus
      have j0 := hS'.cellv l0 n0 m0
      have j1 := hS'.cellv l2 n2 c24
      have jq0 := hS'.cellv l1 n1 q0
      have jq1 := hS'.cellv l1 n1 q1
      have jq2 := hS'.cellv l1 n1 q2
      have jq3 := hS'.cellv l1 n1 q3
      have jq4 := hS'.cellv l1 n1 q4
      have jq5 := hS'.cellv l1 n1 q5
      go_simp
      try with_reducible rfl
      done
    simp only [Act.put, qSa, qSb, qSc]
    refine hK _ ?_
    clear hK K
  refine wpTake_nil ?_
  generalize hx0 : w10.drew = x0
  have D0 : Chg [] w10 x0 := by rw [← hx0]; exact (Chg.refl [] w10).drew
  clear hx0
  refine wpAnyS_ready (rs := [6]) (by kernel_rfl) (by simp) ?_
  refine AllReadyS.o (fun K hK => ?_)
  rw [if_pos (by rfl)]
  go_simp
  refine hK _ _ ((D0.alloc _).mono (by simp)) ?_
  clear hK K
  try simp only [Act.put, qSa, qSb, qSc]
  refine wpAnyS_ready (rs := [7]) (by kernel_rfl) (by simp) ?_
  refine AllReadyS.o (fun K hK => ?_)
  refine step_push_g comC_len comC_one tyCo ⟨(g : Nat), (m.gs g).f, (pc : Nat), 0, 0, false⟩ rfl (by rfl) _ _ (by rfl) (by rfl) (by have h := H10.out.2.2.2.2.2.1.chg0 D0; rw [H10.out.2.2.2.2.2.2] at h; exact h) (by rfl) (by rw [H10.out.2.2.2.2.1]; exact hcl) ?_
  intro A3 c3 x3 O3 S3
  have D3 : Chg (fpv p.vco) w10 x3 := (D0.mono (by simp)).trans (by have := S3.c; rw [H10.out.2.2.2.2.2.2]; exact this)
  refine hK _ _ (D3) ?_
  clear hK K
  try simp only [Act.put, qSa, qSb, qSc]
  refine wpAnyS_tail 8 3 (by kernel_rfl) rfl ?_
  simp only [qDa, qDb]
  have S3' : Stp (fpv p.vco) (fpv (.slice A3 (m10.cms.length + 1) c3)) x0 x3 := by rw [H10.out.2.2.2.2.2.2]; exact S3
  have M11 := (H10.out.2.1.chg0 D0).coT O3 S3'
  have Bm := D3.blk H10.out.2.1.mb n2
  have z0 : x3.cell? ⟨p.gm, 24, none⟩ = some p.vco := Bm.cellv 24 rfl
  have y0 := Bm.frozen 24
  have c11 : Chg [p.gm] x3 (x3.setCell ⟨p.gm, 24, none⟩ (.slice A3 (m10.cms.length + 1) c3)) := (Chg.refl [p.gm] x3).setCell (.inl (by simp)) _
  have hgml := (HM.out.mb).lt
  have far11 : ∀ k, w.heap.size ≤ k → k ∉ [p.gm] := fun k hk hm => by have e : k = p.gm := (by simpa using hm); omega
  have nv : ∀ k, w.heap.size ≤ k → k ∉ fpv p.vco := fun k hk hm => by
    have h : MF p m6 .commits k := hm
    have := F6.out .commits k h
    omega
  have Eg := c11.blk (D3.blk H10.out.1.g (nv _ (H10.out.1.n gg (by simp)))) (far11 _ (H10.out.1.n gg (by simp)))
  have EE := c11.blk (D3.blk H10.out.2.2.1 (nv _ H7.out.2.2.2.2)) (far11 _ H7.out.2.2.2.2)
  go_upto_region 15 with fail
  obtain ⟨w11, hw11⟩ : ∃ w11, w11 = x3.setCell ⟨p.gm, 24, none⟩ (.slice A3 (m10.cms.length + 1) c3) := ⟨_, rfl⟩
  rw [← hw11] at M11 Eg EE ⊢
  have g0 : w11.cell? ⟨gg, 0, none⟩ = some (.int .i64 (g : Nat)) := Eg.cellv 0 rfl
  have HP := Lib.hid (And.intro M11 EE); clear M11 EE D3 S3 S3' O3 D0 Bm c11 Eg hw11 far11 nv z0 y0
  go_wp2_with fail
  refine (m_event w11 1 (g : Nat)).mono ?_
  rintro e w12 ⟨rfl, c12⟩
  have E12 := c12.blk HP.out.2 (by simp)
  have z0 : w12.cell? ⟨gE, 0, none⟩ = some (.int .i64 0) := E12.cellv 0 rfl
  have z1 : w12.cell? ⟨gE, 1, none⟩ = some (.int .i64 0) := E12.cellv 1 rfl
  have z2 : w12.cell? ⟨gE, 2, none⟩ = some (.int .i64 0) := E12.cellv 2 rfl
  have y0 := E12.frozen 0
  have y1 := E12.frozen 1
  have y2 := E12.frozen 2
  have HQ := Lib.hid (And.intro E12 c12); clear E12 c12
  unfold evV
  go_wp2_with fail
  have B13 := ((HQ.out.1.set_ 0 (.int .i64 1)).set_ 1 (.int .i64 (g : Nat))).setv 2 (.int .i64 0) (cs' := #[.int .i64 1, .int .i64 (g : Nat), .int .i64 0]) rfl
  have c13 : Chg [gE] w12 (((w12.setCell ⟨gE, 0, none⟩ (.int .i64 1)).setCell ⟨gE, 1, none⟩ (.int .i64 (g : Nat))).setCell ⟨gE, 2, none⟩ (.int .i64 0)) := (((Chg.refl [gE] w12).setCell (.inl (by simp)) _).setCell (.inl (by simp)) _).setCell (.inl (by simp)) _
  have M13 := (HP.out.1.chg0 HQ.out.2).chg c13 (fun k j hj hm => by
    have e : j = gE := by simpa using hm
    subst e
    have nE := H7.out.2.2.2.2
    have OCm : OwnG comC 6 59 w11 (.slice A3 (m10.cms.length + 1) c3) _ := HP.out.1.k .commits
    have hF6 := F6.out
    by_cases ek : k = .commits
    · subst ek
      exact OCm.ne_blk HP.out.2 (by decide) hj
    · have e10 := H10.out.2.2.2.1
      have e9 := H9.out.2.2.2
      have hj2 : MF p m6 k j := by
        rw [e10, e9] at hj
        cases k <;> first | exact absurd rfl ek | exact hj
      have := hF6 k j hj2
      omega) (by have : W.heap.size ≤ w.heap.size := HM.out.c.size; have := H7.out.2.2.2.2; simp; omega)
  obtain ⟨v', hv'⟩ : ∃ v', v' = Value.slice A3 (m10.cms.length + 1) c3 := ⟨_, rfl⟩
  rw [← hv'] at M13
  refine ⟨rfl, _, results_cell_row (P := Tryz.prog) (fn := Tryz.f146) rfl _ _ gE 48 _ _ _ rfl B13 Tryz.underlying48 rfl (by kernel_rfl), v', rfl, ?_⟩
  have h := M13
  rw [H10.out.2.2.2.1, H9.out.2.2.2, H7.out.2.2.1, ← hpc] at h
  simp only [updV_same, updV_updV] at h
  exact h
end
end Go.Proofs.YtcpljjacamibeaaGreatDoor
