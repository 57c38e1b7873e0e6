/- Package sched: Pick, where the queue in common is empty and the P's own ring is not. -/
/- Package machine: what is asked of a machine: has, Phase, Live, Status. -/
import Derived.Test.YtoeppmnoifankaaGreatDoorMcSf
import Derived.Laws.EntriesVeiled
import Derived.Test.YtoeppmnoifankaaGreatDoorMm2J
namespace Go.Proofs.YtoeppmnoifankaaGreatDoor
open Go.RowKit Go.Maps

structure PkW (w0 : World) (gs gk gt gv g p : Nat) (tick vic : Int) (w : World) : Prop where
  s : Blk w gs 78 #[.pointer (some ⟨g, 0, none⟩)]
  p : Blk w gk 3 #[.int .i64 (p : Nat)]
  t : Blk w gt 3 #[.int .i64 tick]
  v : Blk w gv 3 #[.int .i64 vic]
  c : Chg [] w0 w
theorem PkW.chg0 {w0 w w' : World} {gs gk gt gv g p : Nat} {tick vic : Int} (h : PkW w0 gs gk gt gv g p tick vic w) (c : Chg [] w w') : PkW w0 gs gk gt gv g p tick vic w' := ⟨c.blk h.s (by simp), c.blk h.p (by simp), c.blk h.t (by simp), c.blk h.v (by simp), h.c.trans c⟩
def PkRel (w0 : World) (gs gk gt gv g p : Nat) (tick vic : Int) (gf gr gq P : Nat) (vr vq : Value) (gp : Nat → Nat) (r : Nat → RgR) (com : List Int) (gn : Nat) (idx : Value) (w : World) : Prop :=
  Blk w gf 283 #[.func (Fn.func 177) #[] #[.pointer (some ⟨gt, 0, none⟩), .pointer (some ⟨gs, 0, none⟩)], .func (Fn.func 183) #[.pointer (some ⟨gp p, 0, none⟩)] #[],
    .func (Fn.func 180) #[] #[.pointer (some ⟨gs, 0, none⟩), .pointer (some ⟨gr, 0, none⟩)], .func (Fn.func 181) #[] #[.pointer (some ⟨gs, 0, none⟩), .pointer (some ⟨gv, 0, none⟩), .pointer (some ⟨gk, 0, none⟩), .pointer (some ⟨gr, 0, none⟩)]] ∧
  PkW w0 gs gk gt gv g p tick vic w ∧ IsSc w g gq P vr vq gp r com ∧ ((gn = 2 ∧ idx = .int .i64 0) ∨ (gn = 1 ∧ idx = .int .i64 1))
section
variable {w : World} {g gq P : Nat} {vr vq : Value} {gp : Nat → Nat} {r : Nat → RgR} {com : List Int} (I : IsSc w g gq P vr vq gp r com)
include I
set_option maxHeartbeats 1600000 in
set_option maxRecDepth 100000 in
theorem sc_fair0 (hq : vq = .slice none 0 0) (gt gs : Nat) (tick : Int) (ht : tick = 1 ∨ tick = 61) (ct : w.cell? ⟨gt, 0, none⟩ = some (.int .i64 tick)) (cs : w.cell? ⟨gs, 0, none⟩ = some (.pointer (some ⟨g, 0, none⟩))) :
    Calls Tryz.prog 177 #[.pointer (some ⟨gt, 0, none⟩), .pointer (some ⟨gs, 0, none⟩)] w (QuPost (.tuple #[.int .i64 0, .bool false]) w) := by
  have c1 : w.cell? ⟨g, 1, none⟩ = some (.pointer (some ⟨gq, 0, none⟩)) := I.b.cellv 1 rfl
  have K := q_len0 w gq (by rw [← hq]; exact I.q)
  have HK := Lib.hid K; clear K I
  rcases ht with rfl | rfl
  · go_enter Tryz.func177, Tryz.ntmps177
    go_wp2_with fail
    go_ret2
    exact ⟨rfl, rfl⟩
  · go_enter Tryz.func177, Tryz.ntmps177
    go_wp2_with fail
    refine HK.out.mono ?_
    rintro e w1 ⟨rfl, rfl⟩
    go_wp2_with fail
    go_ret2
    exact ⟨rfl, rfl⟩
def PkPost (g gq P : Nat) (vr vq : Value) (gp : Nat → Nat) (r : Nat → RgR) (com : List Int) (p : Nat) (x : Int) (w : World) (e : Ending) (w' : World) : Prop :=
  e = .returned (.tuple #[.int .i64 x, .bool true]) ∧ IsSc w' g gq P vr vq gp (updV r p (rgPop (r p))) com ∧ Chg [gp p] w w'
set_option maxHeartbeats 1600000 in
set_option maxRecDepth 100000 in
theorem sc_pick_own (hq : vq = .slice none 0 0) (p : Nat) (hp : p < P) (tick vic : Int) (ht : tick = 1 ∨ tick = 61) (hs : (r p).hs = false) (hf : (r p).fr < 256) (h0 : 0 < (r p).n) (hn : (r p).n ≤ 256) :
    Calls Tryz.prog 115 #[.pointer (some ⟨g, 0, none⟩), .int .i64 (p : Nat), .int .i64 tick, .int .i64 vic] w (PkPost g gq P vr vq gp r com p ((r p).l (r p).fr) w) := by
  have hmf : ∀ (fn : Fn) (first cap : Array Value) (w : World), (Instr.makeFunc fn first cap).run Tryz.prog w = .ok (.func fn first cap) w := fun _ _ _ _ => rfl
  obtain ⟨A, c, hv⟩ := I.o.slice
  rw [ptrs_len] at hv
  have HI := Lib.hid (And.intro I (And.intro hq (And.intro hv (And.intro hs (And.intro hf (And.intro h0 hn)))))); clear I hq hs hf h0 hn
  go_enter Tryz.func115, Tryz.ntmps115
  go_upto_region 1 with fail
  generalize hw1 : World.alloc (World.alloc (World.alloc (World.alloc w _) _) _) _ = w1
  have W1 : PkW w w.heap.size (w.heap.size + 1) (w.heap.size + 1 + 1) (w.heap.size + 1 + 1 + 1) g p tick vic w1 := by
    rw [← hw1]
    have b1 := Blk.new w 78 #[.pointer (some ⟨g, 0, none⟩)]
    have b2 := Blk.new (w.alloc (.cells #[.pointer (some ⟨g, 0, none⟩)] 78)) 3 #[.int .i64 (p : Nat)]
    have b3 := Blk.new ((w.alloc (.cells #[.pointer (some ⟨g, 0, none⟩)] 78)).alloc (.cells #[.int .i64 (p : Nat)] 3)) 3 #[.int .i64 tick]
    have b4 := Blk.new (((w.alloc (.cells #[.pointer (some ⟨g, 0, none⟩)] 78)).alloc (.cells #[.int .i64 (p : Nat)] 3)).alloc (.cells #[.int .i64 tick] 3)) 3 #[.int .i64 vic]
    simp only [World.size_alloc] at b2 b3 b4
    exact ⟨((b1.alloc _).alloc _).alloc _, (b2.alloc _).alloc _, b3.alloc _, b4, ((((Chg.refl [] w).alloc _).alloc _).alloc _).alloc _⟩
  clear hw1
  generalize w.heap.size + 1 + 1 + 1 = gv at W1 ⊢
  generalize w.heap.size + 1 + 1 = gt at W1 ⊢
  generalize w.heap.size + 1 = gk0 at W1 ⊢
  generalize w.heap.size = gs at W1 ⊢
  have s0 : w1.cell? ⟨gs, 0, none⟩ = some (.pointer (some ⟨g, 0, none⟩)) := W1.s.cellv 0 rfl
  have s1 : w1.cell? ⟨gk0, 0, none⟩ = some (.int .i64 (p : Nat)) := W1.p.cellv 0 rfl
  have I1 := HI.out.1.chg0 W1.c
  have c0 : w1.cell? ⟨g, 0, none⟩ = some vr := I1.b.cellv 0 rfl
  rw [hv] at c0
  have o := I1.o
  rw [hv] at o
  obtain ⟨b, hA, hc, -, -⟩ := o.cell (ptrs_at gp hp)
  subst hA
  have l0 := W1.s.lt
  have l1 := W1.p.lt
  have l2 := I1.b.lt
  have l3 := lt_of_cellM hc
  have d1 : (0 : Int) ≤ p := by omega
  have d2 : (p : Int) < P := by omega
  have H1 := Lib.hid (And.intro W1 I1); clear W1 I1 o hv
  go_wp2_with fail
  refine (sc_has H1.out.2 p hp).mono ?_
  rintro e w1 ⟨rfl, rfl⟩
  go_wp2_with fail
  refine wp_region_takes (fuel := 2) 8 (fun w' => Chg [] w1 w') [0, 1, 2, 3, 4, 5, 6] (by kernel_rfl) (by kernel_rfl) (fun _ _ _ _ _ h => h) ((Chg.refl [] w1).drew) ?_
  simp only [List.filterMap_cons, List.filterMap_nil, List.getElem?_cons_zero, List.getElem?_cons_succ]
  refine wpTake_step (fun K hK => ?_)
  rw [if_pos (by rfl)]
  refine ⟨?_, fun w' hS' => ?_, ?_⟩
  rotate_left 1
  focus
    have y0 := hS'.cellv l0 (by simp) s0
    have y1 := hS'.cellv l1 (by simp) s1
    have y2 := hS'.cellv l2 (by simp) c0
    have y3 := hS'.cellv l3 (by simp) hc
    go_simp
    try with_reducible rfl
    done
  simp only [Act.put, List.setIfInBounds_toArray, List.set_cons_zero, List.set_cons_succ]
  refine hK _ ?_
  clear hK K
  refine wpTake_step (fun K hK => ?_)
  rw [if_pos (by rfl)]
  refine ⟨?_, fun w' hS' => ?_, ?_⟩
  rotate_left 1
  focus
    have y0 := hS'.cellv l0 (by simp) s0
    have y1 := hS'.cellv l1 (by simp) s1
    have y2 := hS'.cellv l2 (by simp) c0
    have y3 := hS'.cellv l3 (by simp) hc
    go_simp
    try with_reducible rfl
    done
  simp only [Act.put, List.setIfInBounds_toArray, List.set_cons_zero, List.set_cons_succ]
  refine hK _ ?_
  clear hK K
  refine wpTake_step (fun K hK => ?_)
  rw [if_pos (by rfl)]
  refine ⟨?_, fun w' hS' => ?_, ?_⟩
  rotate_left 1
  focus
    have y0 := hS'.cellv l0 (by simp) s0
    have y1 := hS'.cellv l1 (by simp) s1
    have y2 := hS'.cellv l2 (by simp) c0
    have y3 := hS'.cellv l3 (by simp) hc
    go_simp
    try with_reducible rfl
    done
  simp only [Act.put, List.setIfInBounds_toArray, List.set_cons_zero, List.set_cons_succ]
  refine hK _ ?_
  clear hK K
  refine wpTake_step (fun K hK => ?_)
  rw [if_pos (by rfl)]
  refine ⟨?_, fun w' hS' => ?_, ?_⟩
  rotate_left 1
  focus
    have y0 := hS'.cellv l0 (by simp) s0
    have y1 := hS'.cellv l1 (by simp) s1
    have y2 := hS'.cellv l2 (by simp) c0
    have y3 := hS'.cellv l3 (by simp) hc
    go_simp
    try with_reducible rfl
    done
  simp only [Act.put, List.setIfInBounds_toArray, List.set_cons_zero, List.set_cons_succ]
  refine hK _ ?_
  clear hK K
  refine wpTake_step (fun K hK => ?_)
  rw [if_pos (by rfl)]
  refine ⟨?_, fun w' hS' => ?_, ?_⟩
  rotate_left 1
  focus
    have y0 := hS'.cellv l0 (by simp) s0
    have y1 := hS'.cellv l1 (by simp) s1
    have y2 := hS'.cellv l2 (by simp) c0
    have y3 := hS'.cellv l3 (by simp) hc
    go_simp
    try with_reducible rfl
    done
  simp only [Act.put, List.setIfInBounds_toArray, List.set_cons_zero, List.set_cons_succ]
  refine hK _ ?_
  clear hK K
  refine wpTake_step (fun K hK => ?_)
  rw [if_pos (by rfl)]
  refine ⟨?_, fun w' hS' => ?_, ?_⟩
  rotate_left 1
  focus
    have y0 := hS'.cellv l0 (by simp) s0
    have y1 := hS'.cellv l1 (by simp) s1
    have y2 := hS'.cellv l2 (by simp) c0
    have y3 := hS'.cellv l3 (by simp) hc
    go_simp
    try with_reducible rfl
    done
  simp only [Act.put, List.setIfInBounds_toArray, List.set_cons_zero, List.set_cons_succ]
  refine hK _ ?_
  clear hK K
  refine wpTake_step (fun K hK => ?_)
  rw [if_pos (by rfl)]
  refine ⟨?_, fun w' hS' => ?_, ?_⟩
  rotate_left 1
  focus
    have y0 := hS'.cellv l0 (by simp) s0
    have y1 := hS'.cellv l1 (by simp) s1
    have y2 := hS'.cellv l2 (by simp) c0
    have y3 := hS'.cellv l3 (by simp) hc
    go_simp
    try with_reducible rfl
    done
  simp only [Act.put, List.setIfInBounds_toArray, List.set_cons_zero, List.set_cons_succ]
  refine hK _ ?_
  clear hK K
  refine wpTake_nil ?_
  generalize hx0 : w1.drew = x0
  have D0 : Chg [] w1 x0 := by rw [← hx0]; exact (Chg.refl [] w1).drew
  clear hx0
  refine wpAnyS_ready (rs := [7]) (by kernel_rfl) (by simp) ?_
  refine AllReadyS.cons (by simp only [List.getElem?_toArray, List.getElem?_cons_zero, List.getElem?_cons_succ]; rfl) (fun K hK => ?_) ?_
  · rw [if_pos (by rfl)]
    go_simp
    refine hK _ _ ((D0.alloc _)) ?_
    clear hK K
    try simp only [Act.put, List.setIfInBounds_toArray, List.set_cons_zero, List.set_cons_succ]
    refine wpAnyS_tail 8 1 (by kernel_rfl) rfl ?_
    simp only [List.drop_succ_cons, List.drop_zero]
    go_wp2_with fail
    obtain ⟨gr, hgr⟩ : ∃ gr, gr = x0.heap.size := ⟨_, rfl⟩
    obtain ⟨gf, hgf⟩ : ∃ gf, gf = x0.heap.size + 1 := ⟨_, rfl⟩
    rw [← hgf, ← hgr]
    generalize hx3 : World.alloc (World.alloc x0 _) _ = x3
    have F3 : Blk x3 gf 283 #[.func (Fn.func 177) #[] #[.pointer (some ⟨gt, 0, none⟩), .pointer (some ⟨gs, 0, none⟩)], .func (Fn.func 183) #[.pointer (some ⟨gp p, 0, none⟩)] #[],
        .func (Fn.func 180) #[] #[.pointer (some ⟨gs, 0, none⟩), .pointer (some ⟨gr, 0, none⟩)], .func (Fn.func 181) #[] #[.pointer (some ⟨gs, 0, none⟩), .pointer (some ⟨gv, 0, none⟩), .pointer (some ⟨gk0, 0, none⟩), .pointer (some ⟨gr, 0, none⟩)]] := by
      rw [← hx3, hgf, hgr]
      have h := Blk.new (x0.alloc (.cells #[.pointer (some ⟨gp p, 0, none⟩)] 157)) 283 #[.func (Fn.func 177) #[] #[.pointer (some ⟨gt, 0, none⟩), .pointer (some ⟨gs, 0, none⟩)], .func (Fn.func 183) #[.pointer (some ⟨gp p, 0, none⟩)] #[], .func (Fn.func 180) #[] #[.pointer (some ⟨gs, 0, none⟩), .pointer (some ⟨x0.heap.size, 0, none⟩)], .func (Fn.func 181) #[] #[.pointer (some ⟨gs, 0, none⟩), .pointer (some ⟨gv, 0, none⟩), .pointer (some ⟨gk0, 0, none⟩), .pointer (some ⟨x0.heap.size, 0, none⟩)]]
      rw [World.size_alloc] at h
      exact h
    have D3 : Chg [] w1 x3 := by rw [← hx3]; exact (D0.alloc _).alloc _
    clear hx3 hgr hgf
    have H3 := Lib.hid (And.intro F3 (And.intro (H1.out.1.chg0 D3) (H1.out.2.chg0 D3))); clear F3 D3 D0
    go_loopg [39] 2 (fun gk idx wr => PkRel w gs gk0 gt gv g p tick vic gf gr gq P vr vq gp r com gk idx wr)
    case atStart => exact ⟨H3.out.1, H3.out.2.1, H3.out.2.2, .inl ⟨rfl, rfl⟩⟩
    case round =>
      obtain ⟨Bf, Wk, Ik, hk⟩ := hrel
      rcases hk with ⟨rfl, rfl⟩ | ⟨rfl, rfl⟩
      · have f0 := Bf.cellv 0 rfl
        have K := sc_fair0 Ik HI.out.2.1 gt gs tick ht (Wk.t.cellv 0 rfl) (Wk.s.cellv 0 rfl)
        have HK := Lib.hid (And.intro K (And.intro Bf (And.intro Wk Ik))); clear K Bf Wk Ik H3
        go_wp2_with fail
        refine HK.out.1.mono ?_
        rintro e wr ⟨rfl, rfl⟩
        go_wp2_with fail
        go_roundg 1
        case measure => omega
        case rel => exact ⟨HK.out.2.1, HK.out.2.2.1, HK.out.2.2.2, .inr ⟨rfl, rfl⟩⟩
      · have f1 := Bf.cellv 1 rfl
        have K := rg_get1 wr (gp p) (r p) (Ik.r p hp) HI.out.2.2.2.1 HI.out.2.2.2.2.1 HI.out.2.2.2.2.2.1 HI.out.2.2.2.2.2.2
        have HK := Lib.hid (And.intro K (And.intro Bf (And.intro Wk Ik))); clear K Bf Wk Ik H3
        go_wp2_with fail
        refine HK.out.1.mono ?_
        rintro e w6 ⟨rfl, B6, c6⟩
        have I6 := HK.out.2.2.2.ring hp B6 c6
        have c7 := (HK.out.2.2.1.c.mono (T := [gp p]) (by simp)).trans c6
        have HL := Lib.hid (And.intro I6 c7); clear I6 c7 B6 c6
        go_wp2_with fail
        go_ret2
        exact ⟨rfl, HL.out.1, HL.out.2⟩
  exact AllReadyS.nil
end
end Go.Proofs.YtoeppmnoifankaaGreatDoor
namespace Go.Proofs.YtoeppmnoifankaaGreatDoor
open Go.RowKit Go.Maps

theorem HpS.lo {W w : World} {H : HpH} {A : HpA} {N b : Nat} (Q : HpS W w H A N b) {k : Nat} (hk : HpF H A k) : W.heap.size ≤ k := by
  rcases hk with h | h | h
  · exact Q.S.far k h
  · exact Q.n1 k h
  · exact Q.n2 k h
theorem HpS.hi {W w : World} {H : HpH} {A : HpA} {N b : Nat} (Q : HpS W w H A N b) {k : Nat} (hk : HpF H A k) : k < w.heap.size := by
  rcases hk with h | h | h
  · exact Q.S.M.lt k h
  · exact Q.C.lt h
  · exact Q.ltO h
section
variable {W : Bs} {w : World} {p : MAt} {m : Mac} (M : MM W w p m)
include M
theorem MM.mb : Blk w p.gm 87 (mC p m) := M.k .mach
theorem MM.pb {q : Nat} (hq : q < m.np) : Blk w (p.bp q) 104 (prcC (m.ps q) (p.vsc q) (p.bn q)) := M.k (.proc q) hq
theorem MM.gb {g : Nat} (hg : g < m.ng) : Blk w (p.bg g) 92 (gorC (m.gs g)) := M.k (.gor g) hg
theorem MM.sc : IsSc w p.gsd p.gq m.np p.vr p.vq p.gr m.rg m.com := M.k .sched
theorem MM.st : IsSt w p.gst p.vst m.sts := M.k .states
theorem MM.ph : IsPh w p.gph p.bsd m.ph := M.k .phases
theorem MM.hp : HpS (wE W.w) w p.H m.A p.N p.b := M.k .heap
/-- The list of Ps: the slice, the cell of a P. -/
theorem MM.psl : ∃ b cap, w.cell? ⟨p.gm, 9, none⟩ = some p.vps ∧ (∀ q, q < m.np → p.vps = .slice (some ⟨b, 0, none⟩) m.np cap ∧ w.cell? ⟨b, q, none⟩ = some (.pointer (some ⟨p.bp q, 0, none⟩)) ∧ b < w.heap.size) := by
  have o : OwnV 100 w p.vps (ptrs p.bp m.np) := M.k .psl
  obtain ⟨A, cap, hv⟩ := o.slice
  rw [ptrs_len] at hv
  by_cases h0 : m.np = 0
  · exact ⟨0, 0, M.mb.cellv 9 rfl, fun q hq => by omega⟩
  · have o2 := o
    rw [hv] at o2
    obtain ⟨b, hA, -, -, -, -, hb⟩ := o2.cell (ptrs_at p.bp (show 0 < m.np by omega))
    subst hA
    refine ⟨b, cap, M.mb.cellv 9 rfl, fun q hq => ⟨hv, ?_, hb⟩⟩
    obtain ⟨b', hb', hc, -⟩ := o2.cell (ptrs_at p.bp hq)
    injection hb' with hb'
    injection hb' with hb'
    subst hb'
    exact hc
theorem MM.gsl : ∃ b cap, w.cell? ⟨p.gm, 8, none⟩ = some p.vgs ∧ (∀ g, g < m.ng → p.vgs = .slice (some ⟨b, 0, none⟩) m.ng cap ∧ w.cell? ⟨b, g, none⟩ = some (.pointer (some ⟨p.bg g, 0, none⟩)) ∧ b < w.heap.size) := by
  have o : OwnV 89 w p.vgs (ptrs p.bg m.ng) := M.k .gsl
  obtain ⟨A, cap, hv⟩ := o.slice
  rw [ptrs_len] at hv
  by_cases h0 : m.ng = 0
  · exact ⟨0, 0, M.mb.cellv 8 rfl, fun q hq => by omega⟩
  · have o2 := o
    rw [hv] at o2
    obtain ⟨b, hA, -, -, -, -, hb⟩ := o2.cell (ptrs_at p.bg (show 0 < m.ng by omega))
    subst hA
    refine ⟨b, cap, M.mb.cellv 8 rfl, fun q hq => ⟨hv, ?_, hb⟩⟩
    obtain ⟨b', hb', hc, -⟩ := o2.cell (ptrs_at p.bg hq)
    injection hb' with hb'
    injection hb' with hb'
    subst hb'
    exact hc
set_option maxHeartbeats 1600000 in
set_option maxRecDepth 100000 in
theorem m_has (q : Nat) (hq : q < m.np) : Calls Tryz.prog 46 #[.pointer (some ⟨p.gm, 0, none⟩), .int .i64 (q : Nat)] w (QuPost (.bool true) w) := by
  obtain ⟨b, cap, c9, hs⟩ := M.psl
  obtain ⟨hv, -⟩ := hs q hq
  rw [hv] at c9
  have d1 : (0 : Int) ≤ q := by omega
  have d2 : (q : Int) < m.np := by omega
  clear hs hv M
  go_enter Tryz.func46, Tryz.ntmps46
  go_wp2_with fail
  go_ret
  exact ⟨by simp [hq], rfl⟩
set_option maxHeartbeats 1600000 in
set_option maxRecDepth 100000 in
theorem m_arena : Calls Tryz.prog 29 #[.pointer (some ⟨p.gm, 0, none⟩)] w (QuPost (.pointer (some ⟨p.H.ah.ga, 0, none⟩)) w) := by
  have c6 : w.cell? ⟨p.gm, 6, none⟩ = some (.pointer (some ⟨p.H.gh, 0, none⟩)) := M.mb.cellv 6 rfl
  have b0 : w.cell? ⟨p.H.gh, 0, none⟩ = some (.pointer (some ⟨p.H.ah.ga, 0, none⟩)) := M.hp.hb.cellv 0 rfl
  have K : Calls Tryz.prog 37 #[.pointer (some ⟨p.H.gh, 0, none⟩)] w (QuPost (.pointer (some ⟨p.H.ah.ga, 0, none⟩)) w) := by
    clear M c6
    go_enter Tryz.func37, Tryz.ntmps37
    go_wp2_with fail
    go_ret
    exact ⟨rfl, rfl⟩
  have HK := Lib.hid K; clear K M b0
  go_enter Tryz.func29, Tryz.ntmps29
  go_wp2_with fail
  refine HK.out.mono ?_
  rintro e w1 ⟨rfl, rfl⟩
  go_wp2_with fail
  go_ret
  exact ⟨rfl, rfl⟩
set_option maxHeartbeats 1600000 in
set_option maxRecDepth 100000 in
theorem m_live : Calls Tryz.prog 18 #[.pointer (some ⟨p.gm, 0, none⟩)] w (QuPost (.int .i64 (m.A.a.live : Nat)) w) := by
  have HM := Lib.hid M; clear M
  go_enter Tryz.func18, Tryz.ntmps18
  go_wp2_with fail
  refine (m_arena HM.out).mono ?_
  rintro e w1 ⟨rfl, rfl⟩
  go_wp2_with fail
  refine (s_live HM.out.hp.S).mono ?_
  rintro e w1 ⟨rfl, rfl⟩
  go_wp2_with fail
  go_ret
  exact ⟨rfl, rfl⟩
set_option maxHeartbeats 1600000 in
set_option maxRecDepth 100000 in
theorem m_tmlen : Calls Tryz.prog 81 #[.pointer (some ⟨p.gtm, 0, none⟩)] w (QuPost (.int .i64 (m.tm.length : Nat)) w) := by
  obtain ⟨h1, h2⟩ : Blk w p.gtm 196 #[p.vtm, .int .i64 m.made] ∧ OwnG tmC 3 192 w p.vtm m.tm := M.k .timers
  obtain ⟨A, c, hv⟩ := h2.slice
  have c0 : w.cell? ⟨p.gtm, 0, none⟩ = some p.vtm := h1.cellv 0 rfl
  rw [hv] at c0
  generalize m.tm.length = n at c0 ⊢
  clear h1 h2 hv M
  go_enter Tryz.func81, Tryz.ntmps81
  go_wp2_with fail
  go_ret
  exact ⟨rfl, rfl⟩
end
def stV (m : Mac) : Int := if m.out = true then 2 else if cntI m.sts 5 = m.sts.length then 1 else if cntI m.sts 1 + cntI m.sts 2 + cntI m.sts 4 + m.tm.length = 0 then 3 else 0
end Go.Proofs.YtoeppmnoifankaaGreatDoor
