/- Package sched: Pick, where the queue in common is empty and the P's own ring is not. -/
import Derived.Test.YtoeppmnoifankaaGreatDoorMcSf
import Derived.Laws.EntriesVeiled
namespace Go.Proofs.YtoeppmnoifankaaGreatDoor
open Go.RowKit Go.Maps

structure PkW (w0 : World) (gs gk gt gv g p : Nat) (tick vic : Int) (w : World) : Prop where
  s : Blk w gs 78 #[.pointer (some ⟨g, 0, none⟩)]
  p : Blk w gk 3 #[.int .i64 (p : Nat)]
  t : Blk w gt 3 #[.int .i64 tick]
  v : Blk w gv 3 #[.int .i64 vic]
  c : Chg [] w0 w
theorem PkW.chg0 {w0 w w' : World} {gs gk gt gv g p : Nat} {tick vic : Int} (h : PkW w0 gs gk gt gv g p tick vic w) (c : Chg [] w w') : PkW w0 gs gk gt gv g p tick vic w' := ⟨c.blk h.s (by simp), c.blk h.p (by simp), c.blk h.t (by simp), c.blk h.v (by simp), h.c.trans c⟩
def PkRel (w0 : World) (gs gk gt gv g p : Nat) (tick vic : Int) (gf gr gq P : Nat) (vr vq : Value) (gp : Nat → Nat) (r : Nat → RgR) (com : List Int) (gn : Nat) (idx : Value) (w : World) : Prop :=
  Blk w gf 283 #[.func (Fn.func 177) #[] #[.pointer (some ⟨gt, 0, none⟩), .pointer (some ⟨gs, 0, none⟩)], .func (Fn.func 183) #[.pointer (some ⟨gp p, 0, none⟩)] #[],
    .func (Fn.func 180) #[] #[.pointer (some ⟨gs, 0, none⟩), .pointer (some ⟨gr, 0, none⟩)], .func (Fn.func 181) #[] #[.pointer (some ⟨gs, 0, none⟩), .pointer (some ⟨gv, 0, none⟩), .pointer (some ⟨gk, 0, none⟩), .pointer (some ⟨gr, 0, none⟩)]] ∧
  PkW w0 gs gk gt gv g p tick vic w ∧ IsSc w g gq P vr vq gp r com ∧ ((gn = 2 ∧ idx = .int .i64 0) ∨ (gn = 1 ∧ idx = .int .i64 1))
section
variable {w : World} {g gq P : Nat} {vr vq : Value} {gp : Nat → Nat} {r : Nat → RgR} {com : List Int} (I : IsSc w g gq P vr vq gp r com)
include I
set_option maxHeartbeats 1600000 in
set_option maxRecDepth 100000 in
theorem sc_fair0 (hq : vq = .slice none 0 0) (gt gs : Nat) (tick : Int) (ht : tick = 1 ∨ tick = 61) (ct : w.cell? ⟨gt, 0, none⟩ = some (.int .i64 tick)) (cs : w.cell? ⟨gs, 0, none⟩ = some (.pointer (some ⟨g, 0, none⟩))) :
    Calls Tryz.prog 177 #[.pointer (some ⟨gt, 0, none⟩), .pointer (some ⟨gs, 0, none⟩)] w (QuPost (.tuple #[.int .i64 0, .bool false]) w) := by
  have c1 : w.cell? ⟨g, 1, none⟩ = some (.pointer (some ⟨gq, 0, none⟩)) := I.b.cellv 1 rfl
  have K := q_len0 w gq (by rw [← hq]; exact I.q)
  have HK := Lib.hid K; clear K I
  rcases ht with rfl | rfl
  · go_enter Tryz.func177, Tryz.ntmps177
    go_wp2_with fail
    go_ret2
    exact ⟨rfl, rfl⟩
  · go_enter Tryz.func177, Tryz.ntmps177
    go_wp2_with fail
    refine HK.out.mono ?_
    rintro e w1 ⟨rfl, rfl⟩
    go_wp2_with fail
    go_ret2
    exact ⟨rfl, rfl⟩
def PkPost (g gq P : Nat) (vr vq : Value) (gp : Nat → Nat) (r : Nat → RgR) (com : List Int) (p : Nat) (x : Int) (w : World) (e : Ending) (w' : World) : Prop :=
  e = .returned (.tuple #[.int .i64 x, .bool true]) ∧ IsSc w' g gq P vr vq gp (updV r p (rgPop (r p))) com ∧ Chg [gp p] w w'
set_option maxHeartbeats 1600000 in
set_option maxRecDepth 100000 in
theorem sc_pick_own (hq : vq = .slice none 0 0) (p : Nat) (hp : p < P) (tick vic : Int) (ht : tick = 1 ∨ tick = 61) (hs : (r p).hs = false) (hf : (r p).fr < 256) (h0 : 0 < (r p).n) (hn : (r p).n ≤ 256) :
    Calls Tryz.prog 115 #[.pointer (some ⟨g, 0, none⟩), .int .i64 (p : Nat), .int .i64 tick, .int .i64 vic] w (PkPost g gq P vr vq gp r com p ((r p).l (r p).fr) w) := by
  have hmf : ∀ (fn : Fn) (first cap : Array Value) (w : World), (Instr.makeFunc fn first cap).run Tryz.prog w = .ok (.func fn first cap) w := fun _ _ _ _ => rfl
  obtain ⟨A, c, hv⟩ := I.o.slice
  rw [ptrs_len] at hv
  have HI := Lib.hid (And.intro I (And.intro hq (And.intro hv (And.intro hs (And.intro hf (And.intro h0 hn)))))); clear I hq hs hf h0 hn
  go_enter Tryz.func115, Tryz.ntmps115
  go_upto_region 1 with fail
  generalize hw1 : World.alloc (World.alloc (World.alloc (World.alloc w _) _) _) _ = w1
  have W1 : PkW w w.heap.size (w.heap.size + 1) (w.heap.size + 1 + 1) (w.heap.size + 1 + 1 + 1) g p tick vic w1 := by
    rw [← hw1]
    have b1 := Blk.new w 78 #[.pointer (some ⟨g, 0, none⟩)]
    have b2 := Blk.new (w.alloc (.cells #[.pointer (some ⟨g, 0, none⟩)] 78)) 3 #[.int .i64 (p : Nat)]
    have b3 := Blk.new ((w.alloc (.cells #[.pointer (some ⟨g, 0, none⟩)] 78)).alloc (.cells #[.int .i64 (p : Nat)] 3)) 3 #[.int .i64 tick]
    have b4 := Blk.new (((w.alloc (.cells #[.pointer (some ⟨g, 0, none⟩)] 78)).alloc (.cells #[.int .i64 (p : Nat)] 3)).alloc (.cells #[.int .i64 tick] 3)) 3 #[.int .i64 vic]
    simp only [World.size_alloc] at b2 b3 b4
    exact ⟨((b1.alloc _).alloc _).alloc _, (b2.alloc _).alloc _, b3.alloc _, b4, ((((Chg.refl [] w).alloc _).alloc _).alloc _).alloc _⟩
  clear hw1
  generalize w.heap.size + 1 + 1 + 1 = gv at W1 ⊢
  generalize w.heap.size + 1 + 1 = gt at W1 ⊢
  generalize w.heap.size + 1 = gk0 at W1 ⊢
  generalize w.heap.size = gs at W1 ⊢
  have s0 : w1.cell? ⟨gs, 0, none⟩ = some (.pointer (some ⟨g, 0, none⟩)) := W1.s.cellv 0 rfl
  have s1 : w1.cell? ⟨gk0, 0, none⟩ = some (.int .i64 (p : Nat)) := W1.p.cellv 0 rfl
  have I1 := HI.out.1.chg0 W1.c
  have c0 : w1.cell? ⟨g, 0, none⟩ = some vr := I1.b.cellv 0 rfl
  rw [hv] at c0
  have o := I1.o
  rw [hv] at o
  obtain ⟨b, hA, hc, -, -⟩ := o.cell (ptrs_at gp hp)
  subst hA
  have l0 := W1.s.lt
  have l1 := W1.p.lt
  have l2 := I1.b.lt
  have l3 := lt_of_cellM hc
  have d1 : (0 : Int) ≤ p := by omega
  have d2 : (p : Int) < P := by omega
  have H1 := Lib.hid (And.intro W1 I1); clear W1 I1 o hv
  go_wp2_with fail
  refine (sc_has H1.out.2 p hp).mono ?_
  rintro e w1 ⟨rfl, rfl⟩
  go_wp2_with fail
  refine wp_region_takes (fuel := 2) 8 (fun w' => Chg [] w1 w') [0, 1, 2, 3, 4, 5, 6] (by kernel_rfl) (by kernel_rfl) (fun _ _ _ _ _ h => h) ((Chg.refl [] w1).drew) ?_
  simp only [List.filterMap_cons, List.filterMap_nil, List.getElem?_cons_zero, List.getElem?_cons_succ]
  refine wpTake_step (fun K hK => ?_)
  rw [if_pos (by rfl)]
  refine ⟨?_, fun w' hS' => ?_, ?_⟩
  rotate_left 1
  focus
    have y0 := hS'.cellv l0 (by simp) s0
    have y1 := hS'.cellv l1 (by simp) s1
    have y2 := hS'.cellv l2 (by simp) c0
    have y3 := hS'.cellv l3 (by simp) hc
    go_simp
    try with_reducible rfl
    done
  simp only [Act.put, List.setIfInBounds_toArray, List.set_cons_zero, List.set_cons_succ]
  refine hK _ ?_
  clear hK K
  refine wpTake_step (fun K hK => ?_)
  rw [if_pos (by rfl)]
  refine ⟨?_, fun w' hS' => ?_, ?_⟩
  rotate_left 1
  focus
    have y0 := hS'.cellv l0 (by simp) s0
    have y1 := hS'.cellv l1 (by simp) s1
    have y2 := hS'.cellv l2 (by simp) c0
    have y3 := hS'.cellv l3 (by simp) hc
    go_simp
    try with_reducible rfl
    done
  simp only [Act.put, List.setIfInBounds_toArray, List.set_cons_zero, List.set_cons_succ]
  refine hK _ ?_
  clear hK K
  refine wpTake_step (fun K hK => ?_)
  rw [if_pos (by rfl)]
  refine ⟨?_, fun w' hS' => ?_, ?_⟩
  rotate_left 1
  focus
    have y0 := hS'.cellv l0 (by simp) s0
    have y1 := hS'.cellv l1 (by simp) s1
    have y2 := hS'.cellv l2 (by simp) c0
    have y3 := hS'.cellv l3 (by simp) hc
    go_simp
    try with_reducible rfl
    done
  simp only [Act.put, List.setIfInBounds_toArray, List.set_cons_zero, List.set_cons_succ]
  refine hK _ ?_
  clear hK K
  refine wpTake_step (fun K hK => ?_)
  rw [if_pos (by rfl)]
  refine ⟨?_, fun w' hS' => ?_, ?_⟩
  rotate_left 1
  focus
    have y0 := hS'.cellv l0 (by simp) s0
    have y1 := hS'.cellv l1 (by simp) s1
    have y2 := hS'.cellv l2 (by simp) c0
    have y3 := hS'.cellv l3 (by simp) hc
    go_simp
    try with_reducible rfl
    done
  simp only [Act.put, List.setIfInBounds_toArray, List.set_cons_zero, List.set_cons_succ]
  refine hK _ ?_
  clear hK K
  refine wpTake_step (fun K hK => ?_)
  rw [if_pos (by rfl)]
  refine ⟨?_, fun w' hS' => ?_, ?_⟩
  rotate_left 1
  focus
    have y0 := hS'.cellv l0 (by simp) s0
    have y1 := hS'.cellv l1 (by simp) s1
    have y2 := hS'.cellv l2 (by simp) c0
    have y3 := hS'.cellv l3 (by simp) hc
    go_simp
    try with_reducible rfl
    done
  simp only [Act.put, List.setIfInBounds_toArray, List.set_cons_zero, List.set_cons_succ]
  refine hK _ ?_
  clear hK K
  refine wpTake_step (fun K hK => ?_)
  rw [if_pos (by rfl)]
  refine ⟨?_, fun w' hS' => ?_, ?_⟩
  rotate_left 1
  focus
    have y0 := hS'.cellv l0 (by simp) s0
    have y1 := hS'.cellv l1 (by simp) s1
    have y2 := hS'.cellv l2 (by simp) c0
    have y3 := hS'.cellv l3 (by simp) hc
    go_simp
    try with_reducible rfl
    done
  simp only [Act.put, List.setIfInBounds_toArray, List.set_cons_zero, List.set_cons_succ]
  refine hK _ ?_
  clear hK K
  refine wpTake_step (fun K hK => ?_)
  rw [if_pos (by rfl)]
  refine ⟨?_, fun w' hS' => ?_, ?_⟩
  rotate_left 1
  focus
    have y0 := hS'.cellv l0 (by simp) s0
    have y1 := hS'.cellv l1 (by simp) s1
    have y2 := hS'.cellv l2 (by simp) c0
    have y3 := hS'.cellv l3 (by simp) hc
    go_simp
    try with_reducible rfl
    done
  simp only [Act.put, List.setIfInBounds_toArray, List.set_cons_zero, List.set_cons_succ]
  refine hK _ ?_
  clear hK K
  refine wpTake_nil ?_
  generalize hx0 : w1.drew = x0
  have D0 : Chg [] w1 x0 := by rw [← hx0]; exact (Chg.refl [] w1).drew
  clear hx0
  refine wpAnyS_ready (rs := [7]) (by kernel_rfl) (by simp) ?_
  refine AllReadyS.cons (by simp only [List.getElem?_toArray, List.getElem?_cons_zero, List.getElem?_cons_succ]; rfl) (fun K hK => ?_) ?_
  · rw [if_pos (by rfl)]
    go_simp
    refine hK _ _ ((D0.alloc _)) ?_
    clear hK K
    try simp only [Act.put, List.setIfInBounds_toArray, List.set_cons_zero, List.set_cons_succ]
    refine wpAnyS_tail 8 1 (by kernel_rfl) rfl ?_
    simp only [List.drop_succ_cons, List.drop_zero]
    go_wp2_with fail
    obtain ⟨gr, hgr⟩ : ∃ gr, gr = x0.heap.size := ⟨_, rfl⟩
    obtain ⟨gf, hgf⟩ : ∃ gf, gf = x0.heap.size + 1 := ⟨_, rfl⟩
    rw [← hgf, ← hgr]
    generalize hx3 : World.alloc (World.alloc x0 _) _ = x3
    have F3 : Blk x3 gf 283 #[.func (Fn.func 177) #[] #[.pointer (some ⟨gt, 0, none⟩), .pointer (some ⟨gs, 0, none⟩)], .func (Fn.func 183) #[.pointer (some ⟨gp p, 0, none⟩)] #[],
        .func (Fn.func 180) #[] #[.pointer (some ⟨gs, 0, none⟩), .pointer (some ⟨gr, 0, none⟩)], .func (Fn.func 181) #[] #[.pointer (some ⟨gs, 0, none⟩), .pointer (some ⟨gv, 0, none⟩), .pointer (some ⟨gk0, 0, none⟩), .pointer (some ⟨gr, 0, none⟩)]] := by
      rw [← hx3, hgf, hgr]
      have h := Blk.new (x0.alloc (.cells #[.pointer (some ⟨gp p, 0, none⟩)] 157)) 283 #[.func (Fn.func 177) #[] #[.pointer (some ⟨gt, 0, none⟩), .pointer (some ⟨gs, 0, none⟩)], .func (Fn.func 183) #[.pointer (some ⟨gp p, 0, none⟩)] #[], .func (Fn.func 180) #[] #[.pointer (some ⟨gs, 0, none⟩), .pointer (some ⟨x0.heap.size, 0, none⟩)], .func (Fn.func 181) #[] #[.pointer (some ⟨gs, 0, none⟩), .pointer (some ⟨gv, 0, none⟩), .pointer (some ⟨gk0, 0, none⟩), .pointer (some ⟨x0.heap.size, 0, none⟩)]]
      rw [World.size_alloc] at h
      exact h
    have D3 : Chg [] w1 x3 := by rw [← hx3]; exact (D0.alloc _).alloc _
    clear hx3 hgr hgf
    have H3 := Lib.hid (And.intro F3 (And.intro (H1.out.1.chg0 D3) (H1.out.2.chg0 D3))); clear F3 D3 D0
    go_loopg [39] 2 (fun gk idx wr => PkRel w gs gk0 gt gv g p tick vic gf gr gq P vr vq gp r com gk idx wr)
    case atStart => exact ⟨H3.out.1, H3.out.2.1, H3.out.2.2, .inl ⟨rfl, rfl⟩⟩
    case round =>
      obtain ⟨Bf, Wk, Ik, hk⟩ := hrel
      rcases hk with ⟨rfl, rfl⟩ | ⟨rfl, rfl⟩
      · have f0 := Bf.cellv 0 rfl
        have K := sc_fair0 Ik HI.out.2.1 gt gs tick ht (Wk.t.cellv 0 rfl) (Wk.s.cellv 0 rfl)
        have HK := Lib.hid (And.intro K (And.intro Bf (And.intro Wk Ik))); clear K Bf Wk Ik H3
        go_wp2_with fail
        refine HK.out.1.mono ?_
        rintro e wr ⟨rfl, rfl⟩
        go_wp2_with fail
        go_roundg 1
        case measure => omega
        case rel => exact ⟨HK.out.2.1, HK.out.2.2.1, HK.out.2.2.2, .inr ⟨rfl, rfl⟩⟩
      · have f1 := Bf.cellv 1 rfl
        have K := rg_get1 wr (gp p) (r p) (Ik.r p hp) HI.out.2.2.2.1 HI.out.2.2.2.2.1 HI.out.2.2.2.2.2.1 HI.out.2.2.2.2.2.2
        have HK := Lib.hid (And.intro K (And.intro Bf (And.intro Wk Ik))); clear K Bf Wk Ik H3
        go_wp2_with fail
        refine HK.out.1.mono ?_
        rintro e w6 ⟨rfl, B6, c6⟩
        have I6 := HK.out.2.2.2.ring hp B6 c6
        have c7 := (HK.out.2.2.1.c.mono (T := [gp p]) (by simp)).trans c6
        have HL := Lib.hid (And.intro I6 c7); clear I6 c7 B6 c6
        go_wp2_with fail
        go_ret2
        exact ⟨rfl, HL.out.1, HL.out.2⟩
  exact AllReadyS.nil
end
end Go.Proofs.YtoeppmnoifankaaGreatDoor
