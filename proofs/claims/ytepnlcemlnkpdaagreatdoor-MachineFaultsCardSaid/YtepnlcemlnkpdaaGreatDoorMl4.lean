/- Package machine: Block and Wake. -/
import Derived.Test.YtepnlcemlnkpdaaGreatDoorMl2J
import Derived.Test.YtepnlcemlnkpdaaGreatDoorMg2J
import Derived.Test.YtepnlcemlnkpdaaGreatDoorMcIJ
namespace Go.Proofs.YtepnlcemlnkpdaaGreatDoor
set_option maxHeartbeats 16000000
set_option maxRecDepth 100000
open Go.RowKit Go.Maps
section
variable {W : Bs} {w w' : World} {p : MAt} {m : Mac} (M : MM W w p m)
include M
theorem MM.iwt : IsWt w p.gwt p.vwt m.wt := by
  have h : Blk w p.gwt 192 (wtC p.vwt) ∧ (∀ i, i < 32 → OwnI 3 w (p.vwt i) (m.wt i)) ∧ ∀ i j, i < 32 → j < 32 → i ≠ j → ∀ k ∈ fpv (p.vwt i), k ∉ fpv (p.vwt j) := M.k .waits
  exact ⟨h.1, h.2.1, h.2.2⟩
theorem MM.wtT {a : Nat} (ha : a < 32) {v' : Value} {wt' : Nat → List Int} (I : IsWt w' p.gwt (updV p.vwt a v') wt') (c : Chg (p.gwt :: fpv (p.vwt a)) w w') (hv : ∀ k ∈ fpv v', k ∈ fpv (p.vwt a) ∨ w.heap.size ≤ k) : MM W w' { p with vwt := updV p.vwt a v' } { m with wt := wt' } := by
  refine M.turn .waits c (fun j hj => ?_) (fun j hj => ?_) ⟨I.b, I.o, I.d⟩ (fun k hk => ?_)
  · rcases List.mem_cons.1 hj with e | e
    · exact .inl (.inl e)
    · exact .inl (.inr ⟨a, ha, e⟩)
  · rcases hj with e | ⟨i, hi, e⟩
    · have e : j = p.gwt := e
      exact ⟨.inl (.inl e), by rw [e]; exact I.b.lt⟩
    · have hl := (I.o i hi).lt e
      refine ⟨?_, hl⟩
      have e : j ∈ fpv (updV p.vwt a v' i) := e
      by_cases e2 : i = a
      · subst e2
        rw [updV_same] at e
        rcases hv j e with h | h
        · exact .inl (.inr ⟨i, hi, h⟩)
        · exact .inr h
      · rw [updV_other _ _ e2] at e
        exact .inl (.inr ⟨i, hi, e⟩)
  · cases k <;> first | exact absurd rfl hk | exact ⟨rfl, fun _ => rfl⟩
end
theorem hQ0 {P : Program} {fn : Func} {R : Ending → World → Prop} (hres : fn.results = #[]) {l : List Oper} :
    ∀ o ∈ l, ∀ c a v w, bodyPostD P fn R (.panic c) (a.put o.dst v) w → bodyPostD P fn R (.panic c) a w := by
  intro o _ c a v w H
  cases hd : o.dst with
  | none => rw [hd] at H; exact H
  | some d =>
    rw [hd] at H
    have e : results fn (a.tmps.setIfInBounds d v) = results fn a.tmps := by simp [results, hres]
    exact Leaves_congr e _ _ _ H
section
variable {w0 w : World} {gC gT gI gA gY gM gp gg : Nat} {c : ComA} {i : Ins} {addr : Int} {yb q g : Nat} {D : List Nat} {p : MAt} {m : Mac} {Q : MAt → Prop}
theorem in_block (K : CmW w0 gC gT gI gA gY gM gp gg c 2 i addr yb p.gm q g w) (hi : i.o = 11) (ha : i.a < 32) (hn : ∀ k ∈ [gC, gT, gI, gA, gY, gM, gp, gg], k ∉ D) (M : MM ⟨w, D⟩ w p m) (hg : ∀ a, a < 32 → ((g : Nat) : Int) ∉ m.wt a) (hl : ∀ a, a < 32 → (m.wt a).length ≤ 1000000) (hQ : ∀ v', Q { p with vwt := updV p.vwt i.a v' }) :
    Calls Tryz.prog 223 #[.pointer (some ⟨gC, 0, none⟩), .pointer (some ⟨gT, 0, none⟩), .pointer (some ⟨gI, 0, none⟩), .pointer (some ⟨gA, 0, none⟩), .pointer (some ⟨gY, 0, none⟩), .pointer (some ⟨gM, 0, none⟩), .pointer (some ⟨gp, 0, none⟩), .pointer (some ⟨gg, 0, none⟩)] w (InnrPost D w gC gT Q { m with wt := updV m.wt i.a (m.wt i.a ++ [(g : Int)]) } c 3) := by
  have hmf : ∀ (fn : Fn) (first cap : Array Value) (w : World), (Instr.makeFunc fn first cap).run Tryz.prog w = .ok (.func fn first cap) w := fun _ _ _ _ => rfl
  obtain ⟨io, ia, ib, ic⟩ := i
  have hi : io = 11 := hi
  have ha : ia < 32 := ha
  subst hi
  have i0 : w.cell? ⟨gI, 0, none⟩ = some (.int .i64 11) := K.I.cellv 0 rfl
  have i1 : w.cell? ⟨gI, 1, none⟩ = some (.int .i64 (ia : Nat)) := K.I.cellv 1 rfl
  have m0 : w.cell? ⟨gM, 0, none⟩ = some (.pointer (some ⟨p.gm, 0, none⟩)) := K.M.cellv 0 rfl
  have g0 : w.cell? ⟨gg, 0, none⟩ = some (.int .i64 (g : Nat)) := K.g.cellv 0 rfl
  have c12 : w.cell? ⟨p.gm, 12, none⟩ = some (.pointer (some ⟨p.gwt, 0, none⟩)) := M.mb.cellv 12 rfl
  have KW := fun (w' : World) (c : Chg [] w w') => wt_wait w' p.gwt p.vwt m.wt ((M.chg0 c).iwt) ia ha (g : Nat) hg hl
  have HK := Lib.hid (And.intro K (And.intro hn (And.intro M (And.intro KW hQ)))); clear K hn M KW hg hl hQ
  go_enter_defers Tryz.func223, Tryz.ntmps223
  go_upto_region 20 with fail
  refine wp_region_takesD (fuel := 1) 7 (fun w' => Chg [] w w') [0, 1, 2, 3, 4, 5, 6] (by kernel_rfl) (by kernel_rfl) (fun o ho c a v w h => hQ0 (fn := Tryz.f223) rfl o ho c a v w h) ((Chg.refl [] w).drew) ?_
  simp only [List.filterMap_cons, List.filterMap_nil, qGa, qGb]
  iterate 7
    refine wpTake_step (fun K hK => ?_)
    rw [if_pos (by rfl)]
    refine ⟨?_, fun w' hS' => ?_, ?_⟩
    rotate_left 1
    focus
      have y0 := hS'.cellv HK.out.1.M.lt (by simp) m0
      have y1 := hS'.cellv HK.out.2.2.1.mb.lt (by simp) c12
      have y2 := hS'.cellv HK.out.1.I.lt (by simp) i1
      have y3 := hS'.cellv HK.out.1.g.lt (by simp) g0
      go_simp
      try with_reducible rfl
      done
    simp only [Act.put, qSa, qSb, qSc]
    refine hK _ ?_
    clear hK K
  refine wpTake_nil ?_
  generalize hx0 : w.drew = x0
  have D0 : Chg [] w x0 := by rw [← hx0]; exact (Chg.refl [] w).drew
  clear hx0
  refine wpAnyS_tail 7 1 (by kernel_rfl) rfl ?_
  simp only [qDa, qDb]
  go_wp2_with fail
  refine (HK.out.2.2.2.1 x0 D0).mono ?_
  rintro e w2 ⟨v', rfl, I2, c2, n2⟩
  have M2 := (HK.out.2.2.1.chg0 D0).wtT ha I2 c2 n2
  have C2 := M2.c.blk HK.out.1.C (HK.out.2.1 _ (by simp))
  have T2 := M2.c.blk HK.out.1.T (HK.out.2.1 _ (by simp))
  have t0 : w2.cell? ⟨gT, 0, none⟩ = some (.int .i64 2) := T2.cellv 0 rfl
  have ft := T2.frozen 0
  have H2 := Lib.hid (And.intro M2 (And.intro C2 T2)); clear M2 C2 T2 I2 c2 n2
  go_wp2_with fail
  refine leaves_cons (f := 224) (args := #[.pointer (some ⟨gC, 0, none⟩), .pointer (some ⟨gT, 0, none⟩)]) (by simp) (by simp [go_sem]) ?_
  refine (cm_catch_idle _ _ _).mono ?_
  rintro e u' w'' ⟨rfl, rfl, c'⟩
  show Leaves _ _ _ _ [] .returning w''
  have n2 : gC ≠ gT := fun e => HK.out.1.C.ne_ HK.out.1.T (by decide) e
  have C3 := H2.out.2.1.far (p := ⟨gT, 0, none⟩) n2 (.int .i64 3)
  have T3 := H2.out.2.2.setv 0 (.int .i64 3) (cs' := #[.int .i64 3]) rfl
  exact ⟨_, results_none rfl _ _ _, rfl, w2, _, HK.out.2.2.2.2 v', H2.out.1, (((Chg.refl [gT] w2).setCell (.inl (by simp)) (.int .i64 3)).trans (c'.mono (by simp))).mono (by simp), c'.blk C3 (by simp), c'.blk T3 (by simp)⟩
theorem ctl_wake_no {W : Bs} (M : MM W w p m) (q g : Nat) (i : Ins) (hi : i.o = 12) (ha : i.a < 32) (h0 : m.wt i.a = []) (hg : g < m.ng) : Calls Tryz.prog 228 #[.pointer (some ⟨p.gm, 0, none⟩), .int .i64 (q : Nat), .pointer (some ⟨p.bg g, 0, none⟩), insV i] w (CtPost W p m (-1)) := by
  obtain ⟨io, ia, ib, ic⟩ := i
  have hi : io = 12 := hi
  have ha : ia < 32 := ha
  subst hi
  have hmf : ∀ (fn : Fn) (first cap : Array Value) (w : World), (Instr.makeFunc fn first cap).run Tryz.prog w = .ok (.func fn first cap) w := fun _ _ _ _ => rfl
  have HM := Lib.hid M; clear M
  unfold insV
  go_enter Tryz.func228, Tryz.ntmps228
  go_upto_region 2 with fail
  obtain ⟨gY, hgY⟩ : ∃ g', g' = w.heap.size := ⟨_, rfl⟩
  obtain ⟨gI, hgI⟩ : ∃ g', g' = w.heap.size + 1 := ⟨_, rfl⟩
  obtain ⟨w1, hw1⟩ : ∃ w1, w1 = (w.alloc (.cells #[.pointer (some ⟨p.bg g, 0, none⟩)] 132)).alloc (.cells #[.int .i64 12, .int .i64 (ia : Nat), .int .i64 (ib : Nat), .int .i64 (ic : Nat)] 27) := ⟨_, rfl⟩
  rw [← hw1, ← hgI, ← hgY]
  have V1 : CtV w gY gI (p.bg g) ⟨12, ia, ib, ic⟩ w1 := by rw [hw1, hgY, hgI]; exact CtV.mk_ w (p.bg g) ⟨12, ia, ib, ic⟩
  have M1 := HM.out.chg0 V1.c
  have i0 : w1.cell? ⟨gI, 0, none⟩ = some (.int .i64 12) := V1.I.cellv 0 rfl
  have i1 : w1.cell? ⟨gI, 1, none⟩ = some (.int .i64 (ia : Nat)) := V1.I.cellv 1 rfl
  have c12 : w1.cell? ⟨p.gm, 12, none⟩ = some (.pointer (some ⟨p.gwt, 0, none⟩)) := M1.mb.cellv 12 rfl
  have nI : gI ∉ p.gwt :: fpv (p.vwt ia) := fun hm => by
    have h : MF p m .waits gI := by
      rcases List.mem_cons.1 hm with e | e
      · exact .inl e
      · exact .inr ⟨ia, ha, e⟩
    have := HM.out.hi .waits gI h
    omega
  have nM : p.gm ∉ p.gwt :: fpv (p.vwt ia) := fun hm => by
    have h : MF p m .waits p.gm := by
      rcases List.mem_cons.1 hm with e | e
      · exact .inl e
      · exact .inr ⟨ia, ha, e⟩
    exact absurd (HM.out.ap .mach .waits p.gm rfl h) (by simp)
  clear hw1 hgY hgI
  have KW := fun (w' : World) (c : Chg [] w1 w') => wt_wake_no w' p.gwt p.vwt m.wt ((M1.chg0 c).iwt) ia ha h0
  have HK := Lib.hid (And.intro V1 (And.intro M1 KW)); clear V1 M1 KW h0
  go_upto_region 9 with fail
  refine wp_region_takes (fuel := 6) 11 (fun w' => Chg [] w1 w') [0, 1, 2, 3, 4, 5] (by kernel_rfl) (by kernel_rfl) (fun _ _ _ _ _ h => h) ((Chg.refl [] w1).drew) ?_
  simp only [List.filterMap_cons, List.filterMap_nil, qGa, qGb]
  iterate 6
    refine wpTake_step (fun K hK => ?_)
    rw [if_pos (by rfl)]
    refine ⟨?_, fun w' hS' => ?_, ?_⟩
    rotate_left 1
    focus
      have y0 := hS'.cellv HK.out.2.1.mb.lt (by simp) c12
      have y1 := hS'.cellv HK.out.1.I.lt (by simp) i1
      go_simp
      try with_reducible rfl
      done
    simp only [Act.put, qSa, qSb, qSc]
    refine hK _ ?_
    clear hK K
  refine wpTake_nil ?_
  generalize hx0 : w1.drew = x0
  have D0 : Chg [] w1 x0 := by rw [← hx0]; exact (Chg.refl [] w1).drew
  clear hx0
  refine wpAnyS_ready (rs := [6]) (by kernel_rfl) (by simp) ?_
  refine AllReadyS.o (fun K hK => ?_)
  rw [if_pos (by rfl)]
  go_simp
  go_at_call 288
  refine (HK.out.2.2 _ D0).mono ?_
  rintro e w3 ⟨rfl, rfl⟩
  dsimp only
  refine hK _ _ (D0) ?_
  clear hK K
  try simp only [Act.put, qSa, qSb, qSc]
  refine wpAnyS_more (fuel := 1) [7, 8, 9, 10] (by kernel_rfl) (fun _ _ _ _ _ h => h) D0 ?_
  simp only [List.filterMap_cons, List.filterMap_nil, qGa, qGb]
  iterate 4
    refine wpTake_step (fun K hK => ?_)
    rw [if_pos (by rfl)]
    refine ⟨?_, fun w' hS' => ?_, ?_⟩
    rotate_left 1
    focus
      have y0 := hS'.cellv HK.out.2.1.mb.lt (by simp) c12
      have y1 := hS'.cellv HK.out.1.I.lt (by simp) i1
      go_simp
      try with_reducible rfl
      done
    simp only [Act.put, qSa, qSb, qSc]
    refine hK _ ?_
    clear hK K
  refine wpTake_nil ?_
  refine wpAnyS_tail 11 1 (by kernel_rfl) rfl ?_
  simp only [qDa, qDb]
  go_wp2_with fail
  go_ret
  exact ⟨rfl, HK.out.2.1.chg0 D0⟩
theorem ctl_wake {W : Bs} (M : MM W w p m) (q g : Nat) (i : Ins) (hi : i.o = 12) (ha : i.a < 32) (x : Nat) (r : List Int) (h0 : m.wt i.a = (x : Int) :: r) (hr : r.length ≤ 1000) (hwf : ∀ y ∈ m.wt i.a, WfI y) (hg : g < m.ng) (hq : q < m.np) (hst : m.sts[x]? = some 3) (hsl : m.sts.length ≤ 1000000) (hvq : p.vq = .slice none 0 0) (hfr : (m.rg q).fr < 256) (hn : (m.rg q).n < 256) :
    Calls Tryz.prog 228 #[.pointer (some ⟨p.gm, 0, none⟩), .int .i64 (q : Nat), .pointer (some ⟨p.bg g, 0, none⟩), insV i] w (fun e w' => ∃ v', e = .returned (.int .i64 (x : Nat)) ∧ MM W w' { p with vwt := updV p.vwt i.a v' } { m with wt := updV m.wt i.a r, sts := m.sts.set x 1, rg := updV m.rg q (rgPut (m.rg q) (x : Nat)) }) := by
  obtain ⟨io, ia, ib, ic⟩ := i
  have hi : io = 12 := hi
  have ha : ia < 32 := ha
  subst hi
  have hmf : ∀ (fn : Fn) (first cap : Array Value) (w : World), (Instr.makeFunc fn first cap).run Tryz.prog w = .ok (.func fn first cap) w := fun _ _ _ _ => rfl
  have HM := Lib.hid M; clear M
  unfold insV
  go_enter Tryz.func228, Tryz.ntmps228
  go_upto_region 2 with fail
  obtain ⟨gY, hgY⟩ : ∃ g', g' = w.heap.size := ⟨_, rfl⟩
  obtain ⟨gI, hgI⟩ : ∃ g', g' = w.heap.size + 1 := ⟨_, rfl⟩
  obtain ⟨w1, hw1⟩ : ∃ w1, w1 = (w.alloc (.cells #[.pointer (some ⟨p.bg g, 0, none⟩)] 132)).alloc (.cells #[.int .i64 12, .int .i64 (ia : Nat), .int .i64 (ib : Nat), .int .i64 (ic : Nat)] 27) := ⟨_, rfl⟩
  rw [← hw1, ← hgI, ← hgY]
  have V1 : CtV w gY gI (p.bg g) ⟨12, ia, ib, ic⟩ w1 := by rw [hw1, hgY, hgI]; exact CtV.mk_ w (p.bg g) ⟨12, ia, ib, ic⟩
  have M1 := HM.out.chg0 V1.c
  have i0 : w1.cell? ⟨gI, 0, none⟩ = some (.int .i64 12) := V1.I.cellv 0 rfl
  have i1 : w1.cell? ⟨gI, 1, none⟩ = some (.int .i64 (ia : Nat)) := V1.I.cellv 1 rfl
  have c12 : w1.cell? ⟨p.gm, 12, none⟩ = some (.pointer (some ⟨p.gwt, 0, none⟩)) := M1.mb.cellv 12 rfl
  have nI : gI ∉ p.gwt :: fpv (p.vwt ia) := fun hm => by
    have h : MF p m .waits gI := by
      rcases List.mem_cons.1 hm with e | e
      · exact .inl e
      · exact .inr ⟨ia, ha, e⟩
    have := HM.out.hi .waits gI h
    omega
  have nM : p.gm ∉ p.gwt :: fpv (p.vwt ia) := fun hm => by
    have h : MF p m .waits p.gm := by
      rcases List.mem_cons.1 hm with e | e
      · exact .inl e
      · exact .inr ⟨ia, ha, e⟩
    exact absurd (HM.out.ap .mach .waits p.gm rfl h) (by simp)
  clear hw1 hgY hgI
  have KW := fun (w' : World) (c : Chg [] w1 w') => wt_wake w' p.gwt p.vwt m.wt ((M1.chg0 c).iwt) ia ha (x : Nat) r h0 hr hwf
  have HK := Lib.hid (And.intro V1 (And.intro M1 (And.intro KW hst))); clear V1 M1 KW h0 hwf hst
  go_upto_region 9 with fail
  refine wp_region_takes (fuel := 6) 11 (fun w' => Chg (p.gwt :: fpv (p.vwt ia)) w1 w') [0, 1, 2, 3, 4, 5] (by kernel_rfl) (by kernel_rfl) (fun _ _ _ _ _ h => h) (((Chg.refl [] w1).drew.mono (by simp))) ?_
  simp only [List.filterMap_cons, List.filterMap_nil, qGa, qGb]
  iterate 6
    refine wpTake_step (fun K hK => ?_)
    rw [if_pos (by rfl)]
    refine ⟨?_, fun w' hS' => ?_, ?_⟩
    rotate_left 1
    focus
      have y0 := hS'.cellv HK.out.2.1.mb.lt nM c12
      have y1 := hS'.cellv HK.out.1.I.lt nI i1
      go_simp
      try with_reducible rfl
      done
    simp only [Act.put, qSa, qSb, qSc]
    refine hK _ ?_
    clear hK K
  refine wpTake_nil ?_
  generalize hx0 : w1.drew = x0
  have D0 : Chg [] w1 x0 := by rw [← hx0]; exact (Chg.refl [] w1).drew
  clear hx0
  refine wpAnyS_ready (rs := [6]) (by kernel_rfl) (by simp) ?_
  refine AllReadyS.o (fun K hK => ?_)
  rw [if_pos (by rfl)]
  go_simp
  go_at_call 288
  refine (HK.out.2.2.1 _ D0).mono ?_
  rintro e w3 ⟨v', rfl, I3, c3, n3⟩
  dsimp only
  have DW : Chg (p.gwt :: fpv (p.vwt ia)) w1 w3 := (D0.mono (by simp)).trans c3
  refine hK _ _ (DW) ?_
  clear hK K
  try simp only [Act.put, qSa, qSb, qSc]
  refine wpAnyS_more (fuel := 1) [7, 8, 9, 10] (by kernel_rfl) (fun _ _ _ _ _ h => h) DW ?_
  simp only [List.filterMap_cons, List.filterMap_nil, qGa, qGb]
  iterate 4
    refine wpTake_step (fun K hK => ?_)
    rw [if_pos (by rfl)]
    refine ⟨?_, fun w' hS' => ?_, ?_⟩
    rotate_left 1
    focus
      have y0 := hS'.cellv HK.out.2.1.mb.lt nM c12
      have y1 := hS'.cellv HK.out.1.I.lt nI i1
      go_simp
      try with_reducible rfl
      done
    simp only [Act.put, qSa, qSb, qSc]
    refine hK _ ?_
    clear hK K
  refine wpTake_nil ?_
  refine wpAnyS_tail 11 1 (by kernel_rfl) rfl ?_
  simp only [qDa, qDb]
  have M3 := (HK.out.2.1.chg0 D0).wtT ha I3 c3 n3
  obtain ⟨p3, hp3⟩ : ∃ p3, p3 = { p with vwt := updV p.vwt ia v' } := ⟨_, rfl⟩
  obtain ⟨m3, hm3⟩ : ∃ m3, m3 = { m with wt := updV m.wt ia r } := ⟨_, rfl⟩
  rw [← hp3, ← hm3] at M3
  have epg : p.gm = p3.gm := by rw [hp3]
  have s7 : w3.cell? ⟨p.gm, 7, none⟩ = some (.pointer (some ⟨p3.gst, 0, none⟩)) := by rw [epg]; exact M3.mb.cellv 7 rfl
  have KM := st_move w3 p3.gst p3.vst m3.sts M3.st x 3 1 (by rw [hm3]; exact HK.out.2.2.2) (by unfold okT; omega) (by rw [hm3]; exact hsl)
  have H3 := Lib.hid (And.intro M3 (And.intro hp3 (And.intro hm3 (And.intro KM epg)))); clear M3 I3 c3 n3 hp3 hm3 KM epg
  go_wp2_with fail
  refine (H3.out.2.2.2.1).mono ?_
  rintro e w4 ⟨rfl, I4, S4⟩
  have M4 := H3.out.1.stT I4 rfl S4
  obtain ⟨m4, hm4⟩ : ∃ m4, m4 = { m3 with sts := m3.sts.set x ((1 : Nat) : Int) } := ⟨_, rfl⟩
  rw [← hm4] at M4
  have hq4 : q < m4.np := by rw [hm4, H3.out.2.2.1]; exact hq
  have hrg : m4.rg q = m.rg q := by rw [hm4, H3.out.2.2.1]
  have s10 : w4.cell? ⟨p.gm, 10, none⟩ = some (.pointer (some ⟨p3.gsd, 0, none⟩)) := by rw [H3.out.2.2.2.2]; exact M4.mb.cellv 10 rfl
  have KR := sc_ready M4.sc (by rw [H3.out.2.1]; exact hvq) q hq4 (x : Nat) (by rw [hrg]; exact hfr) (by rw [hrg]; exact hn)
  have H4 := Lib.hid (And.intro M4 (And.intro hm4 KR)); clear M4 hm4 KR I4 S4 hrg s7
  go_wp2_with fail
  refine (H4.out.2.2).mono ?_
  rintro e w5 ⟨rfl, I5, c5⟩
  have M5 := H4.out.1.scT (vq' := p3.vq) (by exact I5) c5 (fun j hj => by
    rcases List.mem_cons.1 hj with e | e
    · exact .inl (.inr (.inr (.inr (.inr ⟨q, hq4, e⟩))))
    · exact .inl (.inr (.inl (List.mem_singleton.1 e)))) (fun j hj => .inl hj)
  have H5 := Lib.hid M5; clear M5 I5 c5 s10
  go_wp2_with fail
  go_ret
  refine ⟨v', rfl, ?_⟩
  have h := H5.out
  rw [H4.out.2.1, H3.out.2.2.1, H3.out.2.1] at h
  exact h
end
end Go.Proofs.YtepnlcemlnkpdaaGreatDoor
