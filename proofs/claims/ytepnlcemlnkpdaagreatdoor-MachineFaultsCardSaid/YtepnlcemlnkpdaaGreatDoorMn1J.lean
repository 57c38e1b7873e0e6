/- Package machine: data, of Move; what is thrown. (Printed by wip/genmn1.py.) -/
/- Package machine: a Load of nothing: what is thrown, who catches it. (Printed by wip/genmn2.py.) -/
import Derived.Test.YtepnlcemlnkpdaaGreatDoorMg2J
import Derived.Test.YtepnlcemlnkpdaaGreatDoorMcIJ
import Derived.Test.YtepnlcemlnkpdaaGreatDoorMAsJ
import Derived.Recover
namespace Go.Proofs.YtepnlcemlnkpdaaGreatDoor
set_option maxHeartbeats 16000000
set_option maxRecDepth 100000
open Go.RowKit Go.Maps
theorem gorC_set (x : GorA) {j : Nat} (hj : j < 16) (v : Int) : (gorC x).setIfInBounds (3 + j) (.int .i64 v) = gorC { x with st := updV x.st j v } := by
  have h : j = 0 ∨ j = 1 ∨ j = 2 ∨ j = 3 ∨ j = 4 ∨ j = 5 ∨ j = 6 ∨ j = 7 ∨ j = 8 ∨ j = 9 ∨ j = 10 ∨ j = 11 ∨ j = 12 ∨ j = 13 ∨ j = 14 ∨ j = 15 := by omega
  rcases h with rfl | rfl | rfl | rfl | rfl | rfl | rfl | rfl | rfl | rfl | rfl | rfl | rfl | rfl | rfl | rfl <;> (show _ = _; kernel_rfl)
section
variable {W : Bs} {w : World} {p : MAt} {m : Mac} (M : MM W w p m)
include M
theorem dat_move (q g : Nat) (i : Ins) (hi : i.o = 4) (hg : g < m.ng) (ha : i.a < 16) (hb : i.b < 16) : Calls Tryz.prog 225 #[.pointer (some ⟨p.gm, 0, none⟩), .int .i64 (q : Nat), .pointer (some ⟨p.bg g, 0, none⟩), insV i] w (CtPost W p (setGor m g { m.gs g with st := updV (m.gs g).st i.a ((m.gs g).st i.b) }) 0) := by
  obtain ⟨io, ia, ib, ic⟩ := i
  have hi : io = 4 := hi
  subst hi
  have ha : ia < 16 := ha
  have hb : ib < 16 := hb
  have a0 : (0 : Int) ≤ ia := by omega
  have a1 : (ia : Int) < 16 := by omega
  have b0 : (0 : Int) ≤ ib := by omega
  have b1 : (ib : Int) < 16 := by omega
  have HM := Lib.hid M; clear M
  unfold insV
  go_enter Tryz.func225, Tryz.ntmps225
  go_upto_region 1 with fail
  obtain ⟨gI, hgI⟩ : ∃ g', g' = w.heap.size := ⟨_, rfl⟩
  obtain ⟨w1, hw1⟩ : ∃ w1, w1 = w.alloc (.cells #[.int .i64 4, .int .i64 (ia : Nat), .int .i64 (ib : Nat), .int .i64 (ic : Nat)] 27) := ⟨_, rfl⟩
  rw [← hw1, ← hgI]
  have BI : Blk w1 gI 27 #[.int .i64 4, .int .i64 (ia : Nat), .int .i64 (ib : Nat), .int .i64 (ic : Nat)] := by rw [hw1, hgI]; exact Blk.new _ _ _
  have c01 : Chg [] w w1 := by rw [hw1]; exact (Chg.refl [] w).alloc _
  have M1 := HM.out.chg0 c01
  have i0 : w1.cell? ⟨gI, 0, none⟩ = some (.int .i64 4) := BI.cellv 0 rfl
  have i1 : w1.cell? ⟨gI, 1, none⟩ = some (.int .i64 (ia : Nat)) := BI.cellv 1 rfl
  have i2 : w1.cell? ⟨gI, 2, none⟩ = some (.int .i64 (ib : Nat)) := BI.cellv 2 rfl
  have sb : w1.cell? ⟨p.bg g, 3 + ib, none⟩ = some (.int .i64 ((m.gs g).st ib)) := (M1.gb hg).cellv (3 + ib) (gorC_at _ hb)
  have lI := BI.lt
  have lG := (M1.gb hg).lt
  clear hw1 hgI
  have H1 := Lib.hid (And.intro M1 (And.intro c01 BI)); clear M1 c01 BI
  go_upto_region 9 with fail
  refine wp_region_takes (fuel := 2) 12 (fun w' => Chg [] w1 w') [0, 1, 2, 3, 4, 5, 6, 7, 8, 9, 10, 11] (by kernel_rfl) (by kernel_rfl) (fun _ _ _ _ _ h => h) ((Chg.refl [] w1).drew) ?_
  simp only [List.filterMap_cons, List.filterMap_nil, qGa, qGb]
  iterate 12
    refine wpTake_step (fun K hK => ?_)
    rw [if_pos (by rfl)]
    refine ⟨?_, fun w' hS' => ?_, ?_⟩
    rotate_left 1
    focus
      have j0 := hS'.cellv lI (by simp) i1
      have j1 := hS'.cellv lI (by simp) i2
      have j2 := hS'.cellv lG (by simp) sb
      go_simp
      try with_reducible rfl
      done
    simp only [Act.put, qSa, qSb, qSc]
    refine hK _ ?_
    clear hK K
  refine wpTake_nil ?_
  generalize hx0 : w1.drew = x0
  have D0 : Chg [] w1 x0 := by rw [← hx0]; exact (Chg.refl [] w1).drew
  clear hx0
  refine wpAnyS_tail 12 2 (by kernel_rfl) rfl ?_
  simp only [qDa, qDb]
  have M2 := H1.out.1.chg0 D0
  have sa : x0.cell? ⟨p.bg g, 3 + ia, none⟩ = some (.int .i64 ((m.gs g).st ia)) := (M2.gb hg).cellv (3 + ia) (gorC_at _ ha)
  have fa := (M2.gb hg).frozen (3 + ia)
  have H2 := Lib.hid M2; clear M2 D0 i0 i1 i2 sb
  go_wp2_with fail
  go_ret
  exact ⟨rfl, by
    have h := H2.out.gset hg (3 + ia) (.int .i64 ((m.gs g).st ib)) { m.gs g with st := updV (m.gs g).st ia ((m.gs g).st ib) } (gorC_set _ ha _)
    exact h⟩
end
def faultV : List PanicEntry := [{ v := .iface 317 (.agg #[]), recovered := false }]
def ThPost (w : World) (e : Ending) (w' : World) : Prop := e = .panicked faultV ∧ Chg [] w w'
theorem run_tf_fault (w : World) : (Instr.typeAssert (.iface 317 (.agg #[])) 20 317 true).run Tryz.prog w = .ok (.tuple #[.agg #[], .bool true]) w := by kernel_rfl
section
variable {W : Bs} {w : World} {p : MAt} {m : Mac} (M : MM W w p m)
include M
theorem hp_arena : Calls Tryz.prog 56 #[.pointer (some ⟨p.H.gh, 0, none⟩)] w (QuPost (.pointer (some ⟨p.H.ah.ga, 0, none⟩)) w) := by
  have b0 : w.cell? ⟨p.H.gh, 0, none⟩ = some (.pointer (some ⟨p.H.ah.ga, 0, none⟩)) := M.hp.hb.cellv 0 rfl
  clear M
  go_enter Tryz.func56, Tryz.ntmps56
  go_wp2_with fail
  go_ret
  exact ⟨rfl, rfl⟩
theorem slot_fault (hob : m.A.a.ob 0 = none) (i : Nat) : Calls Tryz.prog 281 #[.pointer (some ⟨p.gm, 0, none⟩), .int .i64 0, .int .i64 (i : Nat)] w (ThPost w) := by
  have c5 : w.cell? ⟨p.gm, 6, none⟩ = some (.pointer (some ⟨p.H.gh, 0, none⟩)) := M.mb.cellv 6 rfl
  have K1 := hp_arena M
  have ho : obI m.A.a 0 = none := hob
  have K2 := s_load M.hp.S 0 (i : Int) (by unfold Wf64; omega)
  rw [loadV_none ho, slotC_none ho] at K2
  have HK := Lib.hid (And.intro K1 K2); clear K1 K2 M hob ho
  go_enter Tryz.func281, Tryz.ntmps281
  go_wp2_with fail
  refine (HK.out.1).mono ?_
  rintro e w1 ⟨rfl, rfl⟩
  go_wp2_with fail
  refine (HK.out.2).mono ?_
  rintro e w2 ⟨rfl, c2⟩
  have HC := Lib.hid c2; clear c2
  go_wp2_with fail
  exact ⟨rfl, rfl, HC.out⟩
theorem dat_fault (hob : m.A.a.ob 0 = none) (q g : Nat) (i : Ins) (hi : i.o = 2) (hg : g < m.ng) (ha : i.a < 16) (hb : i.b < 16) (h0 : (m.gs g).st i.b = 0) : Calls Tryz.prog 225 #[.pointer (some ⟨p.gm, 0, none⟩), .int .i64 (q : Nat), .pointer (some ⟨p.bg g, 0, none⟩), insV i] w (ThPost w) := by
  obtain ⟨io, ia, ib, ic⟩ := i
  have hi : io = 2 := hi
  subst hi
  have ha : ia < 16 := ha
  have hb : ib < 16 := hb
  have h0 : (m.gs g).st ib = 0 := h0
  have a0 : (0 : Int) ≤ ia := by omega
  have a1 : (ia : Int) < 16 := by omega
  have b0 : (0 : Int) ≤ ib := by omega
  have b1 : (ib : Int) < 16 := by omega
  have KS := fun (w' : World) (c : Chg [] w w') => slot_fault (M.chg0 c) hob ic
  have HM := Lib.hid (And.intro M KS); clear M KS
  unfold insV
  go_enter Tryz.func225, Tryz.ntmps225
  go_upto_region 1 with fail
  obtain ⟨gI, hgI⟩ : ∃ g', g' = w.heap.size := ⟨_, rfl⟩
  obtain ⟨w1, hw1⟩ : ∃ w1, w1 = w.alloc (.cells #[.int .i64 2, .int .i64 (ia : Nat), .int .i64 (ib : Nat), .int .i64 (ic : Nat)] 27) := ⟨_, rfl⟩
  rw [← hw1, ← hgI]
  have BI : Blk w1 gI 27 #[.int .i64 2, .int .i64 (ia : Nat), .int .i64 (ib : Nat), .int .i64 (ic : Nat)] := by rw [hw1, hgI]; exact Blk.new _ _ _
  have c01 : Chg [] w w1 := by rw [hw1]; exact (Chg.refl [] w).alloc _
  have M1 := HM.out.1.chg0 c01
  have i0 : w1.cell? ⟨gI, 0, none⟩ = some (.int .i64 2) := BI.cellv 0 rfl
  have i1 : w1.cell? ⟨gI, 1, none⟩ = some (.int .i64 (ia : Nat)) := BI.cellv 1 rfl
  have i2 : w1.cell? ⟨gI, 2, none⟩ = some (.int .i64 (ib : Nat)) := BI.cellv 2 rfl
  have i3 : w1.cell? ⟨gI, 3, none⟩ = some (.int .i64 (ic : Nat)) := BI.cellv 3 rfl
  have sb : w1.cell? ⟨p.bg g, 3 + ib, none⟩ = some (.int .i64 0) := by
    have h : w1.cell? ⟨p.bg g, 3 + ib, none⟩ = some (.int .i64 ((m.gs g).st ib)) := (M1.gb hg).cellv (3 + ib) (gorC_at _ hb)
    rw [h0] at h; exact h
  have lI := BI.lt
  have lG := (M1.gb hg).lt
  clear hw1 hgI
  have H1 := Lib.hid (And.intro M1 (And.intro c01 BI)); clear M1 c01 BI
  go_upto_region 3 with fail
  refine wp_region_takes (fuel := 3) 16 (fun w' => Chg [] w1 w') [0, 1, 2, 3, 4, 5, 6, 7, 8, 9, 10, 11, 12, 14, 15] (by kernel_rfl) (by kernel_rfl) (fun _ _ _ _ _ h => h) ((Chg.refl [] w1).drew) ?_
  simp only [List.filterMap_cons, List.filterMap_nil, qGa, qGb]
  iterate 15
    refine wpTake_step (fun K hK => ?_)
    rw [if_pos (by rfl)]
    refine ⟨?_, fun w' hS' => ?_, ?_⟩
    rotate_left 1
    focus
      have j0 := hS'.cellv lI (by simp) i1
      have j1 := hS'.cellv lI (by simp) i2
      have j2 := hS'.cellv lI (by simp) i3
      have j3 := hS'.cellv lG (by simp) sb
      go_simp
      try with_reducible rfl
      done
    simp only [Act.put, qSa, qSb, qSc]
    refine hK _ ?_
    clear hK K
  refine wpTake_nil ?_
  generalize hx0 : w1.drew = x0
  have D0 : Chg [] w1 x0 := by rw [← hx0]; exact (Chg.refl [] w1).drew
  clear hx0
  refine wpAnyS_ready (rs := [13]) (by kernel_rfl) (by simp) ?_
  refine AllReadyS.o (fun K hK => ?_)
  rw [if_pos (by rfl)]
  go_simp
  go_at_call 281
  refine (HM.out.2 x0 (H1.out.2.1.trans D0)).mono ?_
  rintro e w3 ⟨rfl, c3⟩
  exact ⟨rfl, rfl, (H1.out.2.1.trans D0).trans c3⟩
end
section
variable (w : World) (gC gT : Nat) (c : ComA) (t : Int) (hC : Blk w gC 50 (comC c).toArray) (hT : Blk w gT 3 #[.int .i64 t])
include hC hT
theorem cm_catch : CallsD Tryz.prog 224 #[.pointer (some ⟨gC, 0, none⟩), .pointer (some ⟨gT, 0, none⟩)] (.panicking faultV) w fun e u' w' => e = .returned (.tuple #[]) ∧ settle u' = .returning ∧ Blk w' gC 50 (comC { c with v := 0, flt := true }).toArray ∧ Blk w' gT 3 #[.int .i64 5] ∧ Chg [gC, gT] w w' := by
  refine callsD_of_wpS Tryz.func224 rfl fun c₀ cs hu => ?_
  apply wpS_seq
  apply wpS_region
  simp [wpOpsS, go_sem, recoverD, hu, faultV, run_tf_fault, Tryz.ntmps224, Exit.thenS]
  rw [tm12]
  refine wpS_of_wp ?_
  obtain ⟨w1, hw1⟩ : ∃ w1, w1 = w.alloc (.cells #[] 317) := ⟨_, rfl⟩
  have c01 : Chg [] w w1 := by rw [hw1]; exact (Chg.refl _ _).alloc _
  rw [← hw1]
  clear hw1
  have C1 := c01.blk hC (by simp)
  have T1 := c01.blk hT (by simp)
  have n1 : gT ≠ gC := hT.ne_ hC (by decide)
  have z4 : w1.cell? ⟨gC, 4, none⟩ = some (.int .i64 c.v) := C1.cellv 4 rfl
  have z5 : w1.cell? ⟨gC, 5, none⟩ = some (.bool c.flt) := C1.cellv 5 rfl
  have z0 : w1.cell? ⟨gT, 0, none⟩ = some (.int .i64 t) := T1.cellv 0 rfl
  have f4 := C1.frozen 4
  have f5 := C1.frozen 5
  have f0 := T1.frozen 0
  have HX := Lib.hid (And.intro C1 (And.intro T1 c01)); clear C1 T1 c01 hC hT
  go_wp2_with fail
  have C2 := (HX.out.1.setv 4 (.int .i64 0) (cs' := (comC { c with v := 0 }).toArray) rfl).setv 5 (.bool true) (cs' := (comC { c with v := 0, flt := true }).toArray) rfl
  have C3 := C2.far (p := ⟨gT, 0, none⟩) n1.symm (.int .i64 5)
  have T2 := (HX.out.2.1.far (p := ⟨gC, 4, none⟩) n1 (.int .i64 0)).far (p := ⟨gC, 5, none⟩) n1 (.bool true)
  have T3 := T2.setv 0 (.int .i64 5) (cs' := #[.int .i64 5]) rfl
  have D3 := ((((Chg.refl [gC, gT] w1).setCell (p := ⟨gC, 4, none⟩) (.inl (by simp)) (.int .i64 0)).setCell (p := ⟨gC, 5, none⟩) (.inl (by simp)) (.bool true)).setCell (p := ⟨gT, 0, none⟩) (.inl (by simp)) (.int .i64 5))
  refine ⟨rfl, _, rfl, _, by simp [results, Tryz.results224], rfl, rfl, C3, T3, (HX.out.2.2.mono (by simp)).trans D3⟩
end
section
variable {w0 w : World} {gC gT gI gA gY gM gp gg : Nat} {c : ComA} {i : Ins} {addr : Int} {yb gm q g : Nat} {D : List Nat} {p : MAt} {m : Mac} {Q : MAt → Prop}
theorem in_data (K : CmW w0 gC gT gI gA gY gM gp gg c 2 i addr yb gm q g w) (hi : i.o = 4) (hn : ∀ k ∈ [gC, gT, gI, gA, gY, gM, gp, gg], k ∉ D) (m2 : Mac) (v : Int)
    (hc : Calls Tryz.prog 225 #[.pointer (some ⟨gm, 0, none⟩), .int .i64 (q : Nat), .pointer (some ⟨yb, 0, none⟩), insV i] w (CtlPost D w Q m2 v)) :
    Calls Tryz.prog 223 #[.pointer (some ⟨gC, 0, none⟩), .pointer (some ⟨gT, 0, none⟩), .pointer (some ⟨gI, 0, none⟩), .pointer (some ⟨gA, 0, none⟩), .pointer (some ⟨gY, 0, none⟩), .pointer (some ⟨gM, 0, none⟩), .pointer (some ⟨gp, 0, none⟩), .pointer (some ⟨gg, 0, none⟩)] w (InnrPost D w gC gT Q m2 { c with v := v } 2) := by
  have hmf : ∀ (fn : Fn) (first cap : Array Value) (w : World), (Instr.makeFunc fn first cap).run Tryz.prog w = .ok (.func fn first cap) w := fun _ _ _ _ => rfl
  obtain ⟨io, ia, ib, ic⟩ := i
  have hi : io = 4 := hi
  subst hi
  have i0 : w.cell? ⟨gI, 0, none⟩ = some (.int .i64 4) := K.I.cellv 0 rfl
  have i1 : w.cell? ⟨gI, 1, none⟩ = some (.int .i64 (ia : Nat)) := K.I.cellv 1 rfl
  have i2 : w.cell? ⟨gI, 2, none⟩ = some (.int .i64 (ib : Nat)) := K.I.cellv 2 rfl
  have i3 : w.cell? ⟨gI, 3, none⟩ = some (.int .i64 (ic : Nat)) := K.I.cellv 3 rfl
  have m0 : w.cell? ⟨gM, 0, none⟩ = some (.pointer (some ⟨gm, 0, none⟩)) := K.M.cellv 0 rfl
  have p0 : w.cell? ⟨gp, 0, none⟩ = some (.int .i64 (q : Nat)) := K.p.cellv 0 rfl
  have y0 : w.cell? ⟨gY, 0, none⟩ = some (.pointer (some ⟨yb, 0, none⟩)) := K.Y.cellv 0 rfl
  have HK := Lib.hid (And.intro K (And.intro hn hc)); clear K hn hc
  go_enter_defers Tryz.func223, Tryz.ntmps223
  go_wp2_with fail
  refine (HK.out.2.2).mono ?_
  rintro e w2 ⟨rfl, p2, hQ2, M2⟩
  have C2 := M2.c.blk HK.out.1.C (HK.out.2.1 _ (by simp))
  have T2 := M2.c.blk HK.out.1.T (HK.out.2.1 _ (by simp))
  have z4 : w2.cell? ⟨gC, 4, none⟩ = some (.int .i64 c.v) := C2.cellv 4 rfl
  have f4 := C2.frozen 4
  have H2 := Lib.hid (And.intro hQ2 (And.intro M2 (And.intro C2 T2))); clear hQ2 M2 C2 T2
  go_wp2_with fail
  refine leaves_cons (f := 224) (args := #[.pointer (some ⟨gC, 0, none⟩), .pointer (some ⟨gT, 0, none⟩)]) (by simp) (by simp [go_sem]) ?_
  refine (cm_catch_idle _ _ _).mono ?_
  rintro e u' w'' ⟨rfl, rfl, c'⟩
  show Leaves _ _ _ _ [] .returning w''
  have C3 := H2.out.2.2.1.setv 4 (.int .i64 v) (cs' := (comC { c with v := v }).toArray) rfl
  have n2 : gT ≠ gC := fun e => HK.out.1.C.ne_ HK.out.1.T (by decide) e.symm
  have T3 := H2.out.2.2.2.far (p := ⟨gC, 4, none⟩) n2 (.int .i64 v)
  exact ⟨_, results_none rfl _ _ _, rfl, w2, p2, H2.out.1, H2.out.2.1, (((Chg.refl [gC] w2).setCell (.inl (by simp)) (.int .i64 v)).trans (c'.mono (by simp))).mono (by simp), c'.blk C3 (by simp), c'.blk T3 (by simp)⟩
theorem in_fault (K : CmW w0 gC gT gI gA gY gM gp gg c 2 i addr yb gm q g w) (hi : i.o = 2) (M : MM ⟨w, D⟩ w p m) (hQ : Q p)
    (hc : Calls Tryz.prog 225 #[.pointer (some ⟨gm, 0, none⟩), .int .i64 (q : Nat), .pointer (some ⟨yb, 0, none⟩), insV i] w (ThPost w)) :
    Calls Tryz.prog 223 #[.pointer (some ⟨gC, 0, none⟩), .pointer (some ⟨gT, 0, none⟩), .pointer (some ⟨gI, 0, none⟩), .pointer (some ⟨gA, 0, none⟩), .pointer (some ⟨gY, 0, none⟩), .pointer (some ⟨gM, 0, none⟩), .pointer (some ⟨gp, 0, none⟩), .pointer (some ⟨gg, 0, none⟩)] w (InnrPost D w gC gT Q m { c with v := 0, flt := true } 5) := by
  have hmf : ∀ (fn : Fn) (first cap : Array Value) (w : World), (Instr.makeFunc fn first cap).run Tryz.prog w = .ok (.func fn first cap) w := fun _ _ _ _ => rfl
  obtain ⟨io, ia, ib, ic⟩ := i
  have hi : io = 2 := hi
  subst hi
  have i0 : w.cell? ⟨gI, 0, none⟩ = some (.int .i64 2) := K.I.cellv 0 rfl
  have i1 : w.cell? ⟨gI, 1, none⟩ = some (.int .i64 (ia : Nat)) := K.I.cellv 1 rfl
  have i2 : w.cell? ⟨gI, 2, none⟩ = some (.int .i64 (ib : Nat)) := K.I.cellv 2 rfl
  have i3 : w.cell? ⟨gI, 3, none⟩ = some (.int .i64 (ic : Nat)) := K.I.cellv 3 rfl
  have m0 : w.cell? ⟨gM, 0, none⟩ = some (.pointer (some ⟨gm, 0, none⟩)) := K.M.cellv 0 rfl
  have p0 : w.cell? ⟨gp, 0, none⟩ = some (.int .i64 (q : Nat)) := K.p.cellv 0 rfl
  have y0 : w.cell? ⟨gY, 0, none⟩ = some (.pointer (some ⟨yb, 0, none⟩)) := K.Y.cellv 0 rfl
  have HK := Lib.hid (And.intro K (And.intro M (And.intro hQ hc))); clear K M hQ hc
  go_enter_defers Tryz.func223, Tryz.ntmps223
  go_wp2_with fail
  refine (HK.out.2.2.2).mono ?_
  rintro e w2 ⟨rfl, c2⟩
  have C2 := c2.blk HK.out.1.C (by simp)
  have T2 := c2.blk HK.out.1.T (by simp)
  have M2 := HK.out.2.1.chg0 c2
  have H2 := Lib.hid (And.intro M2 (And.intro C2 T2)); clear M2 C2 T2 c2
  refine leaves_cons (f := 224) (args := #[.pointer (some ⟨gC, 0, none⟩), .pointer (some ⟨gT, 0, none⟩)]) (by simp) (by simp [go_sem]) ?_
  refine (cm_catch w2 gC gT c 2 H2.out.2.1 H2.out.2.2).mono ?_
  rintro e u' w'' ⟨rfl, hu, C3, T3, c3⟩
  show Leaves _ _ _ _ [] (settle u') w''
  rw [hu]
  exact ⟨_, results_none rfl _ _ _, rfl, w2, p, HK.out.2.2.1, H2.out.1, c3, C3, T3⟩
end
end Go.Proofs.YtepnlcemlnkpdaaGreatDoor
