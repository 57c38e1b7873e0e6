/- Package code: Decode: the closure that catches what is thrown. -/
import Derived.Test.YtoeppmnoifankaaGreatDoorMcJ
import Derived.Test.YtoeppmnoifankaaGreatDoorMcOJ
import Derived.Test.YtoeppmnoifankaaGreatDoorMPa
import Derived.Recover
namespace Go.Proofs.YtoeppmnoifankaaGreatDoor
open Go.RowKit Go.Maps

theorem run_ta_nil (w : World) : (Instr.typeAssert .nilIface 20 226 true).run Tryz.prog w = .ok (.tuple #[.agg #[.int .i64 0], .bool false]) w := by kernel_rfl
theorem run_ta_bad (w : World) (k : Int) : (Instr.typeAssert (.iface 226 (.agg #[.int .i64 k])) 20 226 true).run Tryz.prog w = .ok (.tuple #[.agg #[.int .i64 k], .bool true]) w := by kernel_rfl
theorem tm14 (a b c r t g o p : Value) : (#[a, b, c] ++ (((((((Array.replicate 11 undef).setIfInBounds 3 r).setIfInBounds 4 t).setIfInBounds 2 t).setIfInBounds 5 g).setIfInBounds 6 o).setIfInBounds 0 p).setIfInBounds 1 o) = #[a, b, c, p, o, t, r, t, g, o, undef, undef, undef, undef] := by
  rw [← Array.toList_inj]
  simp only [Array.toList_append, Array.toList_setIfInBounds, Array.toList_replicate]
  rfl
section
variable (w : World) (gP gE gA : Nat) (v0 v1 : Value) (n0 n1 : Int) (hP : Blk w gP 30 #[v0, v1]) (hE : Blk w gE 3 #[.int .i64 n0]) (hA : Blk w gA 3 #[.int .i64 n1])
include hP hE hA
set_option maxHeartbeats 1600000 in
set_option maxRecDepth 100000 in
theorem cd_catch_idle : CallsD Tryz.prog 127 #[.pointer (some ⟨gP, 0, none⟩), .pointer (some ⟨gE, 0, none⟩), .pointer (some ⟨gA, 0, none⟩)] .returning w fun e u' w' => e = .returned (.tuple #[]) ∧ u' = .returning ∧ Chg [] w w' := by
  have _ := And.intro hP (And.intro hE hA)
  refine callsD_of_wpS Tryz.func127 rfl fun c₀ cs hu => ?_
  apply wpS_seq
  apply wpS_region
  simp [wpOpsS, go_sem, recoverD, hu, run_ta_nil, Tryz.ntmps127, Exit.thenS]
  rw [tm14]
  refine wpS_of_wp ?_
  go_wp2_with fail
  cases c₀
  simp_all [bodyPostS, results, Tryz.results127]
  exact (Chg.refl [] w).alloc _
set_option maxHeartbeats 1600000 in
set_option maxRecDepth 100000 in
theorem cd_catch (k : Nat) (he : gE ≠ gA) : CallsD Tryz.prog 127 #[.pointer (some ⟨gP, 0, none⟩), .pointer (some ⟨gE, 0, none⟩), .pointer (some ⟨gA, 0, none⟩)] (.panicking (badV k)) w fun e u' w' => e = .returned (.tuple #[]) ∧ settle u' = .returning ∧ Blk w' gP 30 #[.int .i64 0, .slice none 0 0] ∧ Blk w' gE 3 #[.int .i64 6] ∧ Blk w' gA 3 #[.int .i64 (k : Nat)] ∧ Chg [gP, gE, gA] w w' := by
  refine callsD_of_wpS Tryz.func127 rfl fun c₀ cs hu => ?_
  apply wpS_seq
  apply wpS_region
  simp [wpOpsS, go_sem, recoverD, hu, badV, run_ta_bad, Tryz.ntmps127, Exit.thenS]
  rw [tm14]
  refine wpS_of_wp ?_
  go_wp2_with fail
  obtain ⟨w1, hw1⟩ : ∃ w1, w1 = w.alloc (.cells #[.int .i64 (k : Nat)] 226) := ⟨_, rfl⟩
  have c0 : w1.cell? ⟨w.heap.size, 0, none⟩ = some (.int .i64 (k : Nat)) := by rw [hw1]; exact (Blk.new w 226 #[.int .i64 (k : Nat)]).cellv 0 rfl
  have hl : w.heap.size < w1.heap.size := by rw [hw1, World.size_alloc]; omega
  have hn : w.heap.size ∉ [gP, gE, gA] := by have := hP.lt; have := hE.lt; have := hA.lt; simp; omega
  have c01 : Chg [] w w1 := by rw [hw1]; exact (Chg.refl _ _).alloc _
  rw [← hw1]
  clear hw1
  have HB0 := Lib.hid c01
  have HB := Lib.hid (And.intro (c01.blk hP (by simp)) (And.intro (c01.blk hE (by simp)) (And.intro (c01.blk hA (by simp)) (And.intro (hE.ne_ hP (by decide)) (And.intro (hA.ne_ hP (by decide)) he)))))
  clear hP hE hA c01 he
  refine wp_region_takes (fuel := 3) 5 (fun w' => Chg [gP, gE, gA] w1 w') [0, 1, 2] (by kernel_rfl) (by kernel_rfl) (fun _ _ _ _ _ h => h) (((Chg.refl [gP, gE, gA] w1).drew)) ?_
  simp only [List.filterMap_cons, List.filterMap_nil, List.getElem?_cons_zero, List.getElem?_cons_succ]
  refine wpTake_step (fun K hK => ?_)
  rw [if_pos (by rfl)]
  refine ⟨?_, fun w' hS' => ?_, ?_⟩
  rotate_left 1
  focus
    have j0 := hS'.cellv hl hn c0
    go_simp
    try with_reducible rfl
    done
  simp only [Act.put, List.setIfInBounds_toArray, List.set_cons_zero, List.set_cons_succ]
  refine hK _ ?_
  clear hK K
  refine wpTake_step (fun K hK => ?_)
  rw [if_pos (by rfl)]
  refine ⟨?_, fun w' hS' => ?_, ?_⟩
  rotate_left 1
  focus
    have j0 := hS'.cellv hl hn c0
    go_simp
    try with_reducible rfl
    done
  simp only [Act.put, List.setIfInBounds_toArray, List.set_cons_zero, List.set_cons_succ]
  refine hK _ ?_
  clear hK K
  refine wpTake_step (fun K hK => ?_)
  rw [if_pos (by rfl)]
  refine ⟨?_, fun w' hS' => ?_, ?_⟩
  rotate_left 1
  focus
    have j0 := hS'.cellv hl hn c0
    go_simp
    try with_reducible rfl
    done
  simp only [Act.put, List.setIfInBounds_toArray, List.set_cons_zero, List.set_cons_succ]
  refine hK _ ?_
  clear hK K
  refine wpTake_nil ?_
  generalize hx0 : w1.drew = x0
  have D0 : Chg [] w1 x0 := by rw [← hx0]; exact (Chg.refl [] w1).drew
  clear hx0
  refine wpAnyS_ready (rs := [3]) (by kernel_rfl) (by simp) ?_
  refine AllReadyS.cons (by simp only [List.getElem?_toArray, List.getElem?_cons_zero, List.getElem?_cons_succ]; rfl) (fun K hK => ?_) ?_
  · rw [if_pos (by rfl)]
    have z0 : x0.cell? ⟨gP, 0, none⟩ = some v0 := (D0.blk HB.out.1 (by simp)).cellv 0 rfl
    have z1 : x0.cell? ⟨gP, 1, none⟩ = some v1 := (D0.blk HB.out.1 (by simp)).cellv 1 rfl
    have y0 := (D0.blk HB.out.1 (by simp)).frozen 0
    have y1 := (D0.blk HB.out.1 (by simp)).frozen 1
    go_simp
    generalize hx1 : World.setCell (World.setCell x0 ⟨gP, 0, none⟩ (.int .i64 0)) ⟨gP, 1, none⟩ (.slice none 0 0) = x1
    have P1 : Blk x1 gP 30 #[.int .i64 0, .slice none 0 0] := by rw [← hx1]; exact ((D0.blk HB.out.1 (by simp)).set_ 0 _).setv 1 _ rfl
    have D1 : Chg [gP, gE, gA] w1 x1 := by rw [← hx1]; exact (((D0.mono (by simp)).setCell (.inl (by simp)) _).setCell (.inl (by simp)) _)
    have E1 : Blk x1 gE 3 #[.int .i64 n0] := by rw [← hx1]; exact ((D0.blk HB.out.2.1 (by simp)).far (p := ⟨gP, 0, none⟩) HB.out.2.2.2.1 _).far (p := ⟨gP, 1, none⟩) HB.out.2.2.2.1 _
    have A1 : Blk x1 gA 3 #[.int .i64 n1] := by rw [← hx1]; exact ((D0.blk HB.out.2.2.1 (by simp)).far (p := ⟨gP, 0, none⟩) HB.out.2.2.2.2.1 _).far (p := ⟨gP, 1, none⟩) HB.out.2.2.2.2.1 _
    clear hx1 z0 z1 y0 y1
    refine hK _ _ (D1) ?_
    clear hK K
    try simp only [Act.put, List.setIfInBounds_toArray, List.set_cons_zero, List.set_cons_succ]
    refine wpAnyS_ready (rs := [4]) (by kernel_rfl) (by simp) ?_
    refine AllReadyS.cons (by simp only [List.getElem?_toArray, List.getElem?_cons_zero, List.getElem?_cons_succ]; rfl) (fun K hK => ?_) ?_
    · rw [if_pos (by rfl)]
      have z0 : x1.cell? ⟨gE, 0, none⟩ = some (.int .i64 n0) := E1.cellv 0 rfl
      have y0 := E1.frozen 0
      go_simp
      generalize hx2 : World.setCell x1 ⟨gE, 0, none⟩ (.int .i64 6) = x2
      have P2 : Blk x2 gP 30 #[.int .i64 0, .slice none 0 0] := by rw [← hx2]; exact P1.far (p := ⟨gE, 0, none⟩) HB.out.2.2.2.1.symm _
      have D2 : Chg [gP, gE, gA] w1 x2 := by rw [← hx2]; exact D1.setCell (.inl (by simp)) _
      have E2 : Blk x2 gE 3 #[.int .i64 6] := by rw [← hx2]; exact E1.setv 0 _ rfl
      have A2 : Blk x2 gA 3 #[.int .i64 n1] := by rw [← hx2]; exact A1.far (p := ⟨gE, 0, none⟩) HB.out.2.2.2.2.2.symm _
      clear hx2 z0 y0
      refine hK _ _ (D2) ?_
      clear hK K
      try simp only [Act.put, List.setIfInBounds_toArray, List.set_cons_zero, List.set_cons_succ]
      refine wpAnyS_tail 5 1 (by kernel_rfl) rfl ?_
      simp only [List.drop_succ_cons, List.drop_zero]
      have z0 : x2.cell? ⟨gA, 0, none⟩ = some (.int .i64 n1) := A2.cellv 0 rfl
      have y0 := A2.frozen 0
      have HX := Lib.hid (And.intro P2 (And.intro D2 (And.intro E2 A2)))
      clear P2 D2 E2 A2 P1 D1 E1 A1 D0
      go_wp2_with fail
      have P3 := HX.out.1.far (p := ⟨gA, 0, none⟩) HB.out.2.2.2.2.1.symm (.int .i64 (k : Nat))
      have E3 := HX.out.2.2.1.far (p := ⟨gA, 0, none⟩) HB.out.2.2.2.2.2 (.int .i64 (k : Nat))
      have A3 := HX.out.2.2.2.setv 0 (.int .i64 (k : Nat)) (cs' := #[.int .i64 (k : Nat)]) rfl
      have D3 := HX.out.2.1.setCell (p := ⟨gA, 0, none⟩) (.inl (by simp)) (.int .i64 (k : Nat))
      refine ⟨rfl, _, rfl, _, by simp [results, Tryz.results127], rfl, rfl, P3, E3, A3, (HB0.out.mono (by simp)).trans D3⟩
    exact AllReadyS.nil
  exact AllReadyS.nil
end
end Go.Proofs.YtoeppmnoifankaaGreatDoor
