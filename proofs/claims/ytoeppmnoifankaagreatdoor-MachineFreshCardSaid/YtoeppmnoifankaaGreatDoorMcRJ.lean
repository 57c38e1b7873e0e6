/- Package ring: a P's goroutines, as long as its row is not full and nobody is told to be next. -/
/- Package ring: Put, Get, where nobody is told to be next. -/
import Derived.Test.YtoeppmnoifankaaGreatDoorMcQJ
import Derived.Test.YtoeppmnoifankaaGreatDoorMOw
import Derived.Test.YtoeppmnoifankaaGreatDoorMCl
import Derived.Test.YtoeppmnoifankaaGreatDoorMBitJ
namespace Go.Proofs.YtoeppmnoifankaaGreatDoor
open Go.RowKit Go.Maps

/-- Behind what turns one block alone, and makes none. -/
def RgPost (g : Nat) (v : Value) (r : RgR) (w : World) (e : Ending) (w' : World) : Prop := e = .returned v ∧ Blk w' g 253 (rgC r) ∧ Chg [g] w w'
set_option maxHeartbeats 1600000 in
set_option maxRecDepth 100000 in
theorem rg_new (w : World) : Calls Tryz.prog 137 #[] w fun e w' => ∃ g, e = .returned (.pointer (some ⟨g, 0, none⟩)) ∧ w.heap.size ≤ g ∧ Blk w' g 253 (rgC rg0) ∧ Chg [] w w' := by
  go_enter Tryz.func137, Tryz.ntmps137
  go_wp2_with fail
  go_ret
  exact ⟨w.heap.size, rfl, Nat.le_refl _, Blk.new _ _ _, (Chg.refl _ _).alloc _⟩
section
variable (w : World) (g : Nat) (r : RgR) (hB : Blk w g 253 (rgC r))
include hB
set_option maxHeartbeats 1600000 in
set_option maxRecDepth 100000 in
theorem rg_at (i : Nat) (hf : r.fr < 256) (hi : i ≤ 256) : Calls Tryz.prog 145 #[.pointer (some ⟨g, 0, none⟩), .int .i64 (i : Nat)] w (NwPost (.pointer (some ⟨g, (r.fr + i) % 256, none⟩)) w) := by
  have c0 := hB.cellv 256 (rgC_fr r)
  have d0 : (0 : Int) ≤ (((r.fr + i) % 256 : Nat) : Int) := by omega
  have d1 : (((r.fr + i) % 256 : Nat) : Int) < 256 := by omega
  have e1 : ((r.fr : Int) + (i : Int)).tmod 256 = (((r.fr + i) % 256 : Nat) : Int) := by rw [Int.tmod_eq_emod_of_nonneg (by omega)]; omega
  go_enter Tryz.func145, Tryz.ntmps145
  go_wp2_with fail
  go_quiet (fail)
  go_wp2_with fail
  go_ret
  exact ⟨rfl, (Chg.refl _ _).drewN _⟩
set_option maxHeartbeats 1600000 in
set_option maxRecDepth 100000 in
theorem rg_first (hf : r.fr < 256) (h0 : 0 < r.n) (hn : r.n ≤ 256) : Calls Tryz.prog 227 #[.pointer (some ⟨g, 0, none⟩)] w (RgPost g (.int .i64 (r.l r.fr)) { r with fr := (r.fr + 1) % 256, n := r.n - 1 } w) := by
  have K := rg_at w g r hB 0 hf (by omega)
  rw [Nat.add_zero, Nat.mod_eq_of_lt hf] at K
  have HB := Lib.hid (And.intro K hB); clear hB K
  go_enter Tryz.func227, Tryz.ntmps227
  go_wp2_with fail
  refine HB.out.1.mono ?_
  rintro e w1 ⟨rfl, c1⟩
  have B1 := c1.blk HB.out.2 (by simp)
  have c0 := B1.cellv r.fr (rgC_at r hf)
  have ca := B1.cellv 256 (rgC_fr r)
  have cb := B1.cellv 257 (rgC_n r)
  have fa := B1.frozen 256
  have fb := B1.frozen 257
  have HC := Lib.hid (And.intro c1 B1); clear c1 B1
  have e1 : ((r.fr : Int) + 1).tmod 256 = (((r.fr + 1) % 256 : Nat) : Int) := by rw [Int.tmod_eq_emod_of_nonneg (by omega)]; omega
  have e2 : (r.n : Int) - 1 = ((r.n - 1 : Nat) : Int) := by omega
  go_wp2_with fail
  have hgl : g < w1.heap.size := HC.out.2.lt
  refine wp_region_takes (fuel := 9) 16 (fun w' => Chg [g] w1 w' ∧ w'.cell? ⟨g, 257, none⟩ = some (.int .i64 (r.n : Nat))) [0, 1, 2, 3, 4, 8, 9, 10, 11, 12] (by kernel_rfl) (by kernel_rfl) (fun _ _ _ _ _ h => h) (⟨((Chg.refl [] w1).drew).mono (by simp), cb⟩) ?_
  simp only [List.filterMap_cons, List.filterMap_nil, List.getElem?_cons_zero, List.getElem?_cons_succ]
  refine wpTake_step (fun K hK => ?_)
  rw [if_pos (by rfl)]
  refine ⟨?_, fun w' hS' => ?_, ?_⟩
  rotate_left 1
  focus
    have yb := hS'.2
    go_simp
    try with_reducible rfl
    done
  simp only [Act.put, List.setIfInBounds_toArray, List.set_cons_zero, List.set_cons_succ]
  refine hK _ ?_
  clear hK K
  refine wpTake_step (fun K hK => ?_)
  rw [if_pos (by rfl)]
  refine ⟨?_, fun w' hS' => ?_, ?_⟩
  rotate_left 1
  focus
    have yb := hS'.2
    go_simp
    try with_reducible rfl
    done
  simp only [Act.put, List.setIfInBounds_toArray, List.set_cons_zero, List.set_cons_succ]
  refine hK _ ?_
  clear hK K
  refine wpTake_step (fun K hK => ?_)
  rw [if_pos (by rfl)]
  refine ⟨?_, fun w' hS' => ?_, ?_⟩
  rotate_left 1
  focus
    have yb := hS'.2
    go_simp
    try with_reducible rfl
    done
  simp only [Act.put, List.setIfInBounds_toArray, List.set_cons_zero, List.set_cons_succ]
  refine hK _ ?_
  clear hK K
  refine wpTake_step (fun K hK => ?_)
  rw [if_pos (by rfl)]
  refine ⟨?_, fun w' hS' => ?_, ?_⟩
  rotate_left 1
  focus
    have yb := hS'.2
    go_simp
    try with_reducible rfl
    done
  simp only [Act.put, List.setIfInBounds_toArray, List.set_cons_zero, List.set_cons_succ]
  refine hK _ ?_
  clear hK K
  refine wpTake_step (fun K hK => ?_)
  rw [if_pos (by rfl)]
  refine ⟨?_, fun w' hS' => ?_, ?_⟩
  rotate_left 1
  focus
    have yb := hS'.2
    go_simp
    try with_reducible rfl
    done
  simp only [Act.put, List.setIfInBounds_toArray, List.set_cons_zero, List.set_cons_succ]
  refine hK _ ?_
  clear hK K
  refine wpTake_step (fun K hK => ?_)
  rw [if_pos (by rfl)]
  refine ⟨?_, fun w' hS' => ?_, ?_⟩
  rotate_left 1
  focus
    have yb := hS'.2
    go_simp
    try with_reducible rfl
    done
  simp only [Act.put, List.setIfInBounds_toArray, List.set_cons_zero, List.set_cons_succ]
  refine hK _ ?_
  clear hK K
  refine wpTake_step (fun K hK => ?_)
  rw [if_pos (by rfl)]
  refine ⟨?_, fun w' hS' => ?_, ?_⟩
  rotate_left 1
  focus
    have yb := hS'.2
    go_simp
    try with_reducible rfl
    done
  simp only [Act.put, List.setIfInBounds_toArray, List.set_cons_zero, List.set_cons_succ]
  refine hK _ ?_
  clear hK K
  refine wpTake_step (fun K hK => ?_)
  rw [if_pos (by rfl)]
  refine ⟨?_, fun w' hS' => ?_, ?_⟩
  rotate_left 1
  focus
    have yb := hS'.2
    go_simp
    try with_reducible rfl
    done
  simp only [Act.put, List.setIfInBounds_toArray, List.set_cons_zero, List.set_cons_succ]
  refine hK _ ?_
  clear hK K
  refine wpTake_step (fun K hK => ?_)
  rw [if_pos (by rfl)]
  refine ⟨?_, fun w' hS' => ?_, ?_⟩
  rotate_left 1
  focus
    have yb := hS'.2
    go_simp
    try with_reducible rfl
    done
  simp only [Act.put, List.setIfInBounds_toArray, List.set_cons_zero, List.set_cons_succ]
  refine hK _ ?_
  clear hK K
  refine wpTake_step (fun K hK => ?_)
  rw [if_pos (by rfl)]
  refine ⟨?_, fun w' hS' => ?_, ?_⟩
  rotate_left 1
  focus
    have yb := hS'.2
    go_simp
    try with_reducible rfl
    done
  simp only [Act.put, List.setIfInBounds_toArray, List.set_cons_zero, List.set_cons_succ]
  refine hK _ ?_
  clear hK K
  refine wpTake_nil ?_
  generalize hx0 : w1.drew = x0
  have D0 : Chg [] w1 x0 := by rw [← hx0]; exact (Chg.refl [] w1).drew
  clear hx0
  refine wpAnyS_ready (rs := [5]) (by kernel_rfl) (by simp) ?_
  refine AllReadyS.cons (by simp only [List.getElem?_toArray, List.getElem?_cons_zero, List.getElem?_cons_succ]; rfl) (fun K hK => ?_) ?_
  · have y1 := D0.cellv hgl (by simp) ca
    rw [if_pos (by rfl)]
    go_simp
    refine hK _ _ (⟨D0.mono (by simp), D0.cellv hgl (by simp) cb⟩) ?_
    clear hK K
    try simp only [Act.put, List.setIfInBounds_toArray, List.set_cons_zero, List.set_cons_succ]
    refine wpAnyS_more (fuel := 4) [6, 7, 13, 14] (by kernel_rfl) (fun _ _ _ _ _ h => h) ⟨D0.mono (by simp), D0.cellv hgl (by simp) cb⟩ ?_
    simp only [List.filterMap_cons, List.filterMap_nil, List.getElem?_cons_zero, List.getElem?_cons_succ]
    refine wpTake_step (fun K hK => ?_)
    rw [if_pos (by rfl)]
    refine ⟨?_, fun w' hS' => ?_, ?_⟩
    rotate_left 1
    focus
      have yb := hS'.2
      go_simp
      try with_reducible rfl
      done
    simp only [Act.put, List.setIfInBounds_toArray, List.set_cons_zero, List.set_cons_succ]
    refine hK _ ?_
    clear hK K
    refine wpTake_step (fun K hK => ?_)
    rw [if_pos (by rfl)]
    refine ⟨?_, fun w' hS' => ?_, ?_⟩
    rotate_left 1
    focus
      have yb := hS'.2
      go_simp
      try with_reducible rfl
      done
    simp only [Act.put, List.setIfInBounds_toArray, List.set_cons_zero, List.set_cons_succ]
    refine hK _ ?_
    clear hK K
    refine wpTake_step (fun K hK => ?_)
    rw [if_pos (by rfl)]
    refine ⟨?_, fun w' hS' => ?_, ?_⟩
    rotate_left 1
    focus
      have yb := hS'.2
      go_simp
      try with_reducible rfl
      done
    simp only [Act.put, List.setIfInBounds_toArray, List.set_cons_zero, List.set_cons_succ]
    refine hK _ ?_
    clear hK K
    refine wpTake_step (fun K hK => ?_)
    rw [if_pos (by rfl)]
    refine ⟨?_, fun w' hS' => ?_, ?_⟩
    rotate_left 1
    focus
      have yb := hS'.2
      go_simp
      try with_reducible rfl
      done
    simp only [Act.put, List.setIfInBounds_toArray, List.set_cons_zero, List.set_cons_succ]
    refine hK _ ?_
    clear hK K
    refine wpTake_nil ?_
    refine wpAnyS_ready (rs := [15]) (by kernel_rfl) (by simp) ?_
    refine AllReadyS.cons (by simp only [List.getElem?_toArray, List.getElem?_cons_zero, List.getElem?_cons_succ]; rfl) (fun K hK => ?_) ?_
    · have y2 : x0.frozen? ⟨g, 256, none⟩ = false := (D0.blk HC.out.2 (by simp)).frozen 256
      rw [if_pos (by rfl)]
      go_simp
      refine hK _ _ (⟨(D0.mono (by simp)).setCell (.inl (by simp)) _, by rw [World.cell?_setCell_other _ _ _ _ (by simp)]; exact D0.cellv hgl (by simp) cb⟩) ?_
      clear hK K
      try simp only [Act.put, List.setIfInBounds_toArray, List.set_cons_zero, List.set_cons_succ]
      refine wpAnyS_tail 16 3 (by kernel_rfl) rfl ?_
      simp only [List.drop_succ_cons, List.drop_zero]
      have y3 := D0.cellv hgl (by simp) cb
      have y4 : x0.frozen? ⟨g, 257, none⟩ = false := (D0.blk HC.out.2 (by simp)).frozen 257
      have HD := Lib.hid (And.intro D0 HC.out); clear D0 HC HB
      go_wp2_with fail
      have z1 : ((r.fr : Int) + 1) % 256 = (((r.fr + 1) % 256 : Nat) : Int) := by omega
      rw [z1]
      go_ret
      have B2 := ((HD.out.1.blk HD.out.2.2 (by simp)).setv 256 _ (rgC_setfr r ((r.fr + 1) % 256))).setv 257 _ (rgC_setn _ (r.n - 1))
      exact ⟨rfl, B2, (((HD.out.2.1.trans HD.out.1).mono (by simp)).setCell (.inl (by simp)) _).setCell (.inl (by simp)) _⟩
    exact AllReadyS.nil
  exact AllReadyS.nil
set_option maxHeartbeats 1600000 in
set_option maxRecDepth 100000 in
theorem rg_behind (x : Int) (hf : r.fr < 256) (h1 : r.n < 256) : Calls Tryz.prog 153 #[.pointer (some ⟨g, 0, none⟩), .int .i64 x] w (RgPost g (.slice none 0 0) { r with l := fun k => if k = (r.fr + r.n) % 256 then x else r.l k, n := r.n + 1 } w) := by
  have cb := hB.cellv 257 (rgC_n r)
  have d0 : decide ((r.n : Int) < 256) = true := decide_eq_true (by omega)
  have d1 : (r.n : Int) < 256 := by omega
  go_enter Tryz.func153, Tryz.ntmps153
  have KA := rg_at w g r hB r.n hf (by omega)
  have HB := Lib.hid (And.intro hB KA); clear hB KA
  go_wp2_with fail
  refine HB.out.2.mono ?_
  rintro e x1 ⟨rfl, D1⟩
  have B1 := D1.blk HB.out.1 (by simp)
  have f1 := B1.frozen ((r.fr + r.n) % 256)
  have c9 := B1.cellv ((r.fr + r.n) % 256) (rgC_at r (by omega))
  have HD := Lib.hid (And.intro D1 B1)
  clear D1 B1 HB
  go_upto_region 3 with fail
  obtain ⟨x2, hx2⟩ : ∃ x2, x2 = x1.setCell ⟨g, (r.fr + r.n) % 256, none⟩ (.int .i64 x) := ⟨_, rfl⟩
  rw [← hx2]
  have B2 : Blk x2 g 253 (rgC { r with l := fun k => if k = (r.fr + r.n) % 256 then x else r.l k }) := by rw [hx2]; exact HD.out.2.setv _ _ (rgC_setl r (by omega) x)
  have C2 : Chg [g] w x2 := by rw [hx2]; exact (HD.out.1.mono (by simp)).setCell (.inl (by simp)) _
  have c2 : x2.cell? ⟨g, 257, none⟩ = some (.int .i64 (r.n : Nat)) := B2.cellv 257 (rgC_n _)
  have f2 := B2.frozen 257
  have HE := Lib.hid (And.intro B2 C2)
  clear B2 C2 hx2 HD
  go_wp2_with fail
  have e9 : (r.n : Int) + 1 = ((r.n + 1 : Nat) : Int) := by omega
  rw [e9]
  go_ret
  exact ⟨rfl, HE.out.1.setv 257 _ (rgC_setn _ (r.n + 1)), HE.out.2.setCell (.inl (by simp)) _⟩
end
end Go.Proofs.YtoeppmnoifankaaGreatDoor
namespace Go.Proofs.YtoeppmnoifankaaGreatDoor
open Go.RowKit Go.Maps

section
variable (w : World) (g : Nat) (r : RgR) (hB : Blk w g 253 (rgC r))
include hB
set_option maxHeartbeats 1600000 in
set_option maxRecDepth 100000 in
theorem rg_put (x : Int) (hf : r.fr < 256) (h1 : r.n < 256) : Calls Tryz.prog 103 #[.pointer (some ⟨g, 0, none⟩), .int .i64 x, .bool false] w (RgPost g (.slice none 0 0) { r with l := fun k => if k = (r.fr + r.n) % 256 then x else r.l k, n := r.n + 1 } w) := by
  have K := rg_behind w g r hB x hf h1
  have HB := Lib.hid K; clear K hB
  go_enter Tryz.func103, Tryz.ntmps103
  go_wp2_with fail
  refine HB.out.mono ?_
  rintro e w1 ⟨rfl, B1, c1⟩
  have HC := Lib.hid (And.intro B1 c1); clear B1 c1
  go_wp2_with fail
  go_ret
  exact ⟨rfl, HC.out.1, HC.out.2⟩
set_option maxHeartbeats 1600000 in
set_option maxRecDepth 100000 in
theorem rg_get1 (hs : r.hs = false) (hf : r.fr < 256) (h0 : 0 < r.n) (hn : r.n ≤ 256) : Calls Tryz.prog 183 #[.pointer (some ⟨g, 0, none⟩)] w (RgPost g (.tuple #[.int .i64 (r.l r.fr), .bool true]) { r with fr := (r.fr + 1) % 256, n := r.n - 1 } w) := by
  have c0 : w.cell? ⟨g, 259, none⟩ = some (.bool r.hs) := hB.cellv 259 (rgC_hs r)
  have c1 : w.cell? ⟨g, 257, none⟩ = some (.int .i64 (r.n : Nat)) := hB.cellv 257 (rgC_n r)
  rw [hs] at c0
  have d1 : ((r.n : Int) == 0) = false := by rw [beq_eq_false_iff_ne]; omega
  have d2 : ¬ (r.n : Int) = 0 := by omega
  have K := rg_first w g r hB hf h0 hn
  have HB := Lib.hid K; clear K hB
  go_enter Tryz.func183, Tryz.ntmps183
  go_wp2_with fail
  refine HB.out.mono ?_
  rintro e w1 ⟨rfl, B1, c1⟩
  have HC := Lib.hid (And.intro B1 c1); clear B1 c1
  go_wp2_with fail
  go_ret2
  exact ⟨rfl, HC.out.1, HC.out.2⟩
end
end Go.Proofs.YtoeppmnoifankaaGreatDoor
