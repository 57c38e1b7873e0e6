/- The methods of a machine that is nil. -/
import Derived.Test.YtoeppmnoifankaaGreatDoorMe3J
namespace Go.Proofs.YtoeppmnoifankaaGreatDoor
open Go.RowKit Go.Maps

theorem n_has (w : World) (q : Int) : Calls Tryz.prog 46 #[.pointer none, .int .i64 q] w (QuPost (.bool false) w) := by
  go_enter Tryz.func46, Tryz.ntmps46
  go_wp2_with fail
  go_ret
  exact ⟨rfl, rfl⟩
theorem n_phase (w : World) : Calls Tryz.prog 44 #[.pointer none] w (QuPost (.int .i64 0) w) := by
  go_enter Tryz.func44, Tryz.ntmps44
  go_wp2_with fail
  go_ret
  exact ⟨rfl, rfl⟩
theorem n_steps (w : World) : Calls Tryz.prog 19 #[.pointer none] w (QuPost (.int .i64 0) w) := by
  go_enter Tryz.func19, Tryz.ntmps19
  go_wp2_with fail
  go_ret
  exact ⟨rfl, rfl⟩
theorem n_freed (w : World) : Calls Tryz.prog 17 #[.pointer none] w (QuPost (.slice none 0 0) w) := by
  go_enter Tryz.func17, Tryz.ntmps17
  go_wp2_with fail
  go_ret
  exact ⟨rfl, rfl⟩
theorem n_commits (w : World) : Calls Tryz.prog 16 #[.pointer none] w (QuPost (.int .i64 0) w) := by
  go_enter Tryz.func16, Tryz.ntmps16
  go_wp2_with fail
  go_ret
  exact ⟨rfl, rfl⟩
theorem n_arena (w : World) : Calls Tryz.prog 29 #[.pointer none] w (QuPost (.pointer none) w) := by
  go_enter Tryz.func29, Tryz.ntmps29
  go_wp2_with fail
  go_ret
  exact ⟨rfl, rfl⟩
theorem n_credit (w : World) (q : Int) : Calls Tryz.prog 13 #[.pointer none, .int .i64 q] w (QuPost (.tuple #[.int .i64 0, .int .i64 0]) w) := by
  have K := n_phase w
  go_enter Tryz.func13, Tryz.ntmps13
  go_wp2_with fail
  refine K.mono ?_
  rintro e w1 ⟨rfl, rfl⟩
  go_wp2_with fail
  go_ret2
  exact ⟨rfl, rfl⟩
theorem n_enabled (w : World) (q : Int) : Calls Tryz.prog 20 #[.pointer none, .int .i64 q] w (QuPost (.bool false) w) := by
  have K := n_has w q
  go_enter Tryz.func20, Tryz.ntmps20
  go_wp2_with fail
  refine K.mono ?_
  rintro e w1 ⟨rfl, rfl⟩
  go_wp2_with fail
  go_ret
  exact ⟨rfl, rfl⟩
theorem n_goal (w : World) : Calls Tryz.prog 21 #[.pointer none] w (NwPost (.agg #[.int .i64 0, .int .i64 0, .int .i64 0]) w) := by
  go_enter Tryz.func21, Tryz.ntmps21
  go_wp2_with fail
  refine ⟨rfl, _, results_cell_row (P := Tryz.prog) (fn := Tryz.f21) rfl _ _ w.heap.size 63 _ _ _ rfl (heap_alloc_new w (.cells #[.int .i64 0, .int .i64 0, .int .i64 0] 63)) Tryz.underlying63 rfl (by kernel_rfl), rfl, (Chg.refl [] w).alloc _⟩
set_option maxHeartbeats 1600000 in
set_option maxRecDepth 100000 in
theorem n_commit (w : World) (i : Int) : Calls Tryz.prog 14 #[.pointer none, .int .i64 i] w (NwPost (.tuple #[.agg #[.int .i64 0, .int .i64 0, .int .i64 0, .int .i64 0, .int .i64 0, .bool false], .bool false]) w) := by
  have K := fun w' => n_commits w'
  by_cases h : i < 0
  · go_enter Tryz.func14, Tryz.ntmps14
    go_wp2_with fail
    exact ⟨rfl, _, results_ct (P := Tryz.prog) (fn := Tryz.f14) rfl (by rfl) (by rfl) (ld_cm _ (Blk.new w 53 #[.int .i64 0, .int .i64 0, .int .i64 0, .int .i64 0, .int .i64 0, .bool false])), rfl, (Chg.refl [] w).alloc _⟩
  · have h2 : (0 : Int) ≤ i := by omega
    go_enter Tryz.func14, Tryz.ntmps14
    go_wp2_with fail
    refine (K _).mono ?_
    rintro e w1 ⟨rfl, rfl⟩
    go_wp2_with fail
    exact ⟨rfl, _, results_ct (P := Tryz.prog) (fn := Tryz.f14) rfl (by rfl) (by rfl) (ld_cm _ (Blk.new w 53 #[.int .i64 0, .int .i64 0, .int .i64 0, .int .i64 0, .int .i64 0, .bool false])), rfl, (Chg.refl [] w).alloc _⟩
set_option maxHeartbeats 1600000 in
set_option maxRecDepth 100000 in
theorem n_step (w : World) (q vic tick : Int) (pre : Bool) : Calls Tryz.prog 15 #[.pointer none, .agg #[.int .i64 q, .int .i64 vic, .bool pre, .int .i64 tick]] w (NwPost (.agg #[.int .i64 0, .int .i64 (-1), .int .i64 0]) w) := by
  have K := fun w' => n_has w' q
  have KE := fun w' => m_event w' 0 (-1)
  have HK := Lib.hid (And.intro K KE); clear K KE
  go_enter Tryz.func15, Tryz.ntmps15
  go_upto_region 1 with fail
  generalize hw1 : World.alloc (World.alloc w _) _ = w1
  have c01 : Chg [] w w1 := by rw [← hw1]; exact ((Chg.refl [] w).alloc _).alloc _
  have b0 : w1.cell? ⟨w.heap.size, 0, none⟩ = some (.int .i64 q) := by rw [← hw1]; exact ((Blk.new w 43 #[.int .i64 q, .int .i64 vic, .bool pre, .int .i64 tick]).alloc _).cellv 0 rfl
  have BE : Blk w1 (w.heap.size + 1) 57 #[.int .i64 0, .int .i64 0, .int .i64 0] := by
    rw [← hw1]
    have h := Blk.new (w.alloc (.cells #[.int .i64 q, .int .i64 vic, .bool pre, .int .i64 tick] 43)) 57 #[.int .i64 0, .int .i64 0, .int .i64 0]
    simp only [World.size_alloc] at h
    exact h
  have H1 := Lib.hid (And.intro c01 BE); clear c01 BE hw1
  go_wp2_with fail
  refine (HK.out.1 _).mono ?_
  rintro e w2 ⟨rfl, rfl⟩
  go_wp2_with fail
  refine (HK.out.2 _).mono ?_
  rintro e w3 ⟨rfl, c3⟩
  have E3 := c3.blk H1.out.2 (by simp)
  have z0 : w3.cell? ⟨w.heap.size + 1, 0, none⟩ = some (.int .i64 0) := E3.cellv 0 rfl
  have z1 : w3.cell? ⟨w.heap.size + 1, 1, none⟩ = some (.int .i64 0) := E3.cellv 1 rfl
  have z2 : w3.cell? ⟨w.heap.size + 1, 2, none⟩ = some (.int .i64 0) := E3.cellv 2 rfl
  have y0 := E3.frozen 0
  have y1 := E3.frozen 1
  have y2 := E3.frozen 2
  have H3 := Lib.hid (And.intro c3 E3); clear c3 E3
  unfold evV
  go_wp2_with fail
  have B13 := ((H3.out.2.setv 0 (.int .i64 0) rfl).setv 1 (.int .i64 (-1)) rfl).setv 2 (.int .i64 0) (cs' := #[.int .i64 0, .int .i64 (-1), .int .i64 0]) rfl
  refine ⟨rfl, _, results_cell_row (P := Tryz.prog) (fn := Tryz.f15) rfl _ _ (w.heap.size + 1) 57 _ _ _ rfl B13 Tryz.underlying57 rfl (by kernel_rfl), rfl, ?_⟩
  exact (H1.out.1.trans H3.out.1).newS ((((Chg.refl [w.heap.size + 1] _).setCell (.inl (by simp)) _).setCell (.inl (by simp)) _).setCell (.inl (by simp)) _) (fun k hk => by have e : k = w.heap.size + 1 := (by simpa using hk); omega)
theorem n_alive (w : World) : Calls Tryz.prog 56 #[.pointer none] w (QuPost (.int .i64 0) w) := by
  go_enter Tryz.func56, Tryz.ntmps56
  go_wp2_with fail
  go_ret
  exact ⟨rfl, rfl⟩
theorem n_live (w : World) : Calls Tryz.prog 18 #[.pointer none] w (QuPost (.int .i64 0) w) := by
  have K := n_arena w
  have K2 := n_alive w
  go_enter Tryz.func18, Tryz.ntmps18
  go_wp2_with fail
  refine K.mono ?_
  rintro e w1 ⟨rfl, rfl⟩
  go_wp2_with fail
  refine K2.mono ?_
  rintro e w2 ⟨rfl, rfl⟩
  go_wp2_with fail
  go_ret
  exact ⟨rfl, rfl⟩
theorem n_aroom (w : World) (c : Int) : Calls Tryz.prog 30 #[.pointer none, .int .i64 c] w (QuPost (.int .i64 0) w) := by
  go_enter Tryz.func30, Tryz.ntmps30
  go_wp2_with fail
  go_ret
  exact ⟨rfl, rfl⟩
end Go.Proofs.YtoeppmnoifankaaGreatDoor
