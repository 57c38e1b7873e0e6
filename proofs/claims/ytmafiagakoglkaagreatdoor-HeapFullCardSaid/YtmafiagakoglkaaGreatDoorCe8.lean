/- Package central: New; classes: Count, Of. -/
import Derived.Test.YtmafiagakoglkaaGreatDoorCe7
namespace Go.Proofs.YtmafiagakoglkaaGreatDoor
open Go.RowKit Go.Maps

set_option maxHeartbeats 1600000 in
set_option maxRecDepth 100000 in
theorem cnew_ok (w : World) : Calls Tryz.prog 43 #[] w fun e w' => ∃ gc gl, e = .returned (.pointer (some ⟨gc, 0, none⟩)) ∧ IsCe w' gc gl (fun _ => .slice none 0 0) (fun _ => []) ∧ Chg [] w w' ∧ ∀ k, CeF gc gl (fun _ => .slice none 0 0) k → w.heap.size ≤ k := by
  have hmk : ∀ W : World, (Instr.makeSlice 115 (.int .i64 16) (.int .i64 16)).run Tryz.prog W = .ok (.slice (some ⟨W.heap.size, 0, none⟩) 16 16) (W.alloc (.cells (ceC fun _ => .slice none 0 0) 123)) := fun W => by
    obtain ⟨i, hi, hzz⟩ := Option.map_eq_some_iff.1 (show (Tryz.prog.info? 123).map (fun i => (i.zero, i.size, i.bytes)) = some (some (.agg #[.slice none 0 0, .slice none 0 0, .slice none 0 0, .slice none 0 0]), 4, 96) by kernel_rfl)
    simp only [Prod.mk.injEq] at hzz
    obtain ⟨hz, hs, hb⟩ := hzz
    have hr := run_make (P := Tryz.prog) W 115 123 i _ Tryz.underlying115 hi hz .i64 .i64 16 16 (by decide) (Int.le_refl _) (by rw [hb]; decide) (by decide)
    have em : madeCells (Value.agg #[.slice none 0 0, .slice none 0 0, .slice none 0 0, .slice none 0 0]).cells (Int.toNat 16 * 4) = ceC fun _ => .slice none 0 0 := by kernel_rfl
    rw [hs, em] at hr
    exact hr
  go_enter Tryz.func43, Tryz.ntmps43
  go_wp2_with fail
  refine (count_ok w).mono ?_
  rintro e w1 ⟨rfl, c⟩
  have HC := Lib.hid c; clear c
  go_wp2_with fail
  go_ret
  have B1 := Blk.new w1 123 (ceC fun _ => .slice none 0 0)
  have B2 := Blk.new (w1.alloc (.cells (ceC fun _ => .slice none 0 0) 123)) 117 #[.slice (some ⟨w1.heap.size, 0, none⟩) 16 16]
  rw [World.size_alloc] at B2
  refine ⟨_, w1.heap.size, rfl, ⟨B2, B1.alloc _, fun j hj => OwnI.nil _ _, fun i j hi hj hne k hk => by simp [fpv, Value.ownBlock] at hk⟩, (HC.out.alloc _).alloc _, fun k hk => ?_⟩
  have hsz := HC.out.size
  rcases hk with rfl | rfl | ⟨j, -, hk⟩
  · omega
  · exact hsz
  · simp [fpv, Value.ownBlock] at hk
end Go.Proofs.YtmafiagakoglkaaGreatDoor
