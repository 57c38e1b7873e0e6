/- Lists of 512 numbers made at once; a list off its block; what stands in a list. -/
import Derived.Test.YtmafiagakoglkaaGreatDoorMHb
namespace Go.Proofs.YtmafiagakoglkaaGreatDoor
open Go.RowKit Go.Maps

theorem OwnI.ofBlk {w : World} {g n : Nat} {xs : List Int} (h : Blk w g 3 (xs.map (Value.int .i64)).toArray) (hn : xs.length = n) (hl : n ≤ 1000000) : OwnI 3 w (.slice (some ⟨g, 0, none⟩) n n) xs := by
  subst hn
  exact ⟨⟨by simp, .inr ⟨g, xs.length, _, rfl, Nat.zero_le _, h, Nat.le_refl _, by unfold maxLen; omega, by simp, by simp [List.take_of_length_le]⟩⟩⟩
theorem ints_keep9 {W w : World} {A : Option Addr} {xs : List Int} (h : IntsAt W W.heap.size A xs) (c : Chg [] W w) {i : Nat} {x : Int} (hx : xs[i]? = some x) : ∃ b off, A = some ⟨b, off, none⟩ ∧ b < W.heap.size ∧ w.cell? ⟨b, off + i, none⟩ = some (.int .i64 x) := by
  obtain ⟨b, off, e, hb, hc⟩ := h i x hx
  exact ⟨b, off, e, hb, c.cellv hb (by simp) hc⟩
def z512 : Array Value := ((List.replicate 512 (0 : Int)).map (Value.int .i64)).toArray
theorem make512 (W : World) : (Instr.makeSlice 22 (.int .i64 512) (.int .i64 512)).run Tryz.prog W = .ok (.slice (some ⟨W.heap.size, 0, none⟩) 512 512) (W.alloc (.cells z512 3)) := by
  obtain ⟨i, hi, hzz⟩ := Option.map_eq_some_iff.1 (show (Tryz.prog.info? 3).map (fun i => (i.zero, i.size, i.bytes)) = some (some (.int .i64 0), 1, 8) by kernel_rfl)
  simp only [Prod.mk.injEq] at hzz
  obtain ⟨hz, hs, hb⟩ := hzz
  have hr := run_make (P := Tryz.prog) W 22 3 i _ Tryz.underlying22 hi hz .i64 .i64 512 512 (by decide) (Int.le_refl _) (by rw [hb]; decide) (by decide)
  have em : madeCells (Value.int .i64 0).cells (Int.toNat 512 * 1) = z512 := by kernel_rfl
  rw [hs, em] at hr
  exact hr
end Go.Proofs.YtmafiagakoglkaaGreatDoor
