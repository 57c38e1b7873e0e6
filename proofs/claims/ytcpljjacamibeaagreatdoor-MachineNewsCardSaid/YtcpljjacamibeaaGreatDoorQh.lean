/- Package machine: New of a configuration that may not be; Freed, Steps, Goal. -/
import Derived.Test.YtcpljjacamibeaaGreatDoorMe3J
import Derived.Test.YtcpljjacamibeaaGreatDoorQd
namespace Go.Proofs.YtcpljjacamibeaaGreatDoor
set_option maxHeartbeats 16000000
set_option maxRecDepth 100000
open Go.RowKit Go.Maps
theorem m_new_no (w : World) (ps wo : Int) (b1 b2 : Nat) (vb : Value) (hm : mayB ps wo = false) :
    Calls Tryz.prog 16 #[.agg #[.int .i64 ps, .int .i64 wo, .float .f64 b1, .float .f64 b2], vb] w (NwPost (.tuple #[.pointer none, .int .i64 1, .int .i64 0]) w) := by
  have KM := fun w' => cf_may_any w' ps wo b1 b2
  rw [hm] at KM
  have HKM := Lib.hid KM; clear KM hm
  go_enter Tryz.func16, Tryz.ntmps16
  obtain ⟨gc, hgc⟩ : ∃ gc, gc = w.heap.size := ⟨_, rfl⟩
  obtain ⟨w1, hw1⟩ : ∃ w1, w1 = w.alloc (.cells #[.int .i64 ps, .int .i64 wo, .float .f64 b1, .float .f64 b2] 24) := ⟨_, rfl⟩
  have B1 : Blk w1 gc 24 #[.int .i64 ps, .int .i64 wo, .float .f64 b1, .float .f64 b2] := by rw [hw1, hgc]; exact Blk.new _ _ _
  have c01 : Chg [] w w1 := by rw [hw1]; exact (Chg.refl [] w).alloc _
  go_upto_region 1 with fail
  rw [← hw1, ← hgc]
  have q0 : w1.cell? ⟨gc, 0, none⟩ = some (.int .i64 ps) := B1.cellv 0 rfl
  have q1 : w1.cell? ⟨gc, 1, none⟩ = some (.int .i64 wo) := B1.cellv 1 rfl
  have q2 : w1.cell? ⟨gc, 2, none⟩ = some (.float .f64 b1) := B1.cellv 2 rfl
  have q3 : w1.cell? ⟨gc, 3, none⟩ = some (.float .f64 b2) := B1.cellv 3 rfl
  have H1 := Lib.hid (And.intro B1 (And.intro c01 hgc)); clear B1 c01 hw1 hgc
  go_wp2_with fail
  refine (HKM.out w1).mono ?_
  rintro e w2 ⟨rfl, c12⟩
  have H2 := Lib.hid (H1.out.2.1.trans c12); clear c12 q0 q1 q2 q3
  go_wp2_with fail
  go_ret3
  exact ⟨rfl, H2.out⟩
section
variable {W : Bs} {w : World} {p : MAt} {m : Mac} (M : MM W w p m)
include M
theorem m_freed_nil (hf : p.vfr = .slice none 0 0) : Calls Tryz.prog 21 #[.pointer (some ⟨p.gm, 0, none⟩)] w (NwPost (.slice none 0 0) w) := by
  have c : w.cell? ⟨p.gm, 25, none⟩ = some (.slice none 0 0) := by rw [← hf]; exact M.mb.cellv 25 rfl
  clear M
  go_enter Tryz.func21, Tryz.ntmps21
  go_wp2_with fail
  refine (lclone_nil w).mono ?_
  rintro e w' ⟨rfl, c1⟩
  have HC := Lib.hid c1; clear c1
  go_wp2_with fail
  go_ret
  exact ⟨rfl, HC.out⟩
theorem m_steps : Calls Tryz.prog 23 #[.pointer (some ⟨p.gm, 0, none⟩)] w (QuPost (.int .i64 m.steps) w) := by
  have c : w.cell? ⟨p.gm, 26, none⟩ = some (.int .i64 m.steps) := M.mb.cellv 26 rfl
  clear M
  go_enter Tryz.func23, Tryz.ntmps23
  go_wp2_with fail
  go_ret
  exact ⟨rfl, rfl⟩
theorem m_goal : Calls Tryz.prog 26 #[.pointer (some ⟨p.gm, 0, none⟩)] w (NwPost (.agg #[.int .i64 m.gT, .int .i64 m.gG, .int .i64 m.gR]) w) := by
  obtain ⟨w1, hw1⟩ : ∃ y, y = w.alloc (.cells #[.int .i64 0, .int .i64 0, .int .i64 0] 89) := ⟨_, rfl⟩
  have c01 : Chg [] w w1 := by rw [hw1]; exact (Chg.refl [] w).alloc _
  have B1 : Blk w1 w.heap.size 89 #[.int .i64 0, .int .i64 0, .int .i64 0] := by rw [hw1]; exact Blk.new _ _ _
  have M1 := M.chg0 c01
  have c19 : w1.cell? ⟨p.gm, 19, none⟩ = some (.int .i64 m.gT) := M1.mb.cellv 19 rfl
  have c20 : w1.cell? ⟨p.gm, 20, none⟩ = some (.int .i64 m.gG) := M1.mb.cellv 20 rfl
  have c21 : w1.cell? ⟨p.gm, 21, none⟩ = some (.int .i64 m.gR) := M1.mb.cellv 21 rfl
  have z0 := B1.frozen 0
  have z1 := B1.frozen 1
  have z2 := B1.frozen 2
  have b0 : w1.cell? ⟨w.heap.size, 0, none⟩ = some (.int .i64 0) := B1.cellv 0 rfl
  have b1 : w1.cell? ⟨w.heap.size, 1, none⟩ = some (.int .i64 0) := B1.cellv 1 rfl
  have b2 : w1.cell? ⟨w.heap.size, 2, none⟩ = some (.int .i64 0) := B1.cellv 2 rfl
  obtain ⟨gg, hgg⟩ : ∃ g, g = w.heap.size := ⟨_, rfl⟩
  rw [← hgg] at B1 z0 z1 z2 b0 b1 b2
  have H1 := Lib.hid (And.intro B1 (And.intro c01 hgg)); clear B1 c01 M1 M
  go_enter Tryz.func26, Tryz.ntmps26
  go_upto_region 1 with fail
  rw [← hw1, ← hgg]
  clear hw1 hgg
  go_wp2_with fail
  have B2 : Blk _ gg 89 #[.int .i64 m.gT, .int .i64 0, .int .i64 0] := H1.out.1.setv 0 (.int .i64 m.gT) rfl
  have B3 : Blk _ gg 89 #[.int .i64 m.gT, .int .i64 m.gG, .int .i64 0] := B2.setv 1 (.int .i64 m.gG) rfl
  have B4 : Blk _ gg 89 #[.int .i64 m.gT, .int .i64 m.gG, .int .i64 m.gR] := B3.setv 2 (.int .i64 m.gR) rfl
  have hn : w.heap.size ≤ gg := by rw [H1.out.2.2]; omega
  exact ⟨rfl, _, results_cell_row (P := Tryz.prog) (fn := Tryz.f26) rfl _ _ gg 89 _ _ _ rfl B4 Tryz.underlying89 rfl (by kernel_rfl), rfl, ((H1.out.2.1.setCell (.inr hn) _).setCell (.inr hn) _).setCell (.inr hn) _⟩
end
theorem GlIs.uniq {wo : Nat} {on : Bool} {t g r t' g' r' : Int} (h : GlIs wo on t g r) (h' : GlIs wo on t' g' r') : t = t' ∧ g = g' ∧ r = r' := by
  cases on
  · obtain ⟨a, b, c⟩ := h.off rfl
    obtain ⟨a', b', c'⟩ := h'.off rfl
    exact ⟨a.trans a'.symm, b.trans b'.symm, c.trans c'.symm⟩
  · obtain ⟨a, b, c⟩ := h.on rfl
    obtain ⟨a', b', c'⟩ := h'.on rfl
    exact ⟨a.trans a'.symm, b.trans b'.symm, c.trans c'.symm⟩
end Go.Proofs.YtcpljjacamibeaaGreatDoor
