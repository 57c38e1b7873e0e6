/- The walk of AuditEach. -/
import Derived.Test.YtfkgooliglcjkaaEach
import Derived.Deep.RegionWith
import Derived.StillTailTactics
namespace Go.Proofs.Ytfkgooliglcjkaa
open Go.RowKit Go.Maps

def StkPost (w : World) (e : Ending) (w' : World) : Prop := e = .returned (.slice (some ⟨w.heap.size, 0, none⟩) 16 16) ∧ w' = w.alloc (.cells (zcells (.int .i64 0) 16) 3)
set_option maxHeartbeats 800000 in
set_option maxRecDepth 100000 in
theorem stack_ok (w : World) : Calls Try.prog 40 #[] w (StkPost w) := by
  have hmk : ∀ W, (Instr.makeSlice 22 (.int .i64 16) (.int .i64 16)).run Try.prog W = .ok (.slice (some ⟨W.heap.size, 0, none⟩) 16 16) (W.alloc (.cells (zcells (.int .i64 0) 16) 3)) := fun W => run_make_z (P := Try.prog) 22 3 (.int .i64 0) 8 Try.underlying22 (by kernel_rfl) rfl .i64 .i64 16 (by omega) (by omega) W
  go_enter Try.func40, Try.ntmps40
  go_wp2_with fail
  go_ret
  exact ⟨rfl, rfl⟩
def evW (w : World) : World := (((((((w.alloc (.cells #[.int .i64 64, .int .i64 0] 3)).alloc (.cells (zcells (.int .i64 0) 16) 3)).alloc (.cells (zcells (.int .i64 0) 16) 3)).alloc
  (.cells #[.int .i64 2, .int .i64 0, .slice (some ⟨w.heap.size + 1, 0, none⟩) 16 16, .int .i64 3, .int .i64 (-1), .slice (some ⟨w.heap.size + 1 + 1, 0, none⟩) 16 16] 41)).alloc (.cells #[.int .i64 68] 3)).alloc (.cells #[.int .i64 0, .int .i64 64] 3)).alloc
  (.cells #[.int .i64 64, .slice (some ⟨w.heap.size + 1 + 1 + 1 + 1, 0, none⟩) 1 1, .bool false, .int .i64 68, .slice (some ⟨w.heap.size + 1 + 1 + 1 + 1 + 1, 0, none⟩) 2 2, .bool false] 30)).alloc
  (.cells #[.int .i64 0, .int .i64 0, .int .i64 0, .slice (some ⟨w.heap.size, 0, none⟩) 2 2, .slice (some ⟨w.heap.size + 1 + 1 + 1, 0, none⟩) 2 2, .slice (some ⟨w.heap.size + 1 + 1 + 1 + 1 + 1 + 1, 0, none⟩) 2 2, .int .i64 0, .int .i64 0, .int .i64 0] 26)
theorem bnew {w : World} {t : TypeId} {cs : Array Value} {g : Nat} (h : w.heap.size = g) : Blk (w.alloc (.cells cs t)) g t cs := by subst h; exact Blk.new w t cs
theorem EvI.box {w0 w : World} {n s2 : Nat} {gl1 st2 p2 a2 sl notes phase : Int} {m1 m2 : Bool} {n1 : Nat} (h : EvI w0 n s2 gl1 st2 p2 a2 sl notes phase m1 m2 n1 w) :
    w.cell? ⟨n + 1 + 1 + 1 + 1 + 1 + 1 + 1, 0, none⟩ = some (.int .i64 phase) ∧ w.cell? ⟨n + 1 + 1 + 1 + 1 + 1 + 1 + 1, 1, none⟩ = some (.int .i64 0) ∧ w.cell? ⟨n + 1 + 1 + 1 + 1 + 1 + 1 + 1, 2, none⟩ = some (.int .i64 0) ∧ w.cell? ⟨n + 1 + 1 + 1 + 1 + 1 + 1 + 1, 3, none⟩ = some (.slice (some ⟨n, 0, none⟩) 2 2) ∧ w.cell? ⟨n + 1 + 1 + 1 + 1 + 1 + 1 + 1, 4, none⟩ = some (.slice (some ⟨n + 1 + 1 + 1, 0, none⟩) 2 2) ∧
    w.cell? ⟨n + 1 + 1 + 1 + 1 + 1 + 1 + 1, 5, none⟩ = some (.slice (some ⟨n + 1 + 1 + 1 + 1 + 1 + 1, 0, none⟩) 2 2) ∧ w.cell? ⟨n + 1 + 1 + 1 + 1 + 1 + 1 + 1, 6, none⟩ = some (.int .i64 0) ∧ w.cell? ⟨n + 1 + 1 + 1 + 1 + 1 + 1 + 1, 7, none⟩ = some (.int .i64 notes) ∧ w.cell? ⟨n + 1 + 1 + 1 + 1 + 1 + 1 + 1, 8, none⟩ = some (.int .i64 0) :=
  ⟨h.k7.cellv 0 rfl, h.k7.cellv 1 rfl, h.k7.cellv 2 rfl, h.k7.cellv 3 rfl, h.k7.cellv 4 rfl, h.k7.cellv 5 rfl, h.k7.cellv 6 rfl, h.k7.cellv 7 rfl, h.k7.cellv 8 rfl⟩
theorem ev_start (w : World) : EvI w w.heap.size (w.heap.size + 1 + 1) 0 3 (-1) 68 68 0 0 false false 16 (evW w) := by
  unfold evW
  refine ⟨Nat.le_refl _, .inl rfl, ?_, ?_, ?_, ?_, ?_, ?_, ?_, ?_, (((((((((Chg.refl [] w).alloc _).alloc _).alloc _).alloc _).alloc _).alloc _).alloc _).alloc _)⟩
  · exact Blk.alloc (Blk.alloc (Blk.alloc (Blk.alloc (Blk.alloc (Blk.alloc (Blk.alloc (Blk.new w _ _) _) _) _) _) _) _) _
  · exact Blk.alloc (Blk.alloc (Blk.alloc (Blk.alloc (Blk.alloc (Blk.alloc (bnew (by simp)) _) _) _) _) _) _
  · exact Blk.alloc (Blk.alloc (Blk.alloc (Blk.alloc (Blk.alloc (bnew (by simp)) _) _) _) _) _
  · exact Blk.alloc (Blk.alloc (Blk.alloc (Blk.alloc (bnew (by simp)) _) _) _) _
  · exact Blk.alloc (Blk.alloc (Blk.alloc (bnew (by simp)) _) _) _
  · exact Blk.alloc (Blk.alloc (bnew (by simp)) _) _
  · exact Blk.alloc (bnew (by simp)) _
  · exact bnew (by simp)
theorem EvI.s3 {w0 w : World} {n s2 : Nat} {gl1 st2 p2 a2 sl notes phase : Int} {m1 m2 : Bool} {n1 : Nat} (h : EvI w0 n s2 gl1 st2 p2 a2 sl notes phase m1 m2 n1 w) : EvI w0 n w.heap.size gl1 2 0 a2 sl notes phase m1 m2 n1
    ((((w.alloc (.cells (zcells (.int .i64 0) 16) 3)).setCell ⟨n + 1 + 1 + 1, 3, none⟩ (.int .i64 2)).setCell ⟨n + 1 + 1 + 1, 4, none⟩ (.int .i64 0)).setCell ⟨n + 1 + 1 + 1, 5, none⟩ (.slice (some ⟨w.heap.size, 0, none⟩) 16 16)).drew := by
  have hl := h.k7.lt
  have h0 := h.hn
  have e : EvI w0 n w.heap.size gl1 2 0 a2 sl notes phase m1 m2 n1 ((((w.alloc (.cells (zcells (.int .i64 0) 16) 3)).setCell ⟨n + 1 + 1 + 1, 3, none⟩ (.int .i64 2)).setCell ⟨n + 1 + 1 + 1, 4, none⟩ (.int .i64 0)).setCell ⟨n + 1 + 1 + 1, 5, none⟩ (.slice (some ⟨w.heap.size, 0, none⟩) 16 16)) :=
    ⟨h.hn, .inr (by omega), ((((h.k0.alloc _).far (by dsimp only; omega) _).far (by dsimp only; omega) _).far (by dsimp only; omega) _), ((((h.k1.alloc _).far (by dsimp only; omega) _).far (by dsimp only; omega) _).far (by dsimp only; omega) _), ((((Blk.new w _ _).far (by dsimp only; omega) _).far (by dsimp only; omega) _).far (by dsimp only; omega) _), ((((h.k3.alloc _).setv 3 _ rfl).setv 4 _ rfl).setv 5 _ rfl), ((((h.k4.alloc _).far (by dsimp only; omega) _).far (by dsimp only; omega) _).far (by dsimp only; omega) _), ((((h.k5.alloc _).far (by dsimp only; omega) _).far (by dsimp only; omega) _).far (by dsimp only; omega) _), ((((h.k6.alloc _).far (by dsimp only; omega) _).far (by dsimp only; omega) _).far (by dsimp only; omega) _), ((((h.k7.alloc _).far (by dsimp only; omega) _).far (by dsimp only; omega) _).far (by dsimp only; omega) _),
      (((h.c.alloc _).setCell (.inr (by dsimp only; omega)) _).setCell (.inr (by dsimp only; omega)) _).setCell (.inr (by dsimp only; omega)) _⟩
  exact e.chg (Chg.refl [] _).drew
set_option maxHeartbeats 12800000 in
set_option maxRecDepth 100000 in
theorem each_any (rule ps : Int) (w : World) : Calls Try.prog 10 #[.int .i64 rule, .int .i64 ps] w (TdPost w) := by
  obtain ⟨j, hj, ej⟩ := mod_n rule 8 (by omega) (by omega)
  obtain ⟨p, hp, ep⟩ := mod_n ps 64 (by omega) (by omega)
  have hj2 : (j : Int) < 8 := by omega
  have hp2 : (p : Int) < 64 := by omega
  go_enter Try.func10, Try.ntmps10
  go_upto_region 3 with fail
  rw [show wrap64 ((IntKind.u64.wrap rule).tmod 8) = (j : Int) from ej, show wrap64 ((IntKind.u64.wrap ps).tmod 64) = (p : Int) from ep]
  rw [show wrap64 (1 + (j : Int)) = 1 + (j : Int) by unfold wrap64; omega, show wrap64 (1 + (p : Int)) = 1 + (p : Int) by unfold wrap64; omega]
  clear ej ep
  go_wp2_with fail
  refine (stack_ok _).mono ?_
  rintro e w1 ⟨rfl, rfl⟩
  go_wp2_with fail
  refine (stack_ok _).mono ?_
  rintro e w1 ⟨rfl, rfl⟩
  go_upto_region 4 with fail
  have HI0 := ev_start w
  unfold evW at HI0
  have HI := Lib.hid HI0; clear HI0
  generalize ((((((((w.alloc (.cells #[.int .i64 64, .int .i64 0] 3)).alloc (.cells (zcells (.int .i64 0) 16) 3)).alloc (.cells (zcells (.int .i64 0) 16) 3)).alloc (.cells #[.int .i64 2, .int .i64 0, .slice (some ⟨w.heap.size + 1, 0, none⟩) 16 16, .int .i64 3, .int .i64 (-1), .slice (some ⟨w.heap.size + 1 + 1, 0, none⟩) 16 16] 41)).alloc (.cells #[.int .i64 68] 3)).alloc (.cells #[.int .i64 0, .int .i64 64] 3)).alloc (.cells #[.int .i64 64, .slice (some ⟨w.heap.size + 1 + 1 + 1 + 1, 0, none⟩) 1 1, .bool false, .int .i64 68, .slice (some ⟨w.heap.size + 1 + 1 + 1 + 1 + 1, 0, none⟩) 2 2, .bool false] 30)).alloc (.cells #[.int .i64 0, .int .i64 0, .int .i64 0, .slice (some ⟨w.heap.size, 0, none⟩) 2 2, .slice (some ⟨w.heap.size + 1 + 1 + 1, 0, none⟩) 2 2, .slice (some ⟨w.heap.size + 1 + 1 + 1 + 1 + 1 + 1, 0, none⟩) 2 2, .int .i64 0, .int .i64 0, .int .i64 0] 26)) = X at HI ⊢
  generalize w.heap.size = n at HI ⊢
  have hps : (1 : Int) ≤ 1 + (p : Int) := by omega
  obtain ⟨b0, b1, b2, b3, b4, b5, b6, b7, b8⟩ := HI.out.box
  go_wp2_with fail
  refine (acheck_ok _ _ (eV 0 3 (-1) 68 68 0 0 false false 16) (1 + (p : Int)) (HI.out.vw (by omega) ⟨by decide, by decide⟩ ⟨by decide, by decide⟩ ⟨by decide, by decide⟩ ⟨by decide, by decide⟩ ⟨by decide, by decide⟩ ⟨by decide, by decide⟩ ⟨by decide, by decide⟩) (eV_small (by omega))).mono ?_
  rintro e x1 ⟨rfl, C1⟩
  rw [show chkN (eV 0 3 (-1) 68 68 0 0 false false 16) (1 + (p : Int)) = 0 by unfold chkN; rw [e0 hps]; rfl]
  have HI1 := Lib.hid (HI.out.chg C1); clear C1 b0 b1 b2 b3 b4 b5 b6 b7 b8
  obtain ⟨b0, b1, b2, b3, b4, b5, b6, b7, b8⟩ := HI1.out.box
  go_wp2_with fail
  refine (aall_ok _ _ (eV 0 3 (-1) 68 68 0 0 false false 16) (1 + (p : Int)) (HI1.out.vw (by omega) ⟨by decide, by decide⟩ ⟨by decide, by decide⟩ ⟨by decide, by decide⟩ ⟨by decide, by decide⟩ ⟨by decide, by decide⟩ ⟨by decide, by decide⟩ ⟨by decide, by decide⟩) (eV_small (by omega))).mono ?_
  rintro e X0 ⟨v1, rfl, O1, C1, F1⟩
  rw [e0 hps] at O1
  obtain ⟨Aq, kq, rfl⟩ := O1.slice
  have HJ0 := Lib.hid (HI1.out.chg C1); clear O1 C1 F1 b0 b1 b2 b3 b4 b5 b6 b7 b8 HI HI1
  go_upto_region 6 with fail
  obtain ⟨K, hK⟩ : ∃ K, K = 1 + (j : Int) := ⟨_, rfl⟩
  rw [← hK]
  have hK8 : K = 1 ∨ K = 2 ∨ K = 3 ∨ K = 4 ∨ K = 5 ∨ K = 6 ∨ K = 7 ∨ K = 8 := by omega
  clear hK
  have z0 := HJ0.out.k7.cellv 0 rfl
  have z3 : X0.cell? ⟨n + 1 + 1 + 1 + 1 + 1 + 1 + 1, 3, none⟩ = some (.slice (some ⟨n, 0, none⟩) 2 2) := HJ0.out.k7.cellv 3 rfl
  have z4 : X0.cell? ⟨n + 1 + 1 + 1 + 1 + 1 + 1 + 1, 4, none⟩ = some (.slice (some ⟨n + 1 + 1 + 1, 0, none⟩) 2 2) := HJ0.out.k7.cellv 4 rfl
  have z5 : X0.cell? ⟨n + 1 + 1 + 1 + 1 + 1 + 1 + 1, 5, none⟩ = some (.slice (some ⟨n + 1 + 1 + 1 + 1 + 1 + 1, 0, none⟩) 2 2) := HJ0.out.k7.cellv 5 rfl
  have z7 : X0.cell? ⟨n + 1 + 1 + 1 + 1 + 1 + 1 + 1, 7, none⟩ = some (.int .i64 0) := HJ0.out.k7.cellv 7 rfl
  have r0 : X0.cell? ⟨n + 1 + 1 + 1, 0, none⟩ = some (.int .i64 2) := HJ0.out.k3.cellv 0 rfl
  have r1 : X0.cell? ⟨n + 1 + 1 + 1, 1, none⟩ = some (.int .i64 0) := HJ0.out.k3.cellv 1 rfl
  have r2 : X0.cell? ⟨n + 1 + 1 + 1, 2, none⟩ = some (.slice (some ⟨n + 1, 0, none⟩) 16 16) := HJ0.out.k3.cellv 2 rfl
  have r3 : X0.cell? ⟨n + 1 + 1 + 1, 3, none⟩ = some (.int .i64 3) := HJ0.out.k3.cellv 3 rfl
  have r4 : X0.cell? ⟨n + 1 + 1 + 1, 4, none⟩ = some (.int .i64 (-1)) := HJ0.out.k3.cellv 4 rfl
  have r5 : X0.cell? ⟨n + 1 + 1 + 1, 5, none⟩ = some (.slice (some ⟨n + 1 + 1, 0, none⟩) 16 16) := HJ0.out.k3.cellv 5 rfl
  have g0 : X0.cell? ⟨n, 0, none⟩ = some (.int .i64 64) := HJ0.out.k0.cellv 0 rfl
  have g1 : X0.cell? ⟨n, 1, none⟩ = some (.int .i64 0) := HJ0.out.k0.cellv 1 rfl
  have o0 : X0.cell? ⟨n + 1 + 1 + 1 + 1 + 1 + 1, 0, none⟩ = some (.int .i64 64) := HJ0.out.k6.cellv 0 rfl
  have o1 : X0.cell? ⟨n + 1 + 1 + 1 + 1 + 1 + 1, 1, none⟩ = some (.slice (some ⟨n + 1 + 1 + 1 + 1, 0, none⟩) 1 1) := HJ0.out.k6.cellv 1 rfl
  have o2 : X0.cell? ⟨n + 1 + 1 + 1 + 1 + 1 + 1, 2, none⟩ = some (.bool false) := HJ0.out.k6.cellv 2 rfl
  have o3 : X0.cell? ⟨n + 1 + 1 + 1 + 1 + 1 + 1, 3, none⟩ = some (.int .i64 68) := HJ0.out.k6.cellv 3 rfl
  have o4 : X0.cell? ⟨n + 1 + 1 + 1 + 1 + 1 + 1, 4, none⟩ = some (.slice (some ⟨n + 1 + 1 + 1 + 1 + 1, 0, none⟩) 2 2) := HJ0.out.k6.cellv 4 rfl
  have o5 : X0.cell? ⟨n + 1 + 1 + 1 + 1 + 1 + 1, 5, none⟩ = some (.bool false) := HJ0.out.k6.cellv 5 rfl
  have c0 : X0.cell? ⟨n + 1 + 1 + 1 + 1, 0, none⟩ = some (.int .i64 68) := HJ0.out.k4.cellv 0 rfl
  have f0 := fun i => HJ0.out.k0.frozen i
  have f3 := fun i => HJ0.out.k3.frozen i
  have f4 := fun i => HJ0.out.k4.frozen i
  have f6 := fun i => HJ0.out.k6.frozen i
  have f7 := fun i => HJ0.out.k7.frozen i
  rcases hK8 with rfl | rfl | rfl | rfl | rfl | rfl | rfl | rfl
  · go_upto_region 24 with fail
    have HJ := Lib.hid (HJ0.out.s1)
    clear z3 z4 z5 z7 z0 r0 r1 r2 r3 r4 r5 g0 g1 o0 o1 o2 o3 o4 o5 c0 f0 f3 f4 f6 f7
    generalize (X0.setCell ⟨n, 1, none⟩ (.int .i64 69)) = Y at HJ ⊢
    obtain ⟨b0, b1, b2, b3, b4, b5, b6, b7, b8⟩ := HJ.out.box
    go_wp2_with fail
    refine (aall_ok _ _ (eV 69 3 (-1) 68 68 0 0 false false 16) (1 + (p : Int)) (HJ.out.vw (by omega) ⟨by decide, by decide⟩ ⟨by decide, by decide⟩ ⟨by decide, by decide⟩ ⟨by decide, by decide⟩ ⟨by decide, by decide⟩ ⟨by decide, by decide⟩ ⟨by decide, by decide⟩) (eV_small (by omega))).mono ?_
    rintro e y1 ⟨v1, rfl, O1, C1, F1⟩
    rw [e1 hps] at O1
    obtain ⟨Ao, ko, rfl⟩ := O1.slice
    have HJ1 := Lib.hid (HJ.out.chg C1)
    have HO1 := Lib.hid O1; clear O1 C1 F1 b0 b1 b2 b3 b4 b5 b6 b7 b8
    go_upto_region 26 with fail
    have HJ2 := Lib.hid (HJ1.out.chg ((Chg.refl [] y1).alloc (.cells #[.string ⟨#[108, 111, 115, 116]⟩, .string ⟨#[111, 98, 106, 101, 99, 116, 115]⟩, .string ⟨#[116, 119, 105, 99, 101]⟩, .string ⟨#[112, 108, 97, 99, 101, 115]⟩, .string ⟨#[119, 111, 114, 107]⟩, .string ⟨#[119, 104, 105, 116, 101]⟩, .string ⟨#[110, 117, 109, 98, 101, 114, 115]⟩, .string ⟨#[109, 97, 114, 107, 101, 100]⟩] 9)))
    have HO2 := Lib.hid (HO1.out.alloc (.cells #[.string ⟨#[108, 111, 115, 116]⟩, .string ⟨#[111, 98, 106, 101, 99, 116, 115]⟩, .string ⟨#[116, 119, 105, 99, 101]⟩, .string ⟨#[112, 108, 97, 99, 101, 115]⟩, .string ⟨#[119, 111, 114, 107]⟩, .string ⟨#[119, 104, 105, 116, 101]⟩, .string ⟨#[110, 117, 109, 98, 101, 114, 115]⟩, .string ⟨#[109, 97, 114, 107, 101, 100]⟩] 9))
    generalize (y1.alloc (.cells #[.string ⟨#[108, 111, 115, 116]⟩, .string ⟨#[111, 98, 106, 101, 99, 116, 115]⟩, .string ⟨#[116, 119, 105, 99, 101]⟩, .string ⟨#[112, 108, 97, 99, 101, 115]⟩, .string ⟨#[119, 111, 114, 107]⟩, .string ⟨#[119, 104, 105, 116, 101]⟩, .string ⟨#[110, 117, 109, 98, 101, 114, 115]⟩, .string ⟨#[109, 97, 114, 107, 101, 100]⟩] 9)) = Y2 at HJ2 HO2 ⊢
    go_wp2_with fail
    refine (told30_ok _).mono ?_
    rintro e y3 ⟨rfl, C3⟩
    have HJ3 := Lib.hid (HJ2.out.chg C3)
    obtain ⟨gp, rfl, q0, -, -⟩ := (HO2.out.chg0 C3).cell (i := 0) (x := 1) rfl
    clear C3
    obtain ⟨b0, b1, b2, b3, b4, b5, b6, b7, b8⟩ := HJ3.out.box
    go_wp2_with fail
    refine (acheck_ok _ _ (eV 69 3 (-1) 68 68 0 0 false false 16) (1 + (p : Int)) (HJ3.out.vw (by omega) ⟨by decide, by decide⟩ ⟨by decide, by decide⟩ ⟨by decide, by decide⟩ ⟨by decide, by decide⟩ ⟨by decide, by decide⟩ ⟨by decide, by decide⟩ ⟨by decide, by decide⟩) (eV_small (by omega))).mono ?_
    rintro e y4 ⟨rfl, C4⟩
    rw [show chkN (eV 69 3 (-1) 68 68 0 0 false false 16) (1 + (p : Int)) = 1 by unfold chkN; rw [e1 hps]; rfl]
    have HJ4 := Lib.hid (HJ3.out.chg C4); clear C4 q0 b0 b1 b2 b3 b4 b5 b6 b7 b8
    go_wp2_with fail
    refine (atext_ok _ 1).mono ?_
    rintro e y5 ⟨rfl, C5⟩
    rw [show txtN 1 = #[108, 111, 115, 116] from rfl]
    have HZ := Lib.hid (HJ4.out.c.trans C5); clear C5
    go_wp2_with fail
    go_ret
    exact ⟨rfl, HZ.out⟩
  · go_upto_region 24 with fail
    have HJ := Lib.hid (HJ0.out.s2a.s2b)
    clear z3 z4 z5 z7 z0 r0 r1 r2 r3 r4 r5 g0 g1 o0 o1 o2 o3 o4 o5 c0 f0 f3 f4 f6 f7
    generalize ((X0.setCell ⟨n + 1 + 1 + 1 + 1 + 1 + 1, 3, none⟩ (.int .i64 64)).setCell ⟨n + 1 + 1 + 1 + 1, 0, none⟩ (.int .i64 0)) = Y at HJ ⊢
    obtain ⟨b0, b1, b2, b3, b4, b5, b6, b7, b8⟩ := HJ.out.box
    go_wp2_with fail
    refine (aall_ok _ _ (eV 0 3 (-1) 64 0 0 0 false false 16) (1 + (p : Int)) (HJ.out.vw (by omega) ⟨by decide, by decide⟩ ⟨by decide, by decide⟩ ⟨by decide, by decide⟩ ⟨by decide, by decide⟩ ⟨by decide, by decide⟩ ⟨by decide, by decide⟩ ⟨by decide, by decide⟩) (eV_small (by omega))).mono ?_
    rintro e y1 ⟨v1, rfl, O1, C1, F1⟩
    rw [e2 hps] at O1
    obtain ⟨Ao, ko, rfl⟩ := O1.slice
    have HJ1 := Lib.hid (HJ.out.chg C1)
    have HO1 := Lib.hid O1; clear O1 C1 F1 b0 b1 b2 b3 b4 b5 b6 b7 b8
    go_upto_region 26 with fail
    have HJ2 := Lib.hid (HJ1.out.chg ((Chg.refl [] y1).alloc (.cells #[.string ⟨#[108, 111, 115, 116]⟩, .string ⟨#[111, 98, 106, 101, 99, 116, 115]⟩, .string ⟨#[116, 119, 105, 99, 101]⟩, .string ⟨#[112, 108, 97, 99, 101, 115]⟩, .string ⟨#[119, 111, 114, 107]⟩, .string ⟨#[119, 104, 105, 116, 101]⟩, .string ⟨#[110, 117, 109, 98, 101, 114, 115]⟩, .string ⟨#[109, 97, 114, 107, 101, 100]⟩] 9)))
    have HO2 := Lib.hid (HO1.out.alloc (.cells #[.string ⟨#[108, 111, 115, 116]⟩, .string ⟨#[111, 98, 106, 101, 99, 116, 115]⟩, .string ⟨#[116, 119, 105, 99, 101]⟩, .string ⟨#[112, 108, 97, 99, 101, 115]⟩, .string ⟨#[119, 111, 114, 107]⟩, .string ⟨#[119, 104, 105, 116, 101]⟩, .string ⟨#[110, 117, 109, 98, 101, 114, 115]⟩, .string ⟨#[109, 97, 114, 107, 101, 100]⟩] 9))
    generalize (y1.alloc (.cells #[.string ⟨#[108, 111, 115, 116]⟩, .string ⟨#[111, 98, 106, 101, 99, 116, 115]⟩, .string ⟨#[116, 119, 105, 99, 101]⟩, .string ⟨#[112, 108, 97, 99, 101, 115]⟩, .string ⟨#[119, 111, 114, 107]⟩, .string ⟨#[119, 104, 105, 116, 101]⟩, .string ⟨#[110, 117, 109, 98, 101, 114, 115]⟩, .string ⟨#[109, 97, 114, 107, 101, 100]⟩] 9)) = Y2 at HJ2 HO2 ⊢
    go_wp2_with fail
    refine (told30_ok _).mono ?_
    rintro e y3 ⟨rfl, C3⟩
    have HJ3 := Lib.hid (HJ2.out.chg C3)
    obtain ⟨gp, rfl, q0, -, -⟩ := (HO2.out.chg0 C3).cell (i := 0) (x := 2) rfl
    clear C3
    obtain ⟨b0, b1, b2, b3, b4, b5, b6, b7, b8⟩ := HJ3.out.box
    go_wp2_with fail
    refine (acheck_ok _ _ (eV 0 3 (-1) 64 0 0 0 false false 16) (1 + (p : Int)) (HJ3.out.vw (by omega) ⟨by decide, by decide⟩ ⟨by decide, by decide⟩ ⟨by decide, by decide⟩ ⟨by decide, by decide⟩ ⟨by decide, by decide⟩ ⟨by decide, by decide⟩ ⟨by decide, by decide⟩) (eV_small (by omega))).mono ?_
    rintro e y4 ⟨rfl, C4⟩
    rw [show chkN (eV 0 3 (-1) 64 0 0 0 false false 16) (1 + (p : Int)) = 2 by unfold chkN; rw [e2 hps]; rfl]
    have HJ4 := Lib.hid (HJ3.out.chg C4); clear C4 q0 b0 b1 b2 b3 b4 b5 b6 b7 b8
    go_wp2_with fail
    refine (atext_ok _ 2).mono ?_
    rintro e y5 ⟨rfl, C5⟩
    rw [show txtN 2 = #[111, 98, 106, 101, 99, 116, 115] from rfl]
    have HZ := Lib.hid (HJ4.out.c.trans C5); clear C5
    go_wp2_with fail
    go_ret
    exact ⟨rfl, HZ.out⟩
  · go_upto_region 14 with fail
    have HA := HJ0.out.k3.alloc (.cells (zcells (.int .i64 0) 16) 3)
    have y3 := HA.cellv 3 rfl
    have y4 := HA.cellv 4 rfl
    have y5 := HA.cellv 5 rfl
    have fy := fun i => HA.frozen i
    have y9 : (X0.alloc (.cells (zcells (.int .i64 0) 16) 3)).cell? ⟨n + 1 + 1 + 1 + 1 + 1 + 1 + 1, 4, none⟩ = some (.slice (some ⟨n + 1 + 1 + 1, 0, none⟩) 2 2) := (HJ0.out.k7.alloc (.cells (zcells (.int .i64 0) 16) 3)).cellv 4 rfl
    clear HA
    go_region_with (go_at_call 40; refine (stack_ok _).mono ?_; rintro e wn ⟨rfl, rfl⟩)
    all_goals
      go_upto_region 24 with fail
      have HJ := Lib.hid (HJ0.out.s3)
      clear y3 y4 y5 y9 fy z3 z4 z5 z7 z0 r0 r1 r2 r3 r4 r5 g0 g1 o0 o1 o2 o3 o4 o5 c0 f0 f3 f4 f6 f7
      generalize (((((X0.alloc (.cells (zcells (.int .i64 0) 16) 3)).setCell ⟨n + 1 + 1 + 1, 3, none⟩ (.int .i64 2)).setCell ⟨n + 1 + 1 + 1, 4, none⟩ (.int .i64 0)).setCell ⟨n + 1 + 1 + 1, 5, none⟩ (.slice (some ⟨X0.heap.size, 0, none⟩) 16 16)).drew) = Y at HJ ⊢
      obtain ⟨b0, b1, b2, b3, b4, b5, b6, b7, b8⟩ := HJ.out.box
      go_wp2_with fail
      refine (aall_ok _ _ (eV 0 2 0 68 68 0 0 false false 16) (1 + (p : Int)) (HJ.out.vw (by omega) ⟨by decide, by decide⟩ ⟨by decide, by decide⟩ ⟨by decide, by decide⟩ ⟨by decide, by decide⟩ ⟨by decide, by decide⟩ ⟨by decide, by decide⟩ ⟨by decide, by decide⟩) (eV_small (by omega))).mono ?_
      rintro e y1 ⟨v1, rfl, O1, C1, F1⟩
      rw [e3 hps] at O1
      obtain ⟨Ao, ko, rfl⟩ := O1.slice
      have HJ1 := Lib.hid (HJ.out.chg C1)
      have HO1 := Lib.hid O1; clear O1 C1 F1 b0 b1 b2 b3 b4 b5 b6 b7 b8
      go_upto_region 26 with fail
      have HJ2 := Lib.hid (HJ1.out.chg ((Chg.refl [] y1).alloc (.cells #[.string ⟨#[108, 111, 115, 116]⟩, .string ⟨#[111, 98, 106, 101, 99, 116, 115]⟩, .string ⟨#[116, 119, 105, 99, 101]⟩, .string ⟨#[112, 108, 97, 99, 101, 115]⟩, .string ⟨#[119, 111, 114, 107]⟩, .string ⟨#[119, 104, 105, 116, 101]⟩, .string ⟨#[110, 117, 109, 98, 101, 114, 115]⟩, .string ⟨#[109, 97, 114, 107, 101, 100]⟩] 9)))
      have HO2 := Lib.hid (HO1.out.alloc (.cells #[.string ⟨#[108, 111, 115, 116]⟩, .string ⟨#[111, 98, 106, 101, 99, 116, 115]⟩, .string ⟨#[116, 119, 105, 99, 101]⟩, .string ⟨#[112, 108, 97, 99, 101, 115]⟩, .string ⟨#[119, 111, 114, 107]⟩, .string ⟨#[119, 104, 105, 116, 101]⟩, .string ⟨#[110, 117, 109, 98, 101, 114, 115]⟩, .string ⟨#[109, 97, 114, 107, 101, 100]⟩] 9))
      generalize (y1.alloc (.cells #[.string ⟨#[108, 111, 115, 116]⟩, .string ⟨#[111, 98, 106, 101, 99, 116, 115]⟩, .string ⟨#[116, 119, 105, 99, 101]⟩, .string ⟨#[112, 108, 97, 99, 101, 115]⟩, .string ⟨#[119, 111, 114, 107]⟩, .string ⟨#[119, 104, 105, 116, 101]⟩, .string ⟨#[110, 117, 109, 98, 101, 114, 115]⟩, .string ⟨#[109, 97, 114, 107, 101, 100]⟩] 9)) = Y2 at HJ2 HO2 ⊢
      go_wp2_with fail
      refine (told30_ok _).mono ?_
      rintro e y3 ⟨rfl, C3⟩
      have HJ3 := Lib.hid (HJ2.out.chg C3)
      obtain ⟨gp, rfl, q0, -, -⟩ := (HO2.out.chg0 C3).cell (i := 0) (x := 3) rfl
      clear C3
      obtain ⟨b0, b1, b2, b3, b4, b5, b6, b7, b8⟩ := HJ3.out.box
      go_wp2_with fail
      refine (acheck_ok _ _ (eV 0 2 0 68 68 0 0 false false 16) (1 + (p : Int)) (HJ3.out.vw (by omega) ⟨by decide, by decide⟩ ⟨by decide, by decide⟩ ⟨by decide, by decide⟩ ⟨by decide, by decide⟩ ⟨by decide, by decide⟩ ⟨by decide, by decide⟩ ⟨by decide, by decide⟩) (eV_small (by omega))).mono ?_
      rintro e y4 ⟨rfl, C4⟩
      rw [show chkN (eV 0 2 0 68 68 0 0 false false 16) (1 + (p : Int)) = 3 by unfold chkN; rw [e3 hps]; rfl]
      have HJ4 := Lib.hid (HJ3.out.chg C4); clear C4 q0 b0 b1 b2 b3 b4 b5 b6 b7 b8
      go_wp2_with fail
      refine (atext_ok _ 3).mono ?_
      rintro e y5 ⟨rfl, C5⟩
      rw [show txtN 3 = #[116, 119, 105, 99, 101] from rfl]
      have HZ := Lib.hid (HJ4.out.c.trans C5); clear C5
      go_wp2_with fail
      go_ret
      exact ⟨rfl, HZ.out⟩
  · go_upto_region 24 with fail
    have HJ := Lib.hid (HJ0.out.s4)
    clear z3 z4 z5 z7 z0 r0 r1 r2 r3 r4 r5 g0 g1 o0 o1 o2 o3 o4 o5 c0 f0 f3 f4 f6 f7
    generalize (X0.setCell ⟨n + 1 + 1 + 1, 4, none⟩ (.int .i64 0)) = Y at HJ ⊢
    obtain ⟨b0, b1, b2, b3, b4, b5, b6, b7, b8⟩ := HJ.out.box
    go_wp2_with fail
    refine (aall_ok _ _ (eV 0 3 0 68 68 0 0 false false 16) (1 + (p : Int)) (HJ.out.vw (by omega) ⟨by decide, by decide⟩ ⟨by decide, by decide⟩ ⟨by decide, by decide⟩ ⟨by decide, by decide⟩ ⟨by decide, by decide⟩ ⟨by decide, by decide⟩ ⟨by decide, by decide⟩) (eV_small (by omega))).mono ?_
    rintro e y1 ⟨v1, rfl, O1, C1, F1⟩
    rw [e4 hps] at O1
    obtain ⟨Ao, ko, rfl⟩ := O1.slice
    have HJ1 := Lib.hid (HJ.out.chg C1)
    have HO1 := Lib.hid O1; clear O1 C1 F1 b0 b1 b2 b3 b4 b5 b6 b7 b8
    go_upto_region 26 with fail
    have HJ2 := Lib.hid (HJ1.out.chg ((Chg.refl [] y1).alloc (.cells #[.string ⟨#[108, 111, 115, 116]⟩, .string ⟨#[111, 98, 106, 101, 99, 116, 115]⟩, .string ⟨#[116, 119, 105, 99, 101]⟩, .string ⟨#[112, 108, 97, 99, 101, 115]⟩, .string ⟨#[119, 111, 114, 107]⟩, .string ⟨#[119, 104, 105, 116, 101]⟩, .string ⟨#[110, 117, 109, 98, 101, 114, 115]⟩, .string ⟨#[109, 97, 114, 107, 101, 100]⟩] 9)))
    have HO2 := Lib.hid (HO1.out.alloc (.cells #[.string ⟨#[108, 111, 115, 116]⟩, .string ⟨#[111, 98, 106, 101, 99, 116, 115]⟩, .string ⟨#[116, 119, 105, 99, 101]⟩, .string ⟨#[112, 108, 97, 99, 101, 115]⟩, .string ⟨#[119, 111, 114, 107]⟩, .string ⟨#[119, 104, 105, 116, 101]⟩, .string ⟨#[110, 117, 109, 98, 101, 114, 115]⟩, .string ⟨#[109, 97, 114, 107, 101, 100]⟩] 9))
    generalize (y1.alloc (.cells #[.string ⟨#[108, 111, 115, 116]⟩, .string ⟨#[111, 98, 106, 101, 99, 116, 115]⟩, .string ⟨#[116, 119, 105, 99, 101]⟩, .string ⟨#[112, 108, 97, 99, 101, 115]⟩, .string ⟨#[119, 111, 114, 107]⟩, .string ⟨#[119, 104, 105, 116, 101]⟩, .string ⟨#[110, 117, 109, 98, 101, 114, 115]⟩, .string ⟨#[109, 97, 114, 107, 101, 100]⟩] 9)) = Y2 at HJ2 HO2 ⊢
    go_wp2_with fail
    refine (told30_ok _).mono ?_
    rintro e y3 ⟨rfl, C3⟩
    have HJ3 := Lib.hid (HJ2.out.chg C3)
    obtain ⟨gp, rfl, q0, -, -⟩ := (HO2.out.chg0 C3).cell (i := 0) (x := 4) rfl
    clear C3
    obtain ⟨b0, b1, b2, b3, b4, b5, b6, b7, b8⟩ := HJ3.out.box
    go_wp2_with fail
    refine (acheck_ok _ _ (eV 0 3 0 68 68 0 0 false false 16) (1 + (p : Int)) (HJ3.out.vw (by omega) ⟨by decide, by decide⟩ ⟨by decide, by decide⟩ ⟨by decide, by decide⟩ ⟨by decide, by decide⟩ ⟨by decide, by decide⟩ ⟨by decide, by decide⟩ ⟨by decide, by decide⟩) (eV_small (by omega))).mono ?_
    rintro e y4 ⟨rfl, C4⟩
    rw [show chkN (eV 0 3 0 68 68 0 0 false false 16) (1 + (p : Int)) = 4 by unfold chkN; rw [e4 hps]; rfl]
    have HJ4 := Lib.hid (HJ3.out.chg C4); clear C4 q0 b0 b1 b2 b3 b4 b5 b6 b7 b8
    go_wp2_with fail
    refine (atext_ok _ 4).mono ?_
    rintro e y5 ⟨rfl, C5⟩
    rw [show txtN 4 = #[112, 108, 97, 99, 101, 115] from rfl]
    have HZ := Lib.hid (HJ4.out.c.trans C5); clear C5
    go_wp2_with fail
    go_ret
    exact ⟨rfl, HZ.out⟩
  · go_upto_region 24 with fail
    have HJ := Lib.hid (HJ0.out.s5)
    clear z3 z4 z5 z7 z0 r0 r1 r2 r3 r4 r5 g0 g1 o0 o1 o2 o3 o4 o5 c0 f0 f3 f4 f6 f7
    generalize (X0.setCell ⟨n + 1 + 1 + 1 + 1 + 1 + 1 + 1, 7, none⟩ (.int .i64 1)) = Y at HJ ⊢
    obtain ⟨b0, b1, b2, b3, b4, b5, b6, b7, b8⟩ := HJ.out.box
    go_wp2_with fail
    refine (aall_ok _ _ (eV 0 3 (-1) 68 68 1 0 false false 16) (1 + (p : Int)) (HJ.out.vw (by omega) ⟨by decide, by decide⟩ ⟨by decide, by decide⟩ ⟨by decide, by decide⟩ ⟨by decide, by decide⟩ ⟨by decide, by decide⟩ ⟨by decide, by decide⟩ ⟨by decide, by decide⟩) (eV_small (by omega))).mono ?_
    rintro e y1 ⟨v1, rfl, O1, C1, F1⟩
    rw [e5 hps] at O1
    obtain ⟨Ao, ko, rfl⟩ := O1.slice
    have HJ1 := Lib.hid (HJ.out.chg C1)
    have HO1 := Lib.hid O1; clear O1 C1 F1 b0 b1 b2 b3 b4 b5 b6 b7 b8
    go_upto_region 26 with fail
    have HJ2 := Lib.hid (HJ1.out.chg ((Chg.refl [] y1).alloc (.cells #[.string ⟨#[108, 111, 115, 116]⟩, .string ⟨#[111, 98, 106, 101, 99, 116, 115]⟩, .string ⟨#[116, 119, 105, 99, 101]⟩, .string ⟨#[112, 108, 97, 99, 101, 115]⟩, .string ⟨#[119, 111, 114, 107]⟩, .string ⟨#[119, 104, 105, 116, 101]⟩, .string ⟨#[110, 117, 109, 98, 101, 114, 115]⟩, .string ⟨#[109, 97, 114, 107, 101, 100]⟩] 9)))
    have HO2 := Lib.hid (HO1.out.alloc (.cells #[.string ⟨#[108, 111, 115, 116]⟩, .string ⟨#[111, 98, 106, 101, 99, 116, 115]⟩, .string ⟨#[116, 119, 105, 99, 101]⟩, .string ⟨#[112, 108, 97, 99, 101, 115]⟩, .string ⟨#[119, 111, 114, 107]⟩, .string ⟨#[119, 104, 105, 116, 101]⟩, .string ⟨#[110, 117, 109, 98, 101, 114, 115]⟩, .string ⟨#[109, 97, 114, 107, 101, 100]⟩] 9))
    generalize (y1.alloc (.cells #[.string ⟨#[108, 111, 115, 116]⟩, .string ⟨#[111, 98, 106, 101, 99, 116, 115]⟩, .string ⟨#[116, 119, 105, 99, 101]⟩, .string ⟨#[112, 108, 97, 99, 101, 115]⟩, .string ⟨#[119, 111, 114, 107]⟩, .string ⟨#[119, 104, 105, 116, 101]⟩, .string ⟨#[110, 117, 109, 98, 101, 114, 115]⟩, .string ⟨#[109, 97, 114, 107, 101, 100]⟩] 9)) = Y2 at HJ2 HO2 ⊢
    go_wp2_with fail
    refine (told30_ok _).mono ?_
    rintro e y3 ⟨rfl, C3⟩
    have HJ3 := Lib.hid (HJ2.out.chg C3)
    obtain ⟨gp, rfl, q0, -, -⟩ := (HO2.out.chg0 C3).cell (i := 0) (x := 5) rfl
    clear C3
    obtain ⟨b0, b1, b2, b3, b4, b5, b6, b7, b8⟩ := HJ3.out.box
    go_wp2_with fail
    refine (acheck_ok _ _ (eV 0 3 (-1) 68 68 1 0 false false 16) (1 + (p : Int)) (HJ3.out.vw (by omega) ⟨by decide, by decide⟩ ⟨by decide, by decide⟩ ⟨by decide, by decide⟩ ⟨by decide, by decide⟩ ⟨by decide, by decide⟩ ⟨by decide, by decide⟩ ⟨by decide, by decide⟩) (eV_small (by omega))).mono ?_
    rintro e y4 ⟨rfl, C4⟩
    rw [show chkN (eV 0 3 (-1) 68 68 1 0 false false 16) (1 + (p : Int)) = 5 by unfold chkN; rw [e5 hps]; rfl]
    have HJ4 := Lib.hid (HJ3.out.chg C4); clear C4 q0 b0 b1 b2 b3 b4 b5 b6 b7 b8
    go_wp2_with fail
    refine (atext_ok _ 5).mono ?_
    rintro e y5 ⟨rfl, C5⟩
    rw [show txtN 5 = #[119, 111, 114, 107] from rfl]
    have HZ := Lib.hid (HJ4.out.c.trans C5); clear C5
    go_wp2_with fail
    go_ret
    exact ⟨rfl, HZ.out⟩
  · go_upto_region 24 with fail
    have HJ := Lib.hid (HJ0.out.s6a.s6b)
    clear z3 z4 z5 z7 z0 r0 r1 r2 r3 r4 r5 g0 g1 o0 o1 o2 o3 o4 o5 c0 f0 f3 f4 f6 f7
    generalize ((X0.setCell ⟨n + 1 + 1 + 1 + 1 + 1 + 1 + 1, 0, none⟩ (.int .i64 2)).setCell ⟨n + 1 + 1 + 1 + 1 + 1 + 1, 2, none⟩ (.bool true)) = Y at HJ ⊢
    obtain ⟨b0, b1, b2, b3, b4, b5, b6, b7, b8⟩ := HJ.out.box
    go_wp2_with fail
    refine (aall_ok _ _ (eV 0 3 (-1) 68 68 0 2 true false 16) (1 + (p : Int)) (HJ.out.vw (by omega) ⟨by decide, by decide⟩ ⟨by decide, by decide⟩ ⟨by decide, by decide⟩ ⟨by decide, by decide⟩ ⟨by decide, by decide⟩ ⟨by decide, by decide⟩ ⟨by decide, by decide⟩) (eV_small (by omega))).mono ?_
    rintro e y1 ⟨v1, rfl, O1, C1, F1⟩
    rw [e6 hps] at O1
    obtain ⟨Ao, ko, rfl⟩ := O1.slice
    have HJ1 := Lib.hid (HJ.out.chg C1)
    have HO1 := Lib.hid O1; clear O1 C1 F1 b0 b1 b2 b3 b4 b5 b6 b7 b8
    go_upto_region 26 with fail
    have HJ2 := Lib.hid (HJ1.out.chg ((Chg.refl [] y1).alloc (.cells #[.string ⟨#[108, 111, 115, 116]⟩, .string ⟨#[111, 98, 106, 101, 99, 116, 115]⟩, .string ⟨#[116, 119, 105, 99, 101]⟩, .string ⟨#[112, 108, 97, 99, 101, 115]⟩, .string ⟨#[119, 111, 114, 107]⟩, .string ⟨#[119, 104, 105, 116, 101]⟩, .string ⟨#[110, 117, 109, 98, 101, 114, 115]⟩, .string ⟨#[109, 97, 114, 107, 101, 100]⟩] 9)))
    have HO2 := Lib.hid (HO1.out.alloc (.cells #[.string ⟨#[108, 111, 115, 116]⟩, .string ⟨#[111, 98, 106, 101, 99, 116, 115]⟩, .string ⟨#[116, 119, 105, 99, 101]⟩, .string ⟨#[112, 108, 97, 99, 101, 115]⟩, .string ⟨#[119, 111, 114, 107]⟩, .string ⟨#[119, 104, 105, 116, 101]⟩, .string ⟨#[110, 117, 109, 98, 101, 114, 115]⟩, .string ⟨#[109, 97, 114, 107, 101, 100]⟩] 9))
    generalize (y1.alloc (.cells #[.string ⟨#[108, 111, 115, 116]⟩, .string ⟨#[111, 98, 106, 101, 99, 116, 115]⟩, .string ⟨#[116, 119, 105, 99, 101]⟩, .string ⟨#[112, 108, 97, 99, 101, 115]⟩, .string ⟨#[119, 111, 114, 107]⟩, .string ⟨#[119, 104, 105, 116, 101]⟩, .string ⟨#[110, 117, 109, 98, 101, 114, 115]⟩, .string ⟨#[109, 97, 114, 107, 101, 100]⟩] 9)) = Y2 at HJ2 HO2 ⊢
    go_wp2_with fail
    refine (told30_ok _).mono ?_
    rintro e y3 ⟨rfl, C3⟩
    have HJ3 := Lib.hid (HJ2.out.chg C3)
    obtain ⟨gp, rfl, q0, -, -⟩ := (HO2.out.chg0 C3).cell (i := 0) (x := 6) rfl
    clear C3
    obtain ⟨b0, b1, b2, b3, b4, b5, b6, b7, b8⟩ := HJ3.out.box
    go_wp2_with fail
    refine (acheck_ok _ _ (eV 0 3 (-1) 68 68 0 2 true false 16) (1 + (p : Int)) (HJ3.out.vw (by omega) ⟨by decide, by decide⟩ ⟨by decide, by decide⟩ ⟨by decide, by decide⟩ ⟨by decide, by decide⟩ ⟨by decide, by decide⟩ ⟨by decide, by decide⟩ ⟨by decide, by decide⟩) (eV_small (by omega))).mono ?_
    rintro e y4 ⟨rfl, C4⟩
    rw [show chkN (eV 0 3 (-1) 68 68 0 2 true false 16) (1 + (p : Int)) = 6 by unfold chkN; rw [e6 hps]; rfl]
    have HJ4 := Lib.hid (HJ3.out.chg C4); clear C4 q0 b0 b1 b2 b3 b4 b5 b6 b7 b8
    go_wp2_with fail
    refine (atext_ok _ 6).mono ?_
    rintro e y5 ⟨rfl, C5⟩
    rw [show txtN 6 = #[119, 104, 105, 116, 101] from rfl]
    have HZ := Lib.hid (HJ4.out.c.trans C5); clear C5
    go_wp2_with fail
    go_ret
    exact ⟨rfl, HZ.out⟩
  · go_upto_region 23 with fail
    go_still_tail 10, (by kernel_rfl)
    go_upto_region 24 with fail
    have HJ := Lib.hid (HJ0.out.s7.chg (Chg.refl [] _).drew)
    clear z3 z4 z5 z7 z0 r0 r1 r2 r3 r4 r5 g0 g1 o0 o1 o2 o3 o4 o5 c0 f0 f3 f4 f6 f7
    generalize (X0.setCell ⟨n + 1 + 1 + 1, 2, none⟩ (.slice (some ⟨n + 1, 0, none⟩) 15 16)).drew = Y at HJ ⊢
    obtain ⟨b0, b1, b2, b3, b4, b5, b6, b7, b8⟩ := HJ.out.box
    go_wp2_with fail
    refine (aall_ok _ _ (eV 0 3 (-1) 68 68 0 0 false false 15) (1 + (p : Int)) (HJ.out.vw (by omega) ⟨by decide, by decide⟩ ⟨by decide, by decide⟩ ⟨by decide, by decide⟩ ⟨by decide, by decide⟩ ⟨by decide, by decide⟩ ⟨by decide, by decide⟩ ⟨by decide, by decide⟩) (eV_small (by omega))).mono ?_
    rintro e y1 ⟨v1, rfl, O1, C1, F1⟩
    rw [e7 hps] at O1
    obtain ⟨Ao, ko, rfl⟩ := O1.slice
    have HJ1 := Lib.hid (HJ.out.chg C1)
    have HO1 := Lib.hid O1; clear O1 C1 F1 b0 b1 b2 b3 b4 b5 b6 b7 b8
    go_upto_region 26 with fail
    have HJ2 := Lib.hid (HJ1.out.chg ((Chg.refl [] y1).alloc (.cells #[.string ⟨#[108, 111, 115, 116]⟩, .string ⟨#[111, 98, 106, 101, 99, 116, 115]⟩, .string ⟨#[116, 119, 105, 99, 101]⟩, .string ⟨#[112, 108, 97, 99, 101, 115]⟩, .string ⟨#[119, 111, 114, 107]⟩, .string ⟨#[119, 104, 105, 116, 101]⟩, .string ⟨#[110, 117, 109, 98, 101, 114, 115]⟩, .string ⟨#[109, 97, 114, 107, 101, 100]⟩] 9)))
    have HO2 := Lib.hid (HO1.out.alloc (.cells #[.string ⟨#[108, 111, 115, 116]⟩, .string ⟨#[111, 98, 106, 101, 99, 116, 115]⟩, .string ⟨#[116, 119, 105, 99, 101]⟩, .string ⟨#[112, 108, 97, 99, 101, 115]⟩, .string ⟨#[119, 111, 114, 107]⟩, .string ⟨#[119, 104, 105, 116, 101]⟩, .string ⟨#[110, 117, 109, 98, 101, 114, 115]⟩, .string ⟨#[109, 97, 114, 107, 101, 100]⟩] 9))
    generalize (y1.alloc (.cells #[.string ⟨#[108, 111, 115, 116]⟩, .string ⟨#[111, 98, 106, 101, 99, 116, 115]⟩, .string ⟨#[116, 119, 105, 99, 101]⟩, .string ⟨#[112, 108, 97, 99, 101, 115]⟩, .string ⟨#[119, 111, 114, 107]⟩, .string ⟨#[119, 104, 105, 116, 101]⟩, .string ⟨#[110, 117, 109, 98, 101, 114, 115]⟩, .string ⟨#[109, 97, 114, 107, 101, 100]⟩] 9)) = Y2 at HJ2 HO2 ⊢
    go_wp2_with fail
    refine (told30_ok _).mono ?_
    rintro e y3 ⟨rfl, C3⟩
    have HJ3 := Lib.hid (HJ2.out.chg C3)
    obtain ⟨gp, rfl, q0, -, -⟩ := (HO2.out.chg0 C3).cell (i := 0) (x := 7) rfl
    clear C3
    obtain ⟨b0, b1, b2, b3, b4, b5, b6, b7, b8⟩ := HJ3.out.box
    go_wp2_with fail
    refine (acheck_ok _ _ (eV 0 3 (-1) 68 68 0 0 false false 15) (1 + (p : Int)) (HJ3.out.vw (by omega) ⟨by decide, by decide⟩ ⟨by decide, by decide⟩ ⟨by decide, by decide⟩ ⟨by decide, by decide⟩ ⟨by decide, by decide⟩ ⟨by decide, by decide⟩ ⟨by decide, by decide⟩) (eV_small (by omega))).mono ?_
    rintro e y4 ⟨rfl, C4⟩
    rw [show chkN (eV 0 3 (-1) 68 68 0 0 false false 15) (1 + (p : Int)) = 7 by unfold chkN; rw [e7 hps]; rfl]
    have HJ4 := Lib.hid (HJ3.out.chg C4); clear C4 q0 b0 b1 b2 b3 b4 b5 b6 b7 b8
    go_wp2_with fail
    refine (atext_ok _ 7).mono ?_
    rintro e y5 ⟨rfl, C5⟩
    rw [show txtN 7 = #[110, 117, 109, 98, 101, 114, 115] from rfl]
    have HZ := Lib.hid (HJ4.out.c.trans C5); clear C5
    go_wp2_with fail
    go_ret
    exact ⟨rfl, HZ.out⟩
  · go_upto_region 24 with fail
    have HJ := Lib.hid (HJ0.out.s8)
    clear z3 z4 z5 z7 z0 r0 r1 r2 r3 r4 r5 g0 g1 o0 o1 o2 o3 o4 o5 c0 f0 f3 f4 f6 f7
    generalize (X0.setCell ⟨n + 1 + 1 + 1 + 1 + 1 + 1, 5, none⟩ (.bool true)) = Y at HJ ⊢
    obtain ⟨b0, b1, b2, b3, b4, b5, b6, b7, b8⟩ := HJ.out.box
    go_wp2_with fail
    refine (aall_ok _ _ (eV 0 3 (-1) 68 68 0 0 false true 16) (1 + (p : Int)) (HJ.out.vw (by omega) ⟨by decide, by decide⟩ ⟨by decide, by decide⟩ ⟨by decide, by decide⟩ ⟨by decide, by decide⟩ ⟨by decide, by decide⟩ ⟨by decide, by decide⟩ ⟨by decide, by decide⟩) (eV_small (by omega))).mono ?_
    rintro e y1 ⟨v1, rfl, O1, C1, F1⟩
    rw [e8 hps] at O1
    obtain ⟨Ao, ko, rfl⟩ := O1.slice
    have HJ1 := Lib.hid (HJ.out.chg C1)
    have HO1 := Lib.hid O1; clear O1 C1 F1 b0 b1 b2 b3 b4 b5 b6 b7 b8
    go_upto_region 26 with fail
    have HJ2 := Lib.hid (HJ1.out.chg ((Chg.refl [] y1).alloc (.cells #[.string ⟨#[108, 111, 115, 116]⟩, .string ⟨#[111, 98, 106, 101, 99, 116, 115]⟩, .string ⟨#[116, 119, 105, 99, 101]⟩, .string ⟨#[112, 108, 97, 99, 101, 115]⟩, .string ⟨#[119, 111, 114, 107]⟩, .string ⟨#[119, 104, 105, 116, 101]⟩, .string ⟨#[110, 117, 109, 98, 101, 114, 115]⟩, .string ⟨#[109, 97, 114, 107, 101, 100]⟩] 9)))
    have HO2 := Lib.hid (HO1.out.alloc (.cells #[.string ⟨#[108, 111, 115, 116]⟩, .string ⟨#[111, 98, 106, 101, 99, 116, 115]⟩, .string ⟨#[116, 119, 105, 99, 101]⟩, .string ⟨#[112, 108, 97, 99, 101, 115]⟩, .string ⟨#[119, 111, 114, 107]⟩, .string ⟨#[119, 104, 105, 116, 101]⟩, .string ⟨#[110, 117, 109, 98, 101, 114, 115]⟩, .string ⟨#[109, 97, 114, 107, 101, 100]⟩] 9))
    generalize (y1.alloc (.cells #[.string ⟨#[108, 111, 115, 116]⟩, .string ⟨#[111, 98, 106, 101, 99, 116, 115]⟩, .string ⟨#[116, 119, 105, 99, 101]⟩, .string ⟨#[112, 108, 97, 99, 101, 115]⟩, .string ⟨#[119, 111, 114, 107]⟩, .string ⟨#[119, 104, 105, 116, 101]⟩, .string ⟨#[110, 117, 109, 98, 101, 114, 115]⟩, .string ⟨#[109, 97, 114, 107, 101, 100]⟩] 9)) = Y2 at HJ2 HO2 ⊢
    go_wp2_with fail
    refine (told30_ok _).mono ?_
    rintro e y3 ⟨rfl, C3⟩
    have HJ3 := Lib.hid (HJ2.out.chg C3)
    obtain ⟨gp, rfl, q0, -, -⟩ := (HO2.out.chg0 C3).cell (i := 0) (x := 8) rfl
    clear C3
    obtain ⟨b0, b1, b2, b3, b4, b5, b6, b7, b8⟩ := HJ3.out.box
    go_wp2_with fail
    refine (acheck_ok _ _ (eV 0 3 (-1) 68 68 0 0 false true 16) (1 + (p : Int)) (HJ3.out.vw (by omega) ⟨by decide, by decide⟩ ⟨by decide, by decide⟩ ⟨by decide, by decide⟩ ⟨by decide, by decide⟩ ⟨by decide, by decide⟩ ⟨by decide, by decide⟩ ⟨by decide, by decide⟩) (eV_small (by omega))).mono ?_
    rintro e y4 ⟨rfl, C4⟩
    rw [show chkN (eV 0 3 (-1) 68 68 0 0 false true 16) (1 + (p : Int)) = 8 by unfold chkN; rw [e8 hps]; rfl]
    have HJ4 := Lib.hid (HJ3.out.chg C4); clear C4 q0 b0 b1 b2 b3 b4 b5 b6 b7 b8
    go_wp2_with fail
    refine (atext_ok _ 8).mono ?_
    rintro e y5 ⟨rfl, C5⟩
    rw [show txtN 8 = #[109, 97, 114, 107, 101, 100] from rfl]
    have HZ := Lib.hid (HJ4.out.c.trans C5); clear C5
    go_wp2_with fail
    go_ret
    exact ⟨rfl, HZ.out⟩
end Go.Proofs.Ytfkgooliglcjkaa
