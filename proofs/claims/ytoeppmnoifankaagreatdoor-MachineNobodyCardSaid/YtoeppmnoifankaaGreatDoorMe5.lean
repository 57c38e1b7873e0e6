/- The law's told(). -/
import Derived.Test.YtoeppmnoifankaaGreatDoorMe2
import Derived.Test.YtoeppmnoifankaaGreatDoorMe3J
namespace Go.Proofs.YtoeppmnoifankaaGreatDoor
open Go.RowKit Go.Maps

theorem RdV.ofBlk {w : World} {g n : Nat} {t : TypeId} {ys : List Value} (h : Blk w g t ys.toArray) (hn : ys.length = n) (h1 : ∀ y ∈ ys, y.oneCell' = true) : RdV w w.heap.size (.slice (some ⟨g, 0, none⟩) n n) ys :=
  ⟨⟨_, _, by rw [hn]⟩, (fun A m c e i y hy => by
    injection e with e1 e2 e3
    exact ⟨g, 0, e1.symm, h.lt, by rw [Nat.zero_add]; exact h.cellv i (by rw [List.getElem?_toArray]; exact hy)⟩), h1⟩
theorem u8s_one1 (bs : List Nat) : ∀ y ∈ u8s bs, y.oneCell' = true := by
  intro y hy
  obtain ⟨x, _, rfl⟩ := List.mem_map.1 hy
  rfl
def b_ok : List Nat := [1, 0, 1, 0, 0, 0, 0]
def b_bad : List Nat := [1, 0, 1, 99, 0, 0, 0]
def TdRel (w1 : World) (p : MAt) (m m1 : Mac) (gk : Nat) (idx : Value) (wr : World) : Prop := (gk = 2 ∧ idx = .int .i64 0 ∧ MM ⟨w1, []⟩ wr p m) ∨ (gk = 1 ∧ idx = .int .i64 1 ∧ ∃ v, MM ⟨w1, []⟩ wr { p with vco := v } m1)
set_option maxHeartbeats 6400000 in
set_option maxRecDepth 100000 in
theorem told28_yes (w : World) : Calls Tryz.prog 8 #[] w (NwPost (.bool true) w) := by
  go_enter Tryz.func8, Tryz.ntmps8
  obtain ⟨ins, hd, hio⟩ := dec28_ok
  have Hd := Lib.hid (And.intro hd hio); clear hd hio
  go_wp2_with fail
  obtain ⟨w1, hw1⟩ : ∃ w1, w1 = w.alloc (.cells #[.int .u8 1, .int .u8 0, .int .u8 1, .int .u8 0, .int .u8 0, .int .u8 0, .int .u8 0] 5) := ⟨_, rfl⟩
  rw [← hw1]
  have B1 : Blk w1 w.heap.size 5 (u8s b_ok).toArray := by rw [hw1]; exact Blk.new _ _ _
  have R1 := RdV.ofBlk (n := 7) B1 rfl (u8s_one1 _)
  have c01 : Chg [] w w1 := by rw [hw1]; exact (Chg.refl [] w).alloc _
  have H1 := Lib.hid c01; clear c01 hw1 B1
  refine (m_new w1 2 4 0 256 0 0 _ b_ok _ (by decide) (by decide) (by decide) (by decide) R1 (by decide) (by decide) Hd.out.1 (by decide) (by decide)).mono ?_
  rintro e w2 ⟨p, pct, on, part, t, g, r, rfl, ht, hq, htm, hfr, hco, M⟩
  obtain ⟨m, hm⟩ : ∃ m, m = spawnA { mk0m 0 [[ins]] ((256 : Nat) : Int) pct on part 4 2 with gT := t, gG := g, gR := r } 0 0 0 := ⟨_, rfl⟩
  rw [← hm] at M
  have H2 := Lib.hid (And.intro M (And.intro hm (And.intro ht (And.intro hq (And.intro htm (And.intro hfr hco)))))); clear M hm ht hq htm hfr hco R1
  go_wp2_with fail
  obtain ⟨w3, hw3⟩ : ∃ w3, w3 = w2.alloc (.cells #[.int .u8 1, .int .u8 0, .int .u8 1, .int .u8 99, .int .u8 0, .int .u8 0, .int .u8 0] 5) := ⟨_, rfl⟩
  rw [← hw3]
  have B3 : Blk w3 w2.heap.size 5 (u8s b_bad).toArray := by rw [hw3]; exact Blk.new _ _ _
  have R3 := RdV.ofBlk (n := 7) B3 rfl (u8s_one1 _)
  have c23 : Chg [] w2 w3 := by rw [hw3]; exact (Chg.refl [] w2).alloc _
  have H3 := Lib.hid c23; clear c23 hw3 B3
  refine (m_new_bad w3 2 4 256 3 0 0 _ b_bad (by decide) (by decide) (by decide) (by decide) R3 (by decide) (by decide) dec28_bad (by decide)).mono ?_
  rintro e w4 ⟨rfl, c34⟩
  have M4 := H2.out.1.chg0 (H3.out.trans c34)
  have H4 := Lib.hid M4; clear M4 c34 R3
  go_wp2_with fail
  have s0 : stV m = 0 := by rw [H2.out.2.1]; rfl
  have s1 : stV (exitA (takeA (tickA m 0) 0 0) 0 0) = 1 := by rw [H2.out.2.1]; rfl
  have Hs := Lib.hid (And.intro s0 s1); clear s0 s1
  go_loopg [7] 2 (fun gk idx wr => TdRel w1 p m (exitA (takeA (tickA m 0) 0 0) 0 0) gk idx wr)
  case atStart => exact .inl ⟨rfl, rfl, H4.out⟩
  case round =>
    rcases hrel with ⟨rfl, rfl, M5⟩ | ⟨rfl, rfl, v, M5⟩
    · have KS := m_status M5 (by rw [H2.out.2.1]; show (1 : Nat) ≤ 1024; decide) (by rw [H2.out.2.1]; show (0 : Nat) ≤ 1024; decide)
      rw [Hs.out.1] at KS
      have H5 := Lib.hid (And.intro M5 KS); clear M5 KS
      go_wp2_with fail
      refine (H5.out.2).mono ?_
      rintro e w6 ⟨rfl, kk, hw6⟩
      have M6 := H5.out.1.chg0 (show Chg [] wr w6 by rw [hw6]; exact (Chg.refl [] wr).drewN _)
      have H6 := Lib.hid M6; clear M6 hw6
      go_wp2_with fail
      have em := H2.out.2.1
      refine (m_step_exit H6.out 0 0 0 1 [ins] ins Hd.out.2.symm (by rw [em]; show 0 < 2; decide) (by rw [em]; show 2 ≤ 64; decide) (by rw [em]; show 0 < 1; decide) (by rw [em]; rfl) H2.out.2.2.2.1 H2.out.2.2.2.2.1 (by rw [em]; rfl) (by rw [em]; rfl) H2.out.2.2.2.2.2.1
        (by rw [em]; rfl) Hs.out.1 (by rw [em]; rfl) (by rw [em]; rfl) (by rw [em]; exact Int.le_refl 0) (by rw [em]; rfl) (by rw [em]; exact H2.out.2.2.1) 0 0 0 0 0 (by rw [em]; rfl) (by rw [em]; rfl) (by rw [em]; rfl) (by rw [em]; rfl) (by rw [em]; rfl) (by decide) (by decide) (by decide) (by decide) (by decide)
        (by rw [em]; rfl) (by rw [em]; show 0 < 256; decide) (by rw [em]; show 0 < 1; decide) (by rw [em]; show 1 ≤ 256; decide) (by rw [em]; rfl) (by rw [em]; rfl) (by rw [em]; show 1 ≤ 1024; decide) (by rw [em]; rfl) 0 (by rw [em]; rfl) (by decide) (by rw [em]; rfl) rfl (by rw [em]; show 0 ≤ 100000000; decide)).mono ?_
      clear em
      rintro e w7 ⟨v, rfl, M7⟩
      have H7 := Lib.hid M7; clear M7
      unfold evV
      go_wp2_with fail
      go_roundg 1
      case measure => decide
      case rel => exact .inr ⟨rfl, rfl, v, H7.out⟩
    · have KS := m_status M5 (by rw [H2.out.2.1]; show (1 : Nat) ≤ 1024; decide) (by rw [H2.out.2.1]; show (0 : Nat) ≤ 1024; decide)
      rw [Hs.out.2] at KS
      have H5 := Lib.hid (And.intro M5 KS); clear M5 KS
      go_wp2_with fail
      refine (H5.out.2).mono ?_
      rintro e w6 ⟨rfl, kk, hw6⟩
      have M6 := H5.out.1.chg0 (show Chg [] wr w6 by rw [hw6]; exact (Chg.refl [] wr).drewN _)
      have H6 := Lib.hid M6; clear M6 hw6
      go_wp2_with fail
      refine (m_commit_at H6.out 0 ⟨0, 0, 0, 0, 0, false⟩ (by rw [H2.out.2.1]; rfl)).mono ?_
      rintro e w7 ⟨rfl, c67⟩
      have H7 := Lib.hid (H6.out.chg0 c67); clear c67
      simp only [comC]
      go_upto_region 10 with fail
      obtain ⟨w8, hw8⟩ : ∃ w8, w8 = w7.alloc (.cells #[.int .i64 0, .int .i64 0, .int .i64 0, .int .i64 0, .int .i64 0, .bool false] 53) := ⟨_, rfl⟩
      obtain ⟨gk, hgk⟩ : ∃ g, g = w7.heap.size := ⟨_, rfl⟩
      rw [← hw8, ← hgk]
      have B8 : Blk w8 gk 53 #[.int .i64 0, .int .i64 0, .int .i64 0, .int .i64 0, .int .i64 0, .bool false] := by rw [hw8, hgk]; exact Blk.new _ _ _
      have M8 := H7.out.chg0 (show Chg [] w7 w8 by rw [hw8]; exact (Chg.refl [] w7).alloc _)
      have KS := m_status M8 (by rw [H2.out.2.1]; show (1 : Nat) ≤ 1024; decide) (by rw [H2.out.2.1]; show (0 : Nat) ≤ 1024; decide)
      rw [Hs.out.2] at KS
      have H8 := Lib.hid (And.intro M8 (And.intro B8 KS)); clear M8 B8 KS hw8 hgk
      go_wp2_with fail
      refine (H8.out.2.2).mono ?_
      rintro e w9 ⟨rfl, kk, hw9⟩
      have c89 : Chg [] w8 w9 := by rw [hw9]; exact (Chg.refl [] w8).drewN _
      have M9 := H8.out.1.chg0 c89
      have B9 := c89.blk H8.out.2.1 (by simp)
      have KC := m_commits M9
      rw [show (exitA (takeA (tickA m 0) 0 0) 0 0).cms.length = 1 by rw [H2.out.2.1]; rfl] at KC
      have k0 : w9.cell? ⟨gk, 0, none⟩ = some (.int .i64 0) := B9.cellv 0 rfl
      have k1 : w9.cell? ⟨gk, 1, none⟩ = some (.int .i64 0) := B9.cellv 1 rfl
      have k2 : w9.cell? ⟨gk, 2, none⟩ = some (.int .i64 0) := B9.cellv 2 rfl
      have k3 : w9.cell? ⟨gk, 3, none⟩ = some (.int .i64 0) := B9.cellv 3 rfl
      have k4 : w9.cell? ⟨gk, 4, none⟩ = some (.int .i64 0) := B9.cellv 4 rfl
      have k5 : w9.cell? ⟨gk, 5, none⟩ = some (.bool false) := B9.cellv 5 rfl
      have H9 := Lib.hid (And.intro M9 KC); clear M9 KC B9 hw9 c89
      go_wp2_with fail
      refine (H9.out.2).mono ?_
      rintro e w10 ⟨rfl, rfl⟩
      go_wp2_with fail
      go_ret
      exact ⟨rfl, H1.out.trans H9.out.1.c⟩
end Go.Proofs.YtoeppmnoifankaaGreatDoor
