/- Package machine: Commits, Commit. -/
/- Package machine: New of a script that does not decode; the two scripts that told() asks with. -/
/- The law's told(). -/
/- The methods of a machine that is nil. -/
/- A machine that is nil: View and Room; MachineNobody's walk. -/
/- Both machine and model, of a program: fresh, New. -/
import Derived.Test.YtepnlcemlnkpdaaGreatDoorMf5J
import Derived.Test.YtepnlcemlnkpdaaGreatDoorMe2
import Derived.Test.YtepnlcemlnkpdaaGreatDoorMHpJ
import Derived.Test.YtepnlcemlnkpdaaGreatDoorMAsJ
import Derived.Laws.IdiomStrings
namespace Go.Proofs.YtepnlcemlnkpdaaGreatDoor
set_option maxHeartbeats 16000000
set_option maxRecDepth 100000
open Go.RowKit Go.Maps
theorem ld_cm (w : World) {g : Nat} {a b c d e f : Value} (h : Blk w g 50 #[a, b, c, d, e, f]) : (loadVar 50 ⟨g, 0, none⟩).run Tryz.prog w = .ok (.agg #[a, b, c, d, e, f]) w := run_loadVar_row w g _ _ _ (0, 0) _ h Tryz.underlying50 rfl (by kernel_rfl)
section
variable {W : Bs} {w : World} {p : MAt} {m : Mac} (M : MM W w p m)
include M
theorem m_commits : Calls Tryz.prog 11 #[.pointer (some ⟨p.gm, 0, none⟩)] w (QuPost (.int .i64 (m.cms.length : Nat)) w) := by
  have O : OwnG comC 6 50 w p.vco m.cms := M.k .commits
  obtain ⟨A, c, hv⟩ := O.slice
  have c24 : w.cell? ⟨p.gm, 24, none⟩ = some p.vco := M.mb.cellv 24 rfl
  rw [hv] at c24
  clear hv O M
  go_enter Tryz.func11, Tryz.ntmps11
  go_wp2_with fail
  go_ret
  exact ⟨rfl, rfl⟩
theorem m_commit_at (i : Nat) (x : ComA) (hx : m.cms[i]? = some x) : Calls Tryz.prog 12 #[.pointer (some ⟨p.gm, 0, none⟩), .int .i64 (i : Nat)] w (NwPost (.tuple #[.agg (comC x).toArray, .bool true]) w) := by
  have O : OwnG comC 6 50 w p.vco m.cms := M.k .commits
  have hi := (List.getElem?_eq_some_iff.1 hx).1
  have KC := fun (w' : World) (c : Chg [] w w') => m_commits (M.chg0 c)
  have HKC := Lib.hid KC; clear KC
  have HM := Lib.hid (And.intro M (And.intro O hx)); clear M O hx
  go_enter Tryz.func12, Tryz.ntmps12
  go_upto_region 1 with fail
  obtain ⟨w1, hw1⟩ : ∃ w1, w1 = w.alloc (.cells #[.int .i64 0, .int .i64 0, .int .i64 0, .int .i64 0, .int .i64 0, .bool false] 50) := ⟨_, rfl⟩
  obtain ⟨gE, hgE⟩ : ∃ gE, gE = w.heap.size := ⟨_, rfl⟩
  rw [← hw1, ← hgE]
  have B1 : Blk w1 gE 50 #[.int .i64 0, .int .i64 0, .int .i64 0, .int .i64 0, .int .i64 0, .bool false] := by rw [hw1, hgE]; exact Blk.new _ _ _
  have c01 : Chg [] w w1 := by rw [hw1]; exact (Chg.refl [] w).alloc _
  have O1 := HM.out.2.1.chg0 c01
  obtain ⟨A, cp, hv⟩ := O1.slice
  have c24 : w1.cell? ⟨p.gm, 24, none⟩ = some p.vco := (HM.out.1.chg0 c01).mb.cellv 24 rfl
  rw [hv] at c24 O1
  obtain ⟨gb, hA, hc, -, -, hnc, hlt⟩ := O1.cell comC_len HM.out.2.2
  subst hA
  have i0 : w1.cell? ⟨gb, i * 6, none⟩ = some (.int .i64 x.g) := hc 0 _ rfl
  have i1 : w1.cell? ⟨gb, i * 6 + 1, none⟩ = some (.int .i64 x.f) := hc 1 _ rfl
  have i2 : w1.cell? ⟨gb, i * 6 + 2, none⟩ = some (.int .i64 x.pc) := hc 2 _ rfl
  have i3 : w1.cell? ⟨gb, i * 6 + 3, none⟩ = some (.int .i64 x.op) := hc 3 _ rfl
  have i4 : w1.cell? ⟨gb, i * 6 + 4, none⟩ = some (.int .i64 x.v) := hc 4 _ rfl
  have i5 : w1.cell? ⟨gb, i * 6 + 5, none⟩ = some (.bool x.flt) := hc 5 _ rfl
  have k0 : w1.cell? ⟨gE, 0, none⟩ = some (.int .i64 0) := B1.cellv 0 rfl
  have k1 : w1.cell? ⟨gE, 1, none⟩ = some (.int .i64 0) := B1.cellv 1 rfl
  have k2 : w1.cell? ⟨gE, 2, none⟩ = some (.int .i64 0) := B1.cellv 2 rfl
  have k3 : w1.cell? ⟨gE, 3, none⟩ = some (.int .i64 0) := B1.cellv 3 rfl
  have k4 : w1.cell? ⟨gE, 4, none⟩ = some (.int .i64 0) := B1.cellv 4 rfl
  have k5 : w1.cell? ⟨gE, 5, none⟩ = some (.bool false) := B1.cellv 5 rfl
  have f0 := B1.frozen 0
  have f1 := B1.frozen 1
  have f2 := B1.frozen 2
  have f3 := B1.frozen 3
  have f4 := B1.frozen 4
  have f5 := B1.frozen 5
  have hge : w.heap.size ≤ gE := by omega
  have H1 := Lib.hid (And.intro B1 (And.intro c01 hge)); clear B1 c01 hge hw1 hgE O1 hc hv hnc hlt
  have e1 : ¬ (i : Int) < 0 := by omega
  have e2 : ¬ ((m.cms.length : Nat) : Int) ≤ (i : Int) := by omega
  have e3 : (i : Int) < ((m.cms.length : Nat) : Int) := by omega
  have e4 : (0 : Int) ≤ i := by omega
  go_wp2_with fail
  refine (HKC.out w1 H1.out.2.1).mono ?_
  rintro e w2 ⟨rfl, rfl⟩
  go_wp2_with fail
  have B2 := (((((H1.out.1.setv 0 (.int .i64 x.g) rfl).setv 1 (.int .i64 x.f) rfl).setv 2 (.int .i64 x.pc) rfl).setv 3 (.int .i64 x.op) rfl).setv 4 (.int .i64 x.v) rfl).setv 5 (.bool x.flt) (cs' := #[.int .i64 x.g, .int .i64 x.f, .int .i64 x.pc, .int .i64 x.op, .int .i64 x.v, .bool x.flt]) rfl
  refine ⟨rfl, _, results_ct (P := Tryz.prog) (fn := Tryz.f12) rfl (by rfl) (by rfl) (ld_cm _ B2), rfl, ?_⟩
  exact H1.out.2.1.newS ((((((((Chg.refl [gE] _).setCell (.inl (by simp)) _).setCell (.inl (by simp)) _).setCell (.inl (by simp)) _).setCell (.inl (by simp)) _).setCell (.inl (by simp)) _).setCell (.inl (by simp)) _)) (fun k hk => by have e : k = gE := (by simpa using hk); have := H1.out.2.2; omega)
end
theorem m_new_bad (w : World) (P n wo k : Nat) (b1 b2 : Nat) (vb : Value) (bs : List Nat) (hP1 : 1 ≤ P) (hP : P ≤ 64) (hn : 4 ≤ n) (hn2 : n ≤ 262144) (R : RdV w w.heap.size vb (u8s bs)) (hl : bs.length ≤ 100000) (hb : ∀ x ∈ bs, x < 256) (hd : decP bs = .error k) (hwo : wo = n * 64) :
    Calls Tryz.prog 13 #[.agg #[.int .i64 (P : Nat), .int .i64 (wo : Nat), .float .f64 b1, .float .f64 b2], vb] w (NwPost (.tuple #[.pointer none, .int .i64 6, .int .i64 (k : Nat)]) w) := by
  have HR := Lib.hid R; clear R
  have KM := fun w' => cf_may w' P wo b1 b2 hP1 hP (by omega) (by omega) (by omega)
  have HKM := Lib.hid KM; clear KM
  have Hwo := Lib.hid hwo; clear hwo
  go_enter Tryz.func13, Tryz.ntmps13
  obtain ⟨gc, hgc⟩ : ∃ gc, gc = w.heap.size := ⟨_, rfl⟩
  obtain ⟨w1, hw1⟩ : ∃ w1, w1 = w.alloc (.cells #[.int .i64 (P : Nat), .int .i64 (wo : Nat), .float .f64 b1, .float .f64 b2] 24) := ⟨_, rfl⟩
  have B1 : Blk w1 gc 24 #[.int .i64 (P : Nat), .int .i64 (wo : Nat), .float .f64 b1, .float .f64 b2] := by rw [hw1, hgc]; exact Blk.new _ _ _
  have c01 : Chg [] w w1 := by rw [hw1]; exact (Chg.refl [] w).alloc _
  go_upto_region 1 with fail
  rw [← hw1, ← hgc]
  have q0 : w1.cell? ⟨gc, 0, none⟩ = some (.int .i64 (P : Nat)) := B1.cellv 0 rfl
  have q1 : w1.cell? ⟨gc, 1, none⟩ = some (.int .i64 (wo : Nat)) := B1.cellv 1 rfl
  have q2 : w1.cell? ⟨gc, 2, none⟩ = some (.float .f64 b1) := B1.cellv 2 rfl
  have q3 : w1.cell? ⟨gc, 3, none⟩ = some (.float .f64 b2) := B1.cellv 3 rfl
  have H1 := Lib.hid (And.intro B1 (And.intro c01 hgc)); clear B1 c01 hw1 hgc
  go_wp2_with fail
  refine (HKM.out w1).mono ?_
  rintro e w2 ⟨rfl, c12⟩
  have c02 := H1.out.2.1.trans c12
  have R2 : RdV w2 w2.heap.size vb (u8s bs) := (HR.out.chg c02 (Nat.le_refl _) (by simp)).mono c02.size
  have H2 := Lib.hid (And.intro R2 c02); clear R2 c02 c12 q0 q1 q2 q3
  go_wp2_with fail
  refine (cd_decode w2 vb bs H2.out.1 hl hb).mono ?_
  rintro e w3 (⟨G', fs', vfn, vf, hd', rfl, If, nf, c23⟩ | ⟨k', hd', rfl, c23⟩)
  · rw [hd] at hd'; cases hd'
  · have ee : k = k' := by rw [hd] at hd'; injection hd'
    obtain rfl := ee
    have H3 := Lib.hid c23; clear c23 hd' hd
    go_wp2_with fail
    go_ret3
    refine ⟨rfl, ?_⟩
    have c04 := H2.out.2.trans H3.out
    have c4 : Chg [] w (w3.alloc (.cells #[.int .i64 0, .slice none 0 0] 33)) := c04.alloc _
    first
      | exact c4
      | exact c4.newS (T := [w3.heap.size]) ((((Chg.refl [w3.heap.size] _).setCell (.inl (by simp)) _).setCell (.inl (by simp)) _)) (fun k hk => by have e : k = w3.heap.size := (by simpa using hk); have := c04.size; omega)
theorem dec28_bad : decP [1, 0, 1, 99, 0, 0, 0] = .error 3 := by rfl
theorem dec28_ok : ∃ i : Ins, decP [1, 0, 1, 0, 0, 0, 0] = .ok (0, [[i]]) ∧ i.o = 0 := ⟨_, rfl, rfl⟩
theorem RdV.ofBlk {w : World} {g n : Nat} {t : TypeId} {ys : List Value} (h : Blk w g t ys.toArray) (hn : ys.length = n) (h1 : ∀ y ∈ ys, y.oneCell' = true) : RdV w w.heap.size (.slice (some ⟨g, 0, none⟩) n n) ys :=
  ⟨⟨_, _, by rw [hn]⟩, (fun A m c e i y hy => by
    injection e with e1 e2 e3
    exact ⟨g, 0, e1.symm, h.lt, by rw [Nat.zero_add]; exact h.cellv i (by rw [List.getElem?_toArray]; exact hy)⟩), h1⟩
theorem u8s_one1 (bs : List Nat) : ∀ y ∈ u8s bs, y.oneCell' = true := by
  intro y hy
  obtain ⟨x, _, rfl⟩ := List.mem_map.1 hy
  rfl
def b_ok : List Nat := [1, 0, 1, 0, 0, 0, 0]
def b_bad : List Nat := [1, 0, 1, 99, 0, 0, 0]
def TdRel (w1 : World) (p : MAt) (m m1 : Mac) (gk : Nat) (idx : Value) (wr : World) : Prop := (gk = 2 ∧ idx = .int .i64 0 ∧ MM ⟨w1, []⟩ wr p m) ∨ (gk = 1 ∧ idx = .int .i64 1 ∧ ∃ v, MM ⟨w1, []⟩ wr { p with vco := v } m1)
theorem told28_yes (w : World) : Calls Tryz.prog 10 #[] w (NwPost (.bool true) w) := by
  go_enter Tryz.func10, Tryz.ntmps10
  obtain ⟨ins, hd, hio⟩ := dec28_ok
  have Hd := Lib.hid (And.intro hd hio); clear hd hio
  go_wp2_with fail
  obtain ⟨w1, hw1⟩ : ∃ w1, w1 = w.alloc (.cells #[.int .u8 1, .int .u8 0, .int .u8 1, .int .u8 0, .int .u8 0, .int .u8 0, .int .u8 0] 5) := ⟨_, rfl⟩
  rw [← hw1]
  have B1 : Blk w1 w.heap.size 5 (u8s b_ok).toArray := by rw [hw1]; exact Blk.new _ _ _
  have R1 := RdV.ofBlk (n := 7) B1 rfl (u8s_one1 _)
  have c01 : Chg [] w w1 := by rw [hw1]; exact (Chg.refl [] w).alloc _
  have H1 := Lib.hid c01; clear c01 hw1 B1
  refine (m_new w1 2 4 0 256 0 0 _ b_ok _ (by decide) (by decide) (by decide) (by decide) R1 (by decide) (by decide) Hd.out.1 (by decide) (by decide)).mono ?_
  rintro e w2 ⟨p, pct, on, part, t, g, r, rfl, ht, hq, htm, hfr, hco, M⟩
  obtain ⟨m, hm⟩ : ∃ m, m = spawnA { mk0m 0 [[ins]] ((256 : Nat) : Int) pct on part 4 2 with gT := t, gG := g, gR := r } 0 0 0 := ⟨_, rfl⟩
  rw [← hm] at M
  have H2 := Lib.hid (And.intro M (And.intro hm (And.intro ht (And.intro hq (And.intro htm (And.intro hfr hco)))))); clear M hm ht hq htm hfr hco R1
  go_wp2_with fail
  obtain ⟨w3, hw3⟩ : ∃ w3, w3 = w2.alloc (.cells #[.int .u8 1, .int .u8 0, .int .u8 1, .int .u8 99, .int .u8 0, .int .u8 0, .int .u8 0] 5) := ⟨_, rfl⟩
  rw [← hw3]
  have B3 : Blk w3 w2.heap.size 5 (u8s b_bad).toArray := by rw [hw3]; exact Blk.new _ _ _
  have R3 := RdV.ofBlk (n := 7) B3 rfl (u8s_one1 _)
  have c23 : Chg [] w2 w3 := by rw [hw3]; exact (Chg.refl [] w2).alloc _
  have H3 := Lib.hid c23; clear c23 hw3 B3
  refine (m_new_bad w3 2 4 256 3 0 0 _ b_bad (by decide) (by decide) (by decide) (by decide) R3 (by decide) (by decide) dec28_bad (by decide)).mono ?_
  rintro e w4 ⟨rfl, c34⟩
  have M4 := H2.out.1.chg0 (H3.out.trans c34)
  have H4 := Lib.hid M4; clear M4 c34 R3
  go_wp2_with fail
  have s0 : stV m = 0 := by rw [H2.out.2.1]; rfl
  have s1 : stV (exitA (takeA (tickA m 0) 0 0) 0 0) = 1 := by rw [H2.out.2.1]; rfl
  have Hs := Lib.hid (And.intro s0 s1); clear s0 s1
  go_loopg [7] 2 (fun gk idx wr => TdRel w1 p m (exitA (takeA (tickA m 0) 0 0) 0 0) gk idx wr)
  case atStart => exact .inl ⟨rfl, rfl, H4.out⟩
  case round =>
    rcases hrel with ⟨rfl, rfl, M5⟩ | ⟨rfl, rfl, v, M5⟩
    · have KS := m_status M5 (by rw [H2.out.2.1]; show (1 : Nat) ≤ 1024; decide) (by rw [H2.out.2.1]; show (0 : Nat) ≤ 1024; decide)
      rw [Hs.out.1] at KS
      have H5 := Lib.hid (And.intro M5 KS); clear M5 KS
      go_wp2_with fail
      refine (H5.out.2).mono ?_
      rintro e w6 ⟨rfl, kk, hw6⟩
      have M6 := H5.out.1.chg0 (show Chg [] wr w6 by rw [hw6]; exact (Chg.refl [] wr).drewN _)
      have H6 := Lib.hid M6; clear M6 hw6
      go_wp2_with fail
      have em := H2.out.2.1
      refine (m_step_exit H6.out 0 0 0 1 [ins] ins Hd.out.2.symm (by rw [em]; show 0 < 2; decide) (by rw [em]; show 2 ≤ 64; decide) (by rw [em]; show 0 < 1; decide) (by rw [em]; rfl) H2.out.2.2.2.1 H2.out.2.2.2.2.1 (by rw [em]; rfl) (by rw [em]; rfl) H2.out.2.2.2.2.2.1
        (by rw [em]; rfl) Hs.out.1 (by rw [em]; rfl) (by rw [em]; rfl) (by rw [em]; exact Int.le_refl 0) (by rw [em]; rfl) (by rw [em]; exact H2.out.2.2.1) 0 0 0 0 0 (by rw [em]; rfl) (by rw [em]; rfl) (by rw [em]; rfl) (by rw [em]; rfl) (by rw [em]; rfl) (by decide) (by decide) (by decide) (by decide) (by decide)
        (by rw [em]; rfl) (by rw [em]; show 0 < 256; decide) (by rw [em]; show 0 < 1; decide) (by rw [em]; show 1 ≤ 256; decide) (by rw [em]; rfl) (by rw [em]; rfl) (by rw [em]; show 1 ≤ 1024; decide) (by rw [em]; rfl) 0 (by rw [em]; rfl) (by decide) (by rw [em]; rfl) rfl (by rw [em]; show 0 ≤ 100000000; decide)).mono ?_
      clear em
      rintro e w7 ⟨v, rfl, M7⟩
      have H7 := Lib.hid M7; clear M7
      unfold evV
      go_wp2_with fail
      go_roundg 1
      case measure => decide
      case rel => exact .inr ⟨rfl, rfl, v, H7.out⟩
    · have KS := m_status M5 (by rw [H2.out.2.1]; show (1 : Nat) ≤ 1024; decide) (by rw [H2.out.2.1]; show (0 : Nat) ≤ 1024; decide)
      rw [Hs.out.2] at KS
      have H5 := Lib.hid (And.intro M5 KS); clear M5 KS
      go_wp2_with fail
      refine (H5.out.2).mono ?_
      rintro e w6 ⟨rfl, kk, hw6⟩
      have M6 := H5.out.1.chg0 (show Chg [] wr w6 by rw [hw6]; exact (Chg.refl [] wr).drewN _)
      have H6 := Lib.hid M6; clear M6 hw6
      go_wp2_with fail
      refine (m_commit_at H6.out 0 ⟨0, 0, 0, 0, 0, false⟩ (by rw [H2.out.2.1]; rfl)).mono ?_
      rintro e w7 ⟨rfl, c67⟩
      have H7 := Lib.hid (H6.out.chg0 c67); clear c67
      simp only [comC]
      go_upto_region 10 with fail
      obtain ⟨w8, hw8⟩ : ∃ w8, w8 = w7.alloc (.cells #[.int .i64 0, .int .i64 0, .int .i64 0, .int .i64 0, .int .i64 0, .bool false] 50) := ⟨_, rfl⟩
      obtain ⟨gk, hgk⟩ : ∃ g, g = w7.heap.size := ⟨_, rfl⟩
      rw [← hw8, ← hgk]
      have B8 : Blk w8 gk 50 #[.int .i64 0, .int .i64 0, .int .i64 0, .int .i64 0, .int .i64 0, .bool false] := by rw [hw8, hgk]; exact Blk.new _ _ _
      have M8 := H7.out.chg0 (show Chg [] w7 w8 by rw [hw8]; exact (Chg.refl [] w7).alloc _)
      have KS := m_status M8 (by rw [H2.out.2.1]; show (1 : Nat) ≤ 1024; decide) (by rw [H2.out.2.1]; show (0 : Nat) ≤ 1024; decide)
      rw [Hs.out.2] at KS
      have H8 := Lib.hid (And.intro M8 (And.intro B8 KS)); clear M8 B8 KS hw8 hgk
      go_wp2_with fail
      refine (H8.out.2.2).mono ?_
      rintro e w9 ⟨rfl, kk, hw9⟩
      have c89 : Chg [] w8 w9 := by rw [hw9]; exact (Chg.refl [] w8).drewN _
      have M9 := H8.out.1.chg0 c89
      have B9 := c89.blk H8.out.2.1 (by simp)
      have KC := m_commits M9
      rw [show (exitA (takeA (tickA m 0) 0 0) 0 0).cms.length = 1 by rw [H2.out.2.1]; rfl] at KC
      have k0 : w9.cell? ⟨gk, 0, none⟩ = some (.int .i64 0) := B9.cellv 0 rfl
      have k1 : w9.cell? ⟨gk, 1, none⟩ = some (.int .i64 0) := B9.cellv 1 rfl
      have k2 : w9.cell? ⟨gk, 2, none⟩ = some (.int .i64 0) := B9.cellv 2 rfl
      have k3 : w9.cell? ⟨gk, 3, none⟩ = some (.int .i64 0) := B9.cellv 3 rfl
      have k4 : w9.cell? ⟨gk, 4, none⟩ = some (.int .i64 0) := B9.cellv 4 rfl
      have k5 : w9.cell? ⟨gk, 5, none⟩ = some (.bool false) := B9.cellv 5 rfl
      have H9 := Lib.hid (And.intro M9 KC); clear M9 KC B9 hw9 c89
      go_wp2_with fail
      refine (H9.out.2).mono ?_
      rintro e w10 ⟨rfl, rfl⟩
      go_wp2_with fail
      go_ret
      exact ⟨rfl, H1.out.trans H9.out.1.c⟩
def ConRel28 (w0 : World) (gk : Nat) (idx : Value) (w : World) : Prop := ∃ k, gk + k = 17 ∧ k ≤ 16 ∧ idx = .int .i64 (k : Nat) ∧ Chg [] w0 w
def CofPost28 (w : World) (e : Ending) (w' : World) : Prop := ∃ k : Int, e = .returned (.int .i64 k) ∧ Chg [] w w'
def vwZ : Array Value := #[.int .i64 0, .int .i64 0, .int .i64 0, .slice none 0 0, .slice none 0 0, .slice none 0 0, .int .i64 0, .int .i64 0, .int .i64 0]
theorem conv_back (w : World) (bs : List Nat) (hb : ∀ x ∈ bs, x < 256) : ∃ A c w', (convert 9 65 (.string (strOfNums (bs.map fun n : Nat => (n : Int))))).run Tryz.prog w = .ok (.slice A bs.length c) w' ∧ RdV w' w'.heap.size (.slice A bs.length c) (u8s bs) ∧ Chg [] w w' := by
  have h := run_bytes_of_string (P := Tryz.prog) w 9 65 5 (strOfNums (bs.map fun n : Nat => (n : Int))) Tryz.underlying9 Tryz.underlying65 Tryz.underlying5
  have hs : (strOfNums (bs.map fun n : Nat => (n : Int))).size = bs.length := by rw [strOfNums_size, List.length_map]
  rw [hs] at h
  generalize hN : grownCap w bs.length 0 5 = N at h
  refine ⟨_, _, _, h, ⟨⟨_, _, by rw [u8s_len]⟩, (fun A m c e i y hy => ?_), u8s_one2 bs⟩, ((Chg.refl [] w).drew).alloc _⟩
  injection e with e1 e2 e3
  have hi : i < bs.length := by have := (List.getElem?_eq_some_iff.1 hy).1; rwa [u8s_len] at this
  refine ⟨w.heap.size, 0, e1.symm, by rw [World.size_alloc]; show w.heap.size < w.heap.size + 1; omega, ?_⟩
  have hd : i < (strOfNums (bs.map fun n : Nat => (n : Int))).data.size := by
    have : (strOfNums (bs.map fun n : Nat => (n : Int))).data.size = bs.length := hs
    omega
  have hx := bytesRow_at (strOfNums (bs.map fun n : Nat => (n : Int))) N i hd
  have hx2 : y = .int .u8 (bs[i] : Nat) := by
    have := u8s_at (List.getElem?_eq_getElem hi)
    exact (Option.some.inj (this.symm.trans hy)).symm
  have hval : (((strOfNums (bs.map fun n : Nat => (n : Int))).data[i]'hd).toNat : Int) = (bs[i] : Nat) := by
    have e5 : (strOfNums (bs.map fun n : Nat => (n : Int))).data[i]'hd = UInt8.ofNat bs[i] := by
      unfold strOfNums
      simp
    rw [e5]
    have h256 := hb bs[i] (List.getElem_mem hi)
    show ((UInt8.ofNat bs[i]).toNat : Int) = _
    rw [UInt8.toNat_ofNat']
    have : bs[i] % 2 ^ 8 = bs[i] := Nat.mod_eq_of_lt h256
    rw [this]
  rw [hval] at hx
  rw [hx2]
  have hcell : (World.alloc w.drew (.cells (bytesRow (strOfNums (bs.map fun n : Nat => (n : Int))) N) 5 ((bytesRow (strOfNums (bs.map fun n : Nat => (n : Int))) N).size, (bytesRow (strOfNums (bs.map fun n : Nat => (n : Int))) N).size + 1))).heap[w.heap.size]? = some (.cells (bytesRow (strOfNums (bs.map fun n : Nat => (n : Int))) N) 5 ((bytesRow (strOfNums (bs.map fun n : Nat => (n : Int))) N).size, (bytesRow (strOfNums (bs.map fun n : Nat => (n : Int))) N).size + 1)) := heap_alloc_new w.drew _
  rw [Nat.zero_add]
  unfold World.cell?
  rw [hcell]
  exact hx
structure NwX (B : Nat) (w : World) (G : Nat) (vf : Value) (gX gg gs gl : Nat) (vg : Value) : Prop where
  x : Blk w gX 62 (mdC G vf vg (.slice (some ⟨gl, 0, none⟩) G G) (.slice none 0 0) (.slice none 0 0) (fun _ => .slice none 0 0) 0)
  o : OwnV 81 w vg [.pointer (some ⟨gg, 0, none⟩)]
  g : Blk w gg 80 (mgC 1 0 0 0 (.slice (some ⟨gs, 0, none⟩) 16 16))
  s : Blk w gs 3 (zcells (.int .i64 0) 16)
  l : Blk w gl 3 (zcells (.int .i64 0) G)
  nX : B ≤ gX
  ng : B ≤ gg
  ns : B ≤ gs
  nl : B ≤ gl
  nv : ∀ k ∈ fpv vg, B ≤ k
  d1 : gl ≠ gs
  d2 : gX ∉ fpv vg
  d3 : gl ∉ fpv vg
  d4 : gg ∉ fpv vg
  d5 : gs ∉ fpv vg
theorem NwX.chg0 {B G gX gg gs gl : Nat} {w w' : World} {vf vg : Value} (h : NwX B w G vf gX gg gs gl vg) (c : Chg [] w w') : NwX B w' G vf gX gg gs gl vg :=
  ⟨c.blk h.x (by simp), h.o.chg0 c, c.blk h.g (by simp), c.blk h.s (by simp), c.blk h.l (by simp), h.nX, h.ng, h.ns, h.nl, h.nv, h.d1, h.d2, h.d3, h.d4, h.d5⟩
theorem NwX.low {B B' G gX gg gs gl : Nat} {w : World} {vf vg : Value} (h : NwX B w G vf gX gg gs gl vg) (hB : B' ≤ B) : NwX B' w G vf gX gg gs gl vg :=
  ⟨h.x, h.o, h.g, h.s, h.l, Nat.le_trans hB h.nX, Nat.le_trans hB h.ng, Nat.le_trans hB h.ns, Nat.le_trans hB h.nl, fun k hk => Nat.le_trans hB (h.nv k hk), h.d1, h.d2, h.d3, h.d4, h.d5⟩
theorem rmodel_nw (w : World) (G : Nat) (A : Option Addr) (n c : Nat) (hG : G ≤ 1000) : Calls Tryz.prog 17 #[.agg #[.int .i64 (G : Nat), .slice A n c]] w fun e w' => ∃ gX gg gs gl vg, e = .returned (.pointer (some ⟨gX, 0, none⟩)) ∧ NwX w.heap.size w' G (.slice A n c) gX gg gs gl vg ∧ Chg [] w w' :=
  (rmodel_ok w G A n c hG).mono fun e w' ⟨gX, gg, gs, gl, vg, he, x, o, g, s, l, nX, ng, ns, nl, nv, a1, a2, a3, a4, a5, a6, d2, d3, d4, d5, cc⟩ => ⟨gX, gg, gs, gl, vg, he, ⟨x, o, g, s, l, nX, ng, ns, nl, nv, a5, d2, d3, d4, d5⟩, cc⟩
def wwC (gm gX : Nat) (P wo : Int) (b1 b2 : Nat) (va : Value) : Array Value := #[.pointer (some ⟨gm, 0, none⟩), .pointer (some ⟨gX, 0, none⟩), .int .i64 P, .int .i64 wo, .float .f64 b1, .float .f64 b2, va, .bool false,
  .int .i64 0, .int .i64 0, .int .i64 0, .slice none 0 0, .slice none 0 0, .slice none 0 0, .int .i64 0, .int .i64 0, .int .i64 0, .int .i64 0, .int .i64 0, .int .i64 0, .bool false, .int .i64 0]
def FrS (P n G wo b1 b2 : Nat) (fs : List (List Ins)) (vf : Value) (w w' : World) (gW gA gX gg gs gl : Nat) (vg : Value) (p : MAt) (m : Mac) : Prop :=
  (∃ pct on part t g r, 0 < t ∧ m = spawnA { mk0m G fs (wo : Nat) pct on part n P with gT := t, gG := g, gR := r } 0 0 0) ∧ p.vq = .slice none 0 0 ∧ p.vtm = .slice none 0 0 ∧ p.vfr = .slice none 0 0 ∧ p.vco = .slice none 0 0 ∧ MM ⟨w, []⟩ w' p m ∧
  (∃ B, w.heap.size ≤ B ∧ (∀ k j, MF p m k j → j < B) ∧ NwX B w' G vf gX gg gs gl vg ∧ B ≤ gW ∧ B ≤ gA) ∧ Blk w' gW 45 (wwC p.gm gX P wo b1 b2 (.slice (some ⟨gA, 0, none⟩) 1 1)) ∧ Blk w' gA 3 #[.int .i64 0] ∧ gA ≠ gl ∧ gA ≠ gs
def FrPost (P n G wo b1 b2 : Nat) (fs : List (List Ins)) (vf : Value) (w : World) (e : Ending) (w' : World) : Prop :=
  ∃ gW gA gX gg gs gl vg p m, e = .returned (.pointer (some ⟨gW, 0, none⟩)) ∧ FrS P n G wo b1 b2 fs vf w w' gW gA gX gg gs gl vg p m
theorem MM.base0 {W0 W w : World} {p : MAt} {m : Mac} (M : MM ⟨W, []⟩ w p m) (c : Chg [] W0 W) : MM ⟨W0, []⟩ w p m := by
  refine ⟨c.trans M.c, fun k j h => .inr ?_, M.hi, M.ap, fun k => ?_⟩
  · rcases M.lo k j h with h | h
    · exact absurd h (by simp)
    · exact Nat.le_trans c.size h
  · cases k
    case heap => exact HpS.base (M.k .heap) (wE_chg c)
    case mach => exact M.k .mach
    case states => exact M.k .states
    case gsl => exact M.k .gsl
    case gor g => exact M.k (.gor g)
    case psl => exact M.k .psl
    case proc q => exact M.k (.proc q)
    case notes q => exact M.k (.notes q)
    case sched => exact M.k .sched
    case timers => exact M.k .timers
    case waits => exact M.k .waits
    case globs => exact M.k .globs
    case phases => exact M.k .phases
    case commits => exact M.k .commits
    case parked => exact M.k .parked
    case freed => exact M.k .freed
    case prog => exact M.k .prog
theorem enc_lt {G : Nat} {fs : List (List Ins)} (h : OkP G fs) : ∀ x ∈ encP G fs, x < 256 := by
  intro x hx
  unfold encP at hx
  have h1 := h.f1
  have h2 := h.g
  rcases List.mem_cons.1 hx with rfl | hx
  · omega
  · rcases List.mem_cons.1 hx with rfl | hx
    · omega
    · obtain ⟨l, hl, hx⟩ := List.mem_flatMap.1 hx
      obtain ⟨-, h4, h5⟩ := h.s l hl
      rcases List.mem_cons.1 hx with rfl | hx
      · omega
      · obtain ⟨i, hi, hx⟩ := List.mem_flatMap.1 hx
        obtain ⟨-, a1, a2, a3, a4⟩ := h5 i hi
        simp [encI] at hx
        rcases hx with rfl | rfl | rfl | rfl <;> assumption
theorem fresh_ok (w : World) (P n G wo b1 b2 : Nat) (A : Option Addr) (c : Nat) (vs : List Value) (fs : List (List Ins)) (R : PrR w w.heap.size (.slice A fs.length c) vs fs) (hok : OkP G fs) (hP1 : 1 ≤ P) (hP : P ≤ 64) (hn : 4 ≤ n) (hn2 : n ≤ 262144) (hwo : wo = n * 64) :
    Calls Tryz.prog 28 #[.agg #[.int .i64 (P : Nat), .int .i64 (wo : Nat), .float .f64 b1, .float .f64 b2], .agg #[.int .i64 (G : Nat), .slice A fs.length c]] w (FrPost P n G wo b1 b2 fs (.slice A fs.length c) w) := by
  have HR := Lib.hid R; clear R
  have HWO := Lib.hid hwo; clear hwo
  go_enter Tryz.func28, Tryz.ntmps28
  go_upto_region 1 with fail
  obtain ⟨w1, hw1⟩ : ∃ w1, w1 = (w.alloc (.cells #[.int .i64 (P : Nat), .int .i64 (wo : Nat), .float .f64 b1, .float .f64 b2] 24)).alloc (.cells #[.int .i64 (G : Nat), .slice A fs.length c] 33) := ⟨_, rfl⟩
  obtain ⟨gC, hgC⟩ : ∃ g, g = w.heap.size := ⟨_, rfl⟩
  obtain ⟨gP, hgP⟩ : ∃ g, g = w.heap.size + 1 := ⟨_, rfl⟩
  rw [← hw1, ← hgP, ← hgC]
  have BC : Blk w1 gC 24 #[.int .i64 (P : Nat), .int .i64 (wo : Nat), .float .f64 b1, .float .f64 b2] := by rw [hw1, hgC]; exact (Blk.new w _ _).alloc _
  have BP : Blk w1 gP 33 #[.int .i64 (G : Nat), .slice A fs.length c] := by
    rw [hw1, hgP]
    have h := Blk.new (w.alloc (.cells #[.int .i64 (P : Nat), .int .i64 (wo : Nat), .float .f64 b1, .float .f64 b2] 24)) 33 #[.int .i64 (G : Nat), .slice A fs.length c]
    rw [World.size_alloc] at h
    exact h
  have c01 : Chg [] w w1 := by rw [hw1]; exact ((Chg.refl [] w).alloc _).alloc _
  have p0 : w1.cell? ⟨gP, 0, none⟩ = some (.int .i64 (G : Nat)) := BP.cellv 0 rfl
  have p1 : w1.cell? ⟨gP, 1, none⟩ = some (.slice A fs.length c) := BP.cellv 1 rfl
  have R1 : PrR w1 w1.heap.size (.slice A fs.length c) vs fs := by
    have R1 := HR.out.chg0 c01 (Nat.le_refl _)
    exact ⟨R1.o.mono c01.size, R1.n, fun i u l h1 h2 => ⟨(R1.f i u l h1 h2).ex, fun A n c e j x hx => by
      obtain ⟨b, off, e1, e2, e3⟩ := (R1.f i u l h1 h2).at_ A n c e j x hx
      exact ⟨b, off, e1, Nat.lt_of_lt_of_le e2 c01.size, e3⟩⟩⟩
  have KE := rencode_ok w1 G _ vs fs R1 hok
  have H1 := Lib.hid (And.intro BC (And.intro BP (And.intro c01 KE))); clear BC BP c01 KE R1 hw1 hgP hgC
  go_wp2_with fail
  refine (H1.out.2.2.2).mono ?_
  rintro e w2 ⟨rfl, c12⟩
  have B2 := c12.blk H1.out.1 (by simp)
  have t0 : w2.cell? ⟨gC, 0, none⟩ = some (.int .i64 (P : Nat)) := B2.cellv 0 rfl
  have t1 : w2.cell? ⟨gC, 1, none⟩ = some (.int .i64 (wo : Nat)) := B2.cellv 1 rfl
  have t2 : w2.cell? ⟨gC, 2, none⟩ = some (.float .f64 b1) := B2.cellv 2 rfl
  have t3 : w2.cell? ⟨gC, 3, none⟩ = some (.float .f64 b2) := B2.cellv 3 rfl
  obtain ⟨st, hst⟩ : ∃ st, st = strOfNums ((encP G fs).map fun n : Nat => (n : Int)) := ⟨_, rfl⟩
  rw [← hst]
  obtain ⟨Ab, cb, w3, hcv, R3, c23⟩ := conv_back w2 (encP G fs) (enc_lt hok)
  rw [← hst] at hcv
  obtain ⟨nb, hnb⟩ : ∃ nb, nb = (encP G fs).length := ⟨_, rfl⟩
  rw [← hnb] at hcv R3
  have hlen : nb ≤ 100000 := by
    have := encT_len G fs (fun l hl => (hok.s l hl).2.1) fs.length (Nat.le_refl _)
    rw [encT_all] at this
    have h16 := hok.f1
    omega
  have KN := m_new w3 P n G wo b1 b2 _ (encP G fs) fs hP1 hP hn hn2 R3 (by rw [← hnb]; exact hlen) (enc_lt hok) (decP_enc hok) (by have := hok.g; omega) HWO.out
  have H2 := Lib.hid (And.intro B2 (And.intro (c12.blk H1.out.2.1 (by simp)) (And.intro (H1.out.2.2.1.trans c12) (And.intro c23 KN)))); clear B2 c12 c23 R3 KN p0 p1 hst hnb hlen
  go_wp2_with fail
  refine (H2.out.2.2.2.2).mono ?_
  rintro e w4 ⟨p, pct, on, part, t, g, r, rfl, ht, hq, htm, hfr, hco, M⟩
  have M4 := M.base0 (H2.out.2.2.1.trans H2.out.2.2.2.1)
  have c24 : Chg [] w2 w4 := H2.out.2.2.2.1.trans M.c
  obtain ⟨m, hm⟩ : ∃ m, m = spawnA { mk0m G fs (wo : Nat) pct on part n P with gT := t, gG := g, gR := r } 0 0 0 := ⟨_, rfl⟩
  rw [← hm] at M4
  have hmm : ∃ pct on part t g r, 0 < t ∧ m = spawnA { mk0m G fs (wo : Nat) pct on part n P with gT := t, gG := g, gR := r } 0 0 0 := ⟨pct, on, part, t, g, r, ht, hm⟩
  have B4 := c24.blk H2.out.1 (by simp)
  have P4 := c24.blk H2.out.2.1 (by simp)
  have t0 : w4.cell? ⟨gC, 0, none⟩ = some (.int .i64 (P : Nat)) := B4.cellv 0 rfl
  have t1 : w4.cell? ⟨gC, 1, none⟩ = some (.int .i64 (wo : Nat)) := B4.cellv 1 rfl
  have t2 : w4.cell? ⟨gC, 2, none⟩ = some (.float .f64 b1) := B4.cellv 2 rfl
  have t3 : w4.cell? ⟨gC, 3, none⟩ = some (.float .f64 b2) := B4.cellv 3 rfl
  have p0 : w4.cell? ⟨gP, 0, none⟩ = some (.int .i64 (G : Nat)) := P4.cellv 0 rfl
  have p1 : w4.cell? ⟨gP, 1, none⟩ = some (.slice A fs.length c) := P4.cellv 1 rfl
  have l0 := B4.lt
  have l1 := P4.lt
  have KX := fun w' => rmodel_nw w' G A fs.length c (by have := hok.g; omega)
  have H4 := Lib.hid (And.intro hmm (And.intro hq (And.intro htm (And.intro hfr (And.intro hco (And.intro M4 KX)))))); clear hmm hq htm hfr hco M4 KX hm ht M c24 B4 P4 hcv
  go_upto_region 5 with fail
  refine wp_region_takes (fuel := 5) 5 (fun w' => Chg [] w4 w') [0, 1, 3] (by kernel_rfl) (by kernel_rfl) (fun _ _ _ _ _ h => h) ((Chg.refl [] w4).drew) ?_
  simp only [List.filterMap_cons, List.filterMap_nil, qGa, qGb]
  iterate 3
    refine wpTake_step (fun K hK => ?_)
    rw [if_pos (by rfl)]
    refine ⟨?_, fun w' hS' => ?_, ?_⟩
    rotate_left 1
    focus
      have j0 := hS'.cellv l0 (by simp) t0
      have j1 := hS'.cellv l0 (by simp) t1
      have j2 := hS'.cellv l0 (by simp) t2
      have j3 := hS'.cellv l0 (by simp) t3
      have j4 := hS'.cellv l1 (by simp) p0
      have j5 := hS'.cellv l1 (by simp) p1
      go_simp
      try with_reducible rfl
      done
    simp only [Act.put, qSa, qSb, qSc]
    refine hK _ ?_
    clear hK K
  refine wpTake_nil ?_
  generalize hx0 : w4.drew = x0
  have D0 : Chg [] w4 x0 := by rw [← hx0]; exact (Chg.refl [] w4).drew
  clear hx0
  refine wpAnyS_ready (rs := [2, 4]) (by kernel_rfl) (by simp) ?_
  refine AllReadyS.cons (by simp only [qGc, qGa, qGb]; rfl) (fun K hK => ?_) ?_
  · rw [if_pos (by rfl)]
    go_simp
    go_at_call 17
    refine (H4.out.2.2.2.2.2.2 _).mono ?_
    rintro e x1 ⟨gX, gg, gs, gl, vg, rfl, NX, c1⟩
    dsimp only
    have D1 := D0.trans c1
    have NX := NX.low D0.size
    refine hK _ _ (D1) ?_
    clear hK K
    try simp only [Act.put, qSa, qSb, qSc]
    refine wpAnyS_ready (rs := [4]) (by kernel_rfl) (by simp) ?_
    refine AllReadyS.o (fun K hK => ?_)
    refine step_lit1 slvI28 rfl (by rfl) (by rfl) rfl ?_
    intro gA x2 BA c2 hgA
    have D2 := D1.trans c2
    have nA : w4.heap.size ≤ gA := by rw [hgA]; exact D1.size
    have hAl : gA ≠ gl := by rw [hgA]; have h2 := NX.l.lt; omega
    have hAs : gA ≠ gs := by rw [hgA]; have h2 := NX.s.lt; omega
    clear hgA
    have NX := NX.chg0 c2
    refine hK _ _ (D2) ?_
    clear hK K
    try simp only [Act.put, qSa, qSb, qSc]
    refine wpAnyS_tail 5 3 (by kernel_rfl) rfl ?_
    simp only [qDa, qDb]
    go_wp2_with fail
    go_ret
    have DA := D2.alloc (.cells (wwC p.gm gX P wo b1 b2 (.slice (some ⟨gA, 0, none⟩) 1 1)) 45)
    exact ⟨_, gA, gX, gg, gs, gl, vg, p, m, rfl, H4.out.1, H4.out.2.1, H4.out.2.2.1, H4.out.2.2.2.1, H4.out.2.2.2.2.1, H4.out.2.2.2.2.2.1.chg0 DA,
      ⟨w4.heap.size, H4.out.2.2.2.2.2.1.c.size, H4.out.2.2.2.2.2.1.hi, NX.chg0 ((Chg.refl [] _).alloc _), D2.size, nA⟩, Blk.new _ _ _, BA.alloc _, hAl, hAs⟩
  refine AllReadyS.o (fun K hK => ?_)
  refine step_lit1 slvI28 rfl (by rfl) (by rfl) rfl ?_
  intro gA x3 BA c3 hgA
  have D3 := D0.trans c3
  have nA : w4.heap.size ≤ gA := by rw [hgA]; exact D0.size
  clear hgA
  refine hK _ _ (D3) ?_
  clear hK K
  try simp only [Act.put, qSa, qSb, qSc]
  refine wpAnyS_ready (rs := [2]) (by kernel_rfl) (by simp) ?_
  refine AllReadyS.o (fun K hK => ?_)
  rw [if_pos (by rfl)]
  go_simp
  go_at_call 17
  refine (H4.out.2.2.2.2.2.2 _).mono ?_
  rintro e x4 ⟨gX, gg, gs, gl, vg, rfl, NX, c4⟩
  dsimp only
  have D4 := D3.trans c4
  have hAl : gA ≠ gl := by have h1 := NX.nl; have h2 := BA.lt; omega
  have hAs : gA ≠ gs := by have h1 := NX.ns; have h2 := BA.lt; omega
  have BA := c4.blk BA (by simp)
  have NX := NX.low D3.size
  refine hK _ _ (D4) ?_
  clear hK K
  try simp only [Act.put, qSa, qSb, qSc]
  refine wpAnyS_tail 5 3 (by kernel_rfl) rfl ?_
  simp only [qDa, qDb]
  go_wp2_with fail
  go_ret
  have DA := D4.alloc (.cells (wwC p.gm gX P wo b1 b2 (.slice (some ⟨gA, 0, none⟩) 1 1)) 45)
  exact ⟨_, gA, gX, gg, gs, gl, vg, p, m, rfl, H4.out.1, H4.out.2.1, H4.out.2.2.1, H4.out.2.2.2.1, H4.out.2.2.2.2.1, H4.out.2.2.2.2.2.1.chg0 DA,
    ⟨w4.heap.size, H4.out.2.2.2.2.2.1.c.size, H4.out.2.2.2.2.2.1.hi, NX.chg0 ((Chg.refl [] _).alloc _), D4.size, nA⟩, Blk.new _ _ _, BA.alloc _, hAl, hAs⟩
theorem PrR.up {w : World} {B B' : Nat} {v : Value} {vs : List Value} {fs : List (List Ins)} (h : PrR w B v vs fs) (hB : B ≤ B') : PrR w B' v vs fs :=
  ⟨h.o.mono hB, h.n, fun i u l h1 h2 => ⟨(h.f i u l h1 h2).ex, fun A n c e j x hx => by
    obtain ⟨b, off, e1, e2, e3⟩ := (h.f i u l h1 h2).at_ A n c e j x hx
    exact ⟨b, off, e1, Nat.lt_of_lt_of_le e2 hB, e3⟩⟩⟩
theorem FrPost.low {P n G wo b1 b2 : Nat} {fs : List (List Ins)} {vf : Value} {w0 w w' : World} {e : Ending} (c : Chg [] w0 w) (h : FrPost P n G wo b1 b2 fs vf w e w') : FrPost P n G wo b1 b2 fs vf w0 e w' := by
  obtain ⟨gW, gA, gX, gg, gs, gl, vg, p, m, he, h1, h2, h3, h4, h5, M, ⟨B, hB, k⟩, h6⟩ := h
  exact ⟨gW, gA, gX, gg, gs, gl, vg, p, m, he, h1, h2, h3, h4, h5, M.base0 c, ⟨B, Nat.le_trans c.size hB, k⟩, h6⟩
def BothPost (ps : Int) (G b1 b2 : Nat) (fs : List (List Ins)) (vf : Value) (w : World) (e : Ending) (w' : World) : Prop := ∃ P n : Nat, (ps = 0 → P = 1) ∧ 1 ≤ P ∧ P ≤ 6 ∧ 4 ≤ n ∧ n ≤ 19 ∧ FrPost P n G (n * 64) b1 b2 fs vf w e w'
theorem both_ok (w : World) (ps wo : Int) (G b1 b2 : Nat) (A : Option Addr) (c : Nat) (vs : List Value) (fs : List (List Ins)) (R : PrR w w.heap.size (.slice A fs.length c) vs fs) (hok : OkP G fs) (hsum : fs.length + sumL fs ≤ 2000) :
    Calls Tryz.prog 6 #[.agg #[.int .i64 ps, .int .i64 wo, .float .f64 b1, .float .f64 b2], .agg #[.int .i64 (G : Nat), .slice A fs.length c]] w (BothPost ps G b1 b2 fs (.slice A fs.length c) w) := by
  have HR := Lib.hid (And.intro R (And.intro hok hsum)); clear R hok hsum
  go_enter Tryz.func6, Tryz.ntmps6
  go_upto_region 1 with fail
  obtain ⟨w1, hw1⟩ : ∃ w1, w1 = (w.alloc (.cells #[.int .i64 ps, .int .i64 wo, .float .f64 b1, .float .f64 b2] 24)).alloc (.cells #[.int .i64 (G : Nat), .slice A fs.length c] 33) := ⟨_, rfl⟩
  obtain ⟨gC, hgC⟩ : ∃ g, g = w.heap.size := ⟨_, rfl⟩
  obtain ⟨gP, hgP⟩ : ∃ g, g = w.heap.size + 1 := ⟨_, rfl⟩
  rw [← hw1, ← hgP, ← hgC]
  have BC : Blk w1 gC 24 #[.int .i64 ps, .int .i64 wo, .float .f64 b1, .float .f64 b2] := by rw [hw1, hgC]; exact (Blk.new w _ _).alloc _
  have BP : Blk w1 gP 33 #[.int .i64 (G : Nat), .slice A fs.length c] := by
    rw [hw1, hgP]
    have h := Blk.new (w.alloc (.cells #[.int .i64 ps, .int .i64 wo, .float .f64 b1, .float .f64 b2] 24)) 33 #[.int .i64 (G : Nat), .slice A fs.length c]
    rw [World.size_alloc] at h
    exact h
  have c01 : Chg [] w w1 := by rw [hw1]; exact ((Chg.refl [] w).alloc _).alloc _
  have p0 : w1.cell? ⟨gP, 0, none⟩ = some (.int .i64 (G : Nat)) := BP.cellv 0 rfl
  have p1 : w1.cell? ⟨gP, 1, none⟩ = some (.slice A fs.length c) := BP.cellv 1 rfl
  have KG : ∀ w', Chg [] w w' → Calls Tryz.prog 26 #[.agg #[.int .i64 (G : Nat), .slice A fs.length c]] w' (NwPost (.bool false) w') := fun w' c' => great_ok w' G _ vs fs ((HR.out.1.chg0 c' (Nat.le_refl _)).up c'.size) HR.out.2.2
  have KM : ∀ w', Chg [] w w' → Calls Tryz.prog 27 #[.agg #[.int .i64 (G : Nat), .slice A fs.length c]] w' (NwPost (.int .i64 0) w') := fun w' c' => rmay_ok w' G _ vs fs ((HR.out.1.chg0 c' (Nat.le_refl _)).up c'.size) HR.out.2.1
  have H1 := Lib.hid (And.intro BC (And.intro BP (And.intro c01 (And.intro KG KM)))); clear BC BP c01 KG KM hw1 hgP hgC
  go_wp2_with fail
  refine (H1.out.2.2.2.1 w1 H1.out.2.2.1).mono ?_
  rintro e w2 ⟨rfl, c12⟩
  have P2 := c12.blk H1.out.2.1 (by simp)
  have p0 : w2.cell? ⟨gP, 0, none⟩ = some (.int .i64 (G : Nat)) := P2.cellv 0 rfl
  have p1 : w2.cell? ⟨gP, 1, none⟩ = some (.slice A fs.length c) := P2.cellv 1 rfl
  have H2 := Lib.hid (And.intro c12 P2); clear c12 P2
  go_wp2_with fail
  refine (H1.out.2.2.2.2 w2 (H1.out.2.2.1.trans H2.out.1)).mono ?_
  rintro e w3 ⟨rfl, c23⟩
  have c13 := H2.out.1.trans c23
  have C3 := c13.blk H1.out.1 (by simp)
  have P3 := c23.blk H2.out.2 (by simp)
  have p0 : w3.cell? ⟨gP, 0, none⟩ = some (.int .i64 (G : Nat)) := P3.cellv 0 rfl
  have p1 : w3.cell? ⟨gP, 1, none⟩ = some (.slice A fs.length c) := P3.cellv 1 rfl
  have t0 : w3.cell? ⟨gC, 0, none⟩ = some (.int .i64 ps) := C3.cellv 0 rfl
  have t1 : w3.cell? ⟨gC, 1, none⟩ = some (.int .i64 wo) := C3.cellv 1 rfl
  have t2 : w3.cell? ⟨gC, 2, none⟩ = some (.float .f64 b1) := C3.cellv 2 rfl
  have t3 : w3.cell? ⟨gC, 3, none⟩ = some (.float .f64 b2) := C3.cellv 3 rfl
  have l0 := C3.lt
  have l1 := P3.lt
  have KF := fun w' => fit_ok w' ps wo b1 b2
  have H3 := Lib.hid (And.intro (H1.out.2.2.1.trans c13) KF); clear c13 C3 P3 c23 KF
  go_upto_region 3 with fail
  refine wp_region_takes (fuel := 3) 3 (fun w' => Chg [] w3 w') [0, 2] (by kernel_rfl) (by kernel_rfl) (fun _ _ _ _ _ h => h) ((Chg.refl [] w3).drew) ?_
  simp only [List.filterMap_cons, List.filterMap_nil, qGa, qGb]
  iterate 2
    refine wpTake_step (fun K hK => ?_)
    rw [if_pos (by rfl)]
    refine ⟨?_, fun w' hS' => ?_, ?_⟩
    rotate_left 1
    focus
      have j0 := hS'.cellv l0 (by simp) t0
      have j1 := hS'.cellv l0 (by simp) t1
      have j2 := hS'.cellv l0 (by simp) t2
      have j3 := hS'.cellv l0 (by simp) t3
      have j4 := hS'.cellv l1 (by simp) p0
      have j5 := hS'.cellv l1 (by simp) p1
      go_simp
      try with_reducible rfl
      done
    simp only [Act.put, qSa, qSb, qSc]
    refine hK _ ?_
    clear hK K
  refine wpTake_nil ?_
  generalize hx0 : w3.drew = x0
  have D0 : Chg [] w3 x0 := by rw [← hx0]; exact (Chg.refl [] w3).drew
  clear hx0
  refine wpAnyS_ready (rs := [1]) (by kernel_rfl) (by simp) ?_
  refine AllReadyS.o (fun K hK => ?_)
  rw [if_pos (by rfl)]
  go_simp
  go_at_call 29
  refine (H3.out.2 _).mono ?_
  rintro e x1 ⟨P, n, hP0, hP1, hP6, hn4, hn19, rfl, c1⟩
  dsimp only
  have D1 := D0.trans c1
  refine hK _ _ (D1) ?_
  clear hK K
  try simp only [Act.put, qSa, qSb, qSc]
  refine wpAnyS_tail 3 2 (by kernel_rfl) rfl ?_
  simp only [qDa, qDb]
  have cw := H3.out.1.trans D1
  have KZ := fresh_ok _ P n G (n * 64) b1 b2 A c vs fs ((HR.out.1.chg0 cw (Nat.le_refl _)).up cw.size) HR.out.2.1 hP1 (by omega) hn4 (by omega) rfl
  have HZ := Lib.hid (And.intro cw KZ); clear cw KZ
  go_wp2_with fail
  refine (HZ.out.2).mono ?_
  intro e x9 hZ
  obtain ⟨gW, gA, gX, gg, gs, gl, vg, p, m, rfl, hF⟩ := hZ
  have HF := Lib.hid hF; clear hF
  go_wp2_with fail
  go_ret
  exact ⟨P, n, hP0, hP1, hP6, hn4, hn19, FrPost.low HZ.out.1 ⟨gW, gA, gX, gg, gs, gl, vg, p, m, rfl, HF.out⟩⟩
end Go.Proofs.YtepnlcemlnkpdaaGreatDoor
