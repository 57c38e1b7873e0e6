/- Package machine: Commits, Commit. -/
/- Package machine: New of a script that does not decode; the two scripts that told() asks with. -/
/- The law's told(). -/
/- The methods of a machine that is nil. -/
/- A machine that is nil: View and Room; MachineNobody's walk. -/
import Derived.Test.YtcpljjacamibeaaGreatDoorMf5J
import Derived.Test.YtcpljjacamibeaaGreatDoorMe2
import Derived.Test.YtcpljjacamibeaaGreatDoorMSerJ
namespace Go.Proofs.YtcpljjacamibeaaGreatDoor
set_option maxHeartbeats 16000000
set_option maxRecDepth 100000
open Go.RowKit Go.Maps
theorem ld_cm (w : World) {g : Nat} {a b c d e f : Value} (h : Blk w g 59 #[a, b, c, d, e, f]) : (loadVar 59 ⟨g, 0, none⟩).run Tryz.prog w = .ok (.agg #[a, b, c, d, e, f]) w := run_loadVar_row w g _ _ _ (0, 0) _ h Tryz.underlying59 rfl (by kernel_rfl)
section
variable {W : Bs} {w : World} {p : MAt} {m : Mac} (M : MM W w p m)
include M
theorem m_commits : Calls Tryz.prog 8 #[.pointer (some ⟨p.gm, 0, none⟩)] w (QuPost (.int .i64 (m.cms.length : Nat)) w) := by
  have O : OwnG comC 6 59 w p.vco m.cms := M.k .commits
  obtain ⟨A, c, hv⟩ := O.slice
  have c24 : w.cell? ⟨p.gm, 24, none⟩ = some p.vco := M.mb.cellv 24 rfl
  rw [hv] at c24
  clear hv O M
  go_enter Tryz.func8, Tryz.ntmps8
  go_wp2_with fail
  go_ret
  exact ⟨rfl, rfl⟩
theorem m_commit_at (i : Nat) (x : ComA) (hx : m.cms[i]? = some x) : Calls Tryz.prog 15 #[.pointer (some ⟨p.gm, 0, none⟩), .int .i64 (i : Nat)] w (NwPost (.tuple #[.agg (comC x).toArray, .bool true]) w) := by
  have O : OwnG comC 6 59 w p.vco m.cms := M.k .commits
  have hi := (List.getElem?_eq_some_iff.1 hx).1
  have KC := fun (w' : World) (c : Chg [] w w') => m_commits (M.chg0 c)
  have HKC := Lib.hid KC; clear KC
  have HM := Lib.hid (And.intro M (And.intro O hx)); clear M O hx
  go_enter Tryz.func15, Tryz.ntmps15
  go_upto_region 1 with fail
  obtain ⟨w1, hw1⟩ : ∃ w1, w1 = w.alloc (.cells #[.int .i64 0, .int .i64 0, .int .i64 0, .int .i64 0, .int .i64 0, .bool false] 59) := ⟨_, rfl⟩
  obtain ⟨gE, hgE⟩ : ∃ gE, gE = w.heap.size := ⟨_, rfl⟩
  rw [← hw1, ← hgE]
  have B1 : Blk w1 gE 59 #[.int .i64 0, .int .i64 0, .int .i64 0, .int .i64 0, .int .i64 0, .bool false] := by rw [hw1, hgE]; exact Blk.new _ _ _
  have c01 : Chg [] w w1 := by rw [hw1]; exact (Chg.refl [] w).alloc _
  have O1 := HM.out.2.1.chg0 c01
  obtain ⟨A, cp, hv⟩ := O1.slice
  have c24 : w1.cell? ⟨p.gm, 24, none⟩ = some p.vco := (HM.out.1.chg0 c01).mb.cellv 24 rfl
  rw [hv] at c24 O1
  obtain ⟨gb, hA, hc, -, -, hnc, hlt⟩ := O1.cell comC_len HM.out.2.2
  subst hA
  have i0 : w1.cell? ⟨gb, i * 6, none⟩ = some (.int .i64 x.g) := hc 0 _ rfl
  have i1 : w1.cell? ⟨gb, i * 6 + 1, none⟩ = some (.int .i64 x.f) := hc 1 _ rfl
  have i2 : w1.cell? ⟨gb, i * 6 + 2, none⟩ = some (.int .i64 x.pc) := hc 2 _ rfl
  have i3 : w1.cell? ⟨gb, i * 6 + 3, none⟩ = some (.int .i64 x.op) := hc 3 _ rfl
  have i4 : w1.cell? ⟨gb, i * 6 + 4, none⟩ = some (.int .i64 x.v) := hc 4 _ rfl
  have i5 : w1.cell? ⟨gb, i * 6 + 5, none⟩ = some (.bool x.flt) := hc 5 _ rfl
  have k0 : w1.cell? ⟨gE, 0, none⟩ = some (.int .i64 0) := B1.cellv 0 rfl
  have k1 : w1.cell? ⟨gE, 1, none⟩ = some (.int .i64 0) := B1.cellv 1 rfl
  have k2 : w1.cell? ⟨gE, 2, none⟩ = some (.int .i64 0) := B1.cellv 2 rfl
  have k3 : w1.cell? ⟨gE, 3, none⟩ = some (.int .i64 0) := B1.cellv 3 rfl
  have k4 : w1.cell? ⟨gE, 4, none⟩ = some (.int .i64 0) := B1.cellv 4 rfl
  have k5 : w1.cell? ⟨gE, 5, none⟩ = some (.bool false) := B1.cellv 5 rfl
  have f0 := B1.frozen 0
  have f1 := B1.frozen 1
  have f2 := B1.frozen 2
  have f3 := B1.frozen 3
  have f4 := B1.frozen 4
  have f5 := B1.frozen 5
  have hge : w.heap.size ≤ gE := by omega
  have H1 := Lib.hid (And.intro B1 (And.intro c01 hge)); clear B1 c01 hge hw1 hgE O1 hc hv hnc hlt
  have e1 : ¬ (i : Int) < 0 := by omega
  have e2 : ¬ ((m.cms.length : Nat) : Int) ≤ (i : Int) := by omega
  have e3 : (i : Int) < ((m.cms.length : Nat) : Int) := by omega
  have e4 : (0 : Int) ≤ i := by omega
  go_wp2_with fail
  refine (HKC.out w1 H1.out.2.1).mono ?_
  rintro e w2 ⟨rfl, rfl⟩
  go_wp2_with fail
  have B2 := (((((H1.out.1.setv 0 (.int .i64 x.g) rfl).setv 1 (.int .i64 x.f) rfl).setv 2 (.int .i64 x.pc) rfl).setv 3 (.int .i64 x.op) rfl).setv 4 (.int .i64 x.v) rfl).setv 5 (.bool x.flt) (cs' := #[.int .i64 x.g, .int .i64 x.f, .int .i64 x.pc, .int .i64 x.op, .int .i64 x.v, .bool x.flt]) rfl
  refine ⟨rfl, _, results_ct (P := Tryz.prog) (fn := Tryz.f15) rfl (by rfl) (by rfl) (ld_cm _ B2), rfl, ?_⟩
  exact H1.out.2.1.newS ((((((((Chg.refl [gE] _).setCell (.inl (by simp)) _).setCell (.inl (by simp)) _).setCell (.inl (by simp)) _).setCell (.inl (by simp)) _).setCell (.inl (by simp)) _).setCell (.inl (by simp)) _)) (fun k hk => by have e : k = gE := (by simpa using hk); have := H1.out.2.2; omega)
end
theorem m_new_bad (w : World) (P n wo k : Nat) (b1 b2 : Nat) (vb : Value) (bs : List Nat) (hP1 : 1 ≤ P) (hP : P ≤ 64) (hn : 4 ≤ n) (hn2 : n ≤ 262144) (R : RdV w w.heap.size vb (u8s bs)) (hl : bs.length ≤ 100000) (hb : ∀ x ∈ bs, x < 256) (hd : decP bs = .error k) (hwo : wo = n * 64) :
    Calls Tryz.prog 16 #[.agg #[.int .i64 (P : Nat), .int .i64 (wo : Nat), .float .f64 b1, .float .f64 b2], vb] w (NwPost (.tuple #[.pointer none, .int .i64 6, .int .i64 (k : Nat)]) w) := by
  have HR := Lib.hid R; clear R
  have KM := fun w' => cf_may w' P wo b1 b2 hP1 hP (by omega) (by omega) (by omega)
  have HKM := Lib.hid KM; clear KM
  have Hwo := Lib.hid hwo; clear hwo
  go_enter Tryz.func16, Tryz.ntmps16
  obtain ⟨gc, hgc⟩ : ∃ gc, gc = w.heap.size := ⟨_, rfl⟩
  obtain ⟨w1, hw1⟩ : ∃ w1, w1 = w.alloc (.cells #[.int .i64 (P : Nat), .int .i64 (wo : Nat), .float .f64 b1, .float .f64 b2] 24) := ⟨_, rfl⟩
  have B1 : Blk w1 gc 24 #[.int .i64 (P : Nat), .int .i64 (wo : Nat), .float .f64 b1, .float .f64 b2] := by rw [hw1, hgc]; exact Blk.new _ _ _
  have c01 : Chg [] w w1 := by rw [hw1]; exact (Chg.refl [] w).alloc _
  go_upto_region 1 with fail
  rw [← hw1, ← hgc]
  have q0 : w1.cell? ⟨gc, 0, none⟩ = some (.int .i64 (P : Nat)) := B1.cellv 0 rfl
  have q1 : w1.cell? ⟨gc, 1, none⟩ = some (.int .i64 (wo : Nat)) := B1.cellv 1 rfl
  have q2 : w1.cell? ⟨gc, 2, none⟩ = some (.float .f64 b1) := B1.cellv 2 rfl
  have q3 : w1.cell? ⟨gc, 3, none⟩ = some (.float .f64 b2) := B1.cellv 3 rfl
  have H1 := Lib.hid (And.intro B1 (And.intro c01 hgc)); clear B1 c01 hw1 hgc
  go_wp2_with fail
  refine (HKM.out w1).mono ?_
  rintro e w2 ⟨rfl, c12⟩
  have c02 := H1.out.2.1.trans c12
  have R2 : RdV w2 w2.heap.size vb (u8s bs) := (HR.out.chg c02 (Nat.le_refl _) (by simp)).mono c02.size
  have H2 := Lib.hid (And.intro R2 c02); clear R2 c02 c12 q0 q1 q2 q3
  go_wp2_with fail
  refine (cd_decode w2 vb bs H2.out.1 hl hb).mono ?_
  rintro e w3 (⟨G', fs', vfn, vf, hd', rfl, If, nf, c23⟩ | ⟨k', hd', rfl, c23⟩)
  · rw [hd] at hd'; cases hd'
  · have ee : k = k' := by rw [hd] at hd'; injection hd'
    obtain rfl := ee
    have H3 := Lib.hid c23; clear c23 hd' hd
    go_wp2_with fail
    go_ret3
    refine ⟨rfl, ?_⟩
    have c04 := H2.out.2.trans H3.out
    have c4 : Chg [] w (w3.alloc (.cells #[.int .i64 0, .slice none 0 0] 30)) := c04.alloc _
    first
      | exact c4
      | exact c4.newS (T := [w3.heap.size]) ((((Chg.refl [w3.heap.size] _).setCell (.inl (by simp)) _).setCell (.inl (by simp)) _)) (fun k hk => by have e : k = w3.heap.size := (by simpa using hk); have := c04.size; omega)
theorem dec28_bad : decP [1, 0, 1, 99, 0, 0, 0] = .error 3 := by rfl
theorem dec28_ok : ∃ i : Ins, decP [1, 0, 1, 0, 0, 0, 0] = .ok (0, [[i]]) ∧ i.o = 0 := ⟨_, rfl, rfl⟩
theorem RdV.ofBlk {w : World} {g n : Nat} {t : TypeId} {ys : List Value} (h : Blk w g t ys.toArray) (hn : ys.length = n) (h1 : ∀ y ∈ ys, y.oneCell' = true) : RdV w w.heap.size (.slice (some ⟨g, 0, none⟩) n n) ys :=
  ⟨⟨_, _, by rw [hn]⟩, (fun A m c e i y hy => by
    injection e with e1 e2 e3
    exact ⟨g, 0, e1.symm, h.lt, by rw [Nat.zero_add]; exact h.cellv i (by rw [List.getElem?_toArray]; exact hy)⟩), h1⟩
theorem u8s_one1 (bs : List Nat) : ∀ y ∈ u8s bs, y.oneCell' = true := by
  intro y hy
  obtain ⟨x, _, rfl⟩ := List.mem_map.1 hy
  rfl
def b_ok : List Nat := [1, 0, 1, 0, 0, 0, 0]
def b_bad : List Nat := [1, 0, 1, 99, 0, 0, 0]
def TdRel (w1 : World) (p : MAt) (m m1 : Mac) (gk : Nat) (idx : Value) (wr : World) : Prop := (gk = 2 ∧ idx = .int .i64 0 ∧ MM ⟨w1, []⟩ wr p m) ∨ (gk = 1 ∧ idx = .int .i64 1 ∧ ∃ v, MM ⟨w1, []⟩ wr { p with vco := v } m1)
theorem told28_yes (w : World) : Calls Tryz.prog 14 #[] w (NwPost (.bool true) w) := by
  go_enter Tryz.func14, Tryz.ntmps14
  obtain ⟨ins, hd, hio⟩ := dec28_ok
  have Hd := Lib.hid (And.intro hd hio); clear hd hio
  go_wp2_with fail
  obtain ⟨w1, hw1⟩ : ∃ w1, w1 = w.alloc (.cells #[.int .u8 1, .int .u8 0, .int .u8 1, .int .u8 0, .int .u8 0, .int .u8 0, .int .u8 0] 5) := ⟨_, rfl⟩
  rw [← hw1]
  have B1 : Blk w1 w.heap.size 5 (u8s b_ok).toArray := by rw [hw1]; exact Blk.new _ _ _
  have R1 := RdV.ofBlk (n := 7) B1 rfl (u8s_one1 _)
  have c01 : Chg [] w w1 := by rw [hw1]; exact (Chg.refl [] w).alloc _
  have H1 := Lib.hid c01; clear c01 hw1 B1
  refine (m_new w1 2 4 0 256 0 0 _ b_ok _ (by decide) (by decide) (by decide) (by decide) R1 (by decide) (by decide) Hd.out.1 (by decide) (by decide)).mono ?_
  rintro e w2 ⟨p, pct, on, part, t, g, r, rfl, ht0, hq, htm, hfr, hco, M⟩
  have ht := ht0.2.1.pos
  clear ht0
  obtain ⟨m, hm⟩ : ∃ m, m = spawnA { mk0m 0 [[ins]] ((256 : Nat) : Int) pct on part 4 2 with gT := t, gG := g, gR := r } 0 0 0 := ⟨_, rfl⟩
  rw [← hm] at M
  have H2 := Lib.hid (And.intro M (And.intro hm (And.intro ht (And.intro hq (And.intro htm (And.intro hfr hco)))))); clear M hm ht hq htm hfr hco R1
  go_wp2_with fail
  obtain ⟨w3, hw3⟩ : ∃ w3, w3 = w2.alloc (.cells #[.int .u8 1, .int .u8 0, .int .u8 1, .int .u8 99, .int .u8 0, .int .u8 0, .int .u8 0] 5) := ⟨_, rfl⟩
  rw [← hw3]
  have B3 : Blk w3 w2.heap.size 5 (u8s b_bad).toArray := by rw [hw3]; exact Blk.new _ _ _
  have R3 := RdV.ofBlk (n := 7) B3 rfl (u8s_one1 _)
  have c23 : Chg [] w2 w3 := by rw [hw3]; exact (Chg.refl [] w2).alloc _
  have H3 := Lib.hid c23; clear c23 hw3 B3
  refine (m_new_bad w3 2 4 256 3 0 0 _ b_bad (by decide) (by decide) (by decide) (by decide) R3 (by decide) (by decide) dec28_bad (by decide)).mono ?_
  rintro e w4 ⟨rfl, c34⟩
  have M4 := H2.out.1.chg0 (H3.out.trans c34)
  have H4 := Lib.hid M4; clear M4 c34 R3
  go_wp2_with fail
  have s0 : stV m = 0 := by rw [H2.out.2.1]; rfl
  have s1 : stV (exitA (takeA (tickA m 0) 0 0) 0 0) = 1 := by rw [H2.out.2.1]; rfl
  have Hs := Lib.hid (And.intro s0 s1); clear s0 s1
  go_loopg [7] 2 (fun gk idx wr => TdRel w1 p m (exitA (takeA (tickA m 0) 0 0) 0 0) gk idx wr)
  case atStart => exact .inl ⟨rfl, rfl, H4.out⟩
  case round =>
    rcases hrel with ⟨rfl, rfl, M5⟩ | ⟨rfl, rfl, v, M5⟩
    · have KS := m_status M5 (by rw [H2.out.2.1]; show (1 : Nat) ≤ 1024; decide) (by rw [H2.out.2.1]; show (0 : Nat) ≤ 1024; decide)
      rw [Hs.out.1] at KS
      have H5 := Lib.hid (And.intro M5 KS); clear M5 KS
      go_wp2_with fail
      refine (H5.out.2).mono ?_
      rintro e w6 ⟨rfl, kk, hw6⟩
      have M6 := H5.out.1.chg0 (show Chg [] wr w6 by rw [hw6]; exact (Chg.refl [] wr).drewN _)
      have H6 := Lib.hid M6; clear M6 hw6
      go_wp2_with fail
      have em := H2.out.2.1
      refine (m_step_exit H6.out 0 0 0 1 [ins] ins Hd.out.2.symm (by rw [em]; show 0 < 2; decide) (by rw [em]; show 2 ≤ 64; decide) (by rw [em]; show 0 < 1; decide) (by rw [em]; rfl) H2.out.2.2.2.1 H2.out.2.2.2.2.1 (by rw [em]; rfl) (by rw [em]; rfl) H2.out.2.2.2.2.2.1
        (by rw [em]; rfl) Hs.out.1 (by rw [em]; rfl) (by rw [em]; rfl) (by rw [em]; exact Int.le_refl 0) (by rw [em]; rfl) (by rw [em]; exact H2.out.2.2.1) 0 0 0 0 0 (by rw [em]; rfl) (by rw [em]; rfl) (by rw [em]; rfl) (by rw [em]; rfl) (by rw [em]; rfl) (by decide) (by decide) (by decide) (by decide) (by decide)
        (by rw [em]; rfl) (by rw [em]; show 0 < 256; decide) (by rw [em]; show 0 < 1; decide) (by rw [em]; show 1 ≤ 256; decide) (by rw [em]; rfl) (by rw [em]; rfl) (by rw [em]; show 1 ≤ 1024; decide) (by rw [em]; rfl) 0 (by rw [em]; rfl) (by decide) (by rw [em]; rfl) rfl (by rw [em]; show 0 ≤ 100000000; decide)).mono ?_
      clear em
      rintro e w7 ⟨v, rfl, M7⟩
      have H7 := Lib.hid M7; clear M7
      unfold evV
      go_wp2_with fail
      go_roundg 1
      case measure => decide
      case rel => exact .inr ⟨rfl, rfl, v, H7.out⟩
    · have KS := m_status M5 (by rw [H2.out.2.1]; show (1 : Nat) ≤ 1024; decide) (by rw [H2.out.2.1]; show (0 : Nat) ≤ 1024; decide)
      rw [Hs.out.2] at KS
      have H5 := Lib.hid (And.intro M5 KS); clear M5 KS
      go_wp2_with fail
      refine (H5.out.2).mono ?_
      rintro e w6 ⟨rfl, kk, hw6⟩
      have M6 := H5.out.1.chg0 (show Chg [] wr w6 by rw [hw6]; exact (Chg.refl [] wr).drewN _)
      have H6 := Lib.hid M6; clear M6 hw6
      go_wp2_with fail
      refine (m_commit_at H6.out 0 ⟨0, 0, 0, 0, 0, false⟩ (by rw [H2.out.2.1]; rfl)).mono ?_
      rintro e w7 ⟨rfl, c67⟩
      have H7 := Lib.hid (H6.out.chg0 c67); clear c67
      simp only [comC]
      go_upto_region 10 with fail
      obtain ⟨w8, hw8⟩ : ∃ w8, w8 = w7.alloc (.cells #[.int .i64 0, .int .i64 0, .int .i64 0, .int .i64 0, .int .i64 0, .bool false] 59) := ⟨_, rfl⟩
      obtain ⟨gk, hgk⟩ : ∃ g, g = w7.heap.size := ⟨_, rfl⟩
      rw [← hw8, ← hgk]
      have B8 : Blk w8 gk 59 #[.int .i64 0, .int .i64 0, .int .i64 0, .int .i64 0, .int .i64 0, .bool false] := by rw [hw8, hgk]; exact Blk.new _ _ _
      have M8 := H7.out.chg0 (show Chg [] w7 w8 by rw [hw8]; exact (Chg.refl [] w7).alloc _)
      have KS := m_status M8 (by rw [H2.out.2.1]; show (1 : Nat) ≤ 1024; decide) (by rw [H2.out.2.1]; show (0 : Nat) ≤ 1024; decide)
      rw [Hs.out.2] at KS
      have H8 := Lib.hid (And.intro M8 (And.intro B8 KS)); clear M8 B8 KS hw8 hgk
      go_wp2_with fail
      refine (H8.out.2.2).mono ?_
      rintro e w9 ⟨rfl, kk, hw9⟩
      have c89 : Chg [] w8 w9 := by rw [hw9]; exact (Chg.refl [] w8).drewN _
      have M9 := H8.out.1.chg0 c89
      have B9 := c89.blk H8.out.2.1 (by simp)
      have KC := m_commits M9
      rw [show (exitA (takeA (tickA m 0) 0 0) 0 0).cms.length = 1 by rw [H2.out.2.1]; rfl] at KC
      have k0 : w9.cell? ⟨gk, 0, none⟩ = some (.int .i64 0) := B9.cellv 0 rfl
      have k1 : w9.cell? ⟨gk, 1, none⟩ = some (.int .i64 0) := B9.cellv 1 rfl
      have k2 : w9.cell? ⟨gk, 2, none⟩ = some (.int .i64 0) := B9.cellv 2 rfl
      have k3 : w9.cell? ⟨gk, 3, none⟩ = some (.int .i64 0) := B9.cellv 3 rfl
      have k4 : w9.cell? ⟨gk, 4, none⟩ = some (.int .i64 0) := B9.cellv 4 rfl
      have k5 : w9.cell? ⟨gk, 5, none⟩ = some (.bool false) := B9.cellv 5 rfl
      have H9 := Lib.hid (And.intro M9 KC); clear M9 KC B9 hw9 c89
      go_wp2_with fail
      refine (H9.out.2).mono ?_
      rintro e w10 ⟨rfl, rfl⟩
      go_wp2_with fail
      go_ret
      exact ⟨rfl, H1.out.trans H9.out.1.c⟩
def ConRel28 (w0 : World) (gk : Nat) (idx : Value) (w : World) : Prop := ∃ k, gk + k = 17 ∧ k ≤ 16 ∧ idx = .int .i64 (k : Nat) ∧ Chg [] w0 w
def CofPost28 (w : World) (e : Ending) (w' : World) : Prop := ∃ k : Int, e = .returned (.int .i64 k) ∧ Chg [] w w'
def vwZ : Array Value := #[.int .i64 0, .int .i64 0, .int .i64 0, .slice none 0 0, .slice none 0 0, .slice none 0 0, .int .i64 0, .int .i64 0, .int .i64 0]
end Go.Proofs.YtcpljjacamibeaaGreatDoor
