/- Package machine: Commits, Commit. -/
/- Package machine: New of a script that does not decode; the two scripts that told() asks with. -/
/- The law's told(). -/
/- The methods of a machine that is nil. -/
/- A machine that is nil: View and Room; MachineNobody's walk. -/
/- Both machine and model, of a program: fresh, New. -/
/- The document's model in memory, beside a machine. -/
/- The document's model: Next, Tick. -/
/- The document's model: plain, other, of Exit, Yield, Set, Dec, Jump. (Printed by wip/genmi2.py.) -/
/- The document's model: other, of Spawn. -/
/- The document's model: Do, of Exit, Yield, Set, Dec, Jump, Spawn. (Printed by wip/genmi4.py.) -/
/- The document's law 28: Follow, of an instruction that touches no object. (Printed by wip/genmi5.py.) -/
/- The document's law 28: W.Do: machine and model, one step each. (Printed by wip/genmi6.py.) -/
/- The document's law 28: W.Do, where the machine's step is no commit. (Printed by wip/genmi6.py.) -/
/- The document's law 28: Round, Run: whatever is kept from step to step is kept by a run. -/
/- MachineYields, in plain Lean: each commit keeps it. -/
/- What a run of any Ps keeps, whatever the program, as long as it allocates nothing: machine and model in step. -/
/- A run of any Ps, whatever the program and the instructions, as long as each instruction keeps machine and model in step. -/
import Derived.Test.YtcpljjacamibeaaGreatDoorMf5J
import Derived.Test.YtcpljjacamibeaaGreatDoorMe2
import Derived.Test.YtcpljjacamibeaaGreatDoorMSerJ
import Derived.Test.YtcpljjacamibeaaGreatDoorMArJ
import Derived.Laws.IdiomStrings
import Derived.Test.YtcpljjacamibeaaGreatDoorMh5
import Derived.Test.YtcpljjacamibeaaGreatDoorMf1J
import Derived.Test.YtcpljjacamibeaaGreatDoorMj2J
import Derived.Test.YtcpljjacamibeaaGreatDoorNhJ
namespace Go.Proofs.YtcpljjacamibeaaGreatDoor
set_option maxHeartbeats 16000000
set_option maxRecDepth 100000
open Go.RowKit Go.Maps
theorem ld_cm (w : World) {g : Nat} {a b c d e f : Value} (h : Blk w g 59 #[a, b, c, d, e, f]) : (loadVar 59 ⟨g, 0, none⟩).run Tryz.prog w = .ok (.agg #[a, b, c, d, e, f]) w := run_loadVar_row w g _ _ _ (0, 0) _ h Tryz.underlying59 rfl (by kernel_rfl)
section
variable {W : Bs} {w : World} {p : MAt} {m : Mac} (M : MM W w p m)
include M
theorem m_commits : Calls Tryz.prog 8 #[.pointer (some ⟨p.gm, 0, none⟩)] w (QuPost (.int .i64 (m.cms.length : Nat)) w) := by
  have O : OwnG comC 6 59 w p.vco m.cms := M.k .commits
  obtain ⟨A, c, hv⟩ := O.slice
  have c24 : w.cell? ⟨p.gm, 24, none⟩ = some p.vco := M.mb.cellv 24 rfl
  rw [hv] at c24
  clear hv O M
  go_enter Tryz.func8, Tryz.ntmps8
  go_wp2_with fail
  go_ret
  exact ⟨rfl, rfl⟩
theorem m_commit_at (i : Nat) (x : ComA) (hx : m.cms[i]? = some x) : Calls Tryz.prog 15 #[.pointer (some ⟨p.gm, 0, none⟩), .int .i64 (i : Nat)] w (NwPost (.tuple #[.agg (comC x).toArray, .bool true]) w) := by
  have O : OwnG comC 6 59 w p.vco m.cms := M.k .commits
  have hi := (List.getElem?_eq_some_iff.1 hx).1
  have KC := fun (w' : World) (c : Chg [] w w') => m_commits (M.chg0 c)
  have HKC := Lib.hid KC; clear KC
  have HM := Lib.hid (And.intro M (And.intro O hx)); clear M O hx
  go_enter Tryz.func15, Tryz.ntmps15
  go_upto_region 1 with fail
  obtain ⟨w1, hw1⟩ : ∃ w1, w1 = w.alloc (.cells #[.int .i64 0, .int .i64 0, .int .i64 0, .int .i64 0, .int .i64 0, .bool false] 59) := ⟨_, rfl⟩
  obtain ⟨gE, hgE⟩ : ∃ gE, gE = w.heap.size := ⟨_, rfl⟩
  rw [← hw1, ← hgE]
  have B1 : Blk w1 gE 59 #[.int .i64 0, .int .i64 0, .int .i64 0, .int .i64 0, .int .i64 0, .bool false] := by rw [hw1, hgE]; exact Blk.new _ _ _
  have c01 : Chg [] w w1 := by rw [hw1]; exact (Chg.refl [] w).alloc _
  have O1 := HM.out.2.1.chg0 c01
  obtain ⟨A, cp, hv⟩ := O1.slice
  have c24 : w1.cell? ⟨p.gm, 24, none⟩ = some p.vco := (HM.out.1.chg0 c01).mb.cellv 24 rfl
  rw [hv] at c24 O1
  obtain ⟨gb, hA, hc, -, -, hnc, hlt⟩ := O1.cell comC_len HM.out.2.2
  subst hA
  have i0 : w1.cell? ⟨gb, i * 6, none⟩ = some (.int .i64 x.g) := hc 0 _ rfl
  have i1 : w1.cell? ⟨gb, i * 6 + 1, none⟩ = some (.int .i64 x.f) := hc 1 _ rfl
  have i2 : w1.cell? ⟨gb, i * 6 + 2, none⟩ = some (.int .i64 x.pc) := hc 2 _ rfl
  have i3 : w1.cell? ⟨gb, i * 6 + 3, none⟩ = some (.int .i64 x.op) := hc 3 _ rfl
  have i4 : w1.cell? ⟨gb, i * 6 + 4, none⟩ = some (.int .i64 x.v) := hc 4 _ rfl
  have i5 : w1.cell? ⟨gb, i * 6 + 5, none⟩ = some (.bool x.flt) := hc 5 _ rfl
  have k0 : w1.cell? ⟨gE, 0, none⟩ = some (.int .i64 0) := B1.cellv 0 rfl
  have k1 : w1.cell? ⟨gE, 1, none⟩ = some (.int .i64 0) := B1.cellv 1 rfl
  have k2 : w1.cell? ⟨gE, 2, none⟩ = some (.int .i64 0) := B1.cellv 2 rfl
  have k3 : w1.cell? ⟨gE, 3, none⟩ = some (.int .i64 0) := B1.cellv 3 rfl
  have k4 : w1.cell? ⟨gE, 4, none⟩ = some (.int .i64 0) := B1.cellv 4 rfl
  have k5 : w1.cell? ⟨gE, 5, none⟩ = some (.bool false) := B1.cellv 5 rfl
  have f0 := B1.frozen 0
  have f1 := B1.frozen 1
  have f2 := B1.frozen 2
  have f3 := B1.frozen 3
  have f4 := B1.frozen 4
  have f5 := B1.frozen 5
  have hge : w.heap.size ≤ gE := by omega
  have H1 := Lib.hid (And.intro B1 (And.intro c01 hge)); clear B1 c01 hge hw1 hgE O1 hc hv hnc hlt
  have e1 : ¬ (i : Int) < 0 := by omega
  have e2 : ¬ ((m.cms.length : Nat) : Int) ≤ (i : Int) := by omega
  have e3 : (i : Int) < ((m.cms.length : Nat) : Int) := by omega
  have e4 : (0 : Int) ≤ i := by omega
  go_wp2_with fail
  refine (HKC.out w1 H1.out.2.1).mono ?_
  rintro e w2 ⟨rfl, rfl⟩
  go_wp2_with fail
  have B2 := (((((H1.out.1.setv 0 (.int .i64 x.g) rfl).setv 1 (.int .i64 x.f) rfl).setv 2 (.int .i64 x.pc) rfl).setv 3 (.int .i64 x.op) rfl).setv 4 (.int .i64 x.v) rfl).setv 5 (.bool x.flt) (cs' := #[.int .i64 x.g, .int .i64 x.f, .int .i64 x.pc, .int .i64 x.op, .int .i64 x.v, .bool x.flt]) rfl
  refine ⟨rfl, _, results_ct (P := Tryz.prog) (fn := Tryz.f15) rfl (by rfl) (by rfl) (ld_cm _ B2), rfl, ?_⟩
  exact H1.out.2.1.newS ((((((((Chg.refl [gE] _).setCell (.inl (by simp)) _).setCell (.inl (by simp)) _).setCell (.inl (by simp)) _).setCell (.inl (by simp)) _).setCell (.inl (by simp)) _).setCell (.inl (by simp)) _)) (fun k hk => by have e : k = gE := (by simpa using hk); have := H1.out.2.2; omega)
end
theorem m_new_bad (w : World) (P n wo k : Nat) (b1 b2 : Nat) (vb : Value) (bs : List Nat) (hP1 : 1 ≤ P) (hP : P ≤ 64) (hn : 4 ≤ n) (hn2 : n ≤ 262144) (R : RdV w w.heap.size vb (u8s bs)) (hl : bs.length ≤ 100000) (hb : ∀ x ∈ bs, x < 256) (hd : decP bs = .error k) (hwo : wo = n * 64) :
    Calls Tryz.prog 16 #[.agg #[.int .i64 (P : Nat), .int .i64 (wo : Nat), .float .f64 b1, .float .f64 b2], vb] w (NwPost (.tuple #[.pointer none, .int .i64 6, .int .i64 (k : Nat)]) w) := by
  have HR := Lib.hid R; clear R
  have KM := fun w' => cf_may w' P wo b1 b2 hP1 hP (by omega) (by omega) (by omega)
  have HKM := Lib.hid KM; clear KM
  have Hwo := Lib.hid hwo; clear hwo
  go_enter Tryz.func16, Tryz.ntmps16
  obtain ⟨gc, hgc⟩ : ∃ gc, gc = w.heap.size := ⟨_, rfl⟩
  obtain ⟨w1, hw1⟩ : ∃ w1, w1 = w.alloc (.cells #[.int .i64 (P : Nat), .int .i64 (wo : Nat), .float .f64 b1, .float .f64 b2] 24) := ⟨_, rfl⟩
  have B1 : Blk w1 gc 24 #[.int .i64 (P : Nat), .int .i64 (wo : Nat), .float .f64 b1, .float .f64 b2] := by rw [hw1, hgc]; exact Blk.new _ _ _
  have c01 : Chg [] w w1 := by rw [hw1]; exact (Chg.refl [] w).alloc _
  go_upto_region 1 with fail
  rw [← hw1, ← hgc]
  have q0 : w1.cell? ⟨gc, 0, none⟩ = some (.int .i64 (P : Nat)) := B1.cellv 0 rfl
  have q1 : w1.cell? ⟨gc, 1, none⟩ = some (.int .i64 (wo : Nat)) := B1.cellv 1 rfl
  have q2 : w1.cell? ⟨gc, 2, none⟩ = some (.float .f64 b1) := B1.cellv 2 rfl
  have q3 : w1.cell? ⟨gc, 3, none⟩ = some (.float .f64 b2) := B1.cellv 3 rfl
  have H1 := Lib.hid (And.intro B1 (And.intro c01 hgc)); clear B1 c01 hw1 hgc
  go_wp2_with fail
  refine (HKM.out w1).mono ?_
  rintro e w2 ⟨rfl, c12⟩
  have c02 := H1.out.2.1.trans c12
  have R2 : RdV w2 w2.heap.size vb (u8s bs) := (HR.out.chg c02 (Nat.le_refl _) (by simp)).mono c02.size
  have H2 := Lib.hid (And.intro R2 c02); clear R2 c02 c12 q0 q1 q2 q3
  go_wp2_with fail
  refine (cd_decode w2 vb bs H2.out.1 hl hb).mono ?_
  rintro e w3 (⟨G', fs', vfn, vf, hd', rfl, If, nf, c23⟩ | ⟨k', hd', rfl, c23⟩)
  · rw [hd] at hd'; cases hd'
  · have ee : k = k' := by rw [hd] at hd'; injection hd'
    obtain rfl := ee
    have H3 := Lib.hid c23; clear c23 hd' hd
    go_wp2_with fail
    go_ret3
    refine ⟨rfl, ?_⟩
    have c04 := H2.out.2.trans H3.out
    have c4 : Chg [] w (w3.alloc (.cells #[.int .i64 0, .slice none 0 0] 30)) := c04.alloc _
    first
      | exact c4
      | exact c4.newS (T := [w3.heap.size]) ((((Chg.refl [w3.heap.size] _).setCell (.inl (by simp)) _).setCell (.inl (by simp)) _)) (fun k hk => by have e : k = w3.heap.size := (by simpa using hk); have := c04.size; omega)
theorem dec28_bad : decP [1, 0, 1, 99, 0, 0, 0] = .error 3 := by rfl
theorem dec28_ok : ∃ i : Ins, decP [1, 0, 1, 0, 0, 0, 0] = .ok (0, [[i]]) ∧ i.o = 0 := ⟨_, rfl, rfl⟩
theorem RdV.ofBlk {w : World} {g n : Nat} {t : TypeId} {ys : List Value} (h : Blk w g t ys.toArray) (hn : ys.length = n) (h1 : ∀ y ∈ ys, y.oneCell' = true) : RdV w w.heap.size (.slice (some ⟨g, 0, none⟩) n n) ys :=
  ⟨⟨_, _, by rw [hn]⟩, (fun A m c e i y hy => by
    injection e with e1 e2 e3
    exact ⟨g, 0, e1.symm, h.lt, by rw [Nat.zero_add]; exact h.cellv i (by rw [List.getElem?_toArray]; exact hy)⟩), h1⟩
theorem u8s_one1 (bs : List Nat) : ∀ y ∈ u8s bs, y.oneCell' = true := by
  intro y hy
  obtain ⟨x, _, rfl⟩ := List.mem_map.1 hy
  rfl
def b_ok : List Nat := [1, 0, 1, 0, 0, 0, 0]
def b_bad : List Nat := [1, 0, 1, 99, 0, 0, 0]
def TdRel (w1 : World) (p : MAt) (m m1 : Mac) (gk : Nat) (idx : Value) (wr : World) : Prop := (gk = 2 ∧ idx = .int .i64 0 ∧ MM ⟨w1, []⟩ wr p m) ∨ (gk = 1 ∧ idx = .int .i64 1 ∧ ∃ v, MM ⟨w1, []⟩ wr { p with vco := v } m1)
theorem told28_yes (w : World) : Calls Tryz.prog 14 #[] w (NwPost (.bool true) w) := by
  go_enter Tryz.func14, Tryz.ntmps14
  obtain ⟨ins, hd, hio⟩ := dec28_ok
  have Hd := Lib.hid (And.intro hd hio); clear hd hio
  go_wp2_with fail
  obtain ⟨w1, hw1⟩ : ∃ w1, w1 = w.alloc (.cells #[.int .u8 1, .int .u8 0, .int .u8 1, .int .u8 0, .int .u8 0, .int .u8 0, .int .u8 0] 5) := ⟨_, rfl⟩
  rw [← hw1]
  have B1 : Blk w1 w.heap.size 5 (u8s b_ok).toArray := by rw [hw1]; exact Blk.new _ _ _
  have R1 := RdV.ofBlk (n := 7) B1 rfl (u8s_one1 _)
  have c01 : Chg [] w w1 := by rw [hw1]; exact (Chg.refl [] w).alloc _
  have H1 := Lib.hid c01; clear c01 hw1 B1
  refine (m_new w1 2 4 0 256 0 0 _ b_ok _ (by decide) (by decide) (by decide) (by decide) R1 (by decide) (by decide) Hd.out.1 (by decide) (by decide)).mono ?_
  rintro e w2 ⟨p, pct, on, part, t, g, r, rfl, ht0, hq, htm, hfr, hco, M⟩
  have ht := ht0.2.1.pos
  clear ht0
  obtain ⟨m, hm⟩ : ∃ m, m = spawnA { mk0m 0 [[ins]] ((256 : Nat) : Int) pct on part 4 2 with gT := t, gG := g, gR := r } 0 0 0 := ⟨_, rfl⟩
  rw [← hm] at M
  have H2 := Lib.hid (And.intro M (And.intro hm (And.intro ht (And.intro hq (And.intro htm (And.intro hfr hco)))))); clear M hm ht hq htm hfr hco R1
  go_wp2_with fail
  obtain ⟨w3, hw3⟩ : ∃ w3, w3 = w2.alloc (.cells #[.int .u8 1, .int .u8 0, .int .u8 1, .int .u8 99, .int .u8 0, .int .u8 0, .int .u8 0] 5) := ⟨_, rfl⟩
  rw [← hw3]
  have B3 : Blk w3 w2.heap.size 5 (u8s b_bad).toArray := by rw [hw3]; exact Blk.new _ _ _
  have R3 := RdV.ofBlk (n := 7) B3 rfl (u8s_one1 _)
  have c23 : Chg [] w2 w3 := by rw [hw3]; exact (Chg.refl [] w2).alloc _
  have H3 := Lib.hid c23; clear c23 hw3 B3
  refine (m_new_bad w3 2 4 256 3 0 0 _ b_bad (by decide) (by decide) (by decide) (by decide) R3 (by decide) (by decide) dec28_bad (by decide)).mono ?_
  rintro e w4 ⟨rfl, c34⟩
  have M4 := H2.out.1.chg0 (H3.out.trans c34)
  have H4 := Lib.hid M4; clear M4 c34 R3
  go_wp2_with fail
  have s0 : stV m = 0 := by rw [H2.out.2.1]; rfl
  have s1 : stV (exitA (takeA (tickA m 0) 0 0) 0 0) = 1 := by rw [H2.out.2.1]; rfl
  have Hs := Lib.hid (And.intro s0 s1); clear s0 s1
  go_loopg [7] 2 (fun gk idx wr => TdRel w1 p m (exitA (takeA (tickA m 0) 0 0) 0 0) gk idx wr)
  case atStart => exact .inl ⟨rfl, rfl, H4.out⟩
  case round =>
    rcases hrel with ⟨rfl, rfl, M5⟩ | ⟨rfl, rfl, v, M5⟩
    · have KS := m_status M5 (by rw [H2.out.2.1]; show (1 : Nat) ≤ 1024; decide) (by rw [H2.out.2.1]; show (0 : Nat) ≤ 1024; decide)
      rw [Hs.out.1] at KS
      have H5 := Lib.hid (And.intro M5 KS); clear M5 KS
      go_wp2_with fail
      refine (H5.out.2).mono ?_
      rintro e w6 ⟨rfl, kk, hw6⟩
      have M6 := H5.out.1.chg0 (show Chg [] wr w6 by rw [hw6]; exact (Chg.refl [] wr).drewN _)
      have H6 := Lib.hid M6; clear M6 hw6
      go_wp2_with fail
      have em := H2.out.2.1
      refine (m_step_exit H6.out 0 0 0 1 [ins] ins Hd.out.2.symm (by rw [em]; show 0 < 2; decide) (by rw [em]; show 2 ≤ 64; decide) (by rw [em]; show 0 < 1; decide) (by rw [em]; rfl) H2.out.2.2.2.1 H2.out.2.2.2.2.1 (by rw [em]; rfl) (by rw [em]; rfl) H2.out.2.2.2.2.2.1
        (by rw [em]; rfl) Hs.out.1 (by rw [em]; rfl) (by rw [em]; rfl) (by rw [em]; exact Int.le_refl 0) (by rw [em]; rfl) (by rw [em]; exact H2.out.2.2.1) 0 0 0 0 0 (by rw [em]; rfl) (by rw [em]; rfl) (by rw [em]; rfl) (by rw [em]; rfl) (by rw [em]; rfl) (by decide) (by decide) (by decide) (by decide) (by decide)
        (by rw [em]; rfl) (by rw [em]; show 0 < 256; decide) (by rw [em]; show 0 < 1; decide) (by rw [em]; show 1 ≤ 256; decide) (by rw [em]; rfl) (by rw [em]; rfl) (by rw [em]; show 1 ≤ 1024; decide) (by rw [em]; rfl) 0 (by rw [em]; rfl) (by decide) (by rw [em]; rfl) rfl (by rw [em]; show 0 ≤ 100000000; decide)).mono ?_
      clear em
      rintro e w7 ⟨v, rfl, M7⟩
      have H7 := Lib.hid M7; clear M7
      unfold evV
      go_wp2_with fail
      go_roundg 1
      case measure => decide
      case rel => exact .inr ⟨rfl, rfl, v, H7.out⟩
    · have KS := m_status M5 (by rw [H2.out.2.1]; show (1 : Nat) ≤ 1024; decide) (by rw [H2.out.2.1]; show (0 : Nat) ≤ 1024; decide)
      rw [Hs.out.2] at KS
      have H5 := Lib.hid (And.intro M5 KS); clear M5 KS
      go_wp2_with fail
      refine (H5.out.2).mono ?_
      rintro e w6 ⟨rfl, kk, hw6⟩
      have M6 := H5.out.1.chg0 (show Chg [] wr w6 by rw [hw6]; exact (Chg.refl [] wr).drewN _)
      have H6 := Lib.hid M6; clear M6 hw6
      go_wp2_with fail
      refine (m_commit_at H6.out 0 ⟨0, 0, 0, 0, 0, false⟩ (by rw [H2.out.2.1]; rfl)).mono ?_
      rintro e w7 ⟨rfl, c67⟩
      have H7 := Lib.hid (H6.out.chg0 c67); clear c67
      simp only [comC]
      go_upto_region 10 with fail
      obtain ⟨w8, hw8⟩ : ∃ w8, w8 = w7.alloc (.cells #[.int .i64 0, .int .i64 0, .int .i64 0, .int .i64 0, .int .i64 0, .bool false] 59) := ⟨_, rfl⟩
      obtain ⟨gk, hgk⟩ : ∃ g, g = w7.heap.size := ⟨_, rfl⟩
      rw [← hw8, ← hgk]
      have B8 : Blk w8 gk 59 #[.int .i64 0, .int .i64 0, .int .i64 0, .int .i64 0, .int .i64 0, .bool false] := by rw [hw8, hgk]; exact Blk.new _ _ _
      have M8 := H7.out.chg0 (show Chg [] w7 w8 by rw [hw8]; exact (Chg.refl [] w7).alloc _)
      have KS := m_status M8 (by rw [H2.out.2.1]; show (1 : Nat) ≤ 1024; decide) (by rw [H2.out.2.1]; show (0 : Nat) ≤ 1024; decide)
      rw [Hs.out.2] at KS
      have H8 := Lib.hid (And.intro M8 (And.intro B8 KS)); clear M8 B8 KS hw8 hgk
      go_wp2_with fail
      refine (H8.out.2.2).mono ?_
      rintro e w9 ⟨rfl, kk, hw9⟩
      have c89 : Chg [] w8 w9 := by rw [hw9]; exact (Chg.refl [] w8).drewN _
      have M9 := H8.out.1.chg0 c89
      have B9 := c89.blk H8.out.2.1 (by simp)
      have KC := m_commits M9
      rw [show (exitA (takeA (tickA m 0) 0 0) 0 0).cms.length = 1 by rw [H2.out.2.1]; rfl] at KC
      have k0 : w9.cell? ⟨gk, 0, none⟩ = some (.int .i64 0) := B9.cellv 0 rfl
      have k1 : w9.cell? ⟨gk, 1, none⟩ = some (.int .i64 0) := B9.cellv 1 rfl
      have k2 : w9.cell? ⟨gk, 2, none⟩ = some (.int .i64 0) := B9.cellv 2 rfl
      have k3 : w9.cell? ⟨gk, 3, none⟩ = some (.int .i64 0) := B9.cellv 3 rfl
      have k4 : w9.cell? ⟨gk, 4, none⟩ = some (.int .i64 0) := B9.cellv 4 rfl
      have k5 : w9.cell? ⟨gk, 5, none⟩ = some (.bool false) := B9.cellv 5 rfl
      have H9 := Lib.hid (And.intro M9 KC); clear M9 KC B9 hw9 c89
      go_wp2_with fail
      refine (H9.out.2).mono ?_
      rintro e w10 ⟨rfl, rfl⟩
      go_wp2_with fail
      go_ret
      exact ⟨rfl, H1.out.trans H9.out.1.c⟩
def ConRel28 (w0 : World) (gk : Nat) (idx : Value) (w : World) : Prop := ∃ k, gk + k = 17 ∧ k ≤ 16 ∧ idx = .int .i64 (k : Nat) ∧ Chg [] w0 w
def CofPost28 (w : World) (e : Ending) (w' : World) : Prop := ∃ k : Int, e = .returned (.int .i64 k) ∧ Chg [] w w'
def vwZ : Array Value := #[.int .i64 0, .int .i64 0, .int .i64 0, .slice none 0 0, .slice none 0 0, .slice none 0 0, .int .i64 0, .int .i64 0, .int .i64 0]
structure NwX (B : Nat) (w : World) (G : Nat) (vf : Value) (gX gg gs gl : Nat) (vg : Value) : Prop where
  x : Blk w gX 71 (mdC G vf vg (.slice (some ⟨gl, 0, none⟩) G G) (.slice none 0 0) (.slice none 0 0) (fun _ => .slice none 0 0) 0)
  o : OwnV 86 w vg [.pointer (some ⟨gg, 0, none⟩)]
  g : Blk w gg 85 (mgC 1 0 0 0 (.slice (some ⟨gs, 0, none⟩) 16 16))
  s : Blk w gs 3 (zcells (.int .i64 0) 16)
  l : Blk w gl 3 (zcells (.int .i64 0) G)
  nX : B ≤ gX
  ng : B ≤ gg
  ns : B ≤ gs
  nl : B ≤ gl
  nv : ∀ k ∈ fpv vg, B ≤ k
  d1 : gl ≠ gs
  d2 : gX ∉ fpv vg
  d3 : gl ∉ fpv vg
  d4 : gg ∉ fpv vg
  d5 : gs ∉ fpv vg
theorem NwX.chg0 {B G gX gg gs gl : Nat} {w w' : World} {vf vg : Value} (h : NwX B w G vf gX gg gs gl vg) (c : Chg [] w w') : NwX B w' G vf gX gg gs gl vg :=
  ⟨c.blk h.x (by simp), h.o.chg0 c, c.blk h.g (by simp), c.blk h.s (by simp), c.blk h.l (by simp), h.nX, h.ng, h.ns, h.nl, h.nv, h.d1, h.d2, h.d3, h.d4, h.d5⟩
theorem rmodel_nw (w : World) (G : Nat) (A : Option Addr) (n c : Nat) (hG : G ≤ 1000) : Calls Tryz.prog 19 #[.agg #[.int .i64 (G : Nat), .slice A n c]] w fun e w' => ∃ gX gg gs gl vg, e = .returned (.pointer (some ⟨gX, 0, none⟩)) ∧ NwX w.heap.size w' G (.slice A n c) gX gg gs gl vg ∧ Chg [] w w' :=
  (rmodel_ok w G A n c hG).mono fun e w' ⟨gX, gg, gs, gl, vg, he, x, o, g, s, l, nX, ng, ns, nl, nv, a1, a2, a3, a4, a5, a6, d2, d3, d4, d5, cc⟩ => ⟨gX, gg, gs, gl, vg, he, ⟨x, o, g, s, l, nX, ng, ns, nl, nv, a5, d2, d3, d4, d5⟩, cc⟩
def wwC (gm gX : Nat) (P wo : Int) (b1 b2 : Nat) (va : Value) : Array Value := #[.pointer (some ⟨gm, 0, none⟩), .pointer (some ⟨gX, 0, none⟩), .int .i64 P, .int .i64 wo, .float .f64 b1, .float .f64 b2, va, .bool false,
  .int .i64 0, .int .i64 0, .int .i64 0, .slice none 0 0, .slice none 0 0, .slice none 0 0, .int .i64 0, .int .i64 0, .int .i64 0, .int .i64 0, .int .i64 0, .int .i64 0, .bool false, .int .i64 0]
def FrS (P n G wo b1 b2 : Nat) (fs : List (List Ins)) (vf : Value) (w w' : World) (gW gA gX gg gs gl : Nat) (vg : Value) (p : MAt) (m : Mac) : Prop :=
  (∃ pct on part t g r, 0 < t ∧ m = spawnA { mk0m G fs (wo : Nat) pct on part n P with gT := t, gG := g, gR := r } 0 0 0) ∧ p.vq = .slice none 0 0 ∧ p.vtm = .slice none 0 0 ∧ p.vfr = .slice none 0 0 ∧ p.vco = .slice none 0 0 ∧ MM ⟨w, []⟩ w' p m ∧
  (∃ B, w.heap.size ≤ B ∧ (∀ k j, MF p m k j → j < B) ∧ NwX B w' G vf gX gg gs gl vg ∧ B ≤ gW ∧ B ≤ gA) ∧ Blk w' gW 45 (wwC p.gm gX P wo b1 b2 (.slice (some ⟨gA, 0, none⟩) 1 1)) ∧ Blk w' gA 3 #[.int .i64 0] ∧ gA ≠ gl ∧ gA ≠ gs
def FrPost (P n G wo b1 b2 : Nat) (fs : List (List Ins)) (vf : Value) (w : World) (e : Ending) (w' : World) : Prop :=
  ∃ gW gA gX gg gs gl vg p m, e = .returned (.pointer (some ⟨gW, 0, none⟩)) ∧ FrS P n G wo b1 b2 fs vf w w' gW gA gX gg gs gl vg p m
def BothPost (ps : Int) (G b1 b2 : Nat) (fs : List (List Ins)) (vf : Value) (w : World) (e : Ending) (w' : World) : Prop := ∃ P n : Nat, (ps = 0 → P = 1) ∧ 1 ≤ P ∧ P ≤ 6 ∧ 4 ≤ n ∧ n ≤ 19 ∧ FrPost P n G (n * 64) b1 b2 fs vf w e w'
structure XAt where
  gX : Nat
  G : Int
  vf : Value
  vg : Value
  vgl : Value
  ck : Int
  gg : Nat → Nat
  gs : Nat → Nat
  vw : Nat → Value
  wb : List Nat
  gA : Nat
def skC (s : Nat → Int) : Array Value := ((List.range 16).map fun j => Value.int .i64 (s j)).toArray
def xG (a : XAt) (X : Mdl) (i : Nat) : Array Value := mgC (X.gs i).st (X.gs i).f (X.gs i).pc (X.gs i).cnt (.slice (some ⟨a.gs i, 0, none⟩) 16 16)
def xC (a : XAt) : Array Value := mdC a.G a.vf a.vg a.vgl (.slice none 0 0) (.slice none 0 0) a.vw a.ck
def WtR (w : World) (v : Value) (xs : List Int) (B : List Nat) : Prop :=
  (xs = [] ∧ ∃ A c, v = .slice A 0 c) ∨ ∃ b off c cs, b ∈ B ∧ v = .slice (some ⟨b, off, none⟩) xs.length c ∧ xs.length ≤ c ∧ Blk w b 3 cs ∧ ∀ (j : Nat) x, xs[j]? = some x → cs[off + j]? = some (.int .i64 x)
structure XM (w : World) (a : XAt) (X : Mdl) : Prop where
  x : Blk w a.gX 71 (xC a)
  o : OwnV 86 w a.vg (ptrs a.gg X.n)
  g : ∀ i, i < X.n → Blk w (a.gg i) 85 (xG a X i)
  s : ∀ i, i < X.n → Blk w (a.gs i) 3 (skC (X.gs i).sk)
  ig : ∀ i j, i < X.n → j < X.n → a.gg i = a.gg j → i = j
  is : ∀ i j, i < X.n → j < X.n → a.gs i = a.gs j → i = j
  wb : ∀ j ∈ a.wb, (∃ cs, Blk w j 3 cs) ∧ ∀ k, k < X.n → j ≠ a.gs k
  ad : a.gA ∈ a.wb ∧ Blk w a.gA 3 #[.int .i64 0]
  w : ∀ i, i < 32 → WtR w (a.vw i) (X.wt i) a.wb
def XF (a : XAt) (X : Mdl) (j : Nat) : Prop := j = a.gX ∨ (j ∈ fpv a.vg ∨ j ∈ a.wb) ∨ ∃ i, i < X.n ∧ (j = a.gg i ∨ j = a.gs i)
section
variable {w w' : World} {a : XAt} {X : Mdl}
end
def XL (a : XAt) (X : Mdl) : List Nat := a.gX :: (fpv a.vg ++ a.wb) ++ (List.range X.n).map a.gg ++ (List.range X.n).map a.gs
def wwD (gm gX : Nat) (P wo : Int) (b1 b2 : Nat) (va : Value) (cP cV : Int) : Array Value := #[.pointer (some ⟨gm, 0, none⟩), .pointer (some ⟨gX, 0, none⟩), .int .i64 P, .int .i64 wo, .float .f64 b1, .float .f64 b2, va, .bool false,
  .int .i64 0, .int .i64 0, .int .i64 0, .slice none 0 0, .slice none 0 0, .slice none 0 0, .int .i64 0, .int .i64 0, .int .i64 0, .int .i64 0, .int .i64 cP, .int .i64 cV, .bool false, .int .i64 0]
structure BothM (w0 w : World) (gW : Nat) (P wo : Int) (b1 b2 : Nat) (va : Value) (cP cV : Int) (p : MAt) (m : Mac) (a : XAt) (X : Mdl) : Prop where
  M : MM ⟨w0, []⟩ w p m
  hX : XM w a X
  W : Blk w gW 45 (wwD p.gm a.gX P wo b1 b2 va cP cV)
  sep : ∀ k j, MF p m k j → ¬ (XF a X j ∨ j = gW)
  lo : ∀ j, XF a X j ∨ j = gW → w0.heap.size ≤ j
section
variable {w0 w w' : World} {gW : Nat} {P wo : Int} {b1 b2 : Nat} {va : Value} {cP cV : Int} {p : MAt} {m : Mac} {a : XAt} {X : Mdl} (h : BothM w0 w gW P wo b1 b2 va cP cV p m a X)
include h
end
section
variable {w w' : World} {a : XAt} {X : Mdl}
end
def PlPost (a : XAt) (X2 : Mdl) (g : Nat) (v : Value) (w : World) (e : Ending) (w' : World) : Prop := e = .returned v ∧ XM w' a X2 ∧ Chg [a.gg g] w w'
def spX (X : Mdl) (f v : Int) : Mdl := { X with n := X.n + 1, gs := updV X.gs X.n ⟨1, f, 0, 0, updV (fun _ => 0) 0 v⟩ }
def spA (a : XAt) (n : Nat) (vg : Value) (gg gs : Nat) : XAt := { a with vg := vg, gg := updV a.gg n gg, gs := updV a.gs n gs }
def SpnPost (a : XAt) (X : Mdl) (f v : Int) (gc : Nat) (c : ComA) (w : World) (e : Ending) (w' : World) : Prop :=
  ∃ vg gg gs, e = .returned (.tuple #[]) ∧ XM w' (spA a X.n vg gg gs) (spX X f v) ∧ Blk w' gc 59 (comC { c with v := (X.n : Nat) }).toArray ∧ Chg (gc :: a.gX :: fpv a.vg) w w' ∧ ∀ j, XF (spA a X.n vg gg gs) (spX X f v) j → XF a X j ∨ w.heap.size ≤ j
def RdoG (a : XAt) (X X2 : Mdl) (cc : ComA) (w : World) (e : Ending) (w' : World) : Prop :=
  ∃ a', e = .returned (.tuple #[.agg (comC cc).toArray, .int .i64 0]) ∧ XM w' a' X2 ∧ a'.gX = a.gX ∧ a'.vf = a.vf ∧ (a'.G = a.G ∧ a'.gA = a.gA) ∧ a'.ck = a.ck ∧ (∀ j, XF a' X2 j → XF a X j ∨ w.heap.size ≤ j) ∧ ∃ T, Chg T w w' ∧ ∀ j ∈ T, XF a X j ∨ w.heap.size ≤ j
abbrev RdoPost (a : XAt) (X : Mdl) (g : Nat) (i : Ins) (w : World) (e : Ending) (w' : World) : Prop := RdoG a X (doX X g i) (tellX X g i) w e w'
def endX (X2 : Mdl) (g : Nat) (cc : ComA) : Mdl := if cc.flt = true then { X2 with gs := updV X2.gs g { X2.gs g with st := 5 } } else X2
def endC (cc : ComA) : ComA := if cc.flt = true then { cc with v := 0 } else cc
def pcX (X : Mdl) (g : Nat) : Mdl := { X with gs := updV X.gs g { X.gs g with pc := (X.gs g).pc + 1 } }
def DstPost (a : XAt) (X1 X2 : Mdl) (g gc : Nat) (c c2 : ComA) (b : Value) (w : World) (e : Ending) (w' : World) : Prop :=
  ∃ a', e = .returned b ∧ XM w' a' X2 ∧ a'.gX = a.gX ∧ a'.vf = a.vf ∧ (a'.G = a.G ∧ a'.gA = a.gA ∧ a'.gg g = a.gg g) ∧ a'.ck = a.ck ∧ Blk w' gc 59 (comC c2).toArray ∧ (∀ j, XF a' X2 j → XF a X1 j ∨ w.heap.size ≤ j) ∧ ∃ T, Chg T w w' ∧ ∀ j ∈ T, XF a X1 j ∨ j = gc
structure RSteps (a : XAt) (X1 X2 : Mdl) (g gc : Nat) (i : Ins) (c c2 : ComA) (w : World) : Prop where
  one : (Calls Tryz.prog 154 #[.pointer (some ⟨a.gX, 0, none⟩), .int .i64 (g : Nat), insV i, .pointer (some ⟨gc, 0, none⟩)] w (DstPost a X1 X2 g gc c c2 (.bool true) w)) ∨
    (Calls Tryz.prog 154 #[.pointer (some ⟨a.gX, 0, none⟩), .int .i64 (g : Nat), insV i, .pointer (some ⟨gc, 0, none⟩)] w (fun e w' => e = .returned (.bool false) ∧ Chg [] w w') ∧
      ∀ w', Chg [] w w' → Calls Tryz.prog 155 #[.pointer (some ⟨a.gX, 0, none⟩), .int .i64 (g : Nat), insV i, .pointer (some ⟨gc, 0, none⟩)] w' (DstPost a X1 X2 g gc c c2 (.tuple #[]) w'))
def FolPost (a : XAt) (X2 : Mdl) (X : Mdl) (v : Value) (w : World) (e : Ending) (w' : World) : Prop :=
  ∃ a', e = .returned v ∧ XM w' a' X2 ∧ a'.gX = a.gX ∧ a'.vf = a.vf ∧ (a'.G = a.G ∧ a'.gA = a.gA) ∧ a'.ck = a.ck ∧ (∀ j, XF a' X2 j → XF a X j ∨ w.heap.size ≤ j) ∧ Chg (XL a X) w w'
def WdPost (w0 : World) (gW : Nat) (P wo : Int) (b1 b2 : Nat) (va : Value) (q : Nat) (vic : Int) (p : MAt) (m3 : Mac) (a : XAt) (X2 : Mdl) (g : Nat) (e : Ending) (w' : World) : Prop :=
  ∃ p3 a', e = .returned (.tuple #[evV 1 (g : Nat) 0, .bool true]) ∧ Keeps p p3 ∧ BothM w0 w' gW P wo b1 b2 va (q : Nat) vic p3 m3 a' X2 ∧ a'.vf = a.vf ∧ a'.ck = a.ck ∧ a'.gA = a.gA
def WdnPost (w0 : World) (gW : Nat) (P wo : Int) (b1 b2 : Nat) (va : Value) (q : Nat) (vic : Int) (p : MAt) (m3 : Mac) (a : XAt) (X : Mdl) (ek eg : Int) (e : Ending) (w' : World) : Prop :=
  ∃ p3, e = .returned (.tuple #[evV ek eg 0, .bool true]) ∧ Keeps p p3 ∧ BothM w0 w' gW P wo b1 b2 va (q : Nat) vic p3 m3 a X
def rndV (P i : Nat) : Value := .agg #[.int .i64 ((i % P : Nat) : Int), .int .i64 (((i % P + 1) % P : Nat) : Int), .bool false, .int .i64 0]
structure RunJ (gW P N : Nat) (J : Nat → Int → World → Prop) : Prop where
  cells : ∀ i s w, J i s w → ∃ gm, w.cell? ⟨gW, 0, none⟩ = some (.pointer (some ⟨gm, 0, none⟩)) ∧ w.cell? ⟨gW, 2, none⟩ = some (.int .i64 (P : Nat)) ∧ gW < w.heap.size ∧ Calls Tryz.prog 11 #[.pointer (some ⟨gm, 0, none⟩)] w (QdPost (.int .i64 s) w)
  chg : ∀ i s w w', J i s w → Chg [] w w' → J i s w'
  step : ∀ i w, i < N → J i 0 w → Calls Tryz.prog 9 #[.pointer (some ⟨gW, 0, none⟩), rndV P i] w (fun e w' => ∃ k g s', e = .returned (.tuple #[evV k g 0, .bool true]) ∧ J (i + 1) s' w')
def RunRel (N : Nat) (J : Nat → Int → World → Prop) (gk : Nat) (idx : Value) (w : World) : Prop := ∃ i s, gk + i = N + 1 ∧ i ≤ N ∧ idx = .int .i64 (i : Nat) ∧ J i s w
def RunQ (N : Nat) (J : Nat → Int → World → Prop) (e : Ending) (w : World) : Prop := ∃ i s, e = .returned (.bool true) ∧ J i s w ∧ (s ≠ 0 ∨ i = N)
def yIns (k y g : Nat) (x : GorA) : Ins :=
  if g = 0 then (if x.pc = (k : Nat) then ⟨0, 0, 0, 0⟩ else ⟨8, 1, 0, 0⟩)
  else if x.pc = 0 then ⟨16, 0, y, 0⟩ else if x.pc = 1 then ⟨9, 0, 0, 0⟩ else if x.pc = 2 then ⟨17, 1, 0, 0⟩ else ⟨0, 0, 0, 0⟩
section
variable {k y s i : Nat} {m : Mac} {g : Nat} {L : List Nat} (h : YBusy k y s i m g L)
include h
end
structure Cn (m : Mac) (b : Nat) : Prop where
  ps : ∀ q, q < m.np → (m.ps q).worked = 0 ∧ (∃ n : Nat, (m.ps q).all = n ∧ n ≤ b) ∧ (∃ n : Nat, (m.ps q).picks = n ∧ n ≤ b) ∧ ∃ n : Nat, (m.ps q).row = n ∧ n ≤ b
  sp : ∃ n : Nat, m.steps = n ∧ n ≤ b
  ck : m.clock = 0
structure Stays (m m3 : Mac) (q : Nat) : Prop where
  np : m3.np = m.np
  fs : m3.fs = m.fs
  tm : m3.tm = m.tm
  made : m3.made = m.made
  out : m3.out = m.out
  ph : m3.ph = m.ph
  fo : m3.force = m.force
  A : m3.A = m.A
  gT : m3.gT = m.gT
  sp : m3.steps = m.steps
  ck : m3.clock = m.clock
  ps : ∀ q', (m3.ps q').worked = (m.ps q').worked ∧ (m3.ps q').all = (m.ps q').all ∧ (m3.ps q').picks = (m.ps q').picks ∧ ((m3.ps q').row = (m.ps q').row ∨ (m3.ps q').row = (m.ps q').row + 1)
structure AtC (P : Nat) (fs : List (List Ins)) (J : Mdl → List ComA → Prop) (m : Mac) (X : Mdl) (loc : Nat → Nat × Nat) (q g : Nat) : Prop where
  hJ : J X m.cms
  R : Rel m X
  h : WF m loc
  hfs : m.fs = fs
  np : m.np = P
  hq : q < m.np
  hg : g < m.ng
  l : loc g = (2, q)
  row : ∃ rw : Nat, (m.ps q).row = rw ∧ rw ≤ 1000000
  h0 : m.ph.ph = 0
  cl : m.cms.length ≤ 100000000
  ng : m.ng ≤ 255
  ob : ∀ x, m.A.a.ob x = none
structure Ops (P : Nat) (fs : List (List Ins)) (vf : Value) (wB : World) (J : Mdl → List ComA → Prop) (nx : Mdl → Nat → Ins) (cm : Mac → Nat → Nat → Ins → Mac) (dx : Mdl → Nat → Ins → Mdl) (tx : Mdl → Nat → Ins → ComA) : Prop where
  small : ∀ X cms, J X cms → X.n ≤ 255
  next : ∀ (m : Mac) (X : Mdl), J X m.cms → Rel m X → m.fs = fs → ∀ g, g < m.ng → (X.gs g).st = 1 → NxtG m.fs (m.gs g) (nx X g) ∧ ¬ (nx X g).o = 1
  com : ∀ (m : Mac) (X : Mdl) (loc : Nat → Nat × Nat) (q g : Nat), AtC P fs J m X loc q g → ∀ (p : MAt), p.vq = .slice none 0 0 → ∀ (B : Bs) (w' : World), MM B w' p m → Calls Tryz.prog 146 #[.pointer (some ⟨p.gm, 0, none⟩), .int .i64 (q : Nat), insV (nx X g), .int .i64 0] w' (RunPost B (Keeps p) (cm m q g (nx X g)) g)
  after : ∀ (m : Mac) (X : Mdl) (loc : Nat → Nat × Nat) (q g : Nat), AtC P fs J m X loc q g → ∃ loc3, WF (cm m q g (nx X g)) loc3 ∧ Rel (cm m q g (nx X g)) (dx X g (nx X g)) ∧ (cm m q g (nx X g)).cms = m.cms ++ [tx X g (nx X g)] ∧ Stays m (cm m q g (nx X g)) q
  tell : ∀ X g i, (tx X g i).g = (g : Nat) ∧ (tx X g i).op = (i.o : Nat) ∧ (i.o = 2 → (tx X g i).v = 0)
  mod : ∀ (w : World) (a : XAt) (X : Mdl) (cms : List ComA) (g : Nat), XM w a X → J X cms → X.fs = fs → a.vf = vf → Chg [] wB w → g < X.n → (X.gs g).st = 1 → Calls Tryz.prog 91 #[.pointer (some ⟨a.gX, 0, none⟩), .int .i64 (g : Nat)] w (FolPost a (dx X g (nx X g)) X (.tuple #[.agg (comC (tx X g (nx X g))).toArray, .int .i64 0]) w)
  keep : ∀ X cms g, J X cms → g < X.n → (X.gs g).st = 1 → J (dx X g (nx X g)) (cms ++ [tx X g (nx X g)])
def GJ (P : Nat) (fs : List (List Ins)) (wB : World) (gW : Nat) (wo : Int) (b1 b2 : Nat) (va vf : Value) (J : Mdl → List ComA → Prop) (i : Nat) (s : Int) (w : World) : Prop :=
  ∃ p m a X loc cP cV, BothM wB w gW (P : Nat) wo b1 b2 va cP cV p m a X ∧ Rel m X ∧ WF m loc ∧ Calm m ∧ Cn m (2 * i) ∧ m.np = P ∧ m.fs = fs ∧ J X m.cms ∧ m.cms.length ≤ i ∧ s = stV m ∧ (p.vq = .slice none 0 0 ∧ p.vtm = .slice none 0 0 ∧ p.vfr = .slice none 0 0) ∧ a.vf = vf ∧ a.ck = 0 ∧ va = .slice (some ⟨a.gA, 0, none⟩) 1 1
theorem WF.stX {m : Mac} {X : Mdl} {loc : Nat → Nat × Nat} (R : Rel m X) (h : WF m loc) {g : Nat} (hg : g < m.ng) : (X.gs g).st = Proofs.YtcpljjacamibeaaGreatDoor.stX ((loc g).1 : Nat) := R.st g _ (h.st g hg)
end Go.Proofs.YtcpljjacamibeaaGreatDoor
