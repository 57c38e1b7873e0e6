/- The document's law 28: W.Do, where the machine's step is no commit. (Printed by wip/genmi6.py.) -/
import Derived.Test.YtcpljjacamibeaaGreatDoorMi6
import Derived.Test.YtcpljjacamibeaaGreatDoorMj5
namespace Go.Proofs.YtcpljjacamibeaaGreatDoor
set_option maxHeartbeats 16000000
set_option maxRecDepth 100000
open Go.RowKit Go.Maps
def WdnPost (w0 : World) (gW : Nat) (P wo : Int) (b1 b2 : Nat) (va : Value) (q : Nat) (vic : Int) (p : MAt) (m3 : Mac) (a : XAt) (X : Mdl) (ek eg : Int) (e : Ending) (w' : World) : Prop :=
  ∃ p3, e = .returned (.tuple #[evV ek eg 0, .bool true]) ∧ Keeps p p3 ∧ BothM w0 w' gW P wo b1 b2 va (q : Nat) vic p3 m3 a X
theorem wdo_no (w0 w : World) (gW : Nat) (P : Nat) (wo : Int) (b1 b2 : Nat) (va : Value) (cP cV : Int) (p : MAt) (m m3 : Mac) (a : XAt) (X : Mdl) (h : BothM w0 w gW (P : Nat) wo b1 b2 va cP cV p m a X) (q : Nat) (vic : Int) (hq : q < P) (hst0 : stV m = 0) (hsl : m.sts.length ≤ 1024) (htm : m.tm = []) (h0 : m.ph.ph = 0) (hck : a.ck = 0) (hcl : m.cms.length ≤ 1000000) (ek eg : Int) (hek : ek ≠ 1)
    (hStep : ∀ (B : Bs) (w' : World), MM B w' p m → Calls Tryz.prog 33 #[.pointer (some ⟨p.gm, 0, none⟩), .agg #[.int .i64 (q : Nat), .int .i64 vic, .bool false, .int .i64 0]] w' (RunE B (Keeps p) m3 ek eg))
    (hcms : m3.cms = m.cms) :
    Calls Tryz.prog 9 #[.pointer (some ⟨gW, 0, none⟩), .agg #[.int .i64 (q : Nat), .int .i64 vic, .bool false, .int .i64 0]] w (WdnPost w0 gW (P : Nat) wo b1 b2 va q vic p m3 a X ek eg) := by
  have e1 : (q : Int) ≥ 0 := by omega
  have e2 : (q : Int) < (P : Int) := by omega
  have HS := Lib.hid (And.intro hStep hek); clear hStep
  have HH := Lib.hid h; clear h
  go_enter Tryz.func9, Tryz.ntmps9
  go_upto_region 1 with fail
  obtain ⟨gH, hgH⟩ : ∃ g', g' = w.heap.size := ⟨_, rfl⟩
  obtain ⟨gR, hgR⟩ : ∃ g', g' = w.heap.size + 1 := ⟨_, rfl⟩
  obtain ⟨w1, hw1⟩ : ∃ w1, w1 = (w.alloc (.cells #[.int .i64 (q : Nat), .int .i64 vic, .bool false, .int .i64 0] 43)).alloc (.cells #[.int .i64 0, .int .i64 0, .int .i64 0] 48) := ⟨_, rfl⟩
  rw [← hw1, ← hgR, ← hgH]
  have BH : Blk w1 gH 43 #[.int .i64 (q : Nat), .int .i64 vic, .bool false, .int .i64 0] := by rw [hw1, hgH]; exact (Blk.new w _ _).alloc _
  have BR : Blk w1 gR 48 #[.int .i64 0, .int .i64 0, .int .i64 0] := by
    rw [hw1, hgR]
    have h := Blk.new (w.alloc (.cells #[.int .i64 (q : Nat), .int .i64 vic, .bool false, .int .i64 0] 43)) 48 #[.int .i64 0, .int .i64 0, .int .i64 0]
    rw [World.size_alloc] at h
    exact h
  have c01 : Chg [] w w1 := by rw [hw1]; exact ((Chg.refl [] w).alloc _).alloc _
  have B1 := HH.out.chg0 c01
  have m0 : w1.cell? ⟨gW, 0, none⟩ = some (.pointer (some ⟨p.gm, 0, none⟩)) := B1.W.cellv 0 rfl
  have l0 := B1.W.lt
  have nH : w.heap.size ≤ gH := by omega
  have nR : w.heap.size ≤ gR := by omega
  have KC := fun (w' : World) (c : Chg [] w1 w') => m_commits (B1.M.chg0 c)
  have KT := fun (w' : World) (c : Chg [] w1 w') => m_status (B1.M.chg0 c) hsl (by rw [htm]; simp)
  rw [hst0] at KT
  have H1 := Lib.hid (And.intro B1 (And.intro BH (And.intro BR (And.intro KC (And.intro KT (And.intro nH nR)))))); clear B1 BH BR KC KT nH nR hw1 hgH hgR
  refine wp_region_takes (fuel := 5) 12 (fun w' => Chg [] w1 w') [0, 1, 2, 3, 5, 6, 7, 8] (by kernel_rfl) (by kernel_rfl) (fun _ _ _ _ _ h => h) ((Chg.refl [] w1).drew) ?_
  simp only [List.filterMap_cons, List.filterMap_nil, qGa, qGb]
  iterate 8
    refine wpTake_step (fun K hK => ?_)
    rw [if_pos (by rfl)]
    refine ⟨?_, fun w' hS' => ?_, ?_⟩
    rotate_left 1
    focus
      have j0 := hS'.cellv l0 (by simp) m0
      go_simp
      try with_reducible rfl
      done
    simp only [Act.put, qSa, qSb, qSc]
    refine hK _ ?_
    clear hK K
  refine wpTake_nil ?_
  generalize hx0 : w1.drew = x0
  have D0 : Chg [] w1 x0 := by rw [← hx0]; exact (Chg.refl [] w1).drew
  clear hx0
  refine wpAnyS_ready (rs := [4]) (by kernel_rfl) (by simp) ?_
  refine AllReadyS.o (fun K hK => ?_)
  rw [if_pos (by rfl)]
  go_simp
  go_at_call 8
  refine (H1.out.2.2.2.1 _ D0).mono ?_
  rintro e w' ⟨rfl, rfl⟩
  dsimp only
  refine hK _ _ (D0) ?_
  clear hK K
  try simp only [Act.put, qSa, qSb, qSc]
  refine wpAnyS_ready (rs := [9]) (by kernel_rfl) (by simp) ?_
  refine AllReadyS.o (fun K hK => ?_)
  rw [if_pos (by rfl)]
  go_simp
  go_at_call 11
  refine (H1.out.2.2.2.2.1 _ D0).mono ?_
  rintro e w' ⟨rfl, k9, rfl⟩
  dsimp only
  have D9 := Chg.drewN D0 k9
  refine hK _ _ (D9) ?_
  clear hK K
  try simp only [Act.put, qSa, qSb, qSc]
  refine wpAnyS_more (fuel := 1) [10, 11] (by kernel_rfl) (fun _ _ _ _ _ h => h) D9 ?_
  simp only [List.filterMap_cons, List.filterMap_nil, qGa, qGb]
  iterate 2
    refine wpTake_step (fun K hK => ?_)
    rw [if_pos (by rfl)]
    refine ⟨?_, fun w' hS' => ?_, ?_⟩
    rotate_left 1
    focus
      have j0 := hS'.cellv l0 (by simp) m0
      go_simp
      try with_reducible rfl
      done
    simp only [Act.put, qSa, qSb, qSc]
    refine hK _ ?_
    clear hK K
  refine wpTake_nil ?_
  refine wpAnyS_tail 12 1 (by kernel_rfl) rfl ?_
  simp only [qDa, qDb]
  go_upto_region 2 with fail
  generalize hw2 : World.drewN _ k9 = w2
  rw [hw2] at D9
  clear hw2
  have B2 := H1.out.1.chg0 D9
  have H2' := D9.blk H1.out.2.1 (by simp)
  have R2 := D9.blk H1.out.2.2.1 (by simp)
  have m0 : w2.cell? ⟨gW, 0, none⟩ = some (.pointer (some ⟨p.gm, 0, none⟩)) := B2.W.cellv 0 rfl
  have l0 := B2.W.lt
  have lH := H2'.lt
  have nHW : gH ∉ [gW] := fun hm => H2'.ne_ B2.W (by decide) (by simpa using hm)
  have c0 : w2.cell? ⟨gH, 0, none⟩ = some (.int .i64 (q : Nat)) := H2'.cellv 0 rfl
  have c1 : w2.cell? ⟨gH, 1, none⟩ = some (.int .i64 vic) := H2'.cellv 1 rfl
  have c2 : w2.cell? ⟨gH, 2, none⟩ = some (.bool false) := H2'.cellv 2 rfl
  have c3 : w2.cell? ⟨gH, 3, none⟩ = some (.int .i64 0) := H2'.cellv 3 rfl
  have KP := fun (w' : World) (c : Chg [] w2 w') => m_phase (B2.M.chg0 c)
  rw [h0] at KP
  have H2 := Lib.hid (And.intro B2 (And.intro H2' (And.intro R2 (And.intro KP D9)))); clear B2 H2' R2 KP D9 e1
  refine wp_region_takes (fuel := 10) 16 (fun w' => Chg [gW] w2 w' ∧ w'.cell? ⟨gW, 0, none⟩ = some (.pointer (some ⟨p.gm, 0, none⟩))) [0, 1, 2, 3, 4, 5, 6, 8, 9] (by kernel_rfl) (by kernel_rfl) (fun _ _ _ _ _ h => h) (⟨(Chg.refl [gW] w2).drew, m0⟩) ?_
  simp only [List.filterMap_cons, List.filterMap_nil, qGa, qGb]
  iterate 9
    refine wpTake_step (fun K hK => ?_)
    rw [if_pos (by rfl)]
    refine ⟨?_, fun w' hS' => ?_, ?_⟩
    rotate_left 1
    focus
      have j0 := hS'.2
      have j1 := hS'.1.cellv lH nHW c0
      have j2 := hS'.1.cellv lH nHW c1
      have j3 := hS'.1.cellv lH nHW c2
      have j4 := hS'.1.cellv lH nHW c3
      go_simp
      try with_reducible rfl
      done
    simp only [Act.put, qSa, qSb, qSc]
    refine hK _ ?_
    clear hK K
  refine wpTake_nil ?_
  generalize hx0 : w2.drew = x0
  have D0 : Chg [] w2 x0 := by rw [← hx0]; exact (Chg.refl [] w2).drew
  clear hx0
  refine wpAnyS_ready (rs := [7]) (by kernel_rfl) (by simp) ?_
  refine AllReadyS.o (fun K hK => ?_)
  rw [if_pos (by rfl)]
  go_simp
  go_at_call 32
  refine (H2.out.2.2.2.1 _ D0).mono ?_
  rintro e w' ⟨rfl, rfl⟩
  dsimp only
  have m0' := D0.cellv l0 (by simp) m0
  refine hK _ _ (⟨D0.mono (by simp), m0'⟩) ?_
  clear hK K
  try simp only [Act.put, qSa, qSb, qSc]
  refine wpAnyS_more (fuel := 7) [10, 11] (by kernel_rfl) (fun _ _ _ _ _ h => h) ⟨D0.mono (by simp), m0'⟩ ?_
  simp only [List.filterMap_cons, List.filterMap_nil, qGa, qGb]
  iterate 2
    refine wpTake_step (fun K hK => ?_)
    rw [if_pos (by rfl)]
    refine ⟨?_, fun w' hS' => ?_, ?_⟩
    rotate_left 1
    focus
      have j0 := hS'.2
      have j1 := hS'.1.cellv lH nHW c0
      have j2 := hS'.1.cellv lH nHW c1
      have j3 := hS'.1.cellv lH nHW c2
      have j4 := hS'.1.cellv lH nHW c3
      go_simp
      try with_reducible rfl
      done
    simp only [Act.put, qSa, qSb, qSc]
    refine hK _ ?_
    clear hK K
  refine wpTake_nil ?_
  refine wpAnyS_ready (rs := [12]) (by kernel_rfl) (by simp) ?_
  refine AllReadyS.o (fun K hK => ?_)
  have W0 := D0.blk H2.out.1.W (by simp)
  have u17 : w'.cell? ⟨gW, 17, none⟩ = some (.int .i64 0) := W0.cellv 17 rfl
  have q17 := W0.frozen 17
  rw [if_pos (by rfl)]
  go_simp
  obtain ⟨x1, hx1⟩ : ∃ x1, x1 = w'.setCell ⟨gW, 17, none⟩ (.int .i64 0) := ⟨_, rfl⟩
  rw [← hx1]
  have D1 : Chg [gW] w2 x1 := by rw [hx1]; exact (D0.mono (by simp)).setCell (.inl (by simp)) _
  have W1 : Blk x1 gW 45 (wwD p.gm a.gX (P : Nat) wo b1 b2 va cP cV) := by rw [hx1]; exact W0.setv 17 (.int .i64 0) rfl
  have m1 : x1.cell? ⟨gW, 0, none⟩ = some (.pointer (some ⟨p.gm, 0, none⟩)) := W1.cellv 0 rfl
  clear hx1 u17 q17 W0
  refine hK _ _ (⟨D1, m1⟩) ?_
  clear hK K
  try simp only [Act.put, qSa, qSb, qSc]
  refine wpAnyS_more (fuel := 4) [13, 14] (by kernel_rfl) (fun _ _ _ _ _ h => h) ⟨D1, m1⟩ ?_
  simp only [List.filterMap_cons, List.filterMap_nil, qGa, qGb]
  iterate 2
    refine wpTake_step (fun K hK => ?_)
    rw [if_pos (by rfl)]
    refine ⟨?_, fun w' hS' => ?_, ?_⟩
    rotate_left 1
    focus
      have j0 := hS'.2
      have j1 := hS'.1.cellv lH nHW c0
      have j2 := hS'.1.cellv lH nHW c1
      have j3 := hS'.1.cellv lH nHW c2
      have j4 := hS'.1.cellv lH nHW c3
      go_simp
      try with_reducible rfl
      done
    simp only [Act.put, qSa, qSb, qSc]
    refine hK _ ?_
    clear hK K
  refine wpTake_nil ?_
  refine wpAnyS_ready (rs := [15]) (by kernel_rfl) (by simp) ?_
  refine AllReadyS.o (fun K hK => ?_)
  have u18 : x1.cell? ⟨gW, 18, none⟩ = some (.int .i64 cP) := W1.cellv 18 rfl
  have q18 := W1.frozen 18
  have u19 : x1.cell? ⟨gW, 19, none⟩ = some (.int .i64 cV) := W1.cellv 19 rfl
  have q19 := W1.frozen 19
  have u20 : x1.cell? ⟨gW, 20, none⟩ = some (.bool false) := W1.cellv 20 rfl
  have q20 := W1.frozen 20
  have u21 : x1.cell? ⟨gW, 21, none⟩ = some (.int .i64 0) := W1.cellv 21 rfl
  have q21 := W1.frozen 21
  rw [if_pos (by rfl)]
  go_simp
  obtain ⟨x2, hx2⟩ : ∃ x2, x2 = (((x1.setCell ⟨gW, 18, none⟩ (.int .i64 (q : Nat))).setCell ⟨gW, 19, none⟩ (.int .i64 vic)).setCell ⟨gW, 20, none⟩ (.bool false)).setCell ⟨gW, 21, none⟩ (.int .i64 0) := ⟨_, rfl⟩
  rw [← hx2]
  have D2 : Chg [gW] w2 x2 := by rw [hx2]; exact (((D1.setCell (p := ⟨gW, 18, none⟩) (.inl (by simp)) _).setCell (p := ⟨gW, 19, none⟩) (.inl (by simp)) _).setCell (p := ⟨gW, 20, none⟩) (.inl (by simp)) _).setCell (p := ⟨gW, 21, none⟩) (.inl (by simp)) _
  have W2 : Blk x2 gW 45 (wwD p.gm a.gX (P : Nat) wo b1 b2 va (q : Nat) vic) := by rw [hx2]; exact (((W1.setv 18 (.int .i64 (q : Nat)) rfl).setv 19 (.int .i64 vic) rfl).setv 20 (.bool false) rfl).setv 21 (.int .i64 0) rfl
  have m2 : x2.cell? ⟨gW, 0, none⟩ = some (.pointer (some ⟨p.gm, 0, none⟩)) := W2.cellv 0 rfl
  clear hx2 u18 u19 u20 u21 q18 q19 q20 q21 W1
  refine hK _ _ (⟨D2, m2⟩) ?_
  clear hK K
  try simp only [Act.put, qSa, qSb, qSc]
  refine wpAnyS_tail 16 3 (by kernel_rfl) rfl ?_
  simp only [qDa, qDb]
  have u8 : x2.cell? ⟨gW, 8, none⟩ = some (.int .i64 0) := W2.cellv 8 rfl
  have q8 := W2.frozen 8
  have u9 : x2.cell? ⟨gW, 9, none⟩ = some (.int .i64 0) := W2.cellv 9 rfl
  have q9 := W2.frozen 9
  have u10 : x2.cell? ⟨gW, 10, none⟩ = some (.int .i64 0) := W2.cellv 10 rfl
  have q10 := W2.frozen 10
  have u11 : x2.cell? ⟨gW, 11, none⟩ = some (.slice none 0 0) := W2.cellv 11 rfl
  have q11 := W2.frozen 11
  have u12 : x2.cell? ⟨gW, 12, none⟩ = some (.slice none 0 0) := W2.cellv 12 rfl
  have q12 := W2.frozen 12
  have u13 : x2.cell? ⟨gW, 13, none⟩ = some (.slice none 0 0) := W2.cellv 13 rfl
  have q13 := W2.frozen 13
  have u14 : x2.cell? ⟨gW, 14, none⟩ = some (.int .i64 0) := W2.cellv 14 rfl
  have q14 := W2.frozen 14
  have u15 : x2.cell? ⟨gW, 15, none⟩ = some (.int .i64 0) := W2.cellv 15 rfl
  have q15 := W2.frozen 15
  have u16 : x2.cell? ⟨gW, 16, none⟩ = some (.int .i64 0) := W2.cellv 16 rfl
  have q16 := W2.frozen 16
  go_upto_region 3 with fail
  have Y8 : Blk (x2.setCell ⟨gW, 8, none⟩ (.int .i64 0)) gW 45 (wwD p.gm a.gX (P : Nat) wo b1 b2 va (q : Nat) vic) := W2.setv 8 (.int .i64 0) rfl
  have Y9 : Blk ((x2.setCell ⟨gW, 8, none⟩ (.int .i64 0)).setCell ⟨gW, 9, none⟩ (.int .i64 0)) gW 45 (wwD p.gm a.gX (P : Nat) wo b1 b2 va (q : Nat) vic) := Y8.setv 9 (.int .i64 0) rfl
  have Y10 : Blk (((x2.setCell ⟨gW, 8, none⟩ (.int .i64 0)).setCell ⟨gW, 9, none⟩ (.int .i64 0)).setCell ⟨gW, 10, none⟩ (.int .i64 0)) gW 45 (wwD p.gm a.gX (P : Nat) wo b1 b2 va (q : Nat) vic) := Y9.setv 10 (.int .i64 0) rfl
  have Y11 : Blk ((((x2.setCell ⟨gW, 8, none⟩ (.int .i64 0)).setCell ⟨gW, 9, none⟩ (.int .i64 0)).setCell ⟨gW, 10, none⟩ (.int .i64 0)).setCell ⟨gW, 11, none⟩ (.slice none 0 0)) gW 45 (wwD p.gm a.gX (P : Nat) wo b1 b2 va (q : Nat) vic) := Y10.setv 11 (.slice none 0 0) rfl
  have Y12 : Blk (((((x2.setCell ⟨gW, 8, none⟩ (.int .i64 0)).setCell ⟨gW, 9, none⟩ (.int .i64 0)).setCell ⟨gW, 10, none⟩ (.int .i64 0)).setCell ⟨gW, 11, none⟩ (.slice none 0 0)).setCell ⟨gW, 12, none⟩ (.slice none 0 0)) gW 45 (wwD p.gm a.gX (P : Nat) wo b1 b2 va (q : Nat) vic) := Y11.setv 12 (.slice none 0 0) rfl
  have Y13 : Blk ((((((x2.setCell ⟨gW, 8, none⟩ (.int .i64 0)).setCell ⟨gW, 9, none⟩ (.int .i64 0)).setCell ⟨gW, 10, none⟩ (.int .i64 0)).setCell ⟨gW, 11, none⟩ (.slice none 0 0)).setCell ⟨gW, 12, none⟩ (.slice none 0 0)).setCell ⟨gW, 13, none⟩ (.slice none 0 0)) gW 45 (wwD p.gm a.gX (P : Nat) wo b1 b2 va (q : Nat) vic) := Y12.setv 13 (.slice none 0 0) rfl
  have Y14 : Blk (((((((x2.setCell ⟨gW, 8, none⟩ (.int .i64 0)).setCell ⟨gW, 9, none⟩ (.int .i64 0)).setCell ⟨gW, 10, none⟩ (.int .i64 0)).setCell ⟨gW, 11, none⟩ (.slice none 0 0)).setCell ⟨gW, 12, none⟩ (.slice none 0 0)).setCell ⟨gW, 13, none⟩ (.slice none 0 0)).setCell ⟨gW, 14, none⟩ (.int .i64 0)) gW 45 (wwD p.gm a.gX (P : Nat) wo b1 b2 va (q : Nat) vic) := Y13.setv 14 (.int .i64 0) rfl
  have Y15 : Blk ((((((((x2.setCell ⟨gW, 8, none⟩ (.int .i64 0)).setCell ⟨gW, 9, none⟩ (.int .i64 0)).setCell ⟨gW, 10, none⟩ (.int .i64 0)).setCell ⟨gW, 11, none⟩ (.slice none 0 0)).setCell ⟨gW, 12, none⟩ (.slice none 0 0)).setCell ⟨gW, 13, none⟩ (.slice none 0 0)).setCell ⟨gW, 14, none⟩ (.int .i64 0)).setCell ⟨gW, 15, none⟩ (.int .i64 0)) gW 45 (wwD p.gm a.gX (P : Nat) wo b1 b2 va (q : Nat) vic) := Y14.setv 15 (.int .i64 0) rfl
  have Y16 : Blk (((((((((x2.setCell ⟨gW, 8, none⟩ (.int .i64 0)).setCell ⟨gW, 9, none⟩ (.int .i64 0)).setCell ⟨gW, 10, none⟩ (.int .i64 0)).setCell ⟨gW, 11, none⟩ (.slice none 0 0)).setCell ⟨gW, 12, none⟩ (.slice none 0 0)).setCell ⟨gW, 13, none⟩ (.slice none 0 0)).setCell ⟨gW, 14, none⟩ (.int .i64 0)).setCell ⟨gW, 15, none⟩ (.int .i64 0)).setCell ⟨gW, 16, none⟩ (.int .i64 0)) gW 45 (wwD p.gm a.gX (P : Nat) wo b1 b2 va (q : Nat) vic) := Y15.setv 16 (.int .i64 0) rfl
  obtain ⟨w3, hw3⟩ : ∃ w3, w3 = (((((((((x2.setCell ⟨gW, 8, none⟩ (.int .i64 0)).setCell ⟨gW, 9, none⟩ (.int .i64 0)).setCell ⟨gW, 10, none⟩ (.int .i64 0)).setCell ⟨gW, 11, none⟩ (.slice none 0 0)).setCell ⟨gW, 12, none⟩ (.slice none 0 0)).setCell ⟨gW, 13, none⟩ (.slice none 0 0)).setCell ⟨gW, 14, none⟩ (.int .i64 0)).setCell ⟨gW, 15, none⟩ (.int .i64 0)).setCell ⟨gW, 16, none⟩ (.int .i64 0)) := ⟨_, rfl⟩
  rw [← hw3]
  have D3 : Chg [gW] w2 w3 := by rw [hw3]; exact (((((((((D2.setCell (p := ⟨gW, 8, none⟩) (.inl (by simp)) _).setCell (p := ⟨gW, 9, none⟩) (.inl (by simp)) _).setCell (p := ⟨gW, 10, none⟩) (.inl (by simp)) _).setCell (p := ⟨gW, 11, none⟩) (.inl (by simp)) _).setCell (p := ⟨gW, 12, none⟩) (.inl (by simp)) _).setCell (p := ⟨gW, 13, none⟩) (.inl (by simp)) _).setCell (p := ⟨gW, 14, none⟩) (.inl (by simp)) _).setCell (p := ⟨gW, 15, none⟩) (.inl (by simp)) _).setCell (p := ⟨gW, 16, none⟩) (.inl (by simp)) _)
  have W3 : Blk w3 gW 45 (wwD p.gm a.gX (P : Nat) wo b1 b2 va (q : Nat) vic) := by rw [hw3]; exact Y16
  clear Y8 Y9 Y10 Y11 Y12 Y13 Y14 Y15 Y16 hw3 u8 u9 u10 u11 u12 u13 u14 u15 u16 q8 q9 q10 q11 q12 q13 q14 q15 q16 m1 m2 m0' W2
  have nX : ∀ j ∈ [gW], ¬ XF a X j := fun j hj hx => by
    have e : j = gW := by simpa using hj
    subst e
    have hb := H2.out.1
    rcases hx with e | e | ⟨i, hi, e | e⟩
    · exact hb.W.ne_ hb.hX.x (by decide) e
    · exact hb.hX.ne2 hb.W (by decide) (by decide) e
    · exact hb.W.ne_ (hb.hX.g i hi) (by decide) e
    · exact hb.W.ne_ (hb.hX.s i hi) (by decide) e
  have B3 := H2.out.1.model D3 (fun j hj => .inl (.inr (by simpa using hj))) a X (H2.out.1.hX.chg D3 nX) (q : Nat) vic W3 (fun j hj => .inl hj)
  have H3' := D3.blk H2.out.2.1 nHW
  have R3 := D3.blk H2.out.2.2.1 (fun hm => H2.out.2.2.1.ne_ H2.out.1.W (by decide) (by simpa using hm))
  have k7 : w3.cell? ⟨gW, 7, none⟩ = some (.bool false) := W3.cellv 7 rfl
  have k17 : w3.cell? ⟨gW, 17, none⟩ = some (.int .i64 0) := W3.cellv 17 rfl
  have k0 : w3.cell? ⟨gW, 0, none⟩ = some (.pointer (some ⟨p.gm, 0, none⟩)) := W3.cellv 0 rfl
  have H3 := Lib.hid (And.intro B3 (And.intro H3' (And.intro R3 D3))); clear B3 H3' R3 D3 D2 D1 D0 W3 nX m0 c0 c1 c2 c3 l0 lH
  go_upto_region 5 with fail
  obtain ⟨DD, MD, hMF, nWD, hback⟩ := H3.out.1.machD
  have l0 := H3.out.1.W.lt
  have lH := H3.out.2.1.lt
  have HB := Lib.hid (And.intro MD hback); clear MD hback
  have nHD : gH ∉ DD := fun hm => by
    obtain ⟨k, hk⟩ := hMF _ hm
    have h1 := HH.out.M.hi k _ hk
    have h2 := H1.out.2.2.2.2.2.1
    omega
  have hDl : ∀ j ∈ DD, j < w3.heap.size := fun j hm => HB.out.1.hi _ j (hMF j hm).choose_spec
  have nRD : gR ∉ DD := fun hm => by
    obtain ⟨k, hk⟩ := hMF _ hm
    have h1 := HH.out.M.hi k _ hk
    have h2 := H1.out.2.2.2.2.2.2
    omega
  have c0 : w3.cell? ⟨gH, 0, none⟩ = some (.int .i64 (q : Nat)) := H3.out.2.1.cellv 0 rfl
  have c1 : w3.cell? ⟨gH, 1, none⟩ = some (.int .i64 vic) := H3.out.2.1.cellv 1 rfl
  have c2 : w3.cell? ⟨gH, 2, none⟩ = some (.bool false) := H3.out.2.1.cellv 2 rfl
  have c3 : w3.cell? ⟨gH, 3, none⟩ = some (.int .i64 0) := H3.out.2.1.cellv 3 rfl
  refine wp_region_takes (fuel := 3) 7 (fun w' => Chg DD w3 w') [0, 1, 2, 3, 4] (by kernel_rfl) (by kernel_rfl) (fun _ _ _ _ _ h => h) (((Chg.refl [] w3).drew.mono (by simp))) ?_
  simp only [List.filterMap_cons, List.filterMap_nil, qGa, qGb]
  iterate 5
    refine wpTake_step (fun K hK => ?_)
    rw [if_pos (by rfl)]
    refine ⟨?_, fun w' hS' => ?_, ?_⟩
    rotate_left 1
    focus
      have j0 := hS'.cellv l0 nWD k0
      have j1 := hS'.cellv lH nHD c0
      have j2 := hS'.cellv lH nHD c1
      have j3 := hS'.cellv lH nHD c2
      have j4 := hS'.cellv lH nHD c3
      go_simp
      try with_reducible rfl
      done
    simp only [Act.put, qSa, qSb, qSc]
    refine hK _ ?_
    clear hK K
  refine wpTake_nil ?_
  generalize hx0 : w3.drew = x0
  have D0 : Chg [] w3 x0 := by rw [← hx0]; exact (Chg.refl [] w3).drew
  clear hx0
  refine wpAnyS_ready (rs := [5, 6]) (by kernel_rfl) (by simp) ?_
  refine AllReadyS.cons (by simp only [qGc, qGa, qGb]; rfl) (fun K hK => ?_) ?_
  · rw [if_pos (by rfl)]
    go_simp
    go_at_call 33
    refine (HS.out.1 ⟨w3, DD⟩ _ (HB.out.1.chg0 D0)).mono ?_
    rintro e wS ⟨p3, rfl, hKeep, MS0⟩
    dsimp only [evV]
    have MS := MS0
    have DS : Chg DD w3 wS := MS.c
    refine hK _ _ (DS) ?_
    clear hK K
    try simp only [Act.put, qSa, qSb, qSc]
    refine wpAnyS_ready (rs := [6]) (by kernel_rfl) (by simp) ?_
    refine AllReadyS.o (fun K hK => ?_)
    rw [if_pos (by rfl)]
    go_simp
    obtain ⟨gV, hgV⟩ : ∃ gV, gV = wS.heap.size := ⟨_, rfl⟩
    obtain ⟨wV, hwV⟩ : ∃ wA, wA = wS.alloc (.cells #[.int .i64 0, .int .i64 0, .int .i64 0] 48) := ⟨_, rfl⟩
    rw [← hwV, ← hgV]
    have BV : Blk wV gV 48 #[.int .i64 0, .int .i64 0, .int .i64 0] := by rw [hwV, hgV]; exact Blk.new _ _ _
    have cV0 : Chg [] wS wV := by rw [hwV]; exact (Chg.refl [] _).alloc _
    have nV : w3.heap.size ≤ gV := by rw [hgV]; exact Chg.size DS
    have nVD : gV ∉ DD := fun hm => by have := hDl _ hm; omega
    have DV : Chg DD w3 wV := DS.trans (cV0.mono (by simp))
    have nVM : ∀ k j, MF p3 m3 k j → j ≠ gV := fun k j hj e => by have := MS.hi k j hj; omega
    have MS := MS.chg0 cV0
    clear hwV hgV
    refine hK _ _ (DV) ?_
    clear hK K
    try simp only [Act.put, qSa, qSb, qSc]
    refine wpAnyS_tail 7 1 (by kernel_rfl) rfl ?_
    simp only [qDa, qDb]
    have B5 := HB.out.2 p3 m3 _ hKeep.1 MS
    have BH5 := Chg.blk DV H3.out.2.1 nHD
    have BR5 := Chg.blk DV H3.out.2.2.1 nRD
    have nRM : ∀ k j, MF p3 m3 k j → j ≠ gR := fun k j hj e => by
      subst e
      have hl := H3.out.2.2.1.lt
      rcases MS.lo k j hj with e | e
      · exact nRD e
      · have e : w3.heap.size ≤ j := e
        omega
    have nVW : gV ≠ gW := fun e => BV.ne_ B5.W (by decide) e
    have nVX : ¬ XF a X gV := fun hx => by
      have h1 := H3.out.1.hX.lt hx
      omega
    have v0 : wV.cell? ⟨gV, 0, none⟩ = some (.int .i64 0) := BV.cellv 0 rfl
    have v1 : wV.cell? ⟨gV, 1, none⟩ = some (.int .i64 0) := BV.cellv 1 rfl
    have v2 : wV.cell? ⟨gV, 2, none⟩ = some (.int .i64 0) := BV.cellv 2 rfl
    have z0 := BV.frozen 0
    have z1 := BV.frozen 1
    have z2 := BV.frozen 2
    have H5 := Lib.hid (And.intro B5 (And.intro BH5 (And.intro BR5 (And.intro BV (And.intro nVM (And.intro nVW (And.intro nVX hKeep))))))); clear B5 BH5 BR5 BV nVM nVW nVX hKeep MS
    go_upto_region 6 with fail
    obtain ⟨w6, hw6⟩ : ∃ w6, w6 = ((wV.setCell ⟨gV, 0, none⟩ (.int .i64 ek)).setCell ⟨gV, 1, none⟩ (.int .i64 eg)).setCell ⟨gV, 2, none⟩ (.int .i64 0) := ⟨_, rfl⟩
    rw [← hw6]
    have cV6 : Chg [gV] wV w6 := by rw [hw6]; exact (((Chg.refl [gV] wV).setCell (.inl (by simp)) _).setCell (.inl (by simp)) _).setCell (.inl (by simp)) _
    have BV6 : Blk w6 gV 48 #[.int .i64 ek, .int .i64 eg, .int .i64 0] := by rw [hw6]; exact ((H5.out.2.2.2.1.setv 0 (.int .i64 ek) rfl).setv 1 (.int .i64 eg) rfl).setv 2 (.int .i64 0) (cs' := #[.int .i64 ek, .int .i64 eg, .int .i64 0]) rfl
    have hV0 : w0.heap.size ≤ gV := by
      have h1 := H3.out.1.M.c.size
      have h1 : w0.heap.size ≤ w3.heap.size := h1
      omega
    have B6 := H5.out.1.side cV6 (fun j hj => by
      have e : j = gV := by simpa using hj
      subst e
      exact ⟨fun k i hi => H5.out.2.2.2.2.1 k i hi, H5.out.2.2.2.2.2.2.1, H5.out.2.2.2.2.2.1, hV0⟩)
    have BH6 := cV6.blk H5.out.2.1 (by simpa using H5.out.2.1.ne_ H5.out.2.2.2.1 (by decide))
    have BR6 := cV6.blk H5.out.2.2.1 (by have := H3.out.2.2.1.lt; simp; omega)
    have nRV : gR ≠ gV := by have := H3.out.2.2.1.lt; omega
    have hR0 : w0.heap.size ≤ gR := by have h1 := HH.out.M.c.size; have h1 : w0.heap.size ≤ w.heap.size := h1; have := H1.out.2.2.2.2.2.2; omega
    clear hw6 cV6 v0 v1 v2 z0 z1 z2
    have e1 : (q : Int) ≥ 0 := by omega
    have H6 := Lib.hid (And.intro B6 (And.intro BH6 (And.intro BR6 (And.intro BV6 (And.intro H5.out.2.2.2.2.2.2.2 (And.intro nRV (And.intro hV0 hR0))))))); clear B6 BH6 BR6 BV6 nRV hV0 hR0 H5
    have HN := Lib.hid nRM; clear nRM
    have r0 : w6.cell? ⟨gH, 0, none⟩ = some (.int .i64 (q : Nat)) := H6.out.2.1.cellv 0 rfl
    have r1 : w6.cell? ⟨gW, 2, none⟩ = some (.int .i64 (P : Nat)) := H6.out.1.W.cellv 2 rfl
    clear c0 c1 c2 c3 k0 k7 k17
    go_quiet (fail)
    generalize hw7 : World.drewN _ nq = w7
    have c67 : Chg [] w6 w7 := by rw [← hw7]; exact (Chg.refl [] w6).drewN _
    clear hw7 r0 r1
    have B7 := H6.out.1.chg0 c67
    have BH7 := c67.blk H6.out.2.1 (by simp)
    have BR7 := c67.blk H6.out.2.2.1 (by simp)
    have BV7 := c67.blk H6.out.2.2.2.1 (by simp)
    have r3 : w7.cell? ⟨gH, 3, none⟩ = some (.int .i64 0) := BH7.cellv 3 rfl
    have r1 : w7.cell? ⟨gW, 1, none⟩ = some (.pointer (some ⟨a.gX, 0, none⟩)) := B7.W.cellv 1 rfl
    have H7 := Lib.hid (And.intro B7 (And.intro BR7 BV7)); clear B7 BH7 BR7 BV7 c67
    go_upto_region 7 with fail
    go_still_tail 8, (by kernel_rfl)
    change wpList _ _ _ _ _ w7.drew
    clear r3 r1
    have dT := (Chg.refl [] w7).drew
    have B8 := H7.out.1.chg0 dT
    have BR8 := dT.blk H7.out.2.1 (by simp)
    have BV8 := dT.blk H7.out.2.2 (by simp)
    have KT := rtick_ok w7.drew a X B8.hX hck
    have H8 := Lib.hid (And.intro B8 (And.intro BR8 (And.intro BV8 KT))); clear B8 BR8 BV8 KT dT
    go_wp2_with fail
    refine (H8.out.2.2.2).mono ?_
    rintro e w8 ⟨rfl, X8, c8⟩
    have nXR : gR ∉ [a.gX] := by simpa using H8.out.2.1.ne_ H8.out.1.hX.x (by decide)
    have nXV : gV ∉ [a.gX] := by simpa using H8.out.2.2.1.ne_ H8.out.1.hX.x (by decide)
    have nXW : gW ∉ [a.gX] := by simpa using H8.out.1.W.ne_ H8.out.1.hX.x (by decide)
    have B9 := H8.out.1.model c8 (fun j hj => .inl (.inl (.inl (by simpa using hj)))) a X X8 (q : Nat) vic (c8.blk H8.out.1.W nXW) (fun j hj => .inl hj)
    have BR9 := c8.blk H8.out.2.1 nXR
    have BV9 := c8.blk H8.out.2.2.1 nXV
    have m8 : w8.cell? ⟨gW, 0, none⟩ = some (.pointer (some ⟨p3.gm, 0, none⟩)) := B9.W.cellv 0 rfl
    have KC := m_commits B9.M
    have hcl3 : m3.cms.length = m.cms.length := by rw [hcms]
    rw [hcl3] at KC
    obtain ⟨nC, hnC⟩ : ∃ nC, nC = m.cms.length := ⟨_, rfl⟩
    rw [← hnC] at KC hcl
    try rw [← hnC]
    have v0 : w8.cell? ⟨gV, 0, none⟩ = some (.int .i64 ek) := BV9.cellv 0 rfl
    have H9 := Lib.hid (And.intro B9 (And.intro BR9 (And.intro BV9 KC))); clear B9 BR9 BV9 KC X8 c8 nXR nXV nXW hcl3 hnC
    go_wp2_with fail
    refine (H9.out.2.2.2).mono ?_
    rintro e w9 ⟨rfl, rfl⟩
    dsimp only
    go_upto_region 9 with fail
    have en : (nC : Int) - (nC : Int) = 0 := by omega
    try rw [en]
    clear en
    have dk : (ek == 1) = false := by rw [beq_eq_false_iff_ne]; exact hek
    go_upto_region 12 with fail
    have o0 : w9.cell? ⟨gV, 0, none⟩ = some (.int .i64 ek) := v0
    have o1 : w9.cell? ⟨gV, 1, none⟩ = some (.int .i64 eg) := H9.out.2.2.1.cellv 1 rfl
    have o2 : w9.cell? ⟨gV, 2, none⟩ = some (.int .i64 0) := H9.out.2.2.1.cellv 2 rfl
    have s0 : w9.cell? ⟨gR, 0, none⟩ = some (.int .i64 0) := H9.out.2.1.cellv 0 rfl
    have s1 : w9.cell? ⟨gR, 1, none⟩ = some (.int .i64 0) := H9.out.2.1.cellv 1 rfl
    have s2 : w9.cell? ⟨gR, 2, none⟩ = some (.int .i64 0) := H9.out.2.1.cellv 2 rfl
    have t0 := H9.out.2.1.frozen 0
    have t1 := H9.out.2.1.frozen 1
    have t2 := H9.out.2.1.frozen 2
    obtain ⟨wZ, hwZ⟩ : ∃ wZ, wZ = ((w9.setCell ⟨gR, 0, none⟩ (.int .i64 ek)).setCell ⟨gR, 1, none⟩ (.int .i64 eg)).setCell ⟨gR, 2, none⟩ (.int .i64 0) := ⟨_, rfl⟩
    have BZ : Blk wZ gR 48 #[.int .i64 ek, .int .i64 eg, .int .i64 0] := by rw [hwZ]; exact ((H9.out.2.1.setv 0 (.int .i64 ek) rfl).setv 1 (.int .i64 eg) rfl).setv 2 (.int .i64 0) (cs' := #[.int .i64 ek, .int .i64 eg, .int .i64 0]) rfl
    have cZ : Chg [gR] w9 wZ := by rw [hwZ]; exact (((Chg.refl [gR] w9).setCell (.inl (by simp)) _).setCell (.inl (by simp)) _).setCell (.inl (by simp)) _
    have BW := H9.out.1.side cZ (fun j hj => by
      have e : j = gR := by simpa using hj
      subst e
      refine ⟨fun k i hi e => HN.out k i hi e, fun hx => H9.out.1.hX.ngV H9.out.2.1 hx, H9.out.2.1.ne_ H9.out.1.W (by decide), H6.out.2.2.2.2.2.2.2⟩)
    have HF := Lib.hid (And.intro BW BZ); clear BW BZ cZ
    go_wp2_with fail
    rw [← hwZ]
    exact ⟨rfl, _, results_cell_tmp_row (P := Tryz.prog) (fn := Tryz.f9) rfl _ _ gR 48 _ _ _ rfl HF.out.2 Tryz.underlying48 rfl (by kernel_rfl), p3, rfl, H6.out.2.2.2.2.1, HF.out.1⟩
  refine AllReadyS.o (fun K hK => ?_)
  rw [if_pos (by rfl)]
  go_simp
  obtain ⟨gV, hgV⟩ : ∃ gV, gV = x0.heap.size := ⟨_, rfl⟩
  obtain ⟨wA, hwV⟩ : ∃ wA, wA = x0.alloc (.cells #[.int .i64 0, .int .i64 0, .int .i64 0] 48) := ⟨_, rfl⟩
  rw [← hwV, ← hgV]
  have BV : Blk wA gV 48 #[.int .i64 0, .int .i64 0, .int .i64 0] := by rw [hwV, hgV]; exact Blk.new _ _ _
  have cA0 : Chg [] x0 wA := by rw [hwV]; exact (Chg.refl [] _).alloc _
  have nV : w3.heap.size ≤ gV := by rw [hgV]; exact Chg.size D0
  have nVD : gV ∉ DD := fun hm => by have := hDl _ hm; omega
  have cA := D0.trans cA0
  clear hwV hgV
  refine hK _ _ ((cA.mono (by simp))) ?_
  clear hK K
  try simp only [Act.put, qSa, qSb, qSc]
  refine wpAnyS_ready (rs := [5]) (by kernel_rfl) (by simp) ?_
  refine AllReadyS.o (fun K hK => ?_)
  rw [if_pos (by rfl)]
  go_simp
  go_at_call 33
  refine (HS.out.1 ⟨wA, DD⟩ _ (HB.out.1.rebase cA)).mono ?_
  rintro e wV ⟨p3, rfl, hKeep, MS0⟩
  dsimp only [evV]
  have MS : MM ⟨w3, DD⟩ wV p3 m3 := MS0.unbase cA
  have lV : gV < wA.heap.size := BV.lt
  have nVM : ∀ k j, MF p3 m3 k j → j ≠ gV := fun k j hj e => by
    subst e
    rcases MS0.lo k j hj with e | e
    · exact nVD e
    · have e : wA.heap.size ≤ j := e
      omega
  have cAV : Chg DD wA wV := MS0.c
  have BV := cAV.blk BV nVD
  clear lV cAV
  have DS : Chg DD w3 wV := MS.c
  refine hK _ _ (DS) ?_
  clear hK K
  try simp only [Act.put, qSa, qSb, qSc]
  refine wpAnyS_tail 7 1 (by kernel_rfl) rfl ?_
  simp only [qDa, qDb]
  have B5 := HB.out.2 p3 m3 _ hKeep.1 MS
  have BH5 := Chg.blk DS H3.out.2.1 nHD
  have BR5 := Chg.blk DS H3.out.2.2.1 nRD
  have nRM : ∀ k j, MF p3 m3 k j → j ≠ gR := fun k j hj e => by
    subst e
    have hl := H3.out.2.2.1.lt
    rcases MS.lo k j hj with e | e
    · exact nRD e
    · have e : w3.heap.size ≤ j := e
      omega
  have nVW : gV ≠ gW := fun e => BV.ne_ B5.W (by decide) e
  have nVX : ¬ XF a X gV := fun hx => by
    have h1 := H3.out.1.hX.lt hx
    omega
  have v0 : wV.cell? ⟨gV, 0, none⟩ = some (.int .i64 0) := BV.cellv 0 rfl
  have v1 : wV.cell? ⟨gV, 1, none⟩ = some (.int .i64 0) := BV.cellv 1 rfl
  have v2 : wV.cell? ⟨gV, 2, none⟩ = some (.int .i64 0) := BV.cellv 2 rfl
  have z0 := BV.frozen 0
  have z1 := BV.frozen 1
  have z2 := BV.frozen 2
  have H5 := Lib.hid (And.intro B5 (And.intro BH5 (And.intro BR5 (And.intro BV (And.intro nVM (And.intro nVW (And.intro nVX hKeep))))))); clear B5 BH5 BR5 BV nVM nVW nVX hKeep MS
  go_upto_region 6 with fail
  obtain ⟨w6, hw6⟩ : ∃ w6, w6 = ((wV.setCell ⟨gV, 0, none⟩ (.int .i64 ek)).setCell ⟨gV, 1, none⟩ (.int .i64 eg)).setCell ⟨gV, 2, none⟩ (.int .i64 0) := ⟨_, rfl⟩
  rw [← hw6]
  have cV6 : Chg [gV] wV w6 := by rw [hw6]; exact (((Chg.refl [gV] wV).setCell (.inl (by simp)) _).setCell (.inl (by simp)) _).setCell (.inl (by simp)) _
  have BV6 : Blk w6 gV 48 #[.int .i64 ek, .int .i64 eg, .int .i64 0] := by rw [hw6]; exact ((H5.out.2.2.2.1.setv 0 (.int .i64 ek) rfl).setv 1 (.int .i64 eg) rfl).setv 2 (.int .i64 0) (cs' := #[.int .i64 ek, .int .i64 eg, .int .i64 0]) rfl
  have hV0 : w0.heap.size ≤ gV := by
    have h1 := H3.out.1.M.c.size
    have h1 : w0.heap.size ≤ w3.heap.size := h1
    omega
  have B6 := H5.out.1.side cV6 (fun j hj => by
    have e : j = gV := by simpa using hj
    subst e
    exact ⟨fun k i hi => H5.out.2.2.2.2.1 k i hi, H5.out.2.2.2.2.2.2.1, H5.out.2.2.2.2.2.1, hV0⟩)
  have BH6 := cV6.blk H5.out.2.1 (by simpa using H5.out.2.1.ne_ H5.out.2.2.2.1 (by decide))
  have BR6 := cV6.blk H5.out.2.2.1 (by have := H3.out.2.2.1.lt; simp; omega)
  have nRV : gR ≠ gV := by have := H3.out.2.2.1.lt; omega
  have hR0 : w0.heap.size ≤ gR := by have h1 := HH.out.M.c.size; have h1 : w0.heap.size ≤ w.heap.size := h1; have := H1.out.2.2.2.2.2.2; omega
  clear hw6 cV6 v0 v1 v2 z0 z1 z2
  have e1 : (q : Int) ≥ 0 := by omega
  have H6 := Lib.hid (And.intro B6 (And.intro BH6 (And.intro BR6 (And.intro BV6 (And.intro H5.out.2.2.2.2.2.2.2 (And.intro nRV (And.intro hV0 hR0))))))); clear B6 BH6 BR6 BV6 nRV hV0 hR0 H5
  have HN := Lib.hid nRM; clear nRM
  have r0 : w6.cell? ⟨gH, 0, none⟩ = some (.int .i64 (q : Nat)) := H6.out.2.1.cellv 0 rfl
  have r1 : w6.cell? ⟨gW, 2, none⟩ = some (.int .i64 (P : Nat)) := H6.out.1.W.cellv 2 rfl
  clear c0 c1 c2 c3 k0 k7 k17
  go_quiet (fail)
  generalize hw7 : World.drewN _ nq = w7
  have c67 : Chg [] w6 w7 := by rw [← hw7]; exact (Chg.refl [] w6).drewN _
  clear hw7 r0 r1
  have B7 := H6.out.1.chg0 c67
  have BH7 := c67.blk H6.out.2.1 (by simp)
  have BR7 := c67.blk H6.out.2.2.1 (by simp)
  have BV7 := c67.blk H6.out.2.2.2.1 (by simp)
  have r3 : w7.cell? ⟨gH, 3, none⟩ = some (.int .i64 0) := BH7.cellv 3 rfl
  have r1 : w7.cell? ⟨gW, 1, none⟩ = some (.pointer (some ⟨a.gX, 0, none⟩)) := B7.W.cellv 1 rfl
  have H7 := Lib.hid (And.intro B7 (And.intro BR7 BV7)); clear B7 BH7 BR7 BV7 c67
  go_upto_region 7 with fail
  go_still_tail 8, (by kernel_rfl)
  change wpList _ _ _ _ _ w7.drew
  clear r3 r1
  have dT := (Chg.refl [] w7).drew
  have B8 := H7.out.1.chg0 dT
  have BR8 := dT.blk H7.out.2.1 (by simp)
  have BV8 := dT.blk H7.out.2.2 (by simp)
  have KT := rtick_ok w7.drew a X B8.hX hck
  have H8 := Lib.hid (And.intro B8 (And.intro BR8 (And.intro BV8 KT))); clear B8 BR8 BV8 KT dT
  go_wp2_with fail
  refine (H8.out.2.2.2).mono ?_
  rintro e w8 ⟨rfl, X8, c8⟩
  have nXR : gR ∉ [a.gX] := by simpa using H8.out.2.1.ne_ H8.out.1.hX.x (by decide)
  have nXV : gV ∉ [a.gX] := by simpa using H8.out.2.2.1.ne_ H8.out.1.hX.x (by decide)
  have nXW : gW ∉ [a.gX] := by simpa using H8.out.1.W.ne_ H8.out.1.hX.x (by decide)
  have B9 := H8.out.1.model c8 (fun j hj => .inl (.inl (.inl (by simpa using hj)))) a X X8 (q : Nat) vic (c8.blk H8.out.1.W nXW) (fun j hj => .inl hj)
  have BR9 := c8.blk H8.out.2.1 nXR
  have BV9 := c8.blk H8.out.2.2.1 nXV
  have m8 : w8.cell? ⟨gW, 0, none⟩ = some (.pointer (some ⟨p3.gm, 0, none⟩)) := B9.W.cellv 0 rfl
  have KC := m_commits B9.M
  have hcl3 : m3.cms.length = m.cms.length := by rw [hcms]
  rw [hcl3] at KC
  obtain ⟨nC, hnC⟩ : ∃ nC, nC = m.cms.length := ⟨_, rfl⟩
  rw [← hnC] at KC hcl
  try rw [← hnC]
  have v0 : w8.cell? ⟨gV, 0, none⟩ = some (.int .i64 ek) := BV9.cellv 0 rfl
  have H9 := Lib.hid (And.intro B9 (And.intro BR9 (And.intro BV9 KC))); clear B9 BR9 BV9 KC X8 c8 nXR nXV nXW hcl3 hnC
  go_wp2_with fail
  refine (H9.out.2.2.2).mono ?_
  rintro e w9 ⟨rfl, rfl⟩
  dsimp only
  go_upto_region 9 with fail
  have en : (nC : Int) - (nC : Int) = 0 := by omega
  try rw [en]
  clear en
  have dk : (ek == 1) = false := by rw [beq_eq_false_iff_ne]; exact hek
  go_upto_region 12 with fail
  have o0 : w9.cell? ⟨gV, 0, none⟩ = some (.int .i64 ek) := v0
  have o1 : w9.cell? ⟨gV, 1, none⟩ = some (.int .i64 eg) := H9.out.2.2.1.cellv 1 rfl
  have o2 : w9.cell? ⟨gV, 2, none⟩ = some (.int .i64 0) := H9.out.2.2.1.cellv 2 rfl
  have s0 : w9.cell? ⟨gR, 0, none⟩ = some (.int .i64 0) := H9.out.2.1.cellv 0 rfl
  have s1 : w9.cell? ⟨gR, 1, none⟩ = some (.int .i64 0) := H9.out.2.1.cellv 1 rfl
  have s2 : w9.cell? ⟨gR, 2, none⟩ = some (.int .i64 0) := H9.out.2.1.cellv 2 rfl
  have t0 := H9.out.2.1.frozen 0
  have t1 := H9.out.2.1.frozen 1
  have t2 := H9.out.2.1.frozen 2
  obtain ⟨wZ, hwZ⟩ : ∃ wZ, wZ = ((w9.setCell ⟨gR, 0, none⟩ (.int .i64 ek)).setCell ⟨gR, 1, none⟩ (.int .i64 eg)).setCell ⟨gR, 2, none⟩ (.int .i64 0) := ⟨_, rfl⟩
  have BZ : Blk wZ gR 48 #[.int .i64 ek, .int .i64 eg, .int .i64 0] := by rw [hwZ]; exact ((H9.out.2.1.setv 0 (.int .i64 ek) rfl).setv 1 (.int .i64 eg) rfl).setv 2 (.int .i64 0) (cs' := #[.int .i64 ek, .int .i64 eg, .int .i64 0]) rfl
  have cZ : Chg [gR] w9 wZ := by rw [hwZ]; exact (((Chg.refl [gR] w9).setCell (.inl (by simp)) _).setCell (.inl (by simp)) _).setCell (.inl (by simp)) _
  have BW := H9.out.1.side cZ (fun j hj => by
    have e : j = gR := by simpa using hj
    subst e
    refine ⟨fun k i hi e => HN.out k i hi e, fun hx => H9.out.1.hX.ngV H9.out.2.1 hx, H9.out.2.1.ne_ H9.out.1.W (by decide), H6.out.2.2.2.2.2.2.2⟩)
  have HF := Lib.hid (And.intro BW BZ); clear BW BZ cZ
  go_wp2_with fail
  rw [← hwZ]
  exact ⟨rfl, _, results_cell_tmp_row (P := Tryz.prog) (fn := Tryz.f9) rfl _ _ gR 48 _ _ _ rfl HF.out.2 Tryz.underlying48 rfl (by kernel_rfl), p3, rfl, H6.out.2.2.2.2.1, HF.out.1⟩
end Go.Proofs.YtcpljjacamibeaaGreatDoor
