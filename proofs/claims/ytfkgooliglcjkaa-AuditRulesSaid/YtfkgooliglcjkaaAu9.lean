/- The walk of AuditRules. -/
import Derived.Test.YtfkgooliglcjkaaAu8
import Derived.Test.YtfkgooliglcjkaaVwFew
namespace Go.Proofs.Ytfkgooliglcjkaa
open Go.RowKit Go.Maps

set_option maxHeartbeats 6400000 in
set_option maxRecDepth 100000 in
theorem audit_any (v : Value) (V : Vw) (ps code : Int) (w : World) (h : VwAt w w.heap.size v V) : Calls Try.prog 9 #[v, .int .i64 ps, .int .i64 code] w (TdPost w) := by
  have HV := Lib.hid h
  obtain ⟨g, A1, c1, A2, c2, rfl, h1, h2, h3, h4, h5⟩ := h.ex
  obtain ⟨A0, c0, rfl⟩ := h1.ex
  have C1 := (Chg.refl [] w).alloc (.cells (vwBox V A0 c0 A1 c1 A2 c2) 26)
  have B1 := Blk.new w 26 (vwBox V A0 c0 A1 c1 A2 c2)
  have HB := Lib.hid (And.intro C1 B1)
  unfold vwBox at HB
  clear C1 B1 h h1 h2 h3 h4 h5
  go_enter Try.func9, Try.ntmps9
  go_upto_region 1 with fail
  generalize (w.alloc (.cells #[.int .i64 V.phase, .int .i64 V.cycle, .int .i64 V.clock, .slice A0 V.globals.length c0, .slice A1 V.gs.length c1, .slice A2 V.objects.length c2, .int .i64 V.grey, .int .i64 V.notes, .int .i64 V.roots] 26)) = X at HB ⊢
  obtain ⟨b0, b1, b2, b3, b4, b5, b6, b7, b8⟩ := boxC HB.out.2
  go_wp2_with fail
  refine (few_ok _ _ V (vw_to HV.out HB.out.1)).mono ?_
  rintro e w1 ⟨b, rfl, hf, C1⟩
  have H1 := Lib.hid (And.intro (HB.out.1.trans C1) (And.intro (C1.blk HB.out.2 (by simp)) hf)); clear hf C1 HB b0 b1 b2 b3 b4 b5 b6 b7 b8
  cases b
  · go_wp2_with fail
    refine (told30_ok _).mono ?_
    rintro e w2 ⟨rfl, C2⟩
    have C := H1.out.1.trans C2
    go_wp2_with fail
    go_ret
    exact ⟨rfl, C⟩
  have HS := Lib.hid (H1.out.2.2 rfl).small
  obtain ⟨b0, b1, b2, b3, b4, b5, b6, b7, b8⟩ := boxC H1.out.2.1
  go_wp2_with fail
  refine (rall_ok _ _ V ps (vw_to HV.out H1.out.1) HS.out).mono ?_
  rintro e w2 ⟨v7, rfl, O7, C7, F7⟩
  have hc : chkN V ps = (outN (brks V ps) 8).headD 0 := rfl
  have H2a := Lib.hid (And.intro (H1.out.1.trans C7) (C7.blk H1.out.2.1 (by simp))); clear C7 F7 b0 b1 b2 b3 b4 b5 b6 b7 b8 H1
  obtain ⟨l, hl0⟩ : ∃ l, outN (brks V ps) 8 = l := ⟨_, rfl⟩
  rw [hl0] at O7 hc
  have hl := Lib.hid hl0; clear hl0
  obtain ⟨A7, k7, rfl⟩ := O7.slice
  have H2 := Lib.hid (And.intro H2a.out.1 (And.intro H2a.out.2 O7)); clear H2a
  have HC := Lib.hid hc; clear hc
  cases l with
  | nil =>
    clear O7
    go_wp2_with fail
    refine (told30_ok _).mono ?_
    rintro e y1 ⟨rfl, D1⟩
    have G1 := Lib.hid (H2.out.1.trans D1)
    have G1k := Lib.hid (D1.blk H2.out.2.1 (by simp))
    have G1o := Lib.hid (H2.out.2.2.chg0 D1); clear D1
    obtain ⟨b0, b1, b2, b3, b4, b5, b6, b7, b8⟩ := boxC G1k.out
    go_wp2_with fail
    refine (aall_ok _ _ V ps (vw_to HV.out G1.out) HS.out).mono ?_
    rintro e y2 ⟨v2, rfl, O2, D2, F2⟩
    rw [hl.out] at O2
    obtain ⟨A2', k2', rfl⟩ := O2.slice
    have G2 := Lib.hid (G1.out.trans D2)
    have G2k := Lib.hid (D2.blk G1k.out (by simp))
    have G2o := Lib.hid (And.intro O2 (G1o.out.chg0 D2)); clear D2 O2 F2 b0 b1 b2 b3 b4 b5 b6 b7 b8
    go_wp2_with fail
    refine (ints_eq G2o.out.1.rd G2o.out.2.rd rfl).mono ?_
    rintro e y3 ⟨rfl, D3⟩
    have G3 := Lib.hid (G2.out.trans D3)
    have G3k := Lib.hid (D3.blk G2k.out (by simp)); clear D3
    obtain ⟨b0, b1, b2, b3, b4, b5, b6, b7, b8⟩ := boxC G3k.out
    go_wp2_with fail
    refine (acheck_ok _ _ V ps (vw_to HV.out G3.out) HS.out).mono ?_
    rintro e y4 ⟨rfl, D4⟩
    rw [HC.out]
    have G4 := Lib.hid (G3.out.trans D4); clear D4 b0 b1 b2 b3 b4 b5 b6 b7 b8
    go_wp2_with fail
    refine (atext_ok _ _).mono ?_
    rintro e y5 ⟨rfl, D5⟩
    have G5 := Lib.hid (G4.out.trans D5); clear D5
    go_wp2_with fail
    refine (rtext_ok _ _).mono ?_
    rintro e y6 ⟨rfl, D6⟩
    have G6 := Lib.hid (G5.out.trans D6); clear D6
    generalize txtN code = s1
    go_wp2_with fail
    refine (atext_ok _ _).mono ?_
    rintro e y7 ⟨rfl, D7⟩
    have G7 := Lib.hid (G6.out.trans D7); clear D7
    go_wp2_with fail
    refine (rtext_ok _ _).mono ?_
    rintro e y8 ⟨rfl, D8⟩
    have G8 := Lib.hid (G7.out.trans D8); clear D8
    go_wp2_with fail
    go_ret
    exact ⟨rfl, G8.out⟩
  | cons x t =>
    obtain ⟨gp, rfl, q0, -, -⟩ := O7.cell (i := 0) (x := x) rfl
    have hl1 : (0 : Int) < (t.length : Int) + 1 := by omega
    have hl2 : 0 < t.length + 1 := by omega
    clear O7
    go_wp2_with fail
    clear q0
    refine (told30_ok _).mono ?_
    rintro e y1 ⟨rfl, D1⟩
    have G1 := Lib.hid (H2.out.1.trans D1)
    have G1k := Lib.hid (D1.blk H2.out.2.1 (by simp))
    have G1o := Lib.hid (H2.out.2.2.chg0 D1); clear D1
    obtain ⟨b0, b1, b2, b3, b4, b5, b6, b7, b8⟩ := boxC G1k.out
    go_wp2_with fail
    refine (aall_ok _ _ V ps (vw_to HV.out G1.out) HS.out).mono ?_
    rintro e y2 ⟨v2, rfl, O2, D2, F2⟩
    rw [hl.out] at O2
    obtain ⟨A2', k2', rfl⟩ := O2.slice
    have G2 := Lib.hid (G1.out.trans D2)
    have G2k := Lib.hid (D2.blk G1k.out (by simp))
    have G2o := Lib.hid (And.intro O2 (G1o.out.chg0 D2)); clear D2 O2 F2 b0 b1 b2 b3 b4 b5 b6 b7 b8
    go_wp2_with fail
    refine (ints_eq G2o.out.1.rd G2o.out.2.rd rfl).mono ?_
    rintro e y3 ⟨rfl, D3⟩
    have G3 := Lib.hid (G2.out.trans D3)
    have G3k := Lib.hid (D3.blk G2k.out (by simp)); clear D3
    obtain ⟨b0, b1, b2, b3, b4, b5, b6, b7, b8⟩ := boxC G3k.out
    go_wp2_with fail
    refine (acheck_ok _ _ V ps (vw_to HV.out G3.out) HS.out).mono ?_
    rintro e y4 ⟨rfl, D4⟩
    rw [HC.out]
    have G4 := Lib.hid (G3.out.trans D4); clear D4 b0 b1 b2 b3 b4 b5 b6 b7 b8
    go_wp2_with fail
    refine (atext_ok _ _).mono ?_
    rintro e y5 ⟨rfl, D5⟩
    have G5 := Lib.hid (G4.out.trans D5); clear D5
    go_wp2_with fail
    refine (rtext_ok _ _).mono ?_
    rintro e y6 ⟨rfl, D6⟩
    have G6 := Lib.hid (G5.out.trans D6); clear D6
    generalize txtN code = s1
    go_wp2_with fail
    refine (atext_ok _ _).mono ?_
    rintro e y7 ⟨rfl, D7⟩
    have G7 := Lib.hid (G6.out.trans D7); clear D7
    go_wp2_with fail
    refine (rtext_ok _ _).mono ?_
    rintro e y8 ⟨rfl, D8⟩
    have G8 := Lib.hid (G7.out.trans D8); clear D8
    go_wp2_with fail
    go_ret
    exact ⟨rfl, G8.out⟩
end Go.Proofs.Ytfkgooliglcjkaa
