/- The walk of ViewAsks. -/
import Derived.Test.YtfkgooliglcjkaaRfSame
import Derived.Test.YtfkgooliglcjkaaRfAsk
import Derived.Test.YtfkgooliglcjkaaRfCls
import Derived.Test.YtfkgooliglcjkaaVwOwn2
namespace Go.Proofs.Ytfkgooliglcjkaa
open Go.RowKit Go.Maps

theorem sameB_refl (V : Vw) : sameB V V = true := sameB_yes (decide_eq_true ⟨rfl, rfl, rfl, rfl, rfl, rfl⟩) rfl rfl rfl
theorem asS_of {w2 X : World} {V W : Vw} {A0 : Option Addr} {c0 : Nat} {A1 : Option Addr} {c1 : Nat} {A2 : Option Addr} {c2 b : Nat} {E0 : Option Addr} {d0 : Nat} {E1 : Option Addr} {d1 : Nat} {E2 : Option Addr} {d2 b' : Nat} (h : Blk w2 b 26 (vwBox V A0 c0 A1 c1 A2 c2)) (k : Blk w2 b' 26 (vwBox W E0 d0 E1 d1 E2 d2)) (D : Chg [] w2 X) :
    X.cell? ⟨b, 0, none⟩ = some (.int .i64 V.phase) ∧ X.cell? ⟨b, 1, none⟩ = some (.int .i64 V.cycle) ∧ X.cell? ⟨b, 2, none⟩ = some (.int .i64 V.clock) ∧ X.cell? ⟨b, 3, none⟩ = some (.slice A0 V.globals.length c0) ∧ X.cell? ⟨b, 4, none⟩ = some (.slice A1 V.gs.length c1) ∧ X.cell? ⟨b, 5, none⟩ = some (.slice A2 V.objects.length c2) ∧ X.cell? ⟨b, 6, none⟩ = some (.int .i64 V.grey) ∧ X.cell? ⟨b, 7, none⟩ = some (.int .i64 V.notes) ∧ X.cell? ⟨b, 8, none⟩ = some (.int .i64 V.roots) ∧ X.cell? ⟨b', 0, none⟩ = some (.int .i64 W.phase) ∧ X.cell? ⟨b', 1, none⟩ = some (.int .i64 W.cycle) ∧ X.cell? ⟨b', 2, none⟩ = some (.int .i64 W.clock) ∧ X.cell? ⟨b', 3, none⟩ = some (.slice E0 W.globals.length d0) ∧ X.cell? ⟨b', 4, none⟩ = some (.slice E1 W.gs.length d1) ∧ X.cell? ⟨b', 5, none⟩ = some (.slice E2 W.objects.length d2) ∧ X.cell? ⟨b', 6, none⟩ = some (.int .i64 W.grey) ∧ X.cell? ⟨b', 7, none⟩ = some (.int .i64 W.notes) ∧ X.cell? ⟨b', 8, none⟩ = some (.int .i64 W.roots) ∧ Chg [] w2 X := by
  obtain ⟨z0, z1, z2, z3, z4, z5, z6, z7, z8⟩ := boxC (D.blk h (by simp))
  obtain ⟨y0, y1, y2, y3, y4, y5, y6, y7, y8⟩ := boxC (D.blk k (by simp))
  exact ⟨z0, z1, z2, z3, z4, z5, z6, z7, z8, y0, y1, y2, y3, y4, y5, y6, y7, y8, D⟩
set_option maxHeartbeats 12800000 in
set_option maxRecDepth 100000 in
theorem asks_any (v : Value) (V : Vw) (u : Value) (W : Vw) (a : Int) (w : World) (h : VwAt w w.heap.size v V) (k : VwAt w w.heap.size u W) : Calls Try.prog 8 #[v, u, .int .i64 a] w (TdPost w) := by
  have HV := Lib.hid h
  have HK := Lib.hid k
  obtain ⟨g, A1, c1, A2, c2, rfl, h1, h2, h3, h4, h5⟩ := h.ex
  obtain ⟨A0, c0, rfl⟩ := h1.ex
  obtain ⟨g', E1, d1, E2, d2, rfl, k1, k2, k3, k4, k5⟩ := k.ex
  obtain ⟨E0, d0, rfl⟩ := k1.ex
  have C1 := ((Chg.refl [] w).alloc (.cells (vwBox V A0 c0 A1 c1 A2 c2) 26)).alloc (.cells (vwBox W E0 d0 E1 d1 E2 d2) 26)
  have B1 := (Blk.new w 26 (vwBox V A0 c0 A1 c1 A2 c2)).alloc (.cells (vwBox W E0 d0 E1 d1 E2 d2) 26)
  have B2 := Blk.new (w.alloc (.cells (vwBox V A0 c0 A1 c1 A2 c2) 26)) 26 (vwBox W E0 d0 E1 d1 E2 d2)
  rw [World.size_alloc] at B2
  have HB := Lib.hid (And.intro C1 (And.intro B1 B2))
  unfold vwBox at HB
  clear C1 B1 B2 h h1 h2 h3 h4 h5 k k1 k2 k3 k4 k5
  go_enter Try.func8, Try.ntmps8
  go_upto_region 1 with fail
  generalize ((w.alloc (.cells #[.int .i64 V.phase, .int .i64 V.cycle, .int .i64 V.clock, .slice A0 V.globals.length c0, .slice A1 V.gs.length c1, .slice A2 V.objects.length c2, .int .i64 V.grey, .int .i64 V.notes, .int .i64 V.roots] 26)).alloc (.cells #[.int .i64 W.phase, .int .i64 W.cycle, .int .i64 W.clock, .slice E0 W.globals.length d0, .slice E1 W.gs.length d1, .slice E2 W.objects.length d2, .int .i64 W.grey, .int .i64 W.notes, .int .i64 W.roots] 26)) = X at HB ⊢
  obtain ⟨b0, b1, b2, b3, b4, b5, b6, b7, b8⟩ := boxC HB.out.2.1
  go_wp2_with fail
  refine (few_ok _ _ V ((HV.out.chg HB.out.1 (Nat.le_refl _) (by simp)).mono HB.out.1.size)).mono ?_
  rintro e w1 ⟨b, rfl, hf, C1⟩
  have H1 := Lib.hid (And.intro (HB.out.1.trans C1) (And.intro (C1.blk HB.out.2.1 (by simp)) (And.intro (C1.blk HB.out.2.2 (by simp)) hf))); clear hf C1 HB b0 b1 b2 b3 b4 b5 b6 b7 b8
  cases b
  · go_wp2_with fail
    refine (told_ok _).mono ?_
    rintro e w2 ⟨rfl, C2⟩
    have C := H1.out.1.trans C2
    go_wp2_with fail
    go_ret
    exact ⟨rfl, C⟩
  have HS1 := Lib.hid (H1.out.2.2.2 rfl).small
  obtain ⟨e0, e1, e2, e3, e4, e5, e6, e7, e8⟩ := boxC H1.out.2.2.1
  go_wp2_with fail
  refine (few_ok _ _ W ((HK.out.chg H1.out.1 (Nat.le_refl _) (by simp)).mono H1.out.1.size)).mono ?_
  rintro e w2 ⟨b, rfl, hf, C2⟩
  have H2 := Lib.hid (And.intro (H1.out.1.trans C2) (And.intro (C2.blk H1.out.2.1 (by simp)) (And.intro (C2.blk H1.out.2.2.1 (by simp)) hf))); clear hf C2 H1 e0 e1 e2 e3 e4 e5 e6 e7 e8
  cases b
  · go_wp2_with fail
    refine (told_ok _).mono ?_
    rintro e w3 ⟨rfl, C3⟩
    have C := H2.out.1.trans C3
    go_wp2_with fail
    go_ret
    exact ⟨rfl, C⟩
  have HS2 := Lib.hid (H2.out.2.2.2 rfl).small
  go_upto_region 3 with fail
  obtain ⟨b0, b1, b2, b3, b4, b5, b6, b7, b8⟩ := boxC H2.out.2.1
  obtain ⟨e0, e1, e2, e3, e4, e5, e6, e7, e8⟩ := boxC H2.out.2.2.1
  go_region_held3 (fun w' => w'.cell? ⟨w.heap.size, 0, none⟩ = some (.int .i64 V.phase) ∧ w'.cell? ⟨w.heap.size, 1, none⟩ = some (.int .i64 V.cycle) ∧ w'.cell? ⟨w.heap.size, 2, none⟩ = some (.int .i64 V.clock) ∧ w'.cell? ⟨w.heap.size, 3, none⟩ = some (.slice A0 V.globals.length c0) ∧ w'.cell? ⟨w.heap.size, 4, none⟩ = some (.slice A1 V.gs.length c1) ∧ w'.cell? ⟨w.heap.size, 5, none⟩ = some (.slice A2 V.objects.length c2) ∧ w'.cell? ⟨w.heap.size, 6, none⟩ = some (.int .i64 V.grey) ∧ w'.cell? ⟨w.heap.size, 7, none⟩ = some (.int .i64 V.notes) ∧ w'.cell? ⟨w.heap.size, 8, none⟩ = some (.int .i64 V.roots) ∧ w'.cell? ⟨w.heap.size + 1, 0, none⟩ = some (.int .i64 W.phase) ∧ w'.cell? ⟨w.heap.size + 1, 1, none⟩ = some (.int .i64 W.cycle) ∧ w'.cell? ⟨w.heap.size + 1, 2, none⟩ = some (.int .i64 W.clock) ∧ w'.cell? ⟨w.heap.size + 1, 3, none⟩ = some (.slice E0 W.globals.length d0) ∧ w'.cell? ⟨w.heap.size + 1, 4, none⟩ = some (.slice E1 W.gs.length d1) ∧ w'.cell? ⟨w.heap.size + 1, 5, none⟩ = some (.slice E2 W.objects.length d2) ∧ w'.cell? ⟨w.heap.size + 1, 6, none⟩ = some (.int .i64 W.grey) ∧ w'.cell? ⟨w.heap.size + 1, 7, none⟩ = some (.int .i64 W.notes) ∧ w'.cell? ⟨w.heap.size + 1, 8, none⟩ = some (.int .i64 W.roots) ∧ Chg [] w2 w') ((refine asS_of H2.out.2.1 H2.out.2.2.1 ?_; (first | assumption | exact Chg.refl _ _ | exact (Chg.refl _ _).drew)))
    (first | (go_at_call 13; (with_reducible refine (told_ok _).mono ?_); rintro e xt ⟨rfl, Ct⟩; have Dxt : Chg [] w2 xt := Chg.trans (by (first | assumption | exact Chg.refl _ _ | exact (Chg.refl _ _).drew)) Ct) | (go_at_call 22; (with_reducible refine (find_ok _ _ V a (ow_vw HV.out H2.out.1 (by (first | assumption | exact Chg.refl _ _ | exact (Chg.refl _ _).drew))) HS1.out).mono ?_); rintro e x1 ⟨rfl, C1⟩; have Dx1 : Chg [] w2 x1 := Chg.trans (by (first | assumption | exact Chg.refl _ _ | exact (Chg.refl _ _).drew)) C1) | (go_at_call 26; (with_reducible refine (rfind_ok _ _ V a (ow_vw HV.out H2.out.1 (by (first | assumption | exact Chg.refl _ _ | exact (Chg.refl _ _).drew))) HS1.out).mono ?_); rintro e x2 ⟨rfl, C2⟩; have Dx2 : Chg [] w2 x2 := Chg.trans (by (first | assumption | exact Chg.refl _ _ | exact (Chg.refl _ _).drew)) C2) | (go_at_call 14; (with_reducible refine (ints_eq Op4.rd Oq4.rd rfl).mono ?_); rintro e xi4 ⟨rfl, Ci4⟩; have Dxi4 : Chg [] w2 xi4 := Chg.trans (by (first | assumption | exact Chg.refl _ _ | exact (Chg.refl _ _).drew)) Ci4) | (go_at_call 14; (with_reducible refine (ints_eq Op3.rd Oq3.rd rfl).mono ?_); rintro e xi3 ⟨rfl, Ci3⟩; have Dxi3 : Chg [] w2 xi3 := Chg.trans (by (first | assumption | exact Chg.refl _ _ | exact (Chg.refl _ _).drew)) Ci3) | (go_at_call 14; (with_reducible refine (ints_eq Op2.rd Oq2.rd rfl).mono ?_); rintro e xi2 ⟨rfl, Ci2⟩; have Dxi2 : Chg [] w2 xi2 := Chg.trans (by (first | assumption | exact Chg.refl _ _ | exact (Chg.refl _ _).drew)) Ci2) | (go_at_call 14; (with_reducible refine (ints_eq Op1.rd Oq1.rd rfl).mono ?_); rintro e xi1 ⟨rfl, Ci1⟩; have Dxi1 : Chg [] w2 xi1 := Chg.trans (by (first | assumption | exact Chg.refl _ _ | exact (Chg.refl _ _).drew)) Ci1) | (go_at_call 19; (with_reducible refine (roots_ok _ _ V (ow_vw HV.out H2.out.1 (by (first | assumption | exact Chg.refl _ _ | exact (Chg.refl _ _).drew))) HS1.out).mono ?_); rintro e x3 ⟨v3, rfl, O3, C3, F3⟩; obtain ⟨Aa3, ka3, rfl⟩ := O3.slice; have Dx3 : Chg [] w2 x3 := Chg.trans (by (first | assumption | exact Chg.refl _ _ | exact (Chg.refl _ _).drew)) C3) | (go_at_call 27; (with_reducible refine (rroots_ok _ _ V (ow_vw HV.out H2.out.1 (by (first | assumption | exact Chg.refl _ _ | exact (Chg.refl _ _).drew))) HS1.out).mono ?_); rintro e x4 ⟨v4, rfl, Oq1, C4, F4⟩; obtain ⟨Aa4, ka4, rfl⟩ := Oq1.slice; have Op1 := O3.chg0 C4; have Dx4 : Chg [] w2 x4 := Chg.trans (by (first | assumption | exact Chg.refl _ _ | exact (Chg.refl _ _).drew)) C4) | (go_at_call 17; (with_reducible refine (reach_ok _ _ V (ow_vw HV.out H2.out.1 (by (first | assumption | exact Chg.refl _ _ | exact (Chg.refl _ _).drew))) HS1.out).mono ?_); rintro e x5 ⟨l5, h5, v5, rfl, O5, C5, F5⟩; obtain ⟨Aa5, ka5, rfl⟩ := O5.slice; have Dx5 : Chg [] w2 x5 := Chg.trans (by (first | assumption | exact Chg.refl _ _ | exact (Chg.refl _ _).drew)) C5) | (go_at_call 28; (with_reducible refine (rreach_ok _ _ V (ow_vw HV.out H2.out.1 (by (first | assumption | exact Chg.refl _ _ | exact (Chg.refl _ _).drew))) HS1.out).mono ?_); rintro e x6 ⟨l6, h6, v6, rfl, Oq2, C6, F6⟩; obtain rfl := h5.uniq h6; obtain ⟨Aa6, ka6, rfl⟩ := Oq2.slice; have Op2 := O5.chg0 C6; have Dx6 : Chg [] w2 x6 := Chg.trans (by (first | assumption | exact Chg.refl _ _ | exact (Chg.refl _ _).drew)) C6) | (go_at_call 23; (with_reducible refine (white_ok _ _ V (ow_vw HV.out H2.out.1 (by (first | assumption | exact Chg.refl _ _ | exact (Chg.refl _ _).drew))) HS1.out).mono ?_); rintro e x7 ⟨l7, h7, v7, rfl, O7, C7, F7⟩; obtain ⟨Aa7, ka7, rfl⟩ := O7.slice; have Dx7 : Chg [] w2 x7 := Chg.trans (by (first | assumption | exact Chg.refl _ _ | exact (Chg.refl _ _).drew)) C7) | (go_at_call 29; (with_reducible refine (rwhite_ok _ _ V (ow_vw HV.out H2.out.1 (by (first | assumption | exact Chg.refl _ _ | exact (Chg.refl _ _).drew))) HS1.out).mono ?_); rintro e x8 ⟨l8, h8, v8, rfl, Oq3, C8, F8⟩; obtain rfl := h7.uniq h8; obtain ⟨Aa8, ka8, rfl⟩ := Oq3.slice; have Op3 := O7.chg0 C8; have Dx8 : Chg [] w2 x8 := Chg.trans (by (first | assumption | exact Chg.refl _ _ | exact (Chg.refl _ _).drew)) C8) | (go_at_call 18; (with_reducible refine (lost_ok _ _ V (ow_vw HV.out H2.out.1 (by (first | assumption | exact Chg.refl _ _ | exact (Chg.refl _ _).drew))) HS1.out).mono ?_); rintro e x9 ⟨l9, h9, v9, rfl, O9, C9, F9⟩; obtain ⟨Aa9, ka9, rfl⟩ := O9.slice; have Dx9 : Chg [] w2 x9 := Chg.trans (by (first | assumption | exact Chg.refl _ _ | exact (Chg.refl _ _).drew)) C9) | (go_at_call 30; (with_reducible refine (rlost_ok _ _ V (ow_vw HV.out H2.out.1 (by (first | assumption | exact Chg.refl _ _ | exact (Chg.refl _ _).drew))) HS1.out).mono ?_); rintro e xa ⟨la, ha, va, rfl, Oq4, Ca, Fa⟩; obtain rfl := h9.uniq ha; obtain ⟨Aaa, kaa, rfl⟩ := Oq4.slice; have Op4 := O9.chg0 Ca; have Dxa : Chg [] w2 xa := Chg.trans (by (first | assumption | exact Chg.refl _ _ | exact (Chg.refl _ _).drew)) Ca) | (go_at_call 25; (with_reducible refine (words_ok _ _ V (ow_vw HV.out H2.out.1 (by (first | assumption | exact Chg.refl _ _ | exact (Chg.refl _ _).drew))) HS1.out).mono ?_); rintro e xb ⟨rfl, Cb⟩; have Dxb : Chg [] w2 xb := Chg.trans (by (first | assumption | exact Chg.refl _ _ | exact (Chg.refl _ _).drew)) Cb) | (go_at_call 31; (with_reducible refine (rwords_ok _ _ V (ow_vw HV.out H2.out.1 (by (first | assumption | exact Chg.refl _ _ | exact (Chg.refl _ _).drew))) HS1.out).mono ?_); rintro e xc ⟨rfl, Cc⟩; have Dxc : Chg [] w2 xc := Chg.trans (by (first | assumption | exact Chg.refl _ _ | exact (Chg.refl _ _).drew)) Cc) | (go_at_call 32; (with_reducible refine (same_ok _ _ _ V W (ow_vw HV.out H2.out.1 (by (first | assumption | exact Chg.refl _ _ | exact (Chg.refl _ _).drew))) (ow_vw HK.out H2.out.1 (by (first | assumption | exact Chg.refl _ _ | exact (Chg.refl _ _).drew))) HS1.out HS2.out).mono ?_); rintro e xd ⟨rfl, Cd⟩; have Dxd : Chg [] w2 xd := Chg.trans (by (first | assumption | exact Chg.refl _ _ | exact (Chg.refl _ _).drew)) Cd) | (go_at_call 33; (with_reducible refine (rsame_ok _ _ _ V W (ow_vw HV.out H2.out.1 (by (first | assumption | exact Chg.refl _ _ | exact (Chg.refl _ _).drew))) (ow_vw HK.out H2.out.1 (by (first | assumption | exact Chg.refl _ _ | exact (Chg.refl _ _).drew))) HS1.out HS2.out).mono ?_); rintro e xe ⟨rfl, Ce⟩; have Dxe : Chg [] w2 xe := Chg.trans (by (first | assumption | exact Chg.refl _ _ | exact (Chg.refl _ _).drew)) Ce) | (go_at_call 32; (with_reducible refine (same_ok _ _ _ V V (ow_vw HV.out H2.out.1 (by (first | assumption | exact Chg.refl _ _ | exact (Chg.refl _ _).drew))) (ow_vw HV.out H2.out.1 (by (first | assumption | exact Chg.refl _ _ | exact (Chg.refl _ _).drew))) HS1.out HS1.out).mono ?_); rintro e xf ⟨rfl, Cf⟩; rw [sameB_refl]; have Dxf : Chg [] w2 xf := Chg.trans (by (first | assumption | exact Chg.refl _ _ | exact (Chg.refl _ _).drew)) Cf))
  have HD := Lib.hid ‹Chg [] w2 xf›
  go_wp2_with fail
  go_ret
  exact ⟨rfl, H2.out.1.trans HD.out⟩
end Go.Proofs.Ytfkgooliglcjkaa
