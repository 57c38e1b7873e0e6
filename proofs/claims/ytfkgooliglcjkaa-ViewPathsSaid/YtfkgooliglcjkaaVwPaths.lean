/- The walk of ViewPaths. -/
import Derived.Test.YtfkgooliglcjkaaRfPath
import Derived.Test.YtfkgooliglcjkaaVwBuild
namespace Go.Proofs.Ytfkgooliglcjkaa
open Go.RowKit Go.Maps

theorem WfI.of {x : Int} (h : (Lit.int .i64 x).wf = true) : WfI x := by
  have e1 : IntKind.i64.min = -9223372036854775808 := by decide
  have e2 : IntKind.i64.max = 9223372036854775807 := by decide
  simp only [Lit.wf, e1, e2, Bool.and_eq_true, decide_eq_true_eq] at h; exact h
theorem ptS_of {w2 W : World} {V : Vw} {A0 : Option Addr} {c0 : Nat} {A1 : Option Addr} {c1 : Nat} {A2 : Option Addr} {c2 b : Nat} (h : Blk w2 b 26 (vwBox V A0 c0 A1 c1 A2 c2)) (D : Chg [] w2 W) :
    W.cell? ⟨b, 0, none⟩ = some (.int .i64 V.phase) ∧ W.cell? ⟨b, 1, none⟩ = some (.int .i64 V.cycle) ∧ W.cell? ⟨b, 2, none⟩ = some (.int .i64 V.clock) ∧ W.cell? ⟨b, 3, none⟩ = some (.slice A0 V.globals.length c0) ∧ W.cell? ⟨b, 4, none⟩ = some (.slice A1 V.gs.length c1) ∧
    W.cell? ⟨b, 5, none⟩ = some (.slice A2 V.objects.length c2) ∧ W.cell? ⟨b, 6, none⟩ = some (.int .i64 V.grey) ∧ W.cell? ⟨b, 7, none⟩ = some (.int .i64 V.notes) ∧ W.cell? ⟨b, 8, none⟩ = some (.int .i64 V.roots) ∧ Chg [] w2 W := by
  obtain ⟨z0, z1, z2, z3, z4, z5, z6, z7, z8⟩ := VwAt.boxR (D.blk h (by simp))
  exact ⟨z0, z1, z2, z3, z4, z5, z6, z7, z8, D⟩
set_option maxHeartbeats 6400000 in
set_option maxRecDepth 100000 in
theorem paths_any (v : Value) (V : Vw) (addr which : Int) (w : World) (h : VwAt w w.heap.size v V) (ha : WfI addr) : Calls Try.prog 3 #[v, .int .i64 addr, .int .i64 which] w (TdPost w) := by
  have HV := Lib.hid h
  obtain ⟨g, A1, c1, A2, c2, rfl, h1, h2, h3, h4, h5⟩ := h.ex
  obtain ⟨A0, c0, rfl⟩ := h1.ex
  have C1 := (Chg.refl [] w).alloc (.cells (vwBox V A0 c0 A1 c1 A2 c2) 26)
  have B1 := Blk.new w 26 (vwBox V A0 c0 A1 c1 A2 c2)
  have HO := Lib.hid h3
  have HB := Lib.hid (And.intro C1 B1); clear C1 B1 h h1 h2 h3 h4 h5
  go_enter Try.func3, Try.ntmps3
  obtain ⟨b0, b1, b2, b3, b4, b5, b6, b7, b8⟩ := VwAt.boxR HB.out.2
  go_wp2_with fail
  refine (few_ok _ _ V ((HV.out.chg HB.out.1 (Nat.le_refl _) (by simp)).mono HB.out.1.size)).mono ?_
  rintro e w1 ⟨b, rfl, hf, C1⟩
  have H1 := Lib.hid (And.intro (HB.out.1.trans C1) (And.intro (C1.blk HB.out.2 (by simp)) hf)); clear hf C1 HB b0 b1 b2 b3 b4 b5 b6 b7 b8
  cases b
  · go_wp2_with fail
    refine (told_ok _).mono ?_
    rintro e w2 ⟨rfl, C2⟩
    have C := H1.out.1.trans C2
    go_wp2_with fail
    go_ret
    exact ⟨rfl, C⟩
  have HF := Lib.hid (H1.out.2.2 rfl)
  obtain ⟨b0, b1, b2, b3, b4, b5, b6, b7, b8⟩ := VwAt.boxR H1.out.2.1
  go_wp2_with fail
  refine (own_ok _ _ V ((HV.out.chg H1.out.1 (Nat.le_refl _) (by simp)).mono H1.out.1.size) HF.out.small).mono ?_
  rintro e w2 ⟨b, rfl, -, C2⟩
  have H2 := Lib.hid (And.intro (H1.out.1.trans C2) (C2.blk H1.out.2.1 (by simp))); clear C2 H1 b0 b1 b2 b3 b4 b5 b6 b7 b8
  cases b
  · go_wp2_with fail
    refine (told_ok _).mono ?_
    rintro e w3 ⟨rfl, C3⟩
    have C := H2.out.1.trans C3
    go_wp2_with fail
    go_ret
    exact ⟨rfl, C⟩
  obtain ⟨b0, b1, b2, b3, b4, b5, b6, b7, b8⟩ := VwAt.boxR H2.out.2
  have hn40 := HF.out.o
  go_upto_region 4 with fail
  go_cut [26] from 20 to 26 (fun v wc => ∃ b, v = .bool b ∧ (b = true → 0 < V.objects.length) ∧ wc = w2)
  case first =>
    by_cases h0 : 0 < V.objects.length
    · have h0' : (0 : Int) < (V.objects.length : Int) := by omega
      have h0'' : decide (0 < V.objects.length) = true := decide_eq_true h0
      go_wp2_with fail
      go_meet
      exact ⟨_, rfl, fun _ => h0, rfl⟩
    · have h0'' : decide (0 < V.objects.length) = false := decide_eq_false h0
      go_wp2_with fail
      go_meet
      exact ⟨false, by simp, fun h => absurd h (by decide), rfl⟩
  case rest =>
    obtain ⟨b, rfl, hb, rfl⟩ := hcut
    have HB2 := Lib.hid hb; clear hb
    obtain ⟨wz, rfl⟩ : ∃ wz : World, wz = wc := ⟨_, rfl⟩
    go_upto_if 26 with fail
    go_cut [1] from 27 to 37 (fun v1 wc => ∃ a : Int, v1 = .int .i64 a ∧ WfI a ∧ Chg [] wz wc)
    case first =>
      cases b
      · go_wp2_with fail
        go_meet
        exact ⟨addr, rfl, ha, Chg.refl [] _⟩
      · have h0 := HB2.out rfl
        have h0' : (0 : Int) < (V.objects.length : Int) := by omega
        obtain ⟨q, hq, eq0⟩ := mod_n which V.objects.length h0 (by omega)
        have eq1 : wrap64 ((IntKind.u64.wrap which).tmod (V.objects.length : Int)) = (q : Int) := eq0
        have hu : IntKind.u64.wrap (V.objects.length : Int) = (V.objects.length : Int) := by rw [IntKind.wrap_u64]; omega
        have hz : ¬ V.objects.length = 0 := by omega
        have hz2 : ¬ V.objects = [] := by intro e; rw [e] at h0; simp at h0
        have hq' : (q : Int) < (V.objects.length : Int) := by omega
        obtain ⟨o, ho⟩ : ∃ o, V.objects[q]? = some o := ⟨_, List.getElem?_eq_getElem hq⟩
        obtain ⟨bo, off, s, rfl, hbb, i0, i1, i2, hsl, hwa⟩ := (HO.out.chg H2.out.1 (Nat.le_refl _) (by simp)).at_ q o ho
        clear eq0 ho i1 i2 hsl hbb
        go_upto_region 5 with fail
        go_region
        go_wp2_with fail
        go_meet
        exact ⟨o.addr, rfl, hwa, (Chg.refl [] _).drew⟩
    case rest =>
      obtain ⟨a, rfl, hwa, C3⟩ := hcut
      have H3 := Lib.hid (And.intro (H2.out.1.trans C3) (And.intro (C3.blk H2.out.2 (by simp)) hwa)); clear C3 hwa H2 b0 b1 b2 b3 b4 b5 b6 b7 b8
      obtain ⟨b0, b1, b2, b3, b4, b5, b6, b7, b8⟩ := VwAt.boxR H3.out.2.1
      go_upto_region 6 with fail
      go_region_held3 (fun w' => w'.cell? ⟨w.heap.size, 0, none⟩ = some (.int .i64 V.phase) ∧ w'.cell? ⟨w.heap.size, 1, none⟩ = some (.int .i64 V.cycle) ∧ w'.cell? ⟨w.heap.size, 2, none⟩ = some (.int .i64 V.clock) ∧ w'.cell? ⟨w.heap.size, 3, none⟩ = some (.slice A0 V.globals.length c0) ∧ w'.cell? ⟨w.heap.size, 4, none⟩ = some (.slice A1 V.gs.length c1) ∧ w'.cell? ⟨w.heap.size, 5, none⟩ = some (.slice A2 V.objects.length c2) ∧ w'.cell? ⟨w.heap.size, 6, none⟩ = some (.int .i64 V.grey) ∧ w'.cell? ⟨w.heap.size, 7, none⟩ = some (.int .i64 V.notes) ∧ w'.cell? ⟨w.heap.size, 8, none⟩ = some (.int .i64 V.roots) ∧ Chg [] wc w') ((refine ptS_of H3.out.2.1 ?_; (first | assumption | exact Chg.refl _ _ | exact (Chg.refl _ _).drew)))
        (first | (go_at_call 13; (with_reducible refine (told_ok _).mono ?_); rintro e xt ⟨rfl, Ct⟩; have Dxt : Chg [] wc xt := Chg.trans (by (first | assumption | exact Chg.refl _ _ | exact (Chg.refl _ _).drew)) Ct) | (go_at_call 14; (with_reducible refine (ints_eq Op4.rd Oq4.rd rfl).mono ?_); rintro e xi4 ⟨rfl, Ci4⟩; have Dxi4 : Chg [] wc xi4 := Chg.trans (by (first | assumption | exact Chg.refl _ _ | exact (Chg.refl _ _).drew)) Ci4) | (go_at_call 15; (with_reducible refine (path_ok _ _ V a (ow_vw HV.out H3.out.1 (by (first | assumption | exact Chg.refl _ _ | exact (Chg.refl _ _).drew))) HF.out.small H3.out.2.2).mono ?_); rintro e x9 ⟨l9, h9, v9, rfl, O9, C9, F9⟩; obtain ⟨Aa9, ka9, rfl⟩ := O9.slice; have Dx9 : Chg [] wc x9 := Chg.trans (by (first | assumption | exact Chg.refl _ _ | exact (Chg.refl _ _).drew)) C9) | (go_at_call 16; (with_reducible refine (rpath_ok _ _ V a (ow_vw HV.out H3.out.1 (by (first | assumption | exact Chg.refl _ _ | exact (Chg.refl _ _).drew))) HF.out H3.out.2.2).mono ?_); rintro e xa ⟨la, ha9, va, rfl, Oq4, Ca, Fa⟩; obtain rfl := h9.uniq ha9; obtain ⟨Aaa, kaa, rfl⟩ := Oq4.slice; have Op4 := O9.chg0 Ca; have Dxa : Chg [] wc xa := Chg.trans (by (first | assumption | exact Chg.refl _ _ | exact (Chg.refl _ _).drew)) Ca))
      have HD := Lib.hid ‹Chg [] wc xi4›
      go_wp2_with fail
      go_ret
      exact ⟨rfl, H3.out.1.trans HD.out⟩
end Go.Proofs.Ytfkgooliglcjkaa
