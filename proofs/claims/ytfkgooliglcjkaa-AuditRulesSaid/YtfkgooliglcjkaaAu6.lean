/- The walks of the document's numbers, clean, placed. -/
import Derived.Test.YtfkgooliglcjkaaAu5
namespace Go.Proofs.Ytfkgooliglcjkaa
open Go.RowKit Go.Maps

set_option maxHeartbeats 3200000 in
set_option maxRecDepth 100000 in
theorem rnumbers_ok (w : World) (v : Value) (V : Vw) (h : VwAt w w.heap.size v V) (hS : Small V) : Calls Try.prog 64 #[v] w (FdPost (!brkNum V) w) := by
  have HV := Lib.hid h
  obtain ⟨g, A1, c1, A2, c2, rfl, h1, h2, h3, h4, h5⟩ := h.ex
  obtain ⟨A0, c0, rfl⟩ := h1.ex
  have C1 := (Chg.refl [] w).alloc (.cells (vwBox V A0 c0 A1 c1 A2 c2) 26)
  have B1 := Blk.new w 26 (vwBox V A0 c0 A1 c1 A2 c2)
  have HB := Lib.hid (And.intro C1 B1)
  have HG := Lib.hid h2
  have HO := Lib.hid h3
  have hO := hS.o
  have hG := hS.g
  unfold vwBox at HB
  clear C1 B1 h h1 h2 h3 h4 h5
  go_enter Try.func64, Try.ntmps64
  go_upto_region 1 with fail
  generalize (w.alloc (.cells #[.int .i64 V.phase, .int .i64 V.cycle, .int .i64 V.clock, .slice A0 V.globals.length c0, .slice A1 V.gs.length c1, .slice A2 V.objects.length c2, .int .i64 V.grey, .int .i64 V.notes, .int .i64 V.roots] 26)) = X at HB ⊢
  obtain ⟨b0, b1, b2, b3, b4, b5, b6, b7, b8⟩ := boxC HB.out.2
  go_wp2_with fail
  go_loopg [3] (V.gs.length + 1) (fun gk idx wr => AnyRel X (fun g : Gr => g.stack.length != 16) V.gs gk idx wr)
  case atStart => exact ⟨0, by omega, by omega, rfl, rfl, Chg.refl _ _⟩
  case round =>
    obtain ⟨i, hgk, hin, rfl, ht, C⟩ := hrel
    have CC := HB.out.1.trans C
    clear b0 b1 b2 b3 b4 b5 b6 b7 b8
    obtain ⟨b0, b1, b2, b3, b4, b5, b6, b7, b8⟩ := boxC (C.blk HB.out.2 (by simp))
    by_cases e : i < V.gs.length
    · obtain ⟨x, hx⟩ : ∃ x, V.gs[i]? = some x := ⟨_, List.getElem?_eq_getElem e⟩
      obtain ⟨q1, o1, s1, rfl, hb1, i0, i1, i2, hs1, -⟩ := (HG.out.chg CC (Nat.le_refl _) (by simp)).at_ i x hx
      obtain ⟨As, cs, rfl⟩ := hs1.ex
      have hi' : (i : Int) < (V.gs.length : Int) := by omega
      have hi0 : (0 : Int) ≤ (i : Int) := by omega
      have HX := Lib.hid (And.intro ht (And.intro C hx)); clear ht C hx hs1 hb1 CC
      by_cases hq : x.stack.length = 16
      · have q1 : ((x.stack.length : Int) != 16) = false := by simp [hq]
        have q2 : (x.stack.length != 16) = false := by simp [hq]
        have HQ := Lib.hid (any_no HX.out.1 HX.out.2.2 q2); clear hq
        go_wp2_with fail
        go_roundg (V.gs.length - i)
        case measure => omega
        case rel => exact ⟨i + 1, by omega, by omega, by go_num, HQ.out, HX.out.2.1⟩
      · have q1 : ((x.stack.length : Int) != 16) = true := by rw [bne_iff_ne]; omega
        have q2 : (x.stack.length != 16) = true := by rw [bne_iff_ne]; exact hq
        have HQ := Lib.hid (show (!brkNum V) = false by unfold brkNum; rw [any_yes HX.out.2.2 q2]; rfl); clear hq
        go_wp2_with fail
        try rw [Exit.noGoto_ret]
        go_ret
        exact ⟨by rw [HQ.out]; rfl, HB.out.1.trans HX.out.2.1⟩
    · have e2 : V.gs.length = i := by omega
      have hi' : ¬ (i : Int) < (V.gs.length : Int) := by omega
      rw [← e2, List.take_length] at ht
      have HX := Lib.hid (And.intro ht CC); clear ht C CC e2 hgk hin e
      by_cases p1 : V.phase < 0
      · have d1 : decide (0 ≤ V.phase) = false := decide_eq_false (by omega)
        have HE := Lib.hid (show (!brkNum V) = false by unfold brkNum numB; simp [p1])
        clear p1
        go_wp2_with fail
        go_ret
        exact ⟨by rw [HE.out]; rfl, HX.out.2⟩
      · have d1 : decide (0 ≤ V.phase) = true := decide_eq_true (by omega)
        by_cases p2 : 3 < V.phase
        · have d2 : decide (V.phase ≤ 3) = false := decide_eq_false (by omega)
          have HE := Lib.hid (show (!brkNum V) = false by unfold brkNum numB; simp [p2])
          clear p1 p2
          go_wp2_with fail
          go_ret
          exact ⟨by rw [HE.out]; rfl, HX.out.2⟩
        · have d2 : decide (V.phase ≤ 3) = true := decide_eq_true (by omega)
          by_cases p3 : V.cycle < 0
          · have d3 : decide (0 ≤ V.cycle) = false := decide_eq_false (by omega)
            have HE := Lib.hid (show (!brkNum V) = false by unfold brkNum numB; simp [p3])
            clear p1 p2 p3
            go_wp2_with fail
            go_ret
            exact ⟨by rw [HE.out]; rfl, HX.out.2⟩
          · have d3 : decide (0 ≤ V.cycle) = true := decide_eq_true (by omega)
            have HE := Lib.hid (show (!brkNum V) = decide (0 ≤ V.clock) by
              unfold brkNum numB; rw [HX.out.1]
              by_cases h : V.clock < 0
              · simp [p1, p2, p3, h]
              · simp [p1, p2, p3, h]; omega)
            clear p1 p2 p3
            go_wp2_with fail
            go_ret
            exact ⟨by rw [HE.out]; rfl, HX.out.2⟩
set_option maxHeartbeats 3200000 in
set_option maxRecDepth 100000 in
theorem rclean_ok (w : World) (v : Value) (V : Vw) (h : VwAt w w.heap.size v V) (hS : Small V) : Calls Try.prog 65 #[v] w (FdPost (!brkMk V) w) := by
  have HV := Lib.hid h
  obtain ⟨g, A1, c1, A2, c2, rfl, h1, h2, h3, h4, h5⟩ := h.ex
  obtain ⟨A0, c0, rfl⟩ := h1.ex
  have C1 := (Chg.refl [] w).alloc (.cells (vwBox V A0 c0 A1 c1 A2 c2) 26)
  have B1 := Blk.new w 26 (vwBox V A0 c0 A1 c1 A2 c2)
  have HB := Lib.hid (And.intro C1 B1)
  have HG := Lib.hid h2
  have HO := Lib.hid h3
  have hO := hS.o
  have hG := hS.g
  unfold vwBox at HB
  clear C1 B1 h h1 h2 h3 h4 h5
  go_enter Try.func65, Try.ntmps65
  go_upto_region 1 with fail
  generalize (w.alloc (.cells #[.int .i64 V.phase, .int .i64 V.cycle, .int .i64 V.clock, .slice A0 V.globals.length c0, .slice A1 V.gs.length c1, .slice A2 V.objects.length c2, .int .i64 V.grey, .int .i64 V.notes, .int .i64 V.roots] 26)) = X at HB ⊢
  obtain ⟨b0, b1, b2, b3, b4, b5, b6, b7, b8⟩ := boxC HB.out.2
  go_wp2_with fail
  go_loopg [3] (V.objects.length + 1) (fun gk idx wr => AnyRel X (fun o : Ob => V.phase == 0 && o.marked) V.objects gk idx wr)
  case atStart => exact ⟨0, by omega, by omega, rfl, rfl, Chg.refl _ _⟩
  case round =>
    obtain ⟨i, hgk, hin, rfl, ht, C⟩ := hrel
    have CC := HB.out.1.trans C
    clear b0 b1 b2 b3 b4 b5 b6 b7 b8
    obtain ⟨b0, b1, b2, b3, b4, b5, b6, b7, b8⟩ := boxC (C.blk HB.out.2 (by simp))
    by_cases e : i < V.objects.length
    · obtain ⟨x, hx⟩ : ∃ x, V.objects[i]? = some x := ⟨_, List.getElem?_eq_getElem e⟩
      obtain ⟨q1, o1, s1, rfl, hb1, i0, i1, i2, hs1, -⟩ := (HO.out.chg CC (Nat.le_refl _) (by simp)).at_ i x hx
      obtain ⟨As, cs, rfl⟩ := hs1.ex
      have hi' : (i : Int) < (V.objects.length : Int) := by omega
      have hi0 : (0 : Int) ≤ (i : Int) := by omega
      have HX := Lib.hid (And.intro ht (And.intro C hx)); clear ht C hx hs1 hb1 CC
      by_cases hp : V.phase = 0
      · have p1 : (V.phase == 0) = true := by rw [beq_iff_eq]; exact hp
        cases hm : x.marked with
        | true =>
          rw [hm] at i2
          have HQ := Lib.hid (show (!brkMk V) = false by unfold brkMk; rw [p1, any_yes HX.out.2.2 hm]; rfl); clear hp hm
          go_wp2_with fail
          try rw [Exit.noGoto_ret]
          go_ret
          exact ⟨by rw [HQ.out]; rfl, HB.out.1.trans HX.out.2.1⟩
        | false =>
          rw [hm] at i2
          have HQ := Lib.hid (any_no (p := fun o : Ob => V.phase == 0 && o.marked) HX.out.1 HX.out.2.2 (by simp [hm])); clear hp hm
          go_wp2_with fail
          go_roundg (V.objects.length - i)
          case measure => omega
          case rel => exact ⟨i + 1, by omega, by omega, by go_num, HQ.out, HX.out.2.1⟩
      · have p1 : (V.phase == 0) = false := by rw [beq_eq_false_iff_ne]; exact hp
        have HQ := Lib.hid (any_no (p := fun o : Ob => V.phase == 0 && o.marked) HX.out.1 HX.out.2.2 (by simp [hp])); clear hp
        go_wp2_with fail
        go_roundg (V.objects.length - i)
        case measure => omega
        case rel => exact ⟨i + 1, by omega, by omega, by go_num, HQ.out, HX.out.2.1⟩
    · have e2 : V.objects.length = i := by omega
      have hi' : ¬ (i : Int) < (V.objects.length : Int) := by omega
      rw [← e2, List.take_length] at ht
      have HX := Lib.hid (And.intro ht CC); clear ht C CC e2 hgk hin e
      have HE := Lib.hid (show (!brkMk V) = true by
        unfold brkMk
        have h := HX.out.1
        cases hp : (V.phase == 0) with
        | false => rfl
        | true => simp only [hp, Bool.true_and] at h; rw [h]; rfl)
      go_wp2_with fail
      go_ret
      exact ⟨by rw [HE.out]; rfl, HX.out.2⟩
set_option maxHeartbeats 6400000 in
set_option maxRecDepth 100000 in
theorem rplaced_ok (w : World) (v : Value) (V : Vw) (ps : Int) (h : VwAt w w.heap.size v V) (hS : Small V) : Calls Try.prog 63 #[v, .int .i64 ps] w (FdPost (!brkPl V ps) w) := by
  have HV := Lib.hid h
  obtain ⟨g, A1, c1, A2, c2, rfl, h1, h2, h3, h4, h5⟩ := h.ex
  obtain ⟨A0, c0, rfl⟩ := h1.ex
  have C1 := (Chg.refl [] w).alloc (.cells (vwBox V A0 c0 A1 c1 A2 c2) 26)
  have B1 := Blk.new w 26 (vwBox V A0 c0 A1 c1 A2 c2)
  have HB := Lib.hid (And.intro C1 B1)
  have HG := Lib.hid h2
  have HO := Lib.hid h3
  have hO := hS.o
  have hG := hS.g
  unfold vwBox at HB
  clear C1 B1 h h1 h2 h3 h4 h5
  go_enter Try.func63, Try.ntmps63
  go_upto_region 1 with fail
  generalize (w.alloc (.cells #[.int .i64 V.phase, .int .i64 V.cycle, .int .i64 V.clock, .slice A0 V.globals.length c0, .slice A1 V.gs.length c1, .slice A2 V.objects.length c2, .int .i64 V.grey, .int .i64 V.notes, .int .i64 V.roots] 26)) = X at HB ⊢
  obtain ⟨b0, b1, b2, b3, b4, b5, b6, b7, b8⟩ := boxC HB.out.2
  go_wp2_with fail
  go_loopg [5] (V.gs.length + 1) (fun gk idx wr => AnyRel X (badG ps) V.gs gk idx wr)
  case atStart => exact ⟨0, by omega, by omega, rfl, rfl, Chg.refl _ _⟩
  case round =>
    obtain ⟨i, hgk, hin, rfl, ht, C⟩ := hrel
    have CC := HB.out.1.trans C
    clear b0 b1 b2 b3 b4 b5 b6 b7 b8
    obtain ⟨b0, b1, b2, b3, b4, b5, b6, b7, b8⟩ := boxC (C.blk HB.out.2 (by simp))
    by_cases e : i < V.gs.length
    · obtain ⟨x, hx⟩ : ∃ x, V.gs[i]? = some x := ⟨_, List.getElem?_eq_getElem e⟩
      obtain ⟨q1, o1, s1, rfl, hb1, i0, i1, i2, hs1, -⟩ := (HG.out.chg CC (Nat.le_refl _) (by simp)).at_ i x hx
      obtain ⟨As, cs, rfl⟩ := hs1.ex
      have hi' : (i : Int) < (V.gs.length : Int) := by omega
      have hi0 : (0 : Int) ≤ (i : Int) := by omega
      have HX := Lib.hid (And.intro ht (And.intro C hx)); clear ht C hx hs1 hb1 CC
      by_cases h2 : x.state = 2
      · have q2 : (x.state == 2) = true := by rw [beq_iff_eq]; exact h2
        by_cases hp0 : 0 ≤ x.p
        · have d0 : decide (x.p < 0) = false := decide_eq_false (by omega)
          have d0' : ¬ x.p < 0 := by omega
          by_cases hp1 : x.p < ps
          · have d1 : decide (ps ≤ x.p) = false := decide_eq_false (by omega)
            have d1' : ¬ ps ≤ x.p := by omega
            have HQ := Lib.hid (any_no HX.out.1 HX.out.2.2 (show badG ps x = false by simp [badG, h2, hp0, hp1])); clear h2 hp0 hp1
            go_wp2_with fail
            go_roundg (V.gs.length - i)
            case measure => omega
            case rel => exact ⟨i + 1, by omega, by omega, by go_num, HQ.out, HX.out.2.1⟩
          · have d1 : decide (ps ≤ x.p) = true := decide_eq_true (by omega)
            have d1' : ps ≤ x.p := by omega
            have HQ := Lib.hid (show (!brkPl V ps) = false by unfold brkPl; rw [any_yes HX.out.2.2 (show badG ps x = true by simp [badG, h2]; omega)]; rfl); clear h2 hp0 hp1
            go_wp2_with fail
            try rw [Exit.noGoto_ret]
            go_ret
            exact ⟨by rw [HQ.out]; rfl, HB.out.1.trans HX.out.2.1⟩
        · have d0 : decide (x.p < 0) = true := decide_eq_true (by omega)
          have d0' : x.p < 0 := by omega
          have HQ := Lib.hid (show (!brkPl V ps) = false by unfold brkPl; rw [any_yes HX.out.2.2 (show badG ps x = true by simp [badG, h2, hp0])]; rfl); clear h2 hp0
          go_wp2_with fail
          try rw [Exit.noGoto_ret]
          go_ret
          exact ⟨by rw [HQ.out]; rfl, HB.out.1.trans HX.out.2.1⟩
      · have q2 : (x.state == 2) = false := by rw [beq_eq_false_iff_ne]; exact h2
        by_cases h1 : x.state = 1
        · have q3 : (x.state == 1) = true := by rw [beq_iff_eq]; exact h1
          by_cases hp0 : -1 ≤ x.p
          · have d0 : decide (x.p < -1) = false := decide_eq_false (by omega)
            have d0' : ¬ x.p < -1 := by omega
            by_cases hp1 : x.p < ps
            · have d1 : decide (ps ≤ x.p) = false := decide_eq_false (by omega)
              have d1' : ¬ ps ≤ x.p := by omega
              have HQ := Lib.hid (any_no HX.out.1 HX.out.2.2 (show badG ps x = false by simp [badG, h1, hp0, hp1])); clear h1 h2 hp0 hp1
              go_wp2_with fail
              go_roundg (V.gs.length - i)
              case measure => omega
              case rel => exact ⟨i + 1, by omega, by omega, by go_num, HQ.out, HX.out.2.1⟩
            · have d1 : decide (ps ≤ x.p) = true := decide_eq_true (by omega)
              have d1' : ps ≤ x.p := by omega
              have HQ := Lib.hid (show (!brkPl V ps) = false by unfold brkPl; rw [any_yes HX.out.2.2 (show badG ps x = true by simp [badG, h1]; omega)]; rfl); clear h1 h2 hp0 hp1
              go_wp2_with fail
              try rw [Exit.noGoto_ret]
              go_ret
              exact ⟨by rw [HQ.out]; rfl, HB.out.1.trans HX.out.2.1⟩
          · have d0 : decide (x.p < -1) = true := decide_eq_true (by omega)
            have d0' : x.p < -1 := by omega
            have HQ := Lib.hid (show (!brkPl V ps) = false by unfold brkPl; rw [any_yes HX.out.2.2 (show badG ps x = true by simp [badG, h1, hp0])]; rfl); clear h1 h2 hp0
            go_wp2_with fail
            try rw [Exit.noGoto_ret]
            go_ret
            exact ⟨by rw [HQ.out]; rfl, HB.out.1.trans HX.out.2.1⟩
        · have q3 : (x.state == 1) = false := by rw [beq_eq_false_iff_ne]; exact h1
          by_cases hp0 : x.p = -1
          · have d0 : (x.p != -1) = false := by rw [bne_eq_false_iff_eq]; exact hp0
            have HQ := Lib.hid (any_no HX.out.1 HX.out.2.2 (show badG ps x = false by simp [badG, h1, h2, hp0])); clear h1 h2 hp0
            go_wp2_with fail
            go_roundg (V.gs.length - i)
            case measure => omega
            case rel => exact ⟨i + 1, by omega, by omega, by go_num, HQ.out, HX.out.2.1⟩
          · have d0 : (x.p != -1) = true := by rw [bne_iff_ne]; exact hp0
            have HQ := Lib.hid (show (!brkPl V ps) = false by unfold brkPl; rw [any_yes HX.out.2.2 (show badG ps x = true by simp [badG, h1, h2, hp0])]; rfl); clear h1 h2 hp0
            go_wp2_with fail
            try rw [Exit.noGoto_ret]
            go_ret
            exact ⟨by rw [HQ.out]; rfl, HB.out.1.trans HX.out.2.1⟩
    · have e2 : V.gs.length = i := by omega
      have hi' : ¬ (i : Int) < (V.gs.length : Int) := by omega
      rw [← e2, List.take_length] at ht
      have HX := Lib.hid (And.intro ht CC); clear ht C CC e2 hgk hin e
      have HE := Lib.hid (show (!brkPl V ps) = true by unfold brkPl; rw [HX.out.1]; rfl)
      go_wp2_with fail
      go_ret
      exact ⟨by rw [HE.out]; rfl, HX.out.2⟩
end Go.Proofs.Ytfkgooliglcjkaa
