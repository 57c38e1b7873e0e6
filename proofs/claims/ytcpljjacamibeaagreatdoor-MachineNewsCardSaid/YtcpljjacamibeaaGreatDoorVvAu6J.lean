/- The walks of the document's numbers, clean, placed. -/
/- The walks of the document's Size, Of, size, Words. -/
import Derived.Test.YtcpljjacamibeaaGreatDoorVvRfRootsJ
import Derived.Test.YtcpljjacamibeaaGreatDoorVvOwnIJ
namespace Go.Proofs.YtcpljjacamibeaaGreatDoor
set_option maxHeartbeats 16000000
set_option maxRecDepth 100000
open Go.RowKit Go.Maps
theorem rnumbers_ok (w : World) (v : Value) (V : Vw) (h : VwAt w w.heap.size v V) (hS : Small V) : Calls Tryz.prog 74 #[v] w (FdPostV (!brkNum V) w) := by
  have HV := Lib.hid h
  obtain ⟨g, A1, c1, A2, c2, rfl, h1, h2, h3, h4, h5⟩ := h.ex
  obtain ⟨A0, c0, rfl⟩ := h1.ex
  have C1 := (Chg.refl [] w).alloc (.cells (vwBox V A0 c0 A1 c1 A2 c2) 41)
  have B1 := Blk.new w 41 (vwBox V A0 c0 A1 c1 A2 c2)
  have HB := Lib.hid (And.intro C1 B1)
  have HG := Lib.hid h2
  have HO := Lib.hid h3
  have hO := hS.o
  have hG := hS.g
  unfold vwBox at HB
  clear C1 B1 h h1 h2 h3 h4 h5
  go_enter Tryz.func74, Tryz.ntmps74
  go_upto_region 1 with fail
  generalize (w.alloc (.cells #[.int .i64 V.phase, .int .i64 V.cycle, .int .i64 V.clock, .slice A0 V.globals.length c0, .slice A1 V.gs.length c1, .slice A2 V.objects.length c2, .int .i64 V.grey, .int .i64 V.notes, .int .i64 V.roots] 41)) = X at HB ⊢
  obtain ⟨b0, b1, b2, b3, b4, b5, b6, b7, b8⟩ := boxC HB.out.2
  go_wp2_with fail
  go_loopg [3] (V.gs.length + 1) (fun gk idx wr => AnyRel X (fun g : Gr => g.stack.length != 16) V.gs gk idx wr)
  case atStart => exact ⟨0, by omega, by omega, rfl, rfl, Chg.refl _ _⟩
  case round =>
    obtain ⟨i, hgk, hin, rfl, ht, C⟩ := hrel
    have CC := HB.out.1.trans C
    clear b0 b1 b2 b3 b4 b5 b6 b7 b8
    obtain ⟨b0, b1, b2, b3, b4, b5, b6, b7, b8⟩ := boxC (C.blk HB.out.2 (by simp))
    by_cases e : i < V.gs.length
    · obtain ⟨x, hx⟩ : ∃ x, V.gs[i]? = some x := ⟨_, List.getElem?_eq_getElem e⟩
      obtain ⟨q1, o1, s1, rfl, hb1, i0, i1, i2, hs1, -⟩ := (HG.out.chg CC (Nat.le_refl _) (by simp)).at_ i x hx
      obtain ⟨As, cs, rfl⟩ := hs1.ex
      have hi' : (i : Int) < (V.gs.length : Int) := by omega
      have hi0 : (0 : Int) ≤ (i : Int) := by omega
      have HX := Lib.hid (And.intro ht (And.intro C hx)); clear ht C hx hs1 hb1 CC
      by_cases hq : x.stack.length = 16
      · have q1 : ((x.stack.length : Int) != 16) = false := by simp [hq]
        have q2 : (x.stack.length != 16) = false := by simp [hq]
        have HQ := Lib.hid (any_no HX.out.1 HX.out.2.2 q2); clear hq
        go_wp2_with fail
        go_roundg (V.gs.length - i)
        case measure => omega
        case rel => exact ⟨i + 1, by omega, by omega, by go_num, HQ.out, HX.out.2.1⟩
      · have q1 : ((x.stack.length : Int) != 16) = true := by rw [bne_iff_ne]; omega
        have q2 : (x.stack.length != 16) = true := by rw [bne_iff_ne]; exact hq
        have HQ := Lib.hid (show (!brkNum V) = false by unfold brkNum; rw [any_yes HX.out.2.2 q2]; rfl); clear hq
        go_wp2_with fail
        try rw [Exit.noGoto_ret]
        go_ret
        exact ⟨by rw [HQ.out]; rfl, HB.out.1.trans HX.out.2.1⟩
    · have e2 : V.gs.length = i := by omega
      have hi' : ¬ (i : Int) < (V.gs.length : Int) := by omega
      rw [← e2, List.take_length] at ht
      have HX := Lib.hid (And.intro ht CC); clear ht C CC e2 hgk hin e
      by_cases p1 : V.phase < 0
      · have d1 : decide (0 ≤ V.phase) = false := decide_eq_false (by omega)
        have HE := Lib.hid (show (!brkNum V) = false by unfold brkNum numB; simp [p1])
        clear p1
        go_wp2_with fail
        go_ret
        exact ⟨by rw [HE.out]; rfl, HX.out.2⟩
      · have d1 : decide (0 ≤ V.phase) = true := decide_eq_true (by omega)
        by_cases p2 : 3 < V.phase
        · have d2 : decide (V.phase ≤ 3) = false := decide_eq_false (by omega)
          have HE := Lib.hid (show (!brkNum V) = false by unfold brkNum numB; simp [p2])
          clear p1 p2
          go_wp2_with fail
          go_ret
          exact ⟨by rw [HE.out]; rfl, HX.out.2⟩
        · have d2 : decide (V.phase ≤ 3) = true := decide_eq_true (by omega)
          by_cases p3 : V.cycle < 0
          · have d3 : decide (0 ≤ V.cycle) = false := decide_eq_false (by omega)
            have HE := Lib.hid (show (!brkNum V) = false by unfold brkNum numB; simp [p3])
            clear p1 p2 p3
            go_wp2_with fail
            go_ret
            exact ⟨by rw [HE.out]; rfl, HX.out.2⟩
          · have d3 : decide (0 ≤ V.cycle) = true := decide_eq_true (by omega)
            have HE := Lib.hid (show (!brkNum V) = decide (0 ≤ V.clock) by
              unfold brkNum numB; rw [HX.out.1]
              by_cases h : V.clock < 0
              · simp [p1, p2, p3, h]
              · simp [p1, p2, p3, h]; omega)
            clear p1 p2 p3
            go_wp2_with fail
            go_ret
            exact ⟨by rw [HE.out]; rfl, HX.out.2⟩
theorem rclean_ok (w : World) (v : Value) (V : Vw) (h : VwAt w w.heap.size v V) (hS : Small V) : Calls Tryz.prog 75 #[v] w (FdPostV (!brkMk V) w) := by
  have HV := Lib.hid h
  obtain ⟨g, A1, c1, A2, c2, rfl, h1, h2, h3, h4, h5⟩ := h.ex
  obtain ⟨A0, c0, rfl⟩ := h1.ex
  have C1 := (Chg.refl [] w).alloc (.cells (vwBox V A0 c0 A1 c1 A2 c2) 41)
  have B1 := Blk.new w 41 (vwBox V A0 c0 A1 c1 A2 c2)
  have HB := Lib.hid (And.intro C1 B1)
  have HG := Lib.hid h2
  have HO := Lib.hid h3
  have hO := hS.o
  have hG := hS.g
  unfold vwBox at HB
  clear C1 B1 h h1 h2 h3 h4 h5
  go_enter Tryz.func75, Tryz.ntmps75
  go_upto_region 1 with fail
  generalize (w.alloc (.cells #[.int .i64 V.phase, .int .i64 V.cycle, .int .i64 V.clock, .slice A0 V.globals.length c0, .slice A1 V.gs.length c1, .slice A2 V.objects.length c2, .int .i64 V.grey, .int .i64 V.notes, .int .i64 V.roots] 41)) = X at HB ⊢
  obtain ⟨b0, b1, b2, b3, b4, b5, b6, b7, b8⟩ := boxC HB.out.2
  go_wp2_with fail
  go_loopg [3] (V.objects.length + 1) (fun gk idx wr => AnyRel X (fun o : Ob => V.phase == 0 && o.marked) V.objects gk idx wr)
  case atStart => exact ⟨0, by omega, by omega, rfl, rfl, Chg.refl _ _⟩
  case round =>
    obtain ⟨i, hgk, hin, rfl, ht, C⟩ := hrel
    have CC := HB.out.1.trans C
    clear b0 b1 b2 b3 b4 b5 b6 b7 b8
    obtain ⟨b0, b1, b2, b3, b4, b5, b6, b7, b8⟩ := boxC (C.blk HB.out.2 (by simp))
    by_cases e : i < V.objects.length
    · obtain ⟨x, hx⟩ : ∃ x, V.objects[i]? = some x := ⟨_, List.getElem?_eq_getElem e⟩
      obtain ⟨q1, o1, s1, rfl, hb1, i0, i1, i2, hs1, -⟩ := (HO.out.chg CC (Nat.le_refl _) (by simp)).at_ i x hx
      obtain ⟨As, cs, rfl⟩ := hs1.ex
      have hi' : (i : Int) < (V.objects.length : Int) := by omega
      have hi0 : (0 : Int) ≤ (i : Int) := by omega
      have HX := Lib.hid (And.intro ht (And.intro C hx)); clear ht C hx hs1 hb1 CC
      by_cases hp : V.phase = 0
      · have p1 : (V.phase == 0) = true := by rw [beq_iff_eq]; exact hp
        cases hm : x.marked with
        | true =>
          rw [hm] at i2
          have HQ := Lib.hid (show (!brkMk V) = false by unfold brkMk; rw [p1, any_yes HX.out.2.2 hm]; rfl); clear hp hm
          go_wp2_with fail
          try rw [Exit.noGoto_ret]
          go_ret
          exact ⟨by rw [HQ.out]; rfl, HB.out.1.trans HX.out.2.1⟩
        | false =>
          rw [hm] at i2
          have HQ := Lib.hid (any_no (p := fun o : Ob => V.phase == 0 && o.marked) HX.out.1 HX.out.2.2 (by simp [hm])); clear hp hm
          go_wp2_with fail
          go_roundg (V.objects.length - i)
          case measure => omega
          case rel => exact ⟨i + 1, by omega, by omega, by go_num, HQ.out, HX.out.2.1⟩
      · have p1 : (V.phase == 0) = false := by rw [beq_eq_false_iff_ne]; exact hp
        have HQ := Lib.hid (any_no (p := fun o : Ob => V.phase == 0 && o.marked) HX.out.1 HX.out.2.2 (by simp [hp])); clear hp
        go_wp2_with fail
        go_roundg (V.objects.length - i)
        case measure => omega
        case rel => exact ⟨i + 1, by omega, by omega, by go_num, HQ.out, HX.out.2.1⟩
    · have e2 : V.objects.length = i := by omega
      have hi' : ¬ (i : Int) < (V.objects.length : Int) := by omega
      rw [← e2, List.take_length] at ht
      have HX := Lib.hid (And.intro ht CC); clear ht C CC e2 hgk hin e
      have HE := Lib.hid (show (!brkMk V) = true by
        unfold brkMk
        have h := HX.out.1
        cases hp : (V.phase == 0) with
        | false => rfl
        | true => simp only [hp, Bool.true_and] at h; rw [h]; rfl)
      go_wp2_with fail
      go_ret
      exact ⟨by rw [HE.out]; rfl, HX.out.2⟩
theorem rplaced_ok (w : World) (v : Value) (V : Vw) (ps : Int) (h : VwAt w w.heap.size v V) (hS : Small V) : Calls Tryz.prog 72 #[v, .int .i64 ps] w (FdPostV (!brkPl V ps) w) := by
  have HV := Lib.hid h
  obtain ⟨g, A1, c1, A2, c2, rfl, h1, h2, h3, h4, h5⟩ := h.ex
  obtain ⟨A0, c0, rfl⟩ := h1.ex
  have C1 := (Chg.refl [] w).alloc (.cells (vwBox V A0 c0 A1 c1 A2 c2) 41)
  have B1 := Blk.new w 41 (vwBox V A0 c0 A1 c1 A2 c2)
  have HB := Lib.hid (And.intro C1 B1)
  have HG := Lib.hid h2
  have HO := Lib.hid h3
  have hO := hS.o
  have hG := hS.g
  unfold vwBox at HB
  clear C1 B1 h h1 h2 h3 h4 h5
  go_enter Tryz.func72, Tryz.ntmps72
  go_upto_region 1 with fail
  generalize (w.alloc (.cells #[.int .i64 V.phase, .int .i64 V.cycle, .int .i64 V.clock, .slice A0 V.globals.length c0, .slice A1 V.gs.length c1, .slice A2 V.objects.length c2, .int .i64 V.grey, .int .i64 V.notes, .int .i64 V.roots] 41)) = X at HB ⊢
  obtain ⟨b0, b1, b2, b3, b4, b5, b6, b7, b8⟩ := boxC HB.out.2
  go_wp2_with fail
  go_loopg [5] (V.gs.length + 1) (fun gk idx wr => AnyRel X (badG ps) V.gs gk idx wr)
  case atStart => exact ⟨0, by omega, by omega, rfl, rfl, Chg.refl _ _⟩
  case round =>
    obtain ⟨i, hgk, hin, rfl, ht, C⟩ := hrel
    have CC := HB.out.1.trans C
    clear b0 b1 b2 b3 b4 b5 b6 b7 b8
    obtain ⟨b0, b1, b2, b3, b4, b5, b6, b7, b8⟩ := boxC (C.blk HB.out.2 (by simp))
    by_cases e : i < V.gs.length
    · obtain ⟨x, hx⟩ : ∃ x, V.gs[i]? = some x := ⟨_, List.getElem?_eq_getElem e⟩
      obtain ⟨q1, o1, s1, rfl, hb1, i0, i1, i2, hs1, -⟩ := (HG.out.chg CC (Nat.le_refl _) (by simp)).at_ i x hx
      obtain ⟨As, cs, rfl⟩ := hs1.ex
      have hi' : (i : Int) < (V.gs.length : Int) := by omega
      have hi0 : (0 : Int) ≤ (i : Int) := by omega
      have HX := Lib.hid (And.intro ht (And.intro C hx)); clear ht C hx hs1 hb1 CC
      by_cases h2 : x.state = 2
      · have q2 : (x.state == 2) = true := by rw [beq_iff_eq]; exact h2
        by_cases hp0 : 0 ≤ x.p
        · have d0 : decide (x.p < 0) = false := decide_eq_false (by omega)
          have d0' : ¬ x.p < 0 := by omega
          by_cases hp1 : x.p < ps
          · have d1 : decide (ps ≤ x.p) = false := decide_eq_false (by omega)
            have d1' : ¬ ps ≤ x.p := by omega
            have HQ := Lib.hid (any_no HX.out.1 HX.out.2.2 (show badG ps x = false by simp [badG, h2, hp0, hp1])); clear h2 hp0 hp1
            go_wp2_with fail
            go_roundg (V.gs.length - i)
            case measure => omega
            case rel => exact ⟨i + 1, by omega, by omega, by go_num, HQ.out, HX.out.2.1⟩
          · have d1 : decide (ps ≤ x.p) = true := decide_eq_true (by omega)
            have d1' : ps ≤ x.p := by omega
            have HQ := Lib.hid (show (!brkPl V ps) = false by unfold brkPl; rw [any_yes HX.out.2.2 (show badG ps x = true by simp [badG, h2]; omega)]; rfl); clear h2 hp0 hp1
            go_wp2_with fail
            try rw [Exit.noGoto_ret]
            go_ret
            exact ⟨by rw [HQ.out]; rfl, HB.out.1.trans HX.out.2.1⟩
        · have d0 : decide (x.p < 0) = true := decide_eq_true (by omega)
          have d0' : x.p < 0 := by omega
          have HQ := Lib.hid (show (!brkPl V ps) = false by unfold brkPl; rw [any_yes HX.out.2.2 (show badG ps x = true by simp [badG, h2, hp0])]; rfl); clear h2 hp0
          go_wp2_with fail
          try rw [Exit.noGoto_ret]
          go_ret
          exact ⟨by rw [HQ.out]; rfl, HB.out.1.trans HX.out.2.1⟩
      · have q2 : (x.state == 2) = false := by rw [beq_eq_false_iff_ne]; exact h2
        by_cases h1 : x.state = 1
        · have q3 : (x.state == 1) = true := by rw [beq_iff_eq]; exact h1
          by_cases hp0 : -1 ≤ x.p
          · have d0 : decide (x.p < -1) = false := decide_eq_false (by omega)
            have d0' : ¬ x.p < -1 := by omega
            by_cases hp1 : x.p < ps
            · have d1 : decide (ps ≤ x.p) = false := decide_eq_false (by omega)
              have d1' : ¬ ps ≤ x.p := by omega
              have HQ := Lib.hid (any_no HX.out.1 HX.out.2.2 (show badG ps x = false by simp [badG, h1, hp0, hp1])); clear h1 h2 hp0 hp1
              go_wp2_with fail
              go_roundg (V.gs.length - i)
              case measure => omega
              case rel => exact ⟨i + 1, by omega, by omega, by go_num, HQ.out, HX.out.2.1⟩
            · have d1 : decide (ps ≤ x.p) = true := decide_eq_true (by omega)
              have d1' : ps ≤ x.p := by omega
              have HQ := Lib.hid (show (!brkPl V ps) = false by unfold brkPl; rw [any_yes HX.out.2.2 (show badG ps x = true by simp [badG, h1]; omega)]; rfl); clear h1 h2 hp0 hp1
              go_wp2_with fail
              try rw [Exit.noGoto_ret]
              go_ret
              exact ⟨by rw [HQ.out]; rfl, HB.out.1.trans HX.out.2.1⟩
          · have d0 : decide (x.p < -1) = true := decide_eq_true (by omega)
            have d0' : x.p < -1 := by omega
            have HQ := Lib.hid (show (!brkPl V ps) = false by unfold brkPl; rw [any_yes HX.out.2.2 (show badG ps x = true by simp [badG, h1, hp0])]; rfl); clear h1 h2 hp0
            go_wp2_with fail
            try rw [Exit.noGoto_ret]
            go_ret
            exact ⟨by rw [HQ.out]; rfl, HB.out.1.trans HX.out.2.1⟩
        · have q3 : (x.state == 1) = false := by rw [beq_eq_false_iff_ne]; exact h1
          by_cases hp0 : x.p = -1
          · have d0 : (x.p != -1) = false := by rw [bne_eq_false_iff_eq]; exact hp0
            have HQ := Lib.hid (any_no HX.out.1 HX.out.2.2 (show badG ps x = false by simp [badG, h1, h2, hp0])); clear h1 h2 hp0
            go_wp2_with fail
            go_roundg (V.gs.length - i)
            case measure => omega
            case rel => exact ⟨i + 1, by omega, by omega, by go_num, HQ.out, HX.out.2.1⟩
          · have d0 : (x.p != -1) = true := by rw [bne_iff_ne]; exact hp0
            have HQ := Lib.hid (show (!brkPl V ps) = false by unfold brkPl; rw [any_yes HX.out.2.2 (show badG ps x = true by simp [badG, h1, h2, hp0])]; rfl); clear h1 h2 hp0
            go_wp2_with fail
            try rw [Exit.noGoto_ret]
            go_ret
            exact ⟨by rw [HQ.out]; rfl, HB.out.1.trans HX.out.2.1⟩
    · have e2 : V.gs.length = i := by omega
      have hi' : ¬ (i : Int) < (V.gs.length : Int) := by omega
      rw [← e2, List.take_length] at ht
      have HX := Lib.hid (And.intro ht CC); clear ht C CC e2 hgk hin e
      have HE := Lib.hid (show (!brkPl V ps) = true by unfold brkPl; rw [HX.out.1]; rfl)
      go_wp2_with fail
      go_ret
      exact ⟨by rw [HE.out]; rfl, HX.out.2⟩
def szCells : Array Value := #[.int .i64 1, .int .i64 2, .int .i64 3, .int .i64 4, .int .i64 6, .int .i64 8, .int .i64 12, .int .i64 16, .int .i64 24, .int .i64 32, .int .i64 48, .int .i64 64, .int .i64 96, .int .i64 128, .int .i64 192, .int .i64 256]
def SzsPostV (w : World) (e : Ending) (w' : World) : Prop := e = .returned (.slice (some ⟨w.heap.size, 0, none⟩) 16 16) ∧ Blk w' w.heap.size 3 szCells ∧ Chg [] w w'
theorem rsizes_okV (w : World) : Calls Tryz.prog 265 #[] w (SzsPostV w) := by
  have C := (Chg.refl [] w).alloc (.cells szCells 3)
  have B := Blk.new w 3 szCells
  have HC := Lib.hid (And.intro C B); clear C B
  unfold szCells at HC
  go_enter Tryz.func265, Tryz.ntmps265
  go_wp2_with fail
  go_ret
  exact ⟨rfl, HC.out.2, HC.out.1⟩
theorem szCells_get (k : Nat) (hk : k < 16) : szCells[k]? = some (.int .i64 (clsL.getD k 0 : Nat)) :=
  match k, hk with
  | 0, _ => rfl | 1, _ => rfl | 2, _ => rfl | 3, _ => rfl | 4, _ => rfl | 5, _ => rfl | 6, _ => rfl | 7, _ => rfl
  | 8, _ => rfl | 9, _ => rfl | 10, _ => rfl | 11, _ => rfl | 12, _ => rfl | 13, _ => rfl | 14, _ => rfl | 15, _ => rfl
  | n + 16, h => absurd h (by omega)
theorem rsize1_ok (w : World) (k : Int) : Calls Tryz.prog 178 #[.int .i64 k] w (CtPostV (clsSz k) w) := by
  rcases Int.lt_or_le k 0 with h1 | h1
  · have HS := Lib.hid (clsSz_out (.inl h1))
    go_enter Tryz.func178, Tryz.ntmps178
    go_wp2_with fail
    go_ret
    exact ⟨by rw [HS.out]; rfl, Chg.refl _ _⟩
  · rcases Int.lt_or_le k 16 with h2 | h2
    · obtain ⟨n, rfl⟩ := Int.eq_ofNat_of_zero_le h1
      have hn : n < 16 := by omega
      have HS := Lib.hid (clsSz_in hn)
      have h3 : ¬ (n : Int) < 0 := by omega
      have h4 : ¬ (15 : Int) < (n : Int) := by omega
      have h5 : ¬ 15 < n := by omega
      have h6 : (n : Int) < 16 := by omega
      go_enter Tryz.func178, Tryz.ntmps178
      go_wp2_with fail
      refine (rsizes_okV w).mono ?_
      rintro e w1 ⟨rfl, B1, c1⟩
      have z := B1.cellv n (szCells_get n hn)
      have HC := Lib.hid c1; clear c1 B1
      go_wp2_with fail
      go_ret
      exact ⟨by rw [HS.out]; rfl, HC.out⟩
    · have HS := Lib.hid (clsSz_out (.inr h2))
      have h3 : ¬ k < 0 := by omega
      have h4 : (15 : Int) < k := by omega
      go_enter Tryz.func178, Tryz.ntmps178
      go_wp2_with fail
      go_ret
      exact ⟨by rw [HS.out]; rfl, Chg.refl _ _⟩
def RoRelV (w0 : World) (n : Int) (gk : Nat) (idx : Value) (w : World) : Prop := ∃ k, gk + k = 17 ∧ k ≤ 15 ∧ idx = .int .i64 (k : Nat) ∧ (∀ j, j < k → (clsL.getD j 0 : Int) < n) ∧ Chg [] w0 w
theorem rof_okV (w : World) (n : Int) : Calls Tryz.prog 179 #[.int .i64 n] w (CtPostV (clsOf n) w) := by
  by_cases h0 : 1 ≤ n
  · by_cases h1 : n ≤ 256
    · have h2 : ¬ n < 1 := by omega
      have h3 : ¬ 256 < n := by omega
      go_enter Tryz.func179, Tryz.ntmps179
      go_wp2_with fail
      go_loopg [3] 17 (fun gk idx wr => RoRelV w n gk idx wr)
      case atStart => exact ⟨0, by omega, by omega, rfl, fun j hj => by omega, Chg.refl _ _⟩
      case round =>
        obtain ⟨k, hgk, hk, rfl, hp, c⟩ := hrel
        have hk0 : (0 : Int) ≤ (k : Int) := by omega
        have HP := Lib.hid (And.intro hp c); clear hp c
        go_wp2_with fail
        refine (rsize1_ok _ _).mono ?_
        rintro e w1 ⟨rfl, c1⟩
        rw [clsSz_in (by omega : k < 16)]
        obtain ⟨s, hs⟩ : ∃ s, s = clsL.getD k 0 := ⟨_, rfl⟩
        rw [← hs]
        have HS := Lib.hid (And.intro hs (HP.out.2.trans c1)); clear hs c1
        by_cases h4 : (s : Int) < n
        · have hk15 : k < 15 := by
            rcases Nat.lt_or_ge k 15 with h5 | h5
            · exact h5
            · have e : k = 15 := by omega
              have := HS.out.1
              rw [e] at this
              have e2 : clsL.getD 15 0 = 256 := rfl
              omega
          go_wp2_with fail
          go_roundg (16 - k)
          case measure => omega
          case rel => exact ⟨k + 1, by omega, by omega, by go_num, fun j hj => by
            rcases Nat.lt_or_ge j k with g | g
            · exact HP.out.1 j g
            · have e2 : j = k := by omega
              rw [e2, ← HS.out.1]; exact h4, HS.out.2⟩
        · have HF := Lib.hid (clsOf_found h0 (by omega : k < 16) HP.out.1 (by rw [← HS.out.1]; omega))
          go_wp2_with fail
          go_ret
          exact ⟨by rw [HF.out]; rfl, HS.out.2⟩
    · have h3 : (256 : Int) < n := by omega
      have h2 : ¬ n < 1 := by omega
      have HS := Lib.hid (show clsOf n = -1 by unfold clsOf; rw [if_neg (by omega)])
      go_enter Tryz.func179, Tryz.ntmps179
      go_wp2_with fail
      go_ret
      exact ⟨by rw [HS.out]; rfl, Chg.refl _ _⟩
  · have h2 : n < 1 := by omega
    have HS := Lib.hid (show clsOf n = -1 by unfold clsOf; rw [if_neg (by omega)])
    go_enter Tryz.func179, Tryz.ntmps179
    go_wp2_with fail
    go_ret
    exact ⟨by rw [HS.out]; rfl, Chg.refl _ _⟩
theorem clsSz_of (n : Nat) : clsSz (clsOf (n : Int)) = (owN n : Int) := by
  by_cases h : 1 ≤ n ∧ n ≤ 256
  · obtain ⟨k, _, h1, h2⟩ := clsOf_yes h
    rw [h1, h2]
  · obtain ⟨h1, h2⟩ := clsOf_no h
    rw [h1, h2, clsSz_out (.inl (by omega))]; rfl
theorem rsz_ok (w : World) (a : Int) (A : Option Addr) (n c : Nat) (m : Bool) (_ : n ≤ 9223372036854775807) : Calls Tryz.prog 118 #[.agg #[.int .i64 a, .slice A n c, .bool m]] w (CtPostV (owN n : Nat) w) := by
  have C1 := Lib.hid ((Chg.refl [] w).alloc (.cells #[.int .i64 a, .slice A n c, .bool m] 123))
  go_enter Tryz.func118, Tryz.ntmps118
  go_wp2_with fail
  refine (rof_okV _ _).mono ?_
  rintro e w1 ⟨rfl, c1⟩
  have C2 := Lib.hid (C1.out.trans c1); clear c1
  go_wp2_with fail
  refine (rsize1_ok _ _).mono ?_
  rintro e w2 ⟨rfl, c2⟩
  have C3 := Lib.hid (C2.out.trans c2); clear c2
  rw [clsSz_of]
  go_wp2_with fail
  go_ret
  exact ⟨rfl, C3.out⟩
end Go.Proofs.YtcpljjacamibeaaGreatDoor
