/- The walks of package audit: places, twice, size. -/
import Derived.Test.YtfkgooliglcjkaaAu1
import Derived.Test.YtfkgooliglcjkaaRfRoots
import Derived.Test.YtfkgooliglcjkaaVwPath
namespace Go.Proofs.Ytfkgooliglcjkaa
open Go.RowKit Go.Maps

def badG (ps : Int) (g : Gr) : Bool := !(if g.state = 2 then decide (0 ≤ g.p ∧ g.p < ps) else if g.state = 1 then decide (-1 ≤ g.p ∧ g.p < ps) else decide (g.p = -1))
def brkPl (V : Vw) (ps : Int) : Bool := V.gs.any (badG ps)
def runL (gs : List Gr) : List Int := (gs.filter fun g => g.state == 2).map (·.p)
def brkTw (V : Vw) : Bool := !decide (runL V.gs).Nodup
def runP (gs : List Gr) (i : Nat) : List Int := ((gs.take i).filter fun g => g.state == 2).map (·.p)
theorem runP_len (gs : List Gr) (i : Nat) : (runP gs i).length ≤ gs.length := by
  unfold runP
  rw [List.length_map]
  have := List.length_filter_le (fun g : Gr => g.state == 2) (gs.take i)
  have : (gs.take i).length ≤ gs.length := by simp; omega
  omega
theorem runP_no {gs : List Gr} {i : Nat} {x : Gr} (hx : gs[i]? = some x) (h : ¬ x.state = 2) : runP gs (i + 1) = runP gs i := by
  unfold runP; rw [take_sn hx, List.filter_append, List.map_append]; simp [h]
theorem runP_suc {gs : List Gr} {i : Nat} {x : Gr} (hx : gs[i]? = some x) (h : x.state = 2) : runP gs (i + 1) = runP gs i ++ [x.p] := by
  unfold runP; rw [take_sn hx, List.filter_append, List.map_append]; simp [h]
theorem runP_yes {gs : List Gr} {i : Nat} {x : Gr} (hx : gs[i]? = some x) (h : x.state = 2) (hm : x.p ∉ runP gs i) (hn : (runP gs i).Nodup) : runP gs (i + 1) = runP gs i ++ [x.p] ∧ (runP gs (i + 1)).Nodup := by
  have e := runP_suc hx h
  refine ⟨e, ?_⟩
  rw [e, List.nodup_append]
  exact ⟨hn, by simp, fun a ha b hb => by simp at hb; subst hb; rintro rfl; exact hm ha⟩
theorem runP_bad {V : Vw} {i : Nat} {x : Gr} (hx : V.gs[i]? = some x) (h : x.state = 2) (hm : x.p ∈ runP V.gs i) : brkTw V = true := by
  unfold brkTw
  rw [decide_eq_false (fun hn : (runL V.gs).Nodup => ?_)]
  · rfl
  have e : runL V.gs = runP V.gs (i + 1) ++ ((V.gs.drop (i + 1)).filter fun g => g.state == 2).map (·.p) := by
    unfold runL runP
    rw [← List.map_append, ← List.filter_append, List.take_append_drop]
  rw [e, runP_suc hx h] at hn
  have h1 := (List.nodup_append.1 (List.nodup_append.1 hn).1).2.2
  exact h1 _ hm _ (by simp) rfl
def TwRel (w0 : World) (gs : List Gr) (gk : Nat) (v idx : Value) (w : World) : Prop :=
  ∃ i, gk + i = gs.length + 1 ∧ i ≤ gs.length ∧ idx = .int .i64 (i : Nat) ∧ (runP gs i).Nodup ∧ OwnI 3 w v (runP gs i) ∧ Chg [] w0 w ∧ ∀ k ∈ fpv v, w0.heap.size ≤ k
set_option maxHeartbeats 6400000 in
set_option maxRecDepth 100000 in
theorem aplaces_ok (w : World) (v : Value) (V : Vw) (ps : Int) (h : VwAt w w.heap.size v V) (hS : Small V) : Calls Try.prog 78 #[v, .int .i64 ps] w (FdPost (brkPl V ps) w) := by
  have HV := Lib.hid h
  obtain ⟨g, A1, c1, A2, c2, rfl, h1, h2, h3, h4, h5⟩ := h.ex
  obtain ⟨A0, c0, rfl⟩ := h1.ex
  have C1 := (Chg.refl [] w).alloc (.cells (vwBox V A0 c0 A1 c1 A2 c2) 26)
  have B1 := Blk.new w 26 (vwBox V A0 c0 A1 c1 A2 c2)
  have HB := Lib.hid (And.intro C1 B1)
  have HG := Lib.hid h2
  have HO := Lib.hid h3
  have hO := hS.o
  have hG := hS.g
  unfold vwBox at HB
  clear C1 B1 h h1 h2 h3 h4 h5
  go_enter Try.func78, Try.ntmps78
  go_upto_region 1 with fail
  generalize (w.alloc (.cells #[.int .i64 V.phase, .int .i64 V.cycle, .int .i64 V.clock, .slice A0 V.globals.length c0, .slice A1 V.gs.length c1, .slice A2 V.objects.length c2, .int .i64 V.grey, .int .i64 V.notes, .int .i64 V.roots] 26)) = X at HB ⊢
  obtain ⟨b0, b1, b2, b3, b4, b5, b6, b7, b8⟩ := boxC HB.out.2
  clear b0 b1 b2 b3 b5 b6 b7 b8
  go_wp2_with fail
  go_loopg [11] (V.gs.length + 1) (fun gk idx wr => AnyRel X (badG ps) V.gs gk idx wr)
  case atStart => exact ⟨0, by omega, by omega, rfl, rfl, Chg.refl _ _⟩
  case round =>
    obtain ⟨i, hgk, hin, rfl, ht, C⟩ := hrel
    have CC := HB.out.1.trans C
    by_cases e : i < V.gs.length
    · obtain ⟨x, hx⟩ : ∃ x, V.gs[i]? = some x := ⟨_, List.getElem?_eq_getElem e⟩
      obtain ⟨b1, o1, s1, rfl, hb1, i0, i1, i2, hs1, -⟩ := (HG.out.chg CC (Nat.le_refl _) (by simp)).at_ i x hx
      obtain ⟨As, cs, rfl⟩ := hs1.ex
      have hi' : (i : Int) < (V.gs.length : Int) := by omega
      have CN := C.alloc (.cells #[.int .i64 x.state, .int .i64 x.p, .slice As x.stack.length cs] 41)
      have HX := Lib.hid (And.intro ht (And.intro CN hx)); clear ht C CN hx hs1 hb1 CC
      by_cases h2 : x.state = 2
      · have q2 : (x.state == 2) = true := by rw [beq_iff_eq]; exact h2
        by_cases hp0 : 0 ≤ x.p
        · have d0 : decide (0 ≤ x.p) = true := decide_eq_true hp0
          by_cases hp1 : x.p < ps
          · have d1 : decide (x.p < ps) = true := decide_eq_true hp1
            have HQ := Lib.hid (any_no HX.out.1 HX.out.2.2 (show badG ps x = false by simp [badG, h2, hp0, hp1])); clear h2 hp0 hp1
            go_wp2_with fail
            go_roundg (V.gs.length - i)
            case measure => omega
            case rel => exact ⟨i + 1, by omega, by omega, by go_num, HQ.out, HX.out.2.1⟩
          · have d1 : decide (x.p < ps) = false := decide_eq_false hp1
            have HQ := Lib.hid (show brkPl V ps = true from any_yes HX.out.2.2 (show badG ps x = true by simp [badG, h2, hp1])); clear h2 hp1
            go_wp2_with fail
            try rw [Exit.noGoto_ret]
            go_ret
            exact ⟨by rw [HQ.out]; rfl, HB.out.1.trans HX.out.2.1⟩
        · have d0 : decide (0 ≤ x.p) = false := decide_eq_false hp0
          have HQ := Lib.hid (show brkPl V ps = true from any_yes HX.out.2.2 (show badG ps x = true by simp [badG, h2, hp0])); clear h2 hp0
          go_wp2_with fail
          try rw [Exit.noGoto_ret]
          go_ret
          exact ⟨by rw [HQ.out]; rfl, HB.out.1.trans HX.out.2.1⟩
      · have q2 : (x.state == 2) = false := by rw [beq_eq_false_iff_ne]; exact h2
        by_cases h1 : x.state = 1
        · have q1 : (x.state == 1) = true := by rw [beq_iff_eq]; exact h1
          by_cases hp0 : -1 ≤ x.p
          · have d0 : decide (-1 ≤ x.p) = true := decide_eq_true hp0
            by_cases hp1 : x.p < ps
            · have d1 : decide (x.p < ps) = true := decide_eq_true hp1
              have HQ := Lib.hid (any_no HX.out.1 HX.out.2.2 (show badG ps x = false by simp [badG, h1, hp0, hp1])); clear h1 h2 hp0 hp1
              go_wp2_with fail
              go_roundg (V.gs.length - i)
              case measure => omega
              case rel => exact ⟨i + 1, by omega, by omega, by go_num, HQ.out, HX.out.2.1⟩
            · have d1 : decide (x.p < ps) = false := decide_eq_false hp1
              have HQ := Lib.hid (show brkPl V ps = true from any_yes HX.out.2.2 (show badG ps x = true by simp [badG, h1, hp1])); clear h1 h2 hp1
              go_wp2_with fail
              try rw [Exit.noGoto_ret]
              go_ret
              exact ⟨by rw [HQ.out]; rfl, HB.out.1.trans HX.out.2.1⟩
          · have d0 : decide (-1 ≤ x.p) = false := decide_eq_false hp0
            have HQ := Lib.hid (show brkPl V ps = true from any_yes HX.out.2.2 (show badG ps x = true by simp [badG, h1, hp0])); clear h1 h2 hp0
            go_wp2_with fail
            try rw [Exit.noGoto_ret]
            go_ret
            exact ⟨by rw [HQ.out]; rfl, HB.out.1.trans HX.out.2.1⟩
        · have q1 : (x.state == 1) = false := by rw [beq_eq_false_iff_ne]; exact h1
          by_cases hp0 : x.p = -1
          · have d0 : (x.p == -1) = true := by rw [beq_iff_eq]; exact hp0
            have HQ := Lib.hid (any_no HX.out.1 HX.out.2.2 (show badG ps x = false by simp [badG, h1, h2, hp0])); clear h1 h2 hp0
            go_wp2_with fail
            go_roundg (V.gs.length - i)
            case measure => omega
            case rel => exact ⟨i + 1, by omega, by omega, by go_num, HQ.out, HX.out.2.1⟩
          · have d0 : (x.p == -1) = false := by rw [beq_eq_false_iff_ne]; exact hp0
            have HQ := Lib.hid (show brkPl V ps = true from any_yes HX.out.2.2 (show badG ps x = true by simp [badG, h1, h2, hp0])); clear h1 h2 hp0
            go_wp2_with fail
            try rw [Exit.noGoto_ret]
            go_ret
            exact ⟨by rw [HQ.out]; rfl, HB.out.1.trans HX.out.2.1⟩
    · have e2 : V.gs.length = i := by omega
      have hi' : ¬ (i : Int) < (V.gs.length : Int) := by omega
      rw [← e2, List.take_length] at ht
      have HX := Lib.hid (And.intro ht CC); clear ht C CC e2 hgk hin e
      have HE := Lib.hid (show brkPl V ps = false from HX.out.1)
      go_wp2_with fail
      go_ret
      exact ⟨by rw [HE.out]; rfl, HX.out.2⟩
set_option maxHeartbeats 6400000 in
set_option maxRecDepth 100000 in
theorem atwice_ok (w : World) (v : Value) (V : Vw) (ps : Int) (h : VwAt w w.heap.size v V) (hS : Small V) : Calls Try.prog 77 #[v, .int .i64 ps] w (FdPost (brkTw V) w) := by
  have HV := Lib.hid h
  obtain ⟨g, A1, c1, A2, c2, rfl, h1, h2, h3, h4, h5⟩ := h.ex
  obtain ⟨A0, c0, rfl⟩ := h1.ex
  have C1 := (Chg.refl [] w).alloc (.cells (vwBox V A0 c0 A1 c1 A2 c2) 26)
  have B1 := Blk.new w 26 (vwBox V A0 c0 A1 c1 A2 c2)
  have HB := Lib.hid (And.intro C1 B1)
  have HG := Lib.hid h2
  have HO := Lib.hid h3
  have hO := hS.o
  have hG := hS.g
  unfold vwBox at HB
  clear C1 B1 h h1 h2 h3 h4 h5
  go_enter Try.func77, Try.ntmps77
  go_upto_region 1 with fail
  generalize (w.alloc (.cells #[.int .i64 V.phase, .int .i64 V.cycle, .int .i64 V.clock, .slice A0 V.globals.length c0, .slice A1 V.gs.length c1, .slice A2 V.objects.length c2, .int .i64 V.grey, .int .i64 V.notes, .int .i64 V.roots] 26)) = X at HB ⊢
  obtain ⟨b0, b1, b2, b3, b4, b5, b6, b7, b8⟩ := boxC HB.out.2
  clear b0 b1 b2 b3 b5 b6 b7 b8
  go_wp2_with fail
  go_loopg [5, 11] (V.gs.length + 1) (fun gk v idx wr => TwRel X V.gs gk v idx wr)
  case atStart => exact ⟨0, by omega, by omega, rfl, List.nodup_nil, OwnI.nil _ _, Chg.refl _ _, by simp [fpv, Value.ownBlock]⟩
  case round =>
    obtain ⟨i, hgk, hin, rfl, ht, O, C, F⟩ := hrel
    have CC := HB.out.1.trans C
    have hrl := runP_len V.gs i
    obtain ⟨Ao, ko, rfl⟩ := O.slice
    by_cases e : i < V.gs.length
    · obtain ⟨x, hx⟩ : ∃ x, V.gs[i]? = some x := ⟨_, List.getElem?_eq_getElem e⟩
      obtain ⟨b1, o1, s1, rfl, hb1, i0, i1, i2, hs1, hwx⟩ := (HG.out.chg CC (Nat.le_refl _) (by simp)).at_ i x hx
      obtain ⟨As, cs, rfl⟩ := hs1.ex
      have hi' : (i : Int) < (V.gs.length : Int) := by omega
      have CN := C.alloc (.cells #[.int .i64 x.state, .int .i64 x.p, .slice As x.stack.length cs] 41)
      have ON := O.alloc (.cells #[.int .i64 x.state, .int .i64 x.p, .slice As x.stack.length cs] 41)
      have hwl : ∀ y ∈ runP V.gs i, WfI y := fun y hy => by
        obtain ⟨g, hg, rfl⟩ := List.mem_map.1 hy
        obtain ⟨j, hj⟩ := List.getElem?_of_mem (List.mem_of_mem_take (List.mem_filter.1 hg).1)
        obtain ⟨_, _, _, _, _, _, _, _, _, hw⟩ := HG.out.at_ j g hj
        exact hw.2
      have HX := Lib.hid (And.intro ht (And.intro CN (And.intro hx (And.intro ON (And.intro F hwl))))); clear ht C CN hx hs1 hb1 CC O ON F hwl hwx
      by_cases h2 : x.state = 2
      · have q2 : (x.state != 2) = false := by rw [bne_eq_false_iff_eq]; exact h2
        have H2 := Lib.hid h2; clear h2
        go_upto_region 6 with fail
        have K := Blk.new wr 41 #[.int .i64 x.state, .int .i64 x.p, .slice As x.stack.length cs]
        have HW := Lib.hid (And.intro HX.out.2.1 (And.intro HX.out.2.2.2.1 K)); clear K
        generalize (wr.alloc (.cells #[.int .i64 x.state, .int .i64 x.p, .slice As x.stack.length cs] 41)) = W1 at HW ⊢
        generalize wr.heap.size = gg at HW ⊢
        have z1 := HW.out.2.2.cellv 1 rfl
        clear i0 i1 i2
        go_wp2_with fail
        refine (contains_sl (HW.out.2.1.sl HX.out.2.2.2.2.2 (by unfold maxLen; omega)) x.p).mono ?_
        rintro e w2 ⟨rfl, rfl⟩
        by_cases hm : x.p ∈ runP V.gs i
        · have hc : (runP V.gs i).contains x.p = true := by simpa using hm
          rw [hc]
          have HQ := Lib.hid (runP_bad HX.out.2.2.1 H2.out hm); clear hm hc
          go_wp2_with fail
          try rw [Exit.noGoto_ret]
          go_ret
          exact ⟨by rw [HQ.out]; rfl, HB.out.1.trans HW.out.1⟩
        · have hc : (runP V.gs i).contains x.p = false := by simpa using hm
          rw [hc]
          have HQ := Lib.hid (runP_yes HX.out.2.2.1 H2.out hm HX.out.1); clear hm hc
          go_wp2_with (at_builtin; refine wpList_push_int rfl _ _ rfl slty rfl HW.out.2.1 rfl (by omega) ?_)
          intro A' c' w3 O3 S3
          have HN := Lib.hid (And.intro O3 (stp_new HW.out.1 HX.out.2.2.2.2.1 S3)); clear O3 S3 z1
          go_wp2_with fail
          go_roundg (V.gs.length - i)
          case measure => omega
          case rel => exact ⟨i + 1, by omega, by omega, by go_num, HQ.out.2, by rw [HQ.out.1]; exact HN.out.1, HN.out.2.1, HN.out.2.2⟩
      · have q2 : (x.state != 2) = true := by rw [bne_iff_ne]; exact h2
        have HQ := Lib.hid (runP_no HX.out.2.2.1 h2); clear h2
        go_wp2_with fail
        go_roundg (V.gs.length - i)
        case measure => omega
        case rel => exact ⟨i + 1, by omega, by omega, by go_num, by rw [HQ.out]; exact HX.out.1, by rw [HQ.out]; exact HX.out.2.2.2.1, HX.out.2.1, HX.out.2.2.2.2.1⟩
    · have e2 : V.gs.length = i := by omega
      have hi' : ¬ (i : Int) < (V.gs.length : Int) := by omega
      have HE := Lib.hid (show brkTw V = false by
        rw [← e2] at ht
        unfold runP at ht
        rw [List.take_length] at ht
        unfold brkTw runL; rw [decide_eq_true ht]; rfl)
      have HX := Lib.hid CC; clear ht C CC e2 hgk hin e O F
      go_wp2_with fail
      go_ret
      exact ⟨by rw [HE.out]; rfl, HX.out⟩
set_option maxHeartbeats 800000 in
theorem asize_ok (w : World) (a : Int) (A : Option Addr) (n c : Nat) (m : Bool) (_ : n ≤ 9223372036854775807) : Calls Try.prog 87 #[.agg #[.int .i64 a, .slice A n c, .bool m]] w (CtPost (owN n : Nat) w) := by
  have C1 := Lib.hid ((Chg.refl [] w).alloc (.cells #[.int .i64 a, .slice A n c, .bool m] 30))
  go_enter Try.func87, Try.ntmps87
  go_wp2_with fail
  refine (of_ok _ _).mono ?_
  rintro e w1 ⟨rfl, c1⟩
  have C2 := Lib.hid (C1.out.trans c1); clear c1
  by_cases h : 1 ≤ n ∧ n ≤ 256
  · obtain ⟨k, hk, hk1, hk2⟩ := clsOf_yes h
    rw [hk1]
    have hk3 : (0 : Int) ≤ (k : Int) := by omega
    have HK := Lib.hid hk2; clear hk1 hk2 h
    go_wp2_with fail
    refine (size_ok _ _).mono ?_
    rintro e w2 ⟨rfl, c2⟩
    have C3 := Lib.hid (C2.out.trans c2); clear c2
    rw [HK.out]
    go_wp2_with fail
    go_ret
    exact ⟨rfl, C3.out⟩
  · obtain ⟨hk1, hk2⟩ := clsOf_no h
    rw [hk1]
    have HK := Lib.hid hk2; clear hk1 hk2 h
    go_wp2_with fail
    go_ret
    exact ⟨by rw [HK.out]; rfl, C2.out⟩
end Go.Proofs.Ytfkgooliglcjkaa
