/- The walks of the document's twice, apart, Text. -/
import Derived.Test.YtcpljjacamibeaaGreatDoorVvAu6J
namespace Go.Proofs.YtcpljjacamibeaaGreatDoor
set_option maxHeartbeats 16000000
set_option maxRecDepth 100000
open Go.RowKit Go.Maps
theorem runL_pair (gs : List Gr) : (runL gs).Nodup ↔ gs.Pairwise (fun a b => a.state = 2 → b.state = 2 → a.p ≠ b.p) := by
  unfold runL List.Nodup
  rw [List.pairwise_map, List.pairwise_filter]
  simp only [beq_iff_eq]
theorem brkTw_yes {V : Vw} {i k : Nat} {x y : Gr} (hk : k < i) (hx : V.gs[i]? = some x) (hy : V.gs[k]? = some y) (h1 : x.state = 2) (h2 : y.state = 2) (h3 : x.p = y.p) : brkTw V = true := by
  unfold brkTw
  rw [decide_eq_false (fun hn : (runL V.gs).Nodup => ?_)]
  · rfl
  rw [runL_pair, List.pairwise_iff_getElem] at hn
  obtain ⟨hi, rfl⟩ := List.getElem?_eq_some_iff.1 hx
  obtain ⟨hk2, rfl⟩ := List.getElem?_eq_some_iff.1 hy
  exact hn k i hk2 hi hk h2 h1 h3.symm
def TwOk (gs : List Gr) (i b : Nat) : Prop := ∀ x y, gs[i]? = some x → gs[b]? = some y → x.state = 2 → y.state = 2 → x.p ≠ y.p
theorem brkTw_no {V : Vw} (h : ∀ a b, b < a ∧ a < V.gs.length → TwOk V.gs a b) : brkTw V = false := by
  unfold brkTw
  have : (runL V.gs).Nodup := by
    rw [runL_pair, List.pairwise_iff_getElem]
    intro k i hk hi hki h2 h1
    exact fun e => h i k ⟨hki, hi⟩ _ _ (List.getElem?_eq_getElem hi) (List.getElem?_eq_getElem hk) h1 h2 e.symm
  rw [decide_eq_true this]; rfl
theorem tw_suc {gs : List Gr} {i k : Nat} {x y : Gr} (h : ∀ b, b < k → TwOk gs i b) (hx : gs[i]? = some x) (hy : gs[k]? = some y) (hn : x.state = 2 → y.state = 2 → ¬ x.p = y.p) : ∀ b, b < k + 1 → TwOk gs i b := by
  intro b hb
  rcases Nat.lt_or_ge b k with h1 | h1
  · exact h b h1
  · have e : b = k := by omega
    subst e
    intro x' y' hx' hy' h2 h3
    rw [hx] at hx'; injection hx' with hx'; subst hx'
    rw [hy] at hy'; injection hy' with hy'; subst hy'
    exact hn h2 h3
theorem tw_all {gs : List Gr} {i : Nat} (h : ∀ a b, b < a ∧ a < i → TwOk gs a b) (h2 : ∀ b, b < i → TwOk gs i b) : ∀ a b, b < a ∧ a < i + 1 → TwOk gs a b := by
  intro a b hab
  rcases Nat.lt_or_ge a i with h1 | h1
  · exact h a b ⟨hab.1, h1⟩
  · have e : a = i := by omega
    subst e
    exact h2 b hab.1
def Tw1Rel (w0 : World) (gs : List Gr) (gk : Nat) (idx : Value) (w : World) : Prop :=
  ∃ i, gk + i = gs.length + 1 ∧ i ≤ gs.length ∧ idx = .int .i64 (i : Nat) ∧ (∀ a b, b < a ∧ a < i → TwOk gs a b) ∧ Chg [] w0 w
def Tw2Rel (w0 : World) (gs : List Gr) (i : Nat) (gk : Nat) (idx : Value) (w : World) : Prop :=
  ∃ k, gk + k = i + 1 ∧ k ≤ i ∧ idx = .int .i64 (k : Nat) ∧ (∀ b, b < k → TwOk gs i b) ∧ Chg [] w0 w
theorem rtwice_ok (w : World) (v : Value) (V : Vw) (h : VwAt w w.heap.size v V) (hS : Small V) : Calls Tryz.prog 71 #[v] w (FdPostV (brkTw V) w) := by
  have HV := Lib.hid h
  obtain ⟨g, A1, c1, A2, c2, rfl, h1, h2, h3, h4, h5⟩ := h.ex
  obtain ⟨A0, c0, rfl⟩ := h1.ex
  have C1 := (Chg.refl [] w).alloc (.cells (vwBox V A0 c0 A1 c1 A2 c2) 41)
  have B1 := Blk.new w 41 (vwBox V A0 c0 A1 c1 A2 c2)
  have HB := Lib.hid (And.intro C1 B1)
  have HG := Lib.hid h2
  have HO := Lib.hid h3
  have hO := hS.o
  have hG := hS.g
  unfold vwBox at HB
  clear C1 B1 h h1 h2 h3 h4 h5
  go_enter Tryz.func71, Tryz.ntmps71
  go_upto_region 1 with fail
  generalize (w.alloc (.cells #[.int .i64 V.phase, .int .i64 V.cycle, .int .i64 V.clock, .slice A0 V.globals.length c0, .slice A1 V.gs.length c1, .slice A2 V.objects.length c2, .int .i64 V.grey, .int .i64 V.notes, .int .i64 V.roots] 41)) = X at HB ⊢
  obtain ⟨b0, b1, b2, b3, b4, b5, b6, b7, b8⟩ := boxC HB.out.2
  go_wp2_with fail
  go_loopg [3] (V.gs.length + 1) (fun gk idx wr => Tw1Rel X V.gs gk idx wr)
  case atStart => exact ⟨0, by omega, by omega, rfl, fun a b hab => by omega, Chg.refl _ _⟩
  case round =>
    obtain ⟨i, hgk, hin, rfl, ht, C⟩ := hrel
    have CC := HB.out.1.trans C
    clear b0 b1 b2 b3 b4 b5 b6 b7 b8
    obtain ⟨b0, b1, b2, b3, b4, b5, b6, b7, b8⟩ := boxC (C.blk HB.out.2 (by simp))
    by_cases e : i < V.gs.length
    · have hi' : (i : Int) < (V.gs.length : Int) := by omega
      have HX := Lib.hid (And.intro ht C); clear ht C CC
      go_wp2_with fail
      clear b0 b1 b2 b3 b4 b5 b6 b7 b8
      obtain ⟨wq, rfl⟩ : ∃ wq : World, wq = wr := ⟨_, rfl⟩
      go_loopg [4] (i + 1) (fun gk idx wr => Tw2Rel X V.gs i gk idx wr)
      case atStart => exact ⟨0, by omega, by omega, rfl, fun b hb => by omega, HX.out.2⟩
      case round =>
        obtain ⟨k, hgk2, hki, rfl, ht2, C⟩ := hrel
        have CC := HB.out.1.trans C
        have b4 : wr.cell? ⟨w.heap.size, 4, none⟩ = some (.slice A1 V.gs.length c1) := (C.blk HB.out.2 (by simp)).cellv 4 rfl
        by_cases ek : k < i
        · have hki := ek
          obtain ⟨x, hx⟩ : ∃ x, V.gs[i]? = some x := ⟨_, List.getElem?_eq_getElem e⟩
          obtain ⟨y, hy⟩ : ∃ y, V.gs[k]? = some y := ⟨_, List.getElem?_eq_getElem (by omega)⟩
          obtain ⟨q1, o1, s1, rfl, hb1, i0, i1, i2, hs1, -⟩ := (HG.out.chg CC (Nat.le_refl _) (by simp)).at_ i x hx
          obtain ⟨q2, o2, s2, eg, hb2, j0, j1, j2, hs2, -⟩ := (HG.out.chg CC (Nat.le_refl _) (by simp)).at_ k y hy
          injection eg with eg
          injection eg with eg1 eg2
          subst eg1 eg2
          have hk' : (k : Int) < (i : Int) := by omega
          have hk2 : (k : Int) < (V.gs.length : Int) := by omega
          have hk0 : (0 : Int) ≤ (k : Int) := by omega
          have hi0 : (0 : Int) ≤ (i : Int) := by omega
          have HY := Lib.hid (And.intro ht2 (And.intro C (And.intro hx hy))); clear ht2 C hx hy hs1 hs2 hb1 hb2 CC i2 j2
          by_cases h1 : x.state = 2
          · have q1 : (x.state == 2) = true := by rw [beq_iff_eq]; exact h1
            by_cases h2 : y.state = 2
            · have q2 : (y.state == 2) = true := by rw [beq_iff_eq]; exact h2
              by_cases h3 : x.p = y.p
              · have q3 : (x.p == y.p) = true := by rw [beq_iff_eq]; exact h3
                have HQ := Lib.hid (brkTw_yes hki HY.out.2.2.1 HY.out.2.2.2 h1 h2 h3); clear h1 h2 h3
                go_wp2_with fail
                go_quiet (fail)
                go_wp2_with fail
                try rw [Exit.noGoto_ret]
                go_ret
                exact ⟨by rw [HQ.out]; rfl, (HB.out.1.trans HY.out.2.1).drewN _⟩
              · have q3 : (x.p == y.p) = false := by rw [beq_eq_false_iff_ne]; exact h3
                have HQ := Lib.hid (tw_suc HY.out.1 HY.out.2.2.1 HY.out.2.2.2 (fun _ _ => h3)); clear h1 h2 h3
                go_wp2_with fail
                go_quiet (fail)
                go_wp2_with fail
                go_roundg (i - k)
                case measure => omega
                case rel => exact ⟨k + 1, by omega, by omega, by go_num, HQ.out, HY.out.2.1.drewN _⟩
            · have q2 : (y.state == 2) = false := by rw [beq_eq_false_iff_ne]; exact h2
              have HQ := Lib.hid (tw_suc HY.out.1 HY.out.2.2.1 HY.out.2.2.2 (fun _ h => absurd h h2)); clear h1 h2
              go_wp2_with fail
              go_quiet (fail)
              go_wp2_with fail
              go_roundg (i - k)
              case measure => omega
              case rel => exact ⟨k + 1, by omega, by omega, by go_num, HQ.out, HY.out.2.1.drewN _⟩
          · have q1 : (x.state == 2) = false := by rw [beq_eq_false_iff_ne]; exact h1
            have HQ := Lib.hid (tw_suc HY.out.1 HY.out.2.2.1 HY.out.2.2.2 (fun h _ => absurd h h1)); clear h1
            go_wp2_with fail
            go_quiet (fail)
            go_wp2_with fail
            go_roundg (i - k)
            case measure => omega
            case rel => exact ⟨k + 1, by omega, by omega, by go_num, HQ.out, HY.out.2.1.drewN _⟩
        · have e2 : i = k := by omega
          have hk' : ¬ (k : Int) < (i : Int) := by omega
          have HQ := Lib.hid (And.intro (tw_all HX.out.1 (by rw [e2]; rw [← e2] at ht2 ⊢; exact ht2)) C); clear ht2 C CC ek e2 b4
          go_wp2_with fail
          go_roundg (V.gs.length - i)
          case measure => omega
          case rel => exact ⟨i + 1, by omega, by omega, by go_num, HQ.out.1, HQ.out.2⟩
    · have e2 : V.gs.length = i := by omega
      have hi' : ¬ (i : Int) < (V.gs.length : Int) := by omega
      rw [← e2] at ht
      have HE := Lib.hid (brkTw_no ht)
      have HX := Lib.hid CC; clear ht C CC e2 hgk hin e
      go_wp2_with fail
      go_ret
      exact ⟨by rw [HE.out]; rfl, HX.out⟩
set_option maxHeartbeats 12800000 in
theorem rapart_ok (w : World) (v : Value) (V : Vw) (h : VwAt w w.heap.size v V) (hS : Small V) : Calls Tryz.prog 70 #[v] w (FdPostV (!brkOb V) w) := by
  have HV := Lib.hid h
  obtain ⟨g, A1, c1, A2, c2, rfl, h1, h2, h3, h4, h5⟩ := h.ex
  obtain ⟨A0, c0, rfl⟩ := h1.ex
  have C1 := (Chg.refl [] w).alloc (.cells (vwBox V A0 c0 A1 c1 A2 c2) 41)
  have B1 := Blk.new w 41 (vwBox V A0 c0 A1 c1 A2 c2)
  have HB := Lib.hid (And.intro C1 B1)
  have HG := Lib.hid h2
  have HO := Lib.hid h3
  have hO := hS.o
  have hG := hS.g
  unfold vwBox at HB
  clear C1 B1 h h1 h2 h3 h4 h5
  go_enter Tryz.func70, Tryz.ntmps70
  go_upto_region 1 with fail
  generalize (w.alloc (.cells #[.int .i64 V.phase, .int .i64 V.cycle, .int .i64 V.clock, .slice A0 V.globals.length c0, .slice A1 V.gs.length c1, .slice A2 V.objects.length c2, .int .i64 V.grey, .int .i64 V.notes, .int .i64 V.roots] 41)) = X at HB ⊢
  obtain ⟨b0, b1, b2, b3, b4, b5, b6, b7, b8⟩ := boxC HB.out.2
  go_wp2_with fail
  clear b0 b1 b2 b3 b4 b5 b6 b7 b8
  go_loopg [3] (V.objects.length + 1) (fun gk idx wr => ObRel X V.objects gk idx wr)
  case atStart => exact ⟨0, by omega, by omega, rfl, fun j hj => by omega, Chg.refl _ _⟩
  case round =>
    obtain ⟨i, hgk, hin, rfl, ht, C⟩ := hrel
    have CC := HB.out.1.trans C
    have b5 : wr.cell? ⟨w.heap.size, 5, none⟩ = some (.slice A2 V.objects.length c2) := (C.blk HB.out.2 (by simp)).cellv 5 rfl
    by_cases e : i < V.objects.length
    · obtain ⟨x, hx⟩ : ∃ x, V.objects[i]? = some x := ⟨_, List.getElem?_eq_getElem e⟩
      obtain ⟨q1, o1, s1, rfl, hb1, i0, i1, i2, hs1, hwx⟩ := (HO.out.chg CC (Nat.le_refl _) (by simp)).at_ i x hx
      obtain ⟨As, cs, rfl⟩ := hs1.ex
      have hsl := hs1.len
      unfold maxLen at hsl
      have hi' : (i : Int) < (V.objects.length : Int) := by omega
      have CN := C.alloc (.cells #[.int .i64 x.addr, .slice As x.slots.length cs, .bool x.marked] 123)
      have K := Blk.new wr 123 #[.int .i64 x.addr, .slice As x.slots.length cs, .bool x.marked]
      have HX := Lib.hid (And.intro ht (And.intro CN (And.intro hx (And.intro hwx K)))); clear ht C CN hs1 hb1 CC hwx K hx
      go_upto_region 5 with fail
      generalize (wr.alloc (.cells #[.int .i64 x.addr, .slice As x.slots.length cs, .bool x.marked] 123)) = W1 at HX ⊢
      generalize wr.heap.size = gg at HX ⊢
      clear i0 i1 i2 b5
      have z0 : W1.cell? ⟨gg, 0, none⟩ = some (.int .i64 x.addr) := HX.out.2.2.2.2.cellv 0 rfl
      have z1 : W1.cell? ⟨gg, 1, none⟩ = some (.slice As x.slots.length cs) := HX.out.2.2.2.2.cellv 1 rfl
      have z2 : W1.cell? ⟨gg, 2, none⟩ = some (.bool x.marked) := HX.out.2.2.2.2.cellv 2 rfl
      go_wp2_with fail
      refine (rsz_ok _ _ _ _ _ _ hsl).mono ?_
      rintro e w2 ⟨rfl, C2⟩
      have HC := Lib.hid (And.intro (HX.out.2.1.trans C2) (C2.blk HX.out.2.2.2.2 (by simp))); clear C2 z0 z1 z2
      have z0 : w2.cell? ⟨gg, 0, none⟩ = some (.int .i64 x.addr) := HC.out.2.cellv 0 rfl
      have z1 : w2.cell? ⟨gg, 1, none⟩ = some (.slice As x.slots.length cs) := HC.out.2.cellv 1 rfl
      have z2 : w2.cell? ⟨gg, 2, none⟩ = some (.bool x.marked) := HC.out.2.cellv 2 rfl
      by_cases h0 : owN x.slots.length = 0
      · have HQ := Lib.hid (show (!brkOb V) = false by rw [brkOb_yes HX.out.2.2.1 (.inr (.inl h0))]; rfl)
        rw [h0]
        clear h0
        go_wp2_with fail
        try rw [Exit.noGoto_ret]
        go_ret
        exact ⟨by rw [HQ.out]; rfl, HB.out.1.trans HC.out.1⟩
      · have hz : ((owN x.slots.length : Int) == 0) = false := by rw [beq_eq_false_iff_ne]; omega
        have hz2 : (owN x.slots.length == 0) = false := by rw [beq_eq_false_iff_ne]; exact h0
        have H0 := Lib.hid h0; clear h0
        by_cases ha : x.addr < 64
        · have HQ := Lib.hid (show (!brkOb V) = false by rw [brkOb_yes HX.out.2.2.1 (.inl ha)]; rfl)
          have da : decide (x.addr < 64) = true := decide_eq_true ha
          go_wp2_with fail
          try rw [Exit.noGoto_ret]
          go_ret
          exact ⟨by rw [HQ.out]; rfl, HB.out.1.trans HC.out.1⟩
        · have da : decide (x.addr < 64) = false := decide_eq_false ha
          have HA := Lib.hid (show ¬ x.addr < 64 from ha); clear ha
          have b5 : w2.cell? ⟨w.heap.size, 5, none⟩ = some (.slice (some ⟨q1, o1, none⟩) V.objects.length c2) := (HC.out.1.blk HB.out.2 (by simp)).cellv 5 rfl
          cases i with
          | zero =>
            have HQ := Lib.hid (obRel_zero HX.out.2.2.1 HA.out H0.out)
            go_wp2_with fail
            go_roundg (V.objects.length - 0)
            case measure => omega
            case rel => exact ⟨1, by omega, by omega, by go_num, HQ.out, HC.out.1⟩
          | succ j =>
            obtain ⟨p, hp⟩ : ∃ p, V.objects[j]? = some p := ⟨_, List.getElem?_eq_getElem (by omega)⟩
            obtain ⟨q2, o2, s2, eB, hb2, j0, j1, j2, hs2, hwp⟩ := (HO.out.chg (HB.out.1.trans HC.out.1) (Nat.le_refl _) (by simp)).at_ j p hp
            injection eB with eB
            injection eB with e1 e2
            subst e1 e2
            obtain ⟨At, ct, rfl⟩ := hs2.ex
            have hsl2 := hs2.len
            unfold maxLen at hsl2
            have hpa : ¬ p.addr < 64 := obOk_addr (HX.out.1 j (by omega)) hp
            have hj1 : ((j : Int) + 1 == 0) = false := by rw [beq_eq_false_iff_ne]; omega
            have hj3 : (0 : Int) ≤ (j : Int) := by omega
            have hj4 : (j : Int) < (V.objects.length : Int) := by omega
            have hgl := lt_of_cell' z0
            have KN := Blk.new w2 123 #[.int .i64 p.addr, .slice At p.slots.length ct, .bool p.marked]
            have HP := Lib.hid (And.intro (HC.out.1.alloc (.cells #[.int .i64 p.addr, .slice At p.slots.length ct, .bool p.marked] 123)) (And.intro (HC.out.2.alloc (.cells #[.int .i64 p.addr, .slice At p.slots.length ct, .bool p.marked] 123)) (And.intro KN (And.intro hp hpa)))); clear hs2 hb2 KN hp hpa
            go_upto_region 9 with fail
            generalize (w2.alloc (.cells #[.int .i64 p.addr, .slice At p.slots.length ct, .bool p.marked] 123)) = W3 at HP ⊢
            generalize w2.heap.size = gl at HP ⊢
            clear z0 z1 z2 j0 j1 j2 b5 hgl
            have z0 : W3.cell? ⟨gg, 0, none⟩ = some (.int .i64 x.addr) := HP.out.2.1.cellv 0 rfl
            have y0 : W3.cell? ⟨gl, 0, none⟩ = some (.int .i64 p.addr) := HP.out.2.2.1.cellv 0 rfl
            have y1 : W3.cell? ⟨gl, 1, none⟩ = some (.slice At p.slots.length ct) := HP.out.2.2.1.cellv 1 rfl
            have y2 : W3.cell? ⟨gl, 2, none⟩ = some (.bool p.marked) := HP.out.2.2.1.cellv 2 rfl
            by_cases hge : x.addr ≤ p.addr
            · have hd : decide (x.addr ≤ p.addr) = true := decide_eq_true hge
              have HQ := Lib.hid (show (!brkOb V) = false by rw [brkOb_yes HX.out.2.2.1 (.inr (.inr ⟨j, p, rfl, HP.out.2.2.2.1, .inl hge⟩))]; rfl); clear hge
              go_quiet (fail)
              go_wp2_with fail
              try rw [Exit.noGoto_ret]
              go_ret
              exact ⟨by rw [HQ.out]; rfl, (HB.out.1.trans HP.out.1).drewN _⟩
            · have hd : decide (x.addr ≤ p.addr) = false := decide_eq_false hge
              have hw3 : IntKind.i64.wrap (x.addr - p.addr) = x.addr - p.addr := by have := HX.out.2.2.2.1.2; have := HP.out.2.2.2.2; rw [IntKind.wrap_i64]; omega
              have HG2 := Lib.hid hge; clear hge
              have k0 : Chg [] W3 W3 := Chg.refl _ _
              go_region_held3 (fun w' => w'.cell? ⟨gg, 0, none⟩ = some (.int .i64 x.addr) ∧ w'.cell? ⟨gl, 0, none⟩ = some (.int .i64 p.addr) ∧ w'.cell? ⟨gl, 0, none⟩ = some (.int .i64 p.addr) ∧ w'.cell? ⟨gl, 1, none⟩ = some (.slice At p.slots.length ct) ∧ w'.cell? ⟨gl, 2, none⟩ = some (.bool p.marked) ∧ Chg [] W3 w')
                ((refine keepOb z0 y0 y0 y1 y2 ?_; (first | assumption | exact Chg.refl _ _ | exact (Chg.refl _ _).drew)))
                (first | (go_at_call 118; refine (rsz_ok _ _ _ _ _ _ hsl2).mono ?_; rintro e w3 ⟨rfl, C3⟩; have D : Chg [] W3 w3 := Chg.trans (by first | assumption | exact Chg.refl _ _ | exact (Chg.refl _ _).drew) C3))
              have HD := Lib.hid (HP.out.1.trans ‹Chg [] W3 w3›)
              clear z0 y0 y1 y2 C3 D
              by_cases hlt : x.addr - p.addr < (owN p.slots.length : Int)
              · have hd2 : decide (x.addr - p.addr < (owN p.slots.length : Int)) = true := decide_eq_true hlt
                have HQ := Lib.hid (show (!brkOb V) = false by rw [brkOb_yes HX.out.2.2.1 (.inr (.inr ⟨j, p, rfl, HP.out.2.2.2.1, .inr hlt⟩))]; rfl)
                go_wp2_with fail
                try rw [Exit.noGoto_ret]
                go_ret
                exact ⟨by rw [HQ.out]; rfl, HB.out.1.trans HD.out⟩
              · have hd2 : decide (x.addr - p.addr < (owN p.slots.length : Int)) = false := decide_eq_false hlt
                have HQ := Lib.hid (obRel_succ HX.out.1 HX.out.2.2.1 HP.out.2.2.2.1 (by have := HA.out; omega) H0.out (by have := HG2.out; omega) hlt)
                go_wp2_with fail
                go_roundg (V.objects.length - (j + 1))
                case measure => omega
                case rel => exact ⟨j + 2, by omega, by omega, by go_num, HQ.out, HD.out⟩
    · have e2 : V.objects.length = i := by omega
      have hi' : ¬ (i : Int) < (V.objects.length : Int) := by omega
      have HE := Lib.hid (show (!brkOb V) = true by rw [brkOb_no (by rw [e2]; exact ht)]; rfl)
      have HX := Lib.hid CC; clear ht C CC e2 hgk hin e
      go_wp2_with fail
      go_ret
      exact ⟨by rw [HE.out]; rfl, HX.out⟩
end Go.Proofs.YtcpljjacamibeaaGreatDoor
