/- May of any configuration; the document's Percent, and its goal of nothing that lives. -/
import Derived.Test.YtcpljjacamibeaaGreatDoorMcPJ
import Derived.Test.YtcpljjacamibeaaGreatDoorMcF
namespace Go.Proofs.YtcpljjacamibeaaGreatDoor
set_option maxHeartbeats 16000000
set_option maxRecDepth 100000
open Go.RowKit Go.Maps
def mayB (ps wo : Int) : Bool := decide (1 ≤ ps ∧ ps ≤ 64 ∧ 256 ≤ wo ∧ wo ≤ 16777216 ∧ wo % 64 = 0)
theorem cf_may_any (w : World) (ps wo : Int) (b1 b2 : Nat) : Calls Tryz.prog 51 #[.agg #[.int .i64 ps, .int .i64 wo, .float .f64 b1, .float .f64 b2]] w (NwPost (.bool (mayB ps wo)) w) := by
  by_cases h0 : (1 : Int) ≤ ps
  rotate_left
  · have hm : mayB ps wo = false := by unfold mayB; exact decide_eq_false (by omega)
    have e0 : decide (ps ≥ 1) = false := decide_eq_false (by omega)
    obtain ⟨mb, hmb⟩ : ∃ b, b = mayB ps wo := ⟨_, rfl⟩
    rw [← hmb] at hm ⊢
    subst hm
    clear hmb
    go_enter Tryz.func51, Tryz.ntmps51
    go_wp2_with fail
    go_ret
    exact ⟨by simp, (Chg.refl _ _).alloc _⟩
  by_cases h1 : ps ≤ (64 : Int)
  rotate_left
  · have hm : mayB ps wo = false := by unfold mayB; exact decide_eq_false (by omega)
    have e1 : decide (ps ≤ 64) = false := decide_eq_false (by omega)
    have g0 : decide (ps ≥ 1) = true := decide_eq_true (by omega)
    obtain ⟨mb, hmb⟩ : ∃ b, b = mayB ps wo := ⟨_, rfl⟩
    rw [← hmb] at hm ⊢
    subst hm
    clear hmb
    go_enter Tryz.func51, Tryz.ntmps51
    go_wp2_with fail
    go_ret
    exact ⟨by simp, (Chg.refl _ _).alloc _⟩
  by_cases h2 : (256 : Int) ≤ wo
  rotate_left
  · have hm : mayB ps wo = false := by unfold mayB; exact decide_eq_false (by omega)
    have e2 : decide (wo ≥ 256) = false := decide_eq_false (by omega)
    have g0 : decide (ps ≥ 1) = true := decide_eq_true (by omega)
    have g1 : decide (ps ≤ 64) = true := decide_eq_true (by omega)
    obtain ⟨mb, hmb⟩ : ∃ b, b = mayB ps wo := ⟨_, rfl⟩
    rw [← hmb] at hm ⊢
    subst hm
    clear hmb
    go_enter Tryz.func51, Tryz.ntmps51
    go_wp2_with fail
    go_ret
    exact ⟨by simp, (Chg.refl _ _).alloc _⟩
  by_cases h3 : wo ≤ (16777216 : Int)
  rotate_left
  · have hm : mayB ps wo = false := by unfold mayB; exact decide_eq_false (by omega)
    have e3 : decide (wo ≤ 16777216) = false := decide_eq_false (by omega)
    have g0 : decide (ps ≥ 1) = true := decide_eq_true (by omega)
    have g1 : decide (ps ≤ 64) = true := decide_eq_true (by omega)
    have g2 : decide (wo ≥ 256) = true := decide_eq_true (by omega)
    obtain ⟨mb, hmb⟩ : ∃ b, b = mayB ps wo := ⟨_, rfl⟩
    rw [← hmb] at hm ⊢
    subst hm
    clear hmb
    go_enter Tryz.func51, Tryz.ntmps51
    go_wp2_with fail
    go_ret
    exact ⟨by simp, (Chg.refl _ _).alloc _⟩
  obtain ⟨mb, hmb⟩ : ∃ b, b = mayB ps wo := ⟨_, rfl⟩
  have d6 : mb = (wo.tmod 64 == 0) := by
    rw [hmb, Int.tmod_eq_emod_of_nonneg (by omega)]
    unfold mayB
    rw [Bool.eq_iff_iff, decide_eq_true_iff, beq_iff_eq]
    omega
  have d7 : mb = (wo % 64 == 0) := by
    rw [hmb]
    unfold mayB
    rw [Bool.eq_iff_iff, decide_eq_true_iff, beq_iff_eq]
    omega
  rw [← hmb]
  clear hmb
  have d8 : (wo.tmod 64 == 0) = mb := d6.symm
  have d9 : (wo % 64 == 0) = mb := d7.symm
  have HD := Lib.hid (And.intro d8 d9)
  clear d6 d7 d8 d9
  go_enter Tryz.func51, Tryz.ntmps51
  go_wp2_with fail
  go_ret
  exact ⟨by simp [HD.out.1, HD.out.2], (Chg.refl _ _).alloc _⟩
theorem rcf_may_any (w : World) (ps wo : Int) (b1 b2 : Nat) : Calls Tryz.prog 18 #[.agg #[.int .i64 ps, .int .i64 wo, .float .f64 b1, .float .f64 b2]] w (NwPost (.bool (mayB ps wo)) w) := by
  by_cases h0 : (1 : Int) ≤ ps
  rotate_left
  · have hm : mayB ps wo = false := by unfold mayB; exact decide_eq_false (by omega)
    have e0 : decide (ps ≥ 1) = false := decide_eq_false (by omega)
    obtain ⟨mb, hmb⟩ : ∃ b, b = mayB ps wo := ⟨_, rfl⟩
    rw [← hmb] at hm ⊢
    subst hm
    clear hmb
    go_enter Tryz.func18, Tryz.ntmps18
    go_wp2_with fail
    go_ret
    exact ⟨by simp, (Chg.refl _ _).alloc _⟩
  by_cases h1 : ps ≤ (64 : Int)
  rotate_left
  · have hm : mayB ps wo = false := by unfold mayB; exact decide_eq_false (by omega)
    have e1 : decide (ps ≤ 64) = false := decide_eq_false (by omega)
    have g0 : decide (ps ≥ 1) = true := decide_eq_true (by omega)
    obtain ⟨mb, hmb⟩ : ∃ b, b = mayB ps wo := ⟨_, rfl⟩
    rw [← hmb] at hm ⊢
    subst hm
    clear hmb
    go_enter Tryz.func18, Tryz.ntmps18
    go_wp2_with fail
    go_ret
    exact ⟨by simp, (Chg.refl _ _).alloc _⟩
  by_cases h2 : (256 : Int) ≤ wo
  rotate_left
  · have hm : mayB ps wo = false := by unfold mayB; exact decide_eq_false (by omega)
    have e2 : decide (wo ≥ 256) = false := decide_eq_false (by omega)
    have g0 : decide (ps ≥ 1) = true := decide_eq_true (by omega)
    have g1 : decide (ps ≤ 64) = true := decide_eq_true (by omega)
    obtain ⟨mb, hmb⟩ : ∃ b, b = mayB ps wo := ⟨_, rfl⟩
    rw [← hmb] at hm ⊢
    subst hm
    clear hmb
    go_enter Tryz.func18, Tryz.ntmps18
    go_wp2_with fail
    go_ret
    exact ⟨by simp, (Chg.refl _ _).alloc _⟩
  by_cases h3 : wo ≤ (16777216 : Int)
  rotate_left
  · have hm : mayB ps wo = false := by unfold mayB; exact decide_eq_false (by omega)
    have e3 : decide (wo ≤ 16777216) = false := decide_eq_false (by omega)
    have g0 : decide (ps ≥ 1) = true := decide_eq_true (by omega)
    have g1 : decide (ps ≤ 64) = true := decide_eq_true (by omega)
    have g2 : decide (wo ≥ 256) = true := decide_eq_true (by omega)
    obtain ⟨mb, hmb⟩ : ∃ b, b = mayB ps wo := ⟨_, rfl⟩
    rw [← hmb] at hm ⊢
    subst hm
    clear hmb
    go_enter Tryz.func18, Tryz.ntmps18
    go_wp2_with fail
    go_ret
    exact ⟨by simp, (Chg.refl _ _).alloc _⟩
  obtain ⟨mb, hmb⟩ : ∃ b, b = mayB ps wo := ⟨_, rfl⟩
  have d6 : mb = (wo.tmod 64 == 0) := by
    rw [hmb, Int.tmod_eq_emod_of_nonneg (by omega)]
    unfold mayB
    rw [Bool.eq_iff_iff, decide_eq_true_iff, beq_iff_eq]
    omega
  have d7 : mb = (wo % 64 == 0) := by
    rw [hmb]
    unfold mayB
    rw [Bool.eq_iff_iff, decide_eq_true_iff, beq_iff_eq]
    omega
  rw [← hmb]
  clear hmb
  have d8 : (wo.tmod 64 == 0) = mb := d6.symm
  have d9 : (wo % 64 == 0) = mb := d7.symm
  have HD := Lib.hid (And.intro d8 d9)
  clear d6 d7 d8 d9
  go_enter Tryz.func18, Tryz.ntmps18
  go_wp2_with fail
  go_ret
  exact ⟨by simp [HD.out.1, HD.out.2], (Chg.refl _ _).alloc _⟩
theorem rcf_percent (w : World) (b : Nat) : Calls Tryz.prog 20 #[.float .f64 b] w (PrPost b w) := by
  cases h1 : (FloatKind.f64.format.order b b != some Ordering.eq)
  · cases h2 : (FloatKind.f64.format.order b 0 == some Ordering.lt)
    · obtain ⟨r1, m1, hs, hq⟩ := run_self_sub (P := Tryz.prog) w 22 b h1 h2
      have HON := Lib.hid (show onB b = !(infB b) by unfold onB; rw [h1, h2]; rfl)
      cases h3 : infB b
      · rw [h3] at hq
        obtain ⟨n2, m2, hc, -, -⟩ := conv_fi (w.drewN m1) b
        have HT := Lib.hid (show onB b = true by rw [HON.out, h3]; rfl)
        clear h3
        go_enter Tryz.func20, Tryz.ntmps20
        go_wp2_with fail
        · go_ret2
          exact ⟨_, _, rfl, HT.out.symm, (Chg.refl _ _).drewN _⟩
        · go_wp2_with fail
          go_ret2
          exact ⟨_, _, rfl, HT.out.symm, (Chg.refl _ _).drewN _⟩
      · rw [h3] at hq
        have HT := Lib.hid (show onB b = false by rw [HON.out, h3]; rfl)
        clear h3
        go_enter Tryz.func20, Tryz.ntmps20
        go_wp2_with fail
        go_ret2
        exact ⟨_, _, rfl, HT.out.symm, (Chg.refl _ _).drewN _⟩
    · have HON := Lib.hid (show onB b = false by unfold onB; rw [h1, h2]; rfl)
      go_enter Tryz.func20, Tryz.ntmps20
      go_wp2_with fail
      go_ret2
      exact ⟨_, _, rfl, HON.out.symm, Chg.refl _ _⟩
  · have HON := Lib.hid (show onB b = true by unfold onB; rw [h1]; rfl)
    go_enter Tryz.func20, Tryz.ntmps20
    go_wp2_with fail
    go_ret2
    exact ⟨_, _, rfl, HON.out.symm, Chg.refl _ _⟩
theorem rclamp_ok (w : World) (x lo hi : Int) : Calls Tryz.prog 76 #[.int .i64 x, .int .i64 lo, .int .i64 hi] w (QuPost (.int .i64 (max lo (min x hi))) w) := by
  obtain ⟨r, hr⟩ : ∃ r, r = max lo (min x hi) := ⟨_, rfl⟩
  rw [← hr]
  by_cases h1 : hi < x
  · have e1 : (if hi < x then hi else x) = hi := if_pos h1
    by_cases h2 : lo < hi
    · have e : r = hi := by omega
      subst e
      clear hr
      go_enter Tryz.func76, Tryz.ntmps76
      go_wp2_with fail
      go_ret
      exact ⟨congrArg (fun z => Ending.returned (Value.int .i64 z)) (by omega), rfl⟩
    · have e : r = lo := by omega
      subst e
      clear hr
      go_enter Tryz.func76, Tryz.ntmps76
      go_wp2_with fail
      go_ret
      exact ⟨congrArg (fun z => Ending.returned (Value.int .i64 z)) (by omega), rfl⟩
  · have e1 : (if hi < x then hi else x) = x := if_neg h1
    by_cases h2 : lo < x
    · have e : r = x := by omega
      subst e
      clear hr
      go_enter Tryz.func76, Tryz.ntmps76
      go_wp2_with fail
      go_ret
      exact ⟨congrArg (fun z => Ending.returned (Value.int .i64 z)) (by omega), rfl⟩
    · have e : r = lo := by omega
      subst e
      clear hr
      go_enter Tryz.func76, Tryz.ntmps76
      go_wp2_with fail
      go_ret
      exact ⟨congrArg (fun z => Ending.returned (Value.int .i64 z)) (by omega), rfl⟩
theorem rfx_size (w : World) (a : Nat) (h : a < 9223372036854775808) : Calls Tryz.prog 180 #[.int .i64 (a : Nat)] w (QuPost (.int .u64 (a : Nat)) w) := by
  have d1 : ¬ ((a : Int) < 0) := by omega
  go_enter Tryz.func180, Tryz.ntmps180
  go_wp2_with fail
  go_ret
  exact ⟨by simp, rfl⟩
theorem rfx_signed (w : World) (lo : Nat) (more : Bool) (h : lo < 9223372036854775808) : Calls Tryz.prog 182 #[.bool false, .int .u64 0, .int .u64 (lo : Nat), .bool more] w (QuPost (.int .i64 (lo : Nat)) w) := by
  have d1 : decide ((lo : Int) > 9223372036854775807) = false := decide_eq_false (by omega)
  go_enter Tryz.func182, Tryz.ntmps182
  go_wp2_with fail
  go_ret
  exact ⟨by simp, rfl⟩
theorem rfx_whole (w : World) (n : Nat) (h : n < 8388608) : Calls Tryz.prog 123 #[.int .i64 (n : Nat)] w (QuPost (.int .i64 (n * 1048576 : Nat)) w) := by
  have d1 : decide ((n : Int) ≥ 8796093022208) = false := decide_eq_false (by omega)
  have d2 : decide ((n : Int) < -8796093022208) = false := decide_eq_false (by omega)
  go_enter Tryz.func123, Tryz.ntmps123
  go_wp2_with fail
  go_ret
  exact ⟨by simp, rfl⟩
theorem rfx_add (w : World) (a b : Nat) (ha : a < 1152921504606846976) (hb : b < 1152921504606846976) : Calls Tryz.prog 120 #[.int .i64 (a : Nat), .int .i64 (b : Nat)] w (QuPost (.int .i64 (a + b : Nat)) w) := by
  by_cases h0 : b = 0
  · subst h0
    go_enter Tryz.func120, Tryz.ntmps120
    go_wp2_with fail
    go_ret
    exact ⟨by simp, rfl⟩
  · have d1 : decide ((b : Int) > 0) = true := decide_eq_true (by omega)
    have d1' : (0 : Int) < (b : Int) := by omega
    have d2 : decide ((b : Int) < 0) = false := decide_eq_false (by omega)
    have d3 : decide ((a : Int) > 9223372036854775807 - (b : Int)) = false := decide_eq_false (by omega)
    have d4 : decide (9223372036854775807 - (b : Int) < (a : Int)) = false := decide_eq_false (by omega)
    have d5 : ¬ (9223372036854775807 - (b : Int) < (a : Int)) := by omega
    go_enter Tryz.func120, Tryz.ntmps120
    go_wp2_with fail
    go_ret
    exact ⟨by simp, rfl⟩
theorem rfx_sub (w : World) (a b : Nat) (ha : a < 1152921504606846976) (hb : b < 1152921504606846976) : Calls Tryz.prog 121 #[.int .i64 (a : Nat), .int .i64 (b : Nat)] w (QuPost (.int .i64 ((a : Int) - (b : Int))) w) := by
  by_cases h0 : b = 0
  · subst h0
    go_enter Tryz.func121, Tryz.ntmps121
    go_wp2_with fail
    go_ret
    exact ⟨by simp, rfl⟩
  · have d1 : decide ((b : Int) > 0) = true := decide_eq_true (by omega)
    have d1' : (0 : Int) < (b : Int) := by omega
    have d2 : decide ((b : Int) < 0) = false := decide_eq_false (by omega)
    have d3 : decide ((a : Int) < -9223372036854775808 + (b : Int)) = false := decide_eq_false (by omega)
    have d5 : ¬ ((a : Int) < -9223372036854775808 + (b : Int)) := by omega
    go_enter Tryz.func121, Tryz.ntmps121
    go_wp2_with fail
    go_ret
    exact ⟨by simp, rfl⟩
theorem rfx_div (w : World) (a b : Nat) (ha : a < 8796093022208) (ha0 : 0 < a) (h0 : 0 < b) (hb : b < 9223372036854775808) (hq : a * 1048576 / b < 9223372036854775808) : Calls Tryz.prog 122 #[.int .i64 (a : Nat), .int .i64 (b : Nat)] w (NwPost (.int .i64 (a * 1048576 / b : Nat)) w) := by
  have d0 : ((b : Int) == 0) = false := by rw [beq_eq_false_iff_ne]; omega
  have d0' : ((a : Int) == 0) = false := by rw [beq_eq_false_iff_ne]; omega
  have d1 : decide ((a : Int) < 0) = false := decide_eq_false (by omega)
  have d2 : decide ((b : Int) < 0) = false := decide_eq_false (by omega)
  have d3 : ¬ (b : Int) = 0 := by omega
  have d4 : ¬ (a : Int) = 0 := by omega
  have hq : a * 1048576 / b ≤ a * 1048576 := Nat.div_le_self _ _
  have e1 : (a : Int) / 17592186044416 = 0 := by omega
  go_enter Tryz.func122, Tryz.ntmps122
  go_wp2_with fail
  refine (rfx_size w a (by omega)).mono ?_
  rintro e w' ⟨rfl, rfl⟩
  go_wp2_with fail
  refine (rfx_size _ b hb).mono ?_
  rintro e w' ⟨rfl, rfl⟩
  go_wp2_with fail
  rw [show (a : Int) * 1048576 = ((a * 1048576 : Nat) : Int) from by omega]
  refine (bits_div64 _ (a * 1048576) b (by omega) h0 (by omega)).mono ?_
  rintro e w1 ⟨rfl, c1⟩
  have HC := Lib.hid c1; clear c1
  go_wp2_with fail
  refine (rfx_signed _ (a * 1048576 / b) _ (by omega)).mono ?_
  rintro e w2 ⟨rfl, rfl⟩
  go_wp2_with fail
  go_ret
  exact ⟨rfl, HC.out⟩
theorem rpc_ratio (w : World) (t g : Nat) (h1 : t < g) (h2 : g < 8388608) : Calls Tryz.prog 77 #[.int .i64 0, .int .i64 (t : Nat), .int .i64 (g : Nat)] w fun e w' => ∃ r : Int, e = .returned (.int .i64 r) ∧ r = rtV (g - t) ∧ Chg [] w w' := by
  have hq : 67108864 * 1048576 / ((g - t) * 1048576) < 9223372036854775808 := Nat.lt_of_le_of_lt (Nat.div_le_self _ _) (by decide)
  have HQ := Lib.hid hq; clear hq
  go_enter Tryz.func77, Tryz.ntmps77
  go_wp2_with fail
  refine (rfx_add w 0 64 (by decide) (by decide)).mono ?_
  rintro e w' ⟨rfl, rfl⟩
  go_wp2_with fail
  refine (rfx_sub _ g t (by omega) (by omega)).mono ?_
  rintro e w' ⟨rfl, rfl⟩
  go_wp2_with fail
  refine (rfx_whole _ 64 (by decide)).mono ?_
  rintro e w' ⟨rfl, rfl⟩
  go_wp2_with fail
  rw [show (g : Int) - (t : Int) = ((g - t : Nat) : Int) from by omega]
  refine (rfx_whole _ (g - t) (by omega)).mono ?_
  rintro e w' ⟨rfl, rfl⟩
  have HD := Lib.hid (fun w : World => rfx_div w 67108864 ((g - t) * 1048576) (by decide) (by decide) (by omega) (by omega) HQ.out)
  go_wp2_with fail
  refine (HD.out _).mono ?_
  rintro e w1 ⟨rfl, c1⟩
  have HC := Lib.hid c1; clear c1
  go_wp2_with fail
  refine (rclamp_ok _ _ _ _).mono ?_
  rintro e w2 ⟨rfl, rfl⟩
  obtain ⟨r, hr⟩ : ∃ r : Int, r = max 131072 (min (70368744177664 / (((g - t : Nat) : Int) * 1048576)) 67108864) := ⟨_, rfl⟩
  rw [← hr]
  have HR := Lib.hid hr; clear hr
  go_wp2_with fail
  go_ret
  have e : ((67108864 * 1048576 / ((g - t) * 1048576) : Nat) : Int) = 70368744177664 / (((g - t : Nat) : Int) * 1048576) := by rw [Int.natCast_ediv]; simp
  exact ⟨r, rfl, by rw [HR.out]; unfold rtV; rw [e]; generalize 70368744177664 / (((g - t : Nat) : Int) * 1048576) = q; omega, HC.out⟩
theorem rpc_goal (w : World) (wo : Nat) (h1 : 256 ≤ wo) (h2 : wo ≤ 16777216) (p : Int) (on : Bool) : Calls Tryz.prog 27 #[.int .i64 0, .int .i64 (wo : Nat), .int .i64 p, .bool on] w (GlPost wo on w) := by
  have q1 : max (0 : Int) (min (wo : Int) 16777216) = (wo : Nat) := by omega
  have q2 : max (0 : Int) (min 0 (wo : Int)) = 0 := by omega
  cases on
  · go_enter Tryz.func27, Tryz.ntmps27
    go_wp2_with fail
    refine (rclamp_ok _ _ _ _).mono ?_
    rintro e w' ⟨rfl, rfl⟩
    rw [q1]
    go_wp2_with fail
    refine (rclamp_ok _ _ _ _).mono ?_
    rintro e w' ⟨rfl, rfl⟩
    rw [q2]
    go_wp2_with fail
    refine (rclamp_ok _ _ _ _).mono ?_
    rintro e w' ⟨rfl, rfl⟩
    go_wp2_with fail
    exact ⟨rfl, _, results_cell_row (P := Tryz.prog) (fn := Tryz.f27) rfl _ _ w.heap.size 89 _ _ _ rfl (heap_alloc_new w _) Tryz.underlying89 rfl (by kernel_rfl), _, _, _, rfl, ⟨by omega, fun _ => ⟨rfl, rfl, rfl⟩, by simp⟩, (Chg.refl [] w).alloc _⟩
  · go_enter Tryz.func27, Tryz.ntmps27
    go_wp2_with fail
    refine (rclamp_ok _ _ _ _).mono ?_
    rintro e w' ⟨rfl, rfl⟩
    rw [q1]
    go_wp2_with fail
    refine (rclamp_ok _ _ _ _).mono ?_
    rintro e w' ⟨rfl, rfl⟩
    rw [q2]
    go_wp2_with fail
    refine (rclamp_ok _ _ _ _).mono ?_
    rintro e w' ⟨rfl, rfl⟩
    obtain ⟨pp, hpp⟩ : ∃ q : Int, q = max (0 : Int) (min p 10000) := ⟨_, rfl⟩
    rw [← hpp]
    clear hpp
    clear q1 q2
    go_wp2_with fail
    all_goals
      rw [show (wo : Int) / 4 * 3 / 4 = ((wo / 4 * 3 / 4 : Nat) : Int) from by omega, show (wo : Int) / 4 = ((wo / 4 : Nat) : Int) from by omega]
      refine (rpc_ratio _ (wo / 4 * 3 / 4) (wo / 4) (by omega) (by omega)).mono ?_
      rintro e w2 ⟨r, rfl, hr, c⟩
      have B1 := c.blk (Blk.new w 89 #[.int .i64 0, .int .i64 0, .int .i64 0]) (by simp)
      have b0 := B1.cellv 0 rfl
      have b1 := B1.cellv 1 rfl
      have b2 := B1.cellv 2 rfl
      have f0 := B1.frozen 0
      have f1 := B1.frozen 1
      have f2 := B1.frozen 2
      have HC := Lib.hid (And.intro c (And.intro B1 hr)); clear c B1 hr
      go_wp2_with fail
      have B2 := ((HC.out.2.1.setv 0 (.int .i64 ((wo : Int) / 4 * 3 / 4)) rfl).setv 1 (.int .i64 ((wo : Int) / 4)) rfl).setv 2 (.int .i64 r) rfl
      exact ⟨rfl, _, results_cell_row (P := Tryz.prog) (fn := Tryz.f27) rfl _ _ w.heap.size 89 _ _ _ rfl B2 Tryz.underlying89 rfl (by kernel_rfl), _, _, _, rfl, ⟨by omega, by simp, fun _ => ⟨by omega, by omega, HC.out.2.2⟩⟩, ((((((Chg.refl [] w).alloc _).trans HC.out.1).setCell (.inr (Nat.le_refl _)) _).setCell (.inr (Nat.le_refl _)) _).setCell (.inr (Nat.le_refl _)) _)⟩
end Go.Proofs.YtcpljjacamibeaaGreatDoor
