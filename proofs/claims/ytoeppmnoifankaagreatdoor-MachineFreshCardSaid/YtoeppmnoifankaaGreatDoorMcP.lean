/- Packages conf and pacer: of whatever floats. -/
import Derived.Test.YtoeppmnoifankaaGreatDoorMcAJ
import Derived.Laws.Externs
import Derived.Laws.Cover2
namespace Go.Proofs.YtoeppmnoifankaaGreatDoor
open Go.RowKit Go.Maps

theorem conv_fi (w : World) (b : Nat) : ∃ n m, (convert 22 3 (.float .f64 b)).run Tryz.prog w = .ok (.int .i64 n) (w.drewN m) ∧ IntKind.i64.min ≤ n ∧ n ≤ IntKind.i64.max :=
  run_conv_any w 22 3 .f64 .i64 b (by kernel_rfl) Tryz.underlying3
set_option maxHeartbeats 1600000 in
set_option maxRecDepth 100000 in
theorem cf_may (w : World) (ps wo : Nat) (b1 b2 : Nat) (h1 : 1 ≤ ps) (h2 : ps ≤ 64) (h3 : 256 ≤ wo) (h4 : wo ≤ 16777216) (h5 : wo % 64 = 0) : Calls Tryz.prog 66 #[.agg #[.int .i64 (ps : Nat), .int .i64 (wo : Nat), .float .f64 b1, .float .f64 b2]] w (NwPost (.bool true) w) := by
  have d1 : (1 : Int) ≤ ps := by omega
  have d2 : (ps : Int) ≤ 64 := by omega
  have d3 : (256 : Int) ≤ wo := by omega
  have d4 : (wo : Int) ≤ 16777216 := by omega
  have d6 : ((wo : Int) % 64 == 0) = true := by rw [beq_iff_eq]; omega
  have d5 : ((wo : Int).tmod 64 == 0) = true := by rw [Int.tmod_eq_emod_of_nonneg (by omega), beq_iff_eq]; omega
  go_enter Tryz.func66, Tryz.ntmps66
  go_wp2_with fail
  go_ret
  exact ⟨by simp [d6], (Chg.refl _ _).alloc _⟩
set_option maxHeartbeats 1600000 in
set_option maxRecDepth 100000 in
theorem m_isinf (w : World) (b : Nat) : Calls Tryz.prog 131 #[.float .f64 b, .int .i64 1] w fun e w' => ∃ t : Bool, e = .returned (.bool t) ∧ w' = w := by
  go_enter Tryz.func131, Tryz.ntmps131
  go_wp2_with fail
  go_ret
  exact ⟨_, rfl, rfl⟩
def MfPost (w : World) (e : Ending) (w' : World) : Prop := ∃ (r : Nat), e = .returned (.float .f64 r) ∧ Chg [] w w'
def InPost (w : World) (e : Ending) (w' : World) : Prop := ∃ (r : Int), e = .returned (.int .i64 r) ∧ Chg [] w w'
theorem run_archFloor (w : World) (b : Nat) : ∃ r m, (callFunc 216 #[.float .f64 b]).run Tryz.prog w = .ok (.value (.float .f64 r)) (w.drewN m) := by
  obtain ⟨r, m, h⟩ := run_floor_any (P := Tryz.prog) w b
  refine ⟨r, m, ?_⟩
  rw [run_callFunc_extern (e := Extern.MathFloor.toIntegral "math.archFloor" .down) Tryz.func216 (by kernel_rfl) (by kernel_rfl) (by kernel_rfl) (by rfl), h]
  rfl
set_option maxHeartbeats 1600000 in
set_option maxRecDepth 100000 in
theorem m_floor (w : World) (b : Nat) : Calls Tryz.prog 132 #[.float .f64 b] w (MfPost w) := by
  obtain ⟨r, m, hr⟩ := run_archFloor w b
  go_enter Tryz.func132, Tryz.ntmps132
  go_wp2_with fail
  go_ret
  exact ⟨r, rfl, (Chg.refl _ _).drewN m⟩
theorem run_min_any (w : World) (ts : Array TypeId) (t : TypeId) (x y : Nat) : ∃ r m, (Builtin.min_ ts t #[.float .f64 x, .float .f64 y]).run Tryz.prog w = .ok (.float .f64 r) (w.drewN m) := by
  obtain ⟨r, m, h⟩ := run_min2_any (P := Tryz.prog) w .f64 x y
  refine ⟨r, m, ?_⟩
  unfold Builtin.min_
  simpa using h
def PrPost (w : World) (e : Ending) (w' : World) : Prop := ∃ (n : Int) (on : Bool), e = .returned (.tuple #[.int .i64 n, .bool on]) ∧ Chg [] w w'
set_option maxHeartbeats 1600000 in
set_option maxRecDepth 100000 in
theorem cf_percent (w : World) (b : Nat) : Calls Tryz.prog 69 #[.float .f64 b] w (PrPost w) := by
  cases h1 : (FloatKind.f64.format.order b b != some Ordering.eq)
  · cases h2 : (FloatKind.f64.format.order b 0 == some Ordering.lt)
    · obtain ⟨r1, m1, hm⟩ := run_min_any w #[22, 22] 22 b 4666723172467343360
      go_enter Tryz.func69, Tryz.ntmps69
      go_wp2_with fail
      refine (m_isinf w b).mono ?_
      rintro e w' ⟨t, rfl, rfl⟩
      cases t
      · go_wp2_with fail
        refine (m_floor _ r1).mono ?_
        rintro e w2 ⟨r2, rfl, c2⟩
        obtain ⟨n, m3, hc, -, -⟩ := conv_fi w2 r2
        have HC := Lib.hid c2; clear c2
        go_wp2_with fail
        go_ret2
        exact ⟨n, true, rfl, (((Chg.refl _ _).drewN _).trans HC.out).drewN _⟩
      · go_wp2_with fail
        go_ret2
        exact ⟨_, _, rfl, Chg.refl _ _⟩
    · go_enter Tryz.func69, Tryz.ntmps69
      go_wp2_with fail
      go_ret2
      exact ⟨_, _, rfl, Chg.refl _ _⟩
  · go_enter Tryz.func69, Tryz.ntmps69
    go_wp2_with fail
    go_ret2
    exact ⟨_, _, rfl, Chg.refl _ _⟩
theorem conv_fi64 (w : World) (b : Nat) : ∃ n m, (convert 22 2 (.float .f64 b)).run Tryz.prog w = .ok (.int .i64 n) (w.drewN m) ∧ IntKind.i64.min ≤ n ∧ n ≤ IntKind.i64.max :=
  run_conv_any w 22 2 .f64 .i64 b (by kernel_rfl) Tryz.underlying2
set_option maxHeartbeats 1600000 in
set_option maxRecDepth 100000 in
theorem fx_float (w : World) (b : Nat) : Calls Tryz.prog 130 #[.float .f64 b] w (InPost w) := by
  obtain ⟨r1, m1, hm⟩ := run_mul_any (P := Tryz.prog) w 22 .f64 b 4697254411347427328
  cases h1 : (FloatKind.f64.format.order b b != some Ordering.eq)
  · cases h2 : (FloatKind.f64.format.order b 4800837202776948736 == some Ordering.gt || FloatKind.f64.format.order b 4800837202776948736 == some Ordering.eq)
    · cases h3 : (FloatKind.f64.format.order b 14024209239631724544 == some Ordering.lt || FloatKind.f64.format.order b 14024209239631724544 == some Ordering.eq)
      · go_enter Tryz.func130, Tryz.ntmps130
        go_wp2_with fail
        refine (m_floor _ r1).mono ?_
        rintro e w2 ⟨r2, rfl, c2⟩
        obtain ⟨n, m3, hc, -, -⟩ := conv_fi64 w2 r2
        have HC := Lib.hid c2; clear c2
        go_wp2_with fail
        go_ret
        exact ⟨n, rfl, (((Chg.refl _ _).drewN _).trans HC.out).drewN _⟩
      · go_enter Tryz.func130, Tryz.ntmps130
        go_wp2_with fail
        go_ret
        exact ⟨_, rfl, Chg.refl _ _⟩
    · go_enter Tryz.func130, Tryz.ntmps130
      go_wp2_with fail
      go_ret
      exact ⟨_, rfl, Chg.refl _ _⟩
  · go_enter Tryz.func130, Tryz.ntmps130
    go_wp2_with fail
    go_ret
    exact ⟨_, rfl, Chg.refl _ _⟩
set_option maxHeartbeats 1600000 in
set_option maxRecDepth 100000 in
theorem cf_part (w : World) (b : Nat) : Calls Tryz.prog 68 #[.float .f64 b] w (InPost w) := by
  cases h1 : (FloatKind.f64.format.order b b != some Ordering.eq)
  · cases h2 : (FloatKind.f64.format.order b 4580160821035794432 == some Ordering.lt)
    · cases h3 : (FloatKind.f64.format.order b 4607182418800017408 == some Ordering.gt || FloatKind.f64.format.order b 4607182418800017408 == some Ordering.eq)
      · go_enter Tryz.func68, Tryz.ntmps68
        go_wp2_with fail
        refine (fx_float w b).mono ?_
        rintro e w2 ⟨n, rfl, c2⟩
        have HC := Lib.hid c2; clear c2
        go_wp2_with fail
        go_ret
        exact ⟨n, rfl, HC.out⟩
      · go_enter Tryz.func68, Tryz.ntmps68
        go_wp2_with fail
        go_ret
        exact ⟨_, rfl, Chg.refl _ _⟩
    · go_enter Tryz.func68, Tryz.ntmps68
      go_wp2_with fail
      go_ret
      exact ⟨_, rfl, Chg.refl _ _⟩
  · go_enter Tryz.func68, Tryz.ntmps68
    go_wp2_with fail
    go_ret
    exact ⟨_, rfl, Chg.refl _ _⟩
set_option maxHeartbeats 1600000 in
set_option maxRecDepth 100000 in
theorem fx_sub (w : World) (a b : Nat) (ha : a < 1152921504606846976) (hb : b < 1152921504606846976) : Calls Tryz.prog 219 #[.int .i64 (a : Nat), .int .i64 (b : Nat)] w (QuPost (.int .i64 ((a : Int) - (b : Int))) w) := by
  by_cases h0 : b = 0
  · subst h0
    go_enter Tryz.func219, Tryz.ntmps219
    go_wp2_with fail
    go_ret
    exact ⟨by simp, rfl⟩
  · have d1 : decide ((b : Int) > 0) = true := decide_eq_true (by omega)
    have d1' : (0 : Int) < (b : Int) := by omega
    have d2 : decide ((b : Int) < 0) = false := decide_eq_false (by omega)
    have d3 : decide ((a : Int) < -9223372036854775808 + (b : Int)) = false := decide_eq_false (by omega)
    have d5 : ¬ ((a : Int) < -9223372036854775808 + (b : Int)) := by omega
    go_enter Tryz.func219, Tryz.ntmps219
    go_wp2_with fail
    go_ret
    exact ⟨by simp, rfl⟩
set_option maxHeartbeats 1600000 in
set_option maxRecDepth 100000 in
theorem pc_bounds (w : World) (x : Int) : Calls Tryz.prog 220 #[.int .i64 x] w fun e w' => ∃ r : Int, e = .returned (.int .i64 r) ∧ 131072 ≤ r ∧ w' = w := by
  go_enter Tryz.func220, Tryz.ntmps220
  go_wp2_with fail
  all_goals (go_ret; exact ⟨_, rfl, by omega, rfl⟩)
set_option maxHeartbeats 1600000 in
set_option maxRecDepth 100000 in
theorem pc_ratio (w : World) (t g : Nat) (h1 : t < g) (h2 : g < 8388608) : Calls Tryz.prog 138 #[.int .i64 0, .int .i64 (t : Nat), .int .i64 (g : Nat)] w fun e w' => ∃ r : Int, e = .returned (.int .i64 r) ∧ 131072 ≤ r ∧ Chg [] w w' := by
  have hmf : ∀ (fn : Fn) (first cap : Array Value) (w : World), (Instr.makeFunc fn first cap).run Tryz.prog w = .ok (.func fn first cap) w := fun _ _ _ _ => rfl
  go_enter Tryz.func138, Tryz.ntmps138
  go_wp2_with fail
  refine (fx_add w 0 64 (by decide) (by decide)).mono ?_
  rintro e w' ⟨rfl, rfl⟩
  go_wp2_with fail
  refine (fx_whole _ 64 (by decide)).mono ?_
  rintro e w' ⟨rfl, rfl⟩
  go_wp2_with fail
  refine (fx_sub _ g t (by omega) (by omega)).mono ?_
  rintro e w' ⟨rfl, rfl⟩
  go_wp2_with fail
  rw [show (g : Int) - (t : Int) = ((g - t : Nat) : Int) from by omega]
  refine (fx_whole _ (g - t) (by omega)).mono ?_
  rintro e w' ⟨rfl, rfl⟩
  have KD := fun w : World => fx_div w 67108864 ((g - t) * 1048576) (by decide) (by omega) (by omega)
  have HD := Lib.hid KD; clear KD
  go_wp2_with fail
  refine (HD.out _).mono ?_
  rintro e w1 ⟨rfl, c1⟩
  have HC := Lib.hid c1; clear c1
  go_wp2_with fail
  refine (pc_bounds _ _).mono ?_
  rintro e w2 ⟨r, rfl, hr, rfl⟩
  go_wp2_with fail
  go_ret
  exact ⟨r, rfl, hr, HC.out⟩
/-- A goal of nothing that lives. -/
def GlPost (w : World) (e : Ending) (w' : World) : Prop := ∃ t g r : Int, e = .returned (.agg #[.int .i64 t, .int .i64 g, .int .i64 r]) ∧ 0 < t ∧ Chg [] w w'
set_option maxHeartbeats 1600000 in
set_option maxRecDepth 100000 in
theorem pc_goal (w : World) (wo : Nat) (h1 : 256 ≤ wo) (h2 : wo ≤ 16777216) (p : Int) (on : Bool) : Calls Tryz.prog 77 #[.int .i64 0, .int .i64 (wo : Nat), .int .i64 p, .bool on] w (GlPost w) := by
  cases on
  · go_enter Tryz.func77, Tryz.ntmps77
    go_wp2_with fail
    exact ⟨rfl, _, results_cell_row (P := Tryz.prog) (fn := Tryz.f77) rfl _ _ w.heap.size 63 _ _ _ rfl (heap_alloc_new w _) Tryz.underlying63 rfl (by kernel_rfl), _, _, _, rfl, by omega, (Chg.refl [] w).alloc _⟩
  · go_enter Tryz.func77, Tryz.ntmps77
    go_wp2_with fail
    all_goals
      rw [show (wo : Int) / 4 * 3 / 4 = ((wo / 4 * 3 / 4 : Nat) : Int) from by omega, show (wo : Int) / 4 = ((wo / 4 : Nat) : Int) from by omega]
      refine (pc_ratio _ (wo / 4 * 3 / 4) (wo / 4) (by omega) (by omega)).mono ?_
      rintro e w2 ⟨r, rfl, hr, c⟩
      have B1 := c.blk (Blk.new w 63 #[.int .i64 0, .int .i64 0, .int .i64 0]) (by simp)
      have b0 := B1.cellv 0 rfl
      have b1 := B1.cellv 1 rfl
      have b2 := B1.cellv 2 rfl
      have f0 := B1.frozen 0
      have f1 := B1.frozen 1
      have f2 := B1.frozen 2
      have HC := Lib.hid (And.intro c B1); clear c B1
      go_wp2_with fail
      have B2 := ((HC.out.2.setv 0 (.int .i64 ((wo : Int) / 4 * 3 / 4)) rfl).setv 1 (.int .i64 ((wo : Int) / 4)) rfl).setv 2 (.int .i64 r) rfl
      exact ⟨rfl, _, results_cell_row (P := Tryz.prog) (fn := Tryz.f77) rfl _ _ w.heap.size 63 _ _ _ rfl B2 Tryz.underlying63 rfl (by kernel_rfl), _, _, _, rfl, by omega, ((((((Chg.refl [] w).alloc _).trans HC.out.1).setCell (.inr (Nat.le_refl _)) _).setCell (.inr (Nat.le_refl _)) _).setCell (.inr (Nat.le_refl _)) _)⟩
end Go.Proofs.YtoeppmnoifankaaGreatDoor
