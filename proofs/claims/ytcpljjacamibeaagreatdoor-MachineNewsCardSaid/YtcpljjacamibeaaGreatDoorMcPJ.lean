/- Packages conf and pacer: of whatever floats. -/
/- Packages pacer (Begin) and share: nothing lives, nobody has worked. -/
/- Packages fix and share: a product of whatever numbers; May. -/
/- Package machine: wanted, where nothing lives. -/
import Derived.Test.YtcpljjacamibeaaGreatDoorMd1J
import Derived.Laws.Externs
import Derived.Laws.Cover2
namespace Go.Proofs.YtcpljjacamibeaaGreatDoor
set_option maxHeartbeats 16000000
set_option maxRecDepth 100000
open Go.RowKit Go.Maps
theorem conv_fi (w : World) (b : Nat) : ∃ n m, (convert 22 3 (.float .f64 b)).run Tryz.prog w = .ok (.int .i64 n) (w.drewN m) ∧ IntKind.i64.min ≤ n ∧ n ≤ IntKind.i64.max :=
  run_conv_any w 22 3 .f64 .i64 b (by kernel_rfl) Tryz.underlying3
theorem cf_may (w : World) (ps wo : Nat) (b1 b2 : Nat) (h1 : 1 ≤ ps) (h2 : ps ≤ 64) (h3 : 256 ≤ wo) (h4 : wo ≤ 16777216) (h5 : wo % 64 = 0) : Calls Tryz.prog 51 #[.agg #[.int .i64 (ps : Nat), .int .i64 (wo : Nat), .float .f64 b1, .float .f64 b2]] w (NwPost (.bool true) w) := by
  have d1 : (1 : Int) ≤ ps := by omega
  have d2 : (ps : Int) ≤ 64 := by omega
  have d3 : (256 : Int) ≤ wo := by omega
  have d4 : (wo : Int) ≤ 16777216 := by omega
  have d6 : ((wo : Int) % 64 == 0) = true := by rw [beq_iff_eq]; omega
  have d5 : ((wo : Int).tmod 64 == 0) = true := by rw [Int.tmod_eq_emod_of_nonneg (by omega), beq_iff_eq]; omega
  go_enter Tryz.func51, Tryz.ntmps51
  go_wp2_with fail
  go_ret
  exact ⟨by simp [d6], (Chg.refl _ _).alloc _⟩
theorem m_isinf (w : World) (b : Nat) : Calls Tryz.prog 105 #[.float .f64 b, .int .i64 1] w fun e w' => ∃ t : Bool, e = .returned (.bool t) ∧ t = infB b ∧ w' = w := by
  go_enter Tryz.func105, Tryz.ntmps105
  go_wp2_with fail
  go_ret
  exact ⟨_, rfl, rfl, rfl⟩
def MfPost (w : World) (e : Ending) (w' : World) : Prop := ∃ (r : Nat), e = .returned (.float .f64 r) ∧ Chg [] w w'
def InPost (w : World) (e : Ending) (w' : World) : Prop := ∃ (r : Int), e = .returned (.int .i64 r) ∧ Chg [] w w'
theorem run_archFloor (w : World) (b : Nat) : ∃ r m, (callFunc 165 #[.float .f64 b]).run Tryz.prog w = .ok (.value (.float .f64 r)) (w.drewN m) := by
  obtain ⟨r, m, h⟩ := run_floor_any (P := Tryz.prog) w b
  refine ⟨r, m, ?_⟩
  rw [run_callFunc_extern (e := Extern.MathFloor.toIntegral "math.archFloor" .down) Tryz.func165 (by kernel_rfl) (by kernel_rfl) (by kernel_rfl) (by rfl), h]
  rfl
theorem m_floor (w : World) (b : Nat) : Calls Tryz.prog 106 #[.float .f64 b] w (MfPost w) := by
  obtain ⟨r, m, hr⟩ := run_archFloor w b
  go_enter Tryz.func106, Tryz.ntmps106
  go_wp2_with fail
  go_ret
  exact ⟨r, rfl, (Chg.refl _ _).drewN m⟩
theorem run_min_any (w : World) (ts : Array TypeId) (t : TypeId) (x y : Nat) : ∃ r m, (Builtin.min_ ts t #[.float .f64 x, .float .f64 y]).run Tryz.prog w = .ok (.float .f64 r) (w.drewN m) := by
  obtain ⟨r, m, h⟩ := run_min2_any (P := Tryz.prog) w .f64 x y
  refine ⟨r, m, ?_⟩
  unfold Builtin.min_
  simpa using h
def onB (b : Nat) : Bool := if (FloatKind.f64.format.order b b != some Ordering.eq) = true then true else if (FloatKind.f64.format.order b 0 == some Ordering.lt) = true then false else !(infB b)
def PrPost (b : Nat) (w : World) (e : Ending) (w' : World) : Prop := ∃ (n : Int) (on : Bool), e = .returned (.tuple #[.int .i64 n, .bool on]) ∧ on = onB b ∧ Chg [] w w'
theorem cf_percent (w : World) (b : Nat) : Calls Tryz.prog 54 #[.float .f64 b] w (PrPost b w) := by
  cases h1 : (FloatKind.f64.format.order b b != some Ordering.eq)
  · cases h2 : (FloatKind.f64.format.order b 0 == some Ordering.lt)
    · obtain ⟨r1, m1, hm⟩ := run_min_any w #[22, 22] 22 b 4666723172467343360
      go_enter Tryz.func54, Tryz.ntmps54
      go_wp2_with fail
      refine (m_isinf w b).mono ?_
      rintro e w' ⟨t, rfl, ht, rfl⟩
      have hon : onB b = !t := by unfold onB; rw [h1, h2, ht]; rfl
      have HON := Lib.hid hon; clear hon ht
      cases t
      · go_wp2_with fail
        refine (m_floor _ r1).mono ?_
        rintro e w2 ⟨r2, rfl, c2⟩
        obtain ⟨n, m3, hc, -, -⟩ := conv_fi w2 r2
        have HC := Lib.hid c2; clear c2
        go_wp2_with fail
        go_ret2
        exact ⟨n, true, rfl, HON.out.symm, (((Chg.refl _ _).drewN _).trans HC.out).drewN _⟩
      · go_wp2_with fail
        go_ret2
        exact ⟨_, _, rfl, HON.out.symm, Chg.refl _ _⟩
    · have HON := Lib.hid (show onB b = false by unfold onB; rw [h1, h2]; rfl)
      go_enter Tryz.func54, Tryz.ntmps54
      go_wp2_with fail
      go_ret2
      exact ⟨_, _, rfl, HON.out.symm, Chg.refl _ _⟩
  · have HON := Lib.hid (show onB b = true by unfold onB; rw [h1]; rfl)
    go_enter Tryz.func54, Tryz.ntmps54
    go_wp2_with fail
    go_ret2
    exact ⟨_, _, rfl, HON.out.symm, Chg.refl _ _⟩
theorem conv_fi64 (w : World) (b : Nat) : ∃ n m, (convert 22 2 (.float .f64 b)).run Tryz.prog w = .ok (.int .i64 n) (w.drewN m) ∧ IntKind.i64.min ≤ n ∧ n ≤ IntKind.i64.max :=
  run_conv_any w 22 2 .f64 .i64 b (by kernel_rfl) Tryz.underlying2
theorem fx_float (w : World) (b : Nat) : Calls Tryz.prog 104 #[.float .f64 b] w (InPost w) := by
  obtain ⟨r1, m1, hm⟩ := run_mul_any (P := Tryz.prog) w 22 .f64 b 4697254411347427328
  cases h1 : (FloatKind.f64.format.order b b != some Ordering.eq)
  · cases h2 : (FloatKind.f64.format.order b 4800837202776948736 == some Ordering.gt || FloatKind.f64.format.order b 4800837202776948736 == some Ordering.eq)
    · cases h3 : (FloatKind.f64.format.order b 14024209239631724544 == some Ordering.lt || FloatKind.f64.format.order b 14024209239631724544 == some Ordering.eq)
      · go_enter Tryz.func104, Tryz.ntmps104
        go_wp2_with fail
        refine (m_floor _ r1).mono ?_
        rintro e w2 ⟨r2, rfl, c2⟩
        obtain ⟨n, m3, hc, -, -⟩ := conv_fi64 w2 r2
        have HC := Lib.hid c2; clear c2
        go_wp2_with fail
        go_ret
        exact ⟨n, rfl, (((Chg.refl _ _).drewN _).trans HC.out).drewN _⟩
      · go_enter Tryz.func104, Tryz.ntmps104
        go_wp2_with fail
        go_ret
        exact ⟨_, rfl, Chg.refl _ _⟩
    · go_enter Tryz.func104, Tryz.ntmps104
      go_wp2_with fail
      go_ret
      exact ⟨_, rfl, Chg.refl _ _⟩
  · go_enter Tryz.func104, Tryz.ntmps104
    go_wp2_with fail
    go_ret
    exact ⟨_, rfl, Chg.refl _ _⟩
theorem cf_part (w : World) (b : Nat) : Calls Tryz.prog 53 #[.float .f64 b] w (InPost w) := by
  cases h1 : (FloatKind.f64.format.order b b != some Ordering.eq)
  · cases h2 : (FloatKind.f64.format.order b 4580160821035794432 == some Ordering.lt)
    · cases h3 : (FloatKind.f64.format.order b 4607182418800017408 == some Ordering.gt || FloatKind.f64.format.order b 4607182418800017408 == some Ordering.eq)
      · go_enter Tryz.func53, Tryz.ntmps53
        go_wp2_with fail
        refine (fx_float w b).mono ?_
        rintro e w2 ⟨n, rfl, c2⟩
        have HC := Lib.hid c2; clear c2
        go_wp2_with fail
        go_ret
        exact ⟨n, rfl, HC.out⟩
      · go_enter Tryz.func53, Tryz.ntmps53
        go_wp2_with fail
        go_ret
        exact ⟨_, rfl, Chg.refl _ _⟩
    · go_enter Tryz.func53, Tryz.ntmps53
      go_wp2_with fail
      go_ret
      exact ⟨_, rfl, Chg.refl _ _⟩
  · go_enter Tryz.func53, Tryz.ntmps53
    go_wp2_with fail
    go_ret
    exact ⟨_, rfl, Chg.refl _ _⟩
theorem fx_sub (w : World) (a b : Nat) (ha : a < 1152921504606846976) (hb : b < 1152921504606846976) : Calls Tryz.prog 171 #[.int .i64 (a : Nat), .int .i64 (b : Nat)] w (QuPost (.int .i64 ((a : Int) - (b : Int))) w) := by
  by_cases h0 : b = 0
  · subst h0
    go_enter Tryz.func171, Tryz.ntmps171
    go_wp2_with fail
    go_ret
    exact ⟨by simp, rfl⟩
  · have d1 : decide ((b : Int) > 0) = true := decide_eq_true (by omega)
    have d1' : (0 : Int) < (b : Int) := by omega
    have d2 : decide ((b : Int) < 0) = false := decide_eq_false (by omega)
    have d3 : decide ((a : Int) < -9223372036854775808 + (b : Int)) = false := decide_eq_false (by omega)
    have d5 : ¬ ((a : Int) < -9223372036854775808 + (b : Int)) := by omega
    go_enter Tryz.func171, Tryz.ntmps171
    go_wp2_with fail
    go_ret
    exact ⟨by simp, rfl⟩
theorem pc_bounds (w : World) (x : Int) : Calls Tryz.prog 172 #[.int .i64 x] w fun e w' => ∃ r : Int, e = .returned (.int .i64 r) ∧ r = min (max x 131072) 67108864 ∧ w' = w := by
  go_enter Tryz.func172, Tryz.ntmps172
  go_wp2_with fail
  all_goals (go_ret; exact ⟨_, rfl, by omega, rfl⟩)
def rtV (d : Nat) : Int := min (max ((67108864 * 1048576 / (d * 1048576) : Nat) : Int) 131072) 67108864
theorem pc_ratio (w : World) (t g : Nat) (h1 : t < g) (h2 : g < 8388608) : Calls Tryz.prog 112 #[.int .i64 0, .int .i64 (t : Nat), .int .i64 (g : Nat)] w fun e w' => ∃ r : Int, e = .returned (.int .i64 r) ∧ r = rtV (g - t) ∧ Chg [] w w' := by
  have hmf : ∀ (fn : Fn) (first cap : Array Value) (w : World), (Instr.makeFunc fn first cap).run Tryz.prog w = .ok (.func fn first cap) w := fun _ _ _ _ => rfl
  go_enter Tryz.func112, Tryz.ntmps112
  go_wp2_with fail
  refine (fx_add w 0 64 (by decide) (by decide)).mono ?_
  rintro e w' ⟨rfl, rfl⟩
  go_wp2_with fail
  refine (fx_whole _ 64 (by decide)).mono ?_
  rintro e w' ⟨rfl, rfl⟩
  go_wp2_with fail
  refine (fx_sub _ g t (by omega) (by omega)).mono ?_
  rintro e w' ⟨rfl, rfl⟩
  go_wp2_with fail
  rw [show (g : Int) - (t : Int) = ((g - t : Nat) : Int) from by omega]
  refine (fx_whole _ (g - t) (by omega)).mono ?_
  rintro e w' ⟨rfl, rfl⟩
  have KD := fun w : World => fx_div w 67108864 ((g - t) * 1048576) (by decide) (by omega) (by omega)
  have HD := Lib.hid KD; clear KD
  go_wp2_with fail
  refine (HD.out _).mono ?_
  rintro e w1 ⟨rfl, c1⟩
  have HC := Lib.hid c1; clear c1
  go_wp2_with fail
  refine (pc_bounds _ _).mono ?_
  rintro e w2 ⟨r, rfl, hr, rfl⟩
  have HQ := Lib.hid hr; clear hr
  go_wp2_with fail
  go_ret
  exact ⟨r, rfl, HQ.out, HC.out⟩
structure GlIs (wo : Nat) (on : Bool) (t g r : Int) : Prop where
  pos : 0 < t
  off : on = false → t = wo ∧ g = wo ∧ r = 0
  on : on = true → t = (wo / 4 * 3 / 4 : Nat) ∧ g = (wo / 4 : Nat) ∧ r = rtV (wo / 4 - wo / 4 * 3 / 4)
def GlPost (wo : Nat) (on : Bool) (w : World) (e : Ending) (w' : World) : Prop := ∃ t g r : Int, e = .returned (.agg #[.int .i64 t, .int .i64 g, .int .i64 r]) ∧ GlIs wo on t g r ∧ Chg [] w w'
theorem pc_goal (w : World) (wo : Nat) (h1 : 256 ≤ wo) (h2 : wo ≤ 16777216) (p : Int) (on : Bool) : Calls Tryz.prog 62 #[.int .i64 0, .int .i64 (wo : Nat), .int .i64 p, .bool on] w (GlPost wo on w) := by
  cases on
  · go_enter Tryz.func62, Tryz.ntmps62
    go_wp2_with fail
    exact ⟨rfl, _, results_cell_row (P := Tryz.prog) (fn := Tryz.f62) rfl _ _ w.heap.size 89 _ _ _ rfl (heap_alloc_new w _) Tryz.underlying89 rfl (by kernel_rfl), _, _, _, rfl, ⟨by omega, fun _ => ⟨rfl, rfl, rfl⟩, by simp⟩, (Chg.refl [] w).alloc _⟩
  · go_enter Tryz.func62, Tryz.ntmps62
    go_wp2_with fail
    all_goals
      rw [show (wo : Int) / 4 * 3 / 4 = ((wo / 4 * 3 / 4 : Nat) : Int) from by omega, show (wo : Int) / 4 = ((wo / 4 : Nat) : Int) from by omega]
      refine (pc_ratio _ (wo / 4 * 3 / 4) (wo / 4) (by omega) (by omega)).mono ?_
      rintro e w2 ⟨r, rfl, hr, c⟩
      have B1 := c.blk (Blk.new w 89 #[.int .i64 0, .int .i64 0, .int .i64 0]) (by simp)
      have b0 := B1.cellv 0 rfl
      have b1 := B1.cellv 1 rfl
      have b2 := B1.cellv 2 rfl
      have f0 := B1.frozen 0
      have f1 := B1.frozen 1
      have f2 := B1.frozen 2
      have HC := Lib.hid (And.intro c (And.intro B1 hr)); clear c B1 hr
      go_wp2_with fail
      have B2 := ((HC.out.2.1.setv 0 (.int .i64 ((wo : Int) / 4 * 3 / 4)) rfl).setv 1 (.int .i64 ((wo : Int) / 4)) rfl).setv 2 (.int .i64 r) rfl
      exact ⟨rfl, _, results_cell_row (P := Tryz.prog) (fn := Tryz.f62) rfl _ _ w.heap.size 89 _ _ _ rfl B2 Tryz.underlying89 rfl (by kernel_rfl), _, _, _, rfl, ⟨by omega, by simp, fun _ => ⟨by omega, by omega, HC.out.2.2⟩⟩, ((((((Chg.refl [] w).alloc _).trans HC.out.1).setCell (.inr (Nat.le_refl _)) _).setCell (.inr (Nat.le_refl _)) _).setCell (.inr (Nat.le_refl _)) _)⟩
theorem pc_begin (w : World) (t g r : Int) (ht : 0 < t) : Calls Tryz.prog 133 #[.agg #[.int .i64 t, .int .i64 g, .int .i64 r], .int .i64 0] w (NwPost (.bool false) w) := by
  have d1 : decide ((0 : Int) ≥ t) = false := decide_eq_false (by omega)
  have d2 : decide (t ≤ (0 : Int)) = false := decide_eq_false (by omega)
  have d3 : ¬ t ≤ (0 : Int) := by omega
  go_enter Tryz.func133, Tryz.ntmps133
  go_wp2_with fail
  go_ret
  exact ⟨rfl, (Chg.refl _ _).alloc _⟩
def BdPost (ps : Nat) (w : World) (e : Ending) (w' : World) : Prop := ∃ q : Nat, q ≤ 1048576 ∧ e = .returned (.tuple #[.int .i64 (ps : Nat), .int .i64 (q : Nat)]) ∧ w' = w
theorem sh_bounds (w : World) (ps : Nat) (h1 : 1 ≤ ps) (h2 : ps ≤ 64) (part : Int) : Calls Tryz.prog 268 #[.int .i64 (ps : Nat), .int .i64 part] w (BdPost ps w) := by
  have d1 : (1 : Int) ≤ ps := by omega
  have d2 : (ps : Int) ≤ 64 := by omega
  by_cases p0 : part < 0
  · go_enter Tryz.func268, Tryz.ntmps268
    go_wp2_with fail
    go_ret2
    exact ⟨0, by decide, rfl, rfl⟩
  · by_cases p1 : 1048576 < part
    · go_enter Tryz.func268, Tryz.ntmps268
      go_wp2_with fail
      go_ret2
      exact ⟨1048576, by decide, rfl, rfl⟩
    · obtain ⟨q, rfl⟩ : ∃ q : Nat, part = q := ⟨part.toNat, by omega⟩
      have d3 : (q : Int) ≤ 1048576 := by omega
      have d4 : (0 : Int) ≤ q := by omega
      go_enter Tryz.func268, Tryz.ntmps268
      go_wp2_with fail
      go_ret2
      exact ⟨q, by omega, rfl, rfl⟩
theorem sh_few (w : World) (n : Nat) (h : n ≤ 1000000) : Calls Tryz.prog 187 #[.int .i64 (n : Nat)] w (QuPost (.int .i64 (n : Nat)) w) := by
  have d1 : (0 : Int) ≤ n := by omega
  have d2 : (n : Int) ≤ 1099511627776 := by omega
  go_enter Tryz.func187, Tryz.ntmps187
  go_wp2_with fail
  all_goals first | (exfalso; omega) | (go_ret; exact ⟨rfl, rfl⟩)
def WkPost (w : World) (e : Ending) (w' : World) : Prop := ∃ n q : Int, e = .returned (.tuple #[.int .i64 n, .int .i64 q]) ∧ Chg [] w w'
def BoPost (w : World) (e : Ending) (w' : World) : Prop := ∃ b : Bool, e = .returned (.bool b) ∧ Chg [] w w'
theorem sh_workers (w : World) (ps : Nat) (h1 : 1 ≤ ps) (h2 : ps ≤ 64) (part : Int) : Calls Tryz.prog 186 #[.int .i64 (ps : Nat), .int .i64 part] w (WkPost w) := by
  go_enter Tryz.func186, Tryz.ntmps186
  go_wp2_with fail
  refine (sh_bounds w ps h1 h2 part).mono ?_
  rintro e w' ⟨q, hq, rfl, rfl⟩
  have hm : ps * q ≤ 64 * 1048576 := Nat.mul_le_mul h2 hq
  have e1 : (ps : Int) * (q : Int) = ((ps * q : Nat) : Int) := (Int.natCast_mul ps q).symm
  generalize ps * q = z at hm e1
  obtain ⟨y, hy⟩ : ∃ y, y = z / 1048576 := ⟨_, rfl⟩
  obtain ⟨r, hr⟩ : ∃ r, r = z - y * 1048576 := ⟨_, rfl⟩
  obtain ⟨v, hv⟩ : ∃ v, v = ps * 1048576 := ⟨_, rfl⟩
  obtain ⟨u, hu⟩ : ∃ u, u = y * 1048576 := ⟨_, rfl⟩
  have K1 := fun w : World => fx_int w z (by omega)
  rw [← hy] at K1
  have K2 := fun w : World => fx_whole w y (by omega)
  rw [← hu] at K2
  have K3 := fun w : World => fx_whole w ps (by omega)
  rw [← hv] at K3
  have K4 := fun w : World => fx_div w r v (by omega) (by omega) (by omega)
  have e2 : (z : Int) - (u : Int) = (r : Int) := by omega
  have by_ : y ≤ 64 := by omega
  have HK := Lib.hid (And.intro K1 (And.intro K2 (And.intro K3 (And.intro K4 (And.intro e1 e2))))); clear K1 K2 K3 K4 e1 e2
  have bu : u ≤ 67108864 := by omega
  clear hr hv hu hy
  go_wp2_with fail
  rw [HK.out.2.2.2.2.1, show wrap64 (z : Int) = (z : Int) from by unfold wrap64; omega]
  refine (HK.out.1 _).mono ?_
  rintro e w1 ⟨rfl, rfl⟩
  go_wp2_with fail
  refine (HK.out.2.1 _).mono ?_
  rintro e w1 ⟨rfl, rfl⟩
  go_wp2_with fail
  refine (HK.out.2.2.1 _).mono ?_
  rintro e w1 ⟨rfl, rfl⟩
  go_wp2_with fail
  rw [HK.out.2.2.2.2.2]
  refine (HK.out.2.2.2.1 _).mono ?_
  rintro e w1 ⟨rfl, c1⟩
  have HC := Lib.hid c1; clear c1
  go_wp2_with fail
  go_ret2
  exact ⟨_, _, rfl, HC.out⟩
theorem sh_dedicated (w : World) (p : Int) (ps : Nat) (h1 : 1 ≤ ps) (h2 : ps ≤ 64) (part : Int) : Calls Tryz.prog 129 #[.int .i64 p, .int .i64 (ps : Nat), .int .i64 part] w (BoPost w) := by
  go_enter Tryz.func129, Tryz.ntmps129
  go_wp2_with fail
  refine (sh_workers w ps h1 h2 part).mono ?_
  rintro e w1 ⟨n, q, rfl, c1⟩
  have HC := Lib.hid c1; clear c1
  by_cases p0 : 0 ≤ p
  · go_wp2_with fail
    go_ret
    exact ⟨_, rfl, HC.out⟩
  · go_wp2_with fail
    go_ret
    exact ⟨_, rfl, HC.out⟩
def InK (k : IntKind) (w : World) (e : Ending) (w' : World) : Prop := ∃ u : Int, e = .returned (.int k u) ∧ w' = w
theorem fx_size_any (w : World) (a : Int) : Calls Tryz.prog 261 #[.int .i64 a] w (InK .u64 w) := by
  by_cases h : a < 0
  · go_enter Tryz.func261, Tryz.ntmps261
    go_wp2_with fail
    go_ret
    exact ⟨_, rfl, rfl⟩
  · go_enter Tryz.func261, Tryz.ntmps261
    go_wp2_with fail
    go_ret
    exact ⟨_, rfl, rfl⟩
def HlPost (w : World) (e : Ending) (w' : World) : Prop := ∃ h l : Int, e = .returned (.tuple #[.int .u64 h, .int .u64 l]) ∧ w' = w
theorem bits_mul64_any (w : World) (x y : Int) : Calls Tryz.prog 270 #[.int .u64 x, .int .u64 y] w (HlPost w) := by
  go_enter Tryz.func270, Tryz.ntmps270
  go_wp2_with fail
  go_ret2
  exact ⟨_, _, rfl, rfl⟩
theorem fx_edge (w : World) (b : Bool) : Calls Tryz.prog 260 #[.bool b] w (InK .i64 w) := by
  cases b
  · go_enter Tryz.func260, Tryz.ntmps260
    go_wp2_with fail
    go_ret
    exact ⟨_, rfl, rfl⟩
  · go_enter Tryz.func260, Tryz.ntmps260
    go_wp2_with fail
    go_ret
    exact ⟨_, rfl, rfl⟩
theorem fx_made_any (w : World) (hi lo : Int) (below more : Bool) (hbm : (below && more) = false) : Calls Tryz.prog 262 #[.int .u64 hi, .int .u64 lo, .bool below, .bool more] w (InK .i64 w) := by
  cases below <;> cases more
  all_goals
    first
    | (exfalso; simp at hbm; done)
    | (clear hbm
       go_enter Tryz.func262, Tryz.ntmps262
       go_wp2_with fail
       all_goals first | (go_ret; exact ⟨_, rfl, rfl⟩) | (refine (fx_edge _ _).mono ?_; rintro e w' ⟨u, rfl, rfl⟩; go_wp2_with fail; go_ret; exact ⟨_, rfl, rfl⟩))
theorem run_add64_any (w : World) (x : Int) : ∃ s c : Int, (callFunc 318 #[.int .u64 x, .int .u64 1, .int .u64 0]).run Tryz.prog w = .ok (.value (.tuple #[.int .u64 s, .int .u64 c])) w := by
  refine ⟨Int.ofNat ((x.toNat + 1 + 0) % Extern.MathBitsCarry.m64), Int.ofNat ((x.toNat + 1 + 0) / Extern.MathBitsCarry.m64), ?_⟩
  rw [run_callFunc_extern (e := add64Entry) Tryz.func318 (by kernel_rfl) (by kernel_rfl) (by kernel_rfl) (by rfl)]
  rfl
set_option maxHeartbeats 4000000 in
theorem fx_made_any2 (w : World) (hi lo : Int) (below more : Bool) : Calls Tryz.prog 262 #[.int .u64 hi, .int .u64 lo, .bool below, .bool more] w (InK .i64 w) := by
  cases hbm : (below && more)
  · exact fx_made_any w hi lo below more hbm
  · obtain ⟨rfl, rfl⟩ : below = true ∧ more = true := by simpa using hbm
    clear hbm
    obtain ⟨s, c, hr⟩ := run_add64_any w lo
    go_enter Tryz.func262, Tryz.ntmps262
    go_wp2_with fail
    all_goals first | (go_ret; exact ⟨_, rfl, rfl⟩) | (refine (fx_edge _ _).mono ?_; rintro e w' ⟨u, rfl, rfl⟩; go_wp2_with fail; go_ret; exact ⟨_, rfl, rfl⟩)
set_option maxHeartbeats 4000000 in
theorem fx_mul_any (w : World) (a b : Int) : Calls Tryz.prog 188 #[.int .i64 a, .int .i64 b] w (InK .i64 w) := by
  go_enter Tryz.func188, Tryz.ntmps188
  go_wp2_with fail
  refine (fx_size_any w a).mono ?_
  rintro e w1 ⟨u1, rfl, rfl⟩
  go_wp2_with fail
  refine (fx_size_any w1 b).mono ?_
  rintro e w1 ⟨u2, rfl, rfl⟩
  go_wp2_with fail
  refine (bits_mul64_any w1 u1 u2).mono ?_
  rintro e w1 ⟨h, l, rfl, rfl⟩
  go_wp2_with fail
  refine (fx_made_any2 _ _ _ _ _).mono ?_
  rintro e w1 ⟨u, rfl, rfl⟩
  go_wp2_with fail
  go_ret
  exact ⟨_, rfl, rfl⟩
theorem sh_may (w : World) (wk al : Nat) (part : Int) (h1 : wk ≤ 1000000) (h2 : al ≤ 1000000) : Calls Tryz.prog 130 #[.int .i64 (wk : Nat), .int .i64 (al : Nat), .int .i64 part] w (BoPost w) := by
  have K1 := fun w : World => fx_whole w (al + 1) (by omega)
  have K2 := fun w : World => fx_whole w (wk + 1) (by omega)
  have HK := Lib.hid (And.intro K1 K2); clear K1 K2
  have e1 : (al : Int) + 1 = ((al + 1 : Nat) : Int) := by omega
  have e2 : (wk : Int) + 1 = ((wk + 1 : Nat) : Int) := by omega
  have HE := Lib.hid (And.intro e1 e2); clear e1 e2
  go_enter Tryz.func130, Tryz.ntmps130
  go_wp2_with fail
  refine (sh_few w wk h1).mono ?_
  rintro e w1 ⟨rfl, rfl⟩
  go_wp2_with fail
  refine (sh_few w1 al h2).mono ?_
  rintro e w1 ⟨rfl, rfl⟩
  go_wp2_with fail
  rw [HE.out.1]
  refine (HK.out.1 w1).mono ?_
  rintro e w1 ⟨rfl, rfl⟩
  go_wp2_with fail
  refine (fx_mul_any _ _ _).mono ?_
  rintro e w1 ⟨u, rfl, rfl⟩
  go_wp2_with fail
  rw [HE.out.2]
  refine (HK.out.2 w1).mono ?_
  rintro e w1 ⟨rfl, rfl⟩
  go_wp2_with fail
  go_ret
  exact ⟨_, rfl, Chg.refl _ _⟩
section
variable {W : Bs} {w : World} {p : MAt} {m : Mac} (M : MM W w p m)
include M
theorem m_wanted (q : Int) (hf : m.force = 0) (hc : 0 ≤ m.ph.cyc) (hl : m.A.a.live = 0) (hT : 0 < m.gT) : Calls Tryz.prog 131 #[.pointer (some ⟨p.gm, 0, none⟩), .int .i64 q] w (NwPost (.bool false) w) := by
  have c22 : w.cell? ⟨p.gm, 22, none⟩ = some (.int .i64 m.force) := M.mb.cellv 22 rfl
  rw [hf] at c22
  have c15 : w.cell? ⟨p.gm, 15, none⟩ = some (.pointer (some ⟨p.gph, 0, none⟩)) := M.mb.cellv 15 rfl
  have c19 : w.cell? ⟨p.gm, 19, none⟩ = some (.int .i64 m.gT) := M.mb.cellv 19 rfl
  have c20 : w.cell? ⟨p.gm, 20, none⟩ = some (.int .i64 m.gG) := M.mb.cellv 20 rfl
  have c21 : w.cell? ⟨p.gm, 21, none⟩ = some (.int .i64 m.gR) := M.mb.cellv 21 rfl
  have hgl := M.mb.lt
  have d1 : decide ((0 : Int) > m.ph.cyc) = false := decide_eq_false (by omega)
  have d2 : decide (m.ph.cyc < (0 : Int)) = false := decide_eq_false (by omega)
  have KC : ∀ w', Chg [] w w' → Calls Tryz.prog 40 #[.pointer (some ⟨p.gph, 0, none⟩)] w' (QuPost (.int .i64 m.ph.cyc) w') := fun w' c => (ph_cycle_ok p.gph p.bsd m.ph w' (M.chg0 c).ph).mono (fun e w'' h => ⟨h.1, h.2.symm⟩)
  have KL : ∀ w', Chg [] w w' → Calls Tryz.prog 22 #[.pointer (some ⟨p.gm, 0, none⟩)] w' (QuPost (.int .i64 0) w') := fun w' c => by
    have h := m_live (M.chg0 c)
    rw [hl] at h
    exact h
  have HM := Lib.hid (And.intro M (And.intro KC KL)); clear M KC KL
  go_enter Tryz.func131, Tryz.ntmps131
  go_wp2_with fail
  refine wp_region_takes (fuel := 25) 24 (fun w' => Chg [] w w') [0, 1, 2, 3, 4, 5, 6, 7] (by kernel_rfl) (by kernel_rfl) (fun _ _ _ _ _ h => h) ((Chg.refl [] w).drew) ?_
  simp only [List.filterMap_cons, List.filterMap_nil, qGa, qGb]
  iterate 8
    refine wpTake_step (fun K hK => ?_)
    rw [if_pos (by rfl)]
    refine ⟨?_, fun w' hS' => ?_, ?_⟩
    rotate_left 1
    focus
      have y22 := hS'.cellv hgl (by simp) c22
      have y15 := hS'.cellv hgl (by simp) c15
      have y19 := hS'.cellv hgl (by simp) c19
      have y20 := hS'.cellv hgl (by simp) c20
      have y21 := hS'.cellv hgl (by simp) c21
      go_simp
      try with_reducible rfl
      done
    simp only [Act.put, qSa, qSb, qSc]
    refine hK _ ?_
    clear hK K
  refine wpTake_nil ?_
  generalize hx0 : w.drew = x0
  have D0 : Chg [] w x0 := by rw [← hx0]; exact (Chg.refl [] w).drew
  clear hx0
  refine wpAnyS_ready (rs := [8]) (by kernel_rfl) (by simp) ?_
  refine AllReadyS.o (fun K hK => ?_)
  rw [if_pos (by rfl)]
  go_simp
  go_at_call 40
  refine (HM.out.2.1 x0 D0).mono ?_
  rintro e x0 ⟨rfl, rfl⟩
  dsimp only
  refine hK _ _ (D0) ?_
  clear hK K
  try simp only [Act.put, qSa, qSb, qSc]
  refine wpAnyS_more (fuel := 17) [9, 10, 11, 12, 13, 14, 15] (by kernel_rfl) (fun _ _ _ _ _ h => h) D0 ?_
  simp only [List.filterMap_cons, List.filterMap_nil, qGa, qGb]
  iterate 7
    refine wpTake_step (fun K hK => ?_)
    rw [if_pos (by rfl)]
    refine ⟨?_, fun w' hS' => ?_, ?_⟩
    rotate_left 1
    focus
      have y22 := hS'.cellv hgl (by simp) c22
      have y15 := hS'.cellv hgl (by simp) c15
      have y19 := hS'.cellv hgl (by simp) c19
      have y20 := hS'.cellv hgl (by simp) c20
      have y21 := hS'.cellv hgl (by simp) c21
      go_simp
      try with_reducible rfl
      done
    simp only [Act.put, qSa, qSb, qSc]
    refine hK _ ?_
    clear hK K
  refine wpTake_nil ?_
  refine wpAnyS_ready (rs := [16]) (by kernel_rfl) (by simp) ?_
  refine AllReadyS.o (fun K hK => ?_)
  rw [if_pos (by rfl)]
  go_simp
  go_at_call 22
  refine (HM.out.2.2 x0 D0).mono ?_
  rintro e x0 ⟨rfl, rfl⟩
  dsimp only
  refine hK _ _ (D0) ?_
  clear hK K
  try simp only [Act.put, qSa, qSb, qSc]
  refine wpAnyS_ready (rs := [17]) (by kernel_rfl) (by simp) ?_
  refine AllReadyS.o (fun K hK => ?_)
  rw [if_pos (by rfl)]
  go_simp
  go_at_call 133
  refine (pc_begin x0 m.gT m.gG m.gR hT).mono ?_
  rintro e x1 ⟨rfl, k1⟩
  dsimp only
  have D1 : Chg [] w x1 := D0.trans k1
  refine hK _ _ (D1) ?_
  clear hK K
  try simp only [Act.put, qSa, qSb, qSc]
  refine wpAnyS_more (fuel := 9) [18, 19, 20, 21, 22, 23] (by kernel_rfl) (fun _ _ _ _ _ h => h) D1 ?_
  simp only [List.filterMap_cons, List.filterMap_nil, qGa, qGb]
  refine wpTake_step (fun K hK => ?_)
  rw [if_pos (by rfl)]
  refine ⟨?_, fun w' hS' => ?_, ?_⟩
  rotate_left 1
  focus
    have y22 := hS'.cellv hgl (by simp) c22
    have y15 := hS'.cellv hgl (by simp) c15
    have y19 := hS'.cellv hgl (by simp) c19
    have y20 := hS'.cellv hgl (by simp) c20
    have y21 := hS'.cellv hgl (by simp) c21
    go_simp
    try with_reducible rfl
    done
  simp only [Act.put, qSa, qSb, qSc]
  refine hK _ ?_
  clear hK K
  iterate 5
    refine wpTake_step (fun K hK => ?_)
    rw [if_neg (by exact Bool.false_ne_true)]
    simp only [Act.put, qSa, qSb, qSc]
    refine hK _ ?_
    clear hK K
  refine wpTake_nil ?_
  refine wpAnyS_tail 24 9 (by kernel_rfl) rfl ?_
  simp only [qDa, qDb]
  have HD := Lib.hid D1
  clear D1 D0 k1
  go_wp2_with fail
  go_ret
  exact ⟨rfl, HD.out⟩
end
end Go.Proofs.YtcpljjacamibeaaGreatDoor
