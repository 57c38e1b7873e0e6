/- Packages pacer (Begin) and share: nothing lives, nobody has worked. -/
/- Packages fix and share: a product of whatever numbers; May. -/
import Derived.Test.YtoeppmnoifankaaGreatDoorMcP
import Derived.Laws.Externs
namespace Go.Proofs.YtoeppmnoifankaaGreatDoor
open Go.RowKit Go.Maps

set_option maxHeartbeats 1600000 in
set_option maxRecDepth 100000 in
theorem pc_begin (w : World) (t g r : Int) (ht : 0 < t) : Calls Tryz.prog 107 #[.agg #[.int .i64 t, .int .i64 g, .int .i64 r], .int .i64 0] w (NwPost (.bool false) w) := by
  have d1 : decide ((0 : Int) ≥ t) = false := decide_eq_false (by omega)
  have d2 : decide (t ≤ (0 : Int)) = false := decide_eq_false (by omega)
  have d3 : ¬ t ≤ (0 : Int) := by omega
  go_enter Tryz.func107, Tryz.ntmps107
  go_wp2_with fail
  go_ret
  exact ⟨rfl, (Chg.refl _ _).alloc _⟩
def BdPost (ps : Nat) (w : World) (e : Ending) (w' : World) : Prop := ∃ q : Nat, q ≤ 1048576 ∧ e = .returned (.tuple #[.int .i64 (ps : Nat), .int .i64 (q : Nat)]) ∧ w' = w
set_option maxHeartbeats 1600000 in
set_option maxRecDepth 100000 in
theorem sh_bounds (w : World) (ps : Nat) (h1 : 1 ≤ ps) (h2 : ps ≤ 64) (part : Int) : Calls Tryz.prog 228 #[.int .i64 (ps : Nat), .int .i64 part] w (BdPost ps w) := by
  have d1 : (1 : Int) ≤ ps := by omega
  have d2 : (ps : Int) ≤ 64 := by omega
  by_cases p0 : part < 0
  · go_enter Tryz.func228, Tryz.ntmps228
    go_wp2_with fail
    go_ret2
    exact ⟨0, by decide, rfl, rfl⟩
  · by_cases p1 : 1048576 < part
    · go_enter Tryz.func228, Tryz.ntmps228
      go_wp2_with fail
      go_ret2
      exact ⟨1048576, by decide, rfl, rfl⟩
    · obtain ⟨q, rfl⟩ : ∃ q : Nat, part = q := ⟨part.toNat, by omega⟩
      have d3 : (q : Int) ≤ 1048576 := by omega
      have d4 : (0 : Int) ≤ q := by omega
      go_enter Tryz.func228, Tryz.ntmps228
      go_wp2_with fail
      go_ret2
      exact ⟨q, by omega, rfl, rfl⟩
set_option maxHeartbeats 1600000 in
set_option maxRecDepth 100000 in
theorem sh_few (w : World) (n : Nat) (h : n ≤ 1000000) : Calls Tryz.prog 155 #[.int .i64 (n : Nat)] w (QuPost (.int .i64 (n : Nat)) w) := by
  have d1 : (0 : Int) ≤ n := by omega
  have d2 : (n : Int) ≤ 1099511627776 := by omega
  go_enter Tryz.func155, Tryz.ntmps155
  go_wp2_with fail
  all_goals first | (exfalso; omega) | (go_ret; exact ⟨rfl, rfl⟩)
def WkPost (w : World) (e : Ending) (w' : World) : Prop := ∃ n q : Int, e = .returned (.tuple #[.int .i64 n, .int .i64 q]) ∧ Chg [] w w'
def BoPost (w : World) (e : Ending) (w' : World) : Prop := ∃ b : Bool, e = .returned (.bool b) ∧ Chg [] w w'
set_option maxHeartbeats 1600000 in
set_option maxRecDepth 100000 in
theorem sh_workers (w : World) (ps : Nat) (h1 : 1 ≤ ps) (h2 : ps ≤ 64) (part : Int) : Calls Tryz.prog 154 #[.int .i64 (ps : Nat), .int .i64 part] w (WkPost w) := by
  go_enter Tryz.func154, Tryz.ntmps154
  go_wp2_with fail
  refine (sh_bounds w ps h1 h2 part).mono ?_
  rintro e w' ⟨q, hq, rfl, rfl⟩
  have hm : ps * q ≤ 64 * 1048576 := Nat.mul_le_mul h2 hq
  have e1 : (ps : Int) * (q : Int) = ((ps * q : Nat) : Int) := (Int.natCast_mul ps q).symm
  generalize ps * q = z at hm e1
  obtain ⟨y, hy⟩ : ∃ y, y = z / 1048576 := ⟨_, rfl⟩
  obtain ⟨r, hr⟩ : ∃ r, r = z - y * 1048576 := ⟨_, rfl⟩
  obtain ⟨v, hv⟩ : ∃ v, v = ps * 1048576 := ⟨_, rfl⟩
  obtain ⟨u, hu⟩ : ∃ u, u = y * 1048576 := ⟨_, rfl⟩
  have K1 := fun w : World => fx_int w z (by omega)
  rw [← hy] at K1
  have K2 := fun w : World => fx_whole w y (by omega)
  rw [← hu] at K2
  have K3 := fun w : World => fx_whole w ps (by omega)
  rw [← hv] at K3
  have K4 := fun w : World => fx_div w r v (by omega) (by omega) (by omega)
  have e2 : (z : Int) - (u : Int) = (r : Int) := by omega
  have by_ : y ≤ 64 := by omega
  have HK := Lib.hid (And.intro K1 (And.intro K2 (And.intro K3 (And.intro K4 (And.intro e1 e2))))); clear K1 K2 K3 K4 e1 e2
  have bu : u ≤ 67108864 := by omega
  clear hr hv hu hy
  go_wp2_with fail
  rw [HK.out.2.2.2.2.1, show wrap64 (z : Int) = (z : Int) from by unfold wrap64; omega]
  refine (HK.out.1 _).mono ?_
  rintro e w1 ⟨rfl, rfl⟩
  go_wp2_with fail
  refine (HK.out.2.1 _).mono ?_
  rintro e w1 ⟨rfl, rfl⟩
  go_wp2_with fail
  refine (HK.out.2.2.1 _).mono ?_
  rintro e w1 ⟨rfl, rfl⟩
  go_wp2_with fail
  rw [HK.out.2.2.2.2.2]
  refine (HK.out.2.2.2.1 _).mono ?_
  rintro e w1 ⟨rfl, c1⟩
  have HC := Lib.hid c1; clear c1
  go_wp2_with fail
  go_ret2
  exact ⟨_, _, rfl, HC.out⟩
set_option maxHeartbeats 1600000 in
set_option maxRecDepth 100000 in
theorem sh_dedicated (w : World) (p : Int) (ps : Nat) (h1 : 1 ≤ ps) (h2 : ps ≤ 64) (part : Int) : Calls Tryz.prog 104 #[.int .i64 p, .int .i64 (ps : Nat), .int .i64 part] w (BoPost w) := by
  go_enter Tryz.func104, Tryz.ntmps104
  go_wp2_with fail
  refine (sh_workers w ps h1 h2 part).mono ?_
  rintro e w1 ⟨n, q, rfl, c1⟩
  have HC := Lib.hid c1; clear c1
  by_cases p0 : 0 ≤ p
  · go_wp2_with fail
    go_ret
    exact ⟨_, rfl, HC.out⟩
  · go_wp2_with fail
    go_ret
    exact ⟨_, rfl, HC.out⟩
def InK (k : IntKind) (w : World) (e : Ending) (w' : World) : Prop := ∃ u : Int, e = .returned (.int k u) ∧ w' = w
set_option maxHeartbeats 1600000 in
set_option maxRecDepth 100000 in
theorem fx_size_any (w : World) (a : Int) : Calls Tryz.prog 231 #[.int .i64 a] w (InK .u64 w) := by
  by_cases h : a < 0
  · go_enter Tryz.func231, Tryz.ntmps231
    go_wp2_with fail
    go_ret
    exact ⟨_, rfl, rfl⟩
  · go_enter Tryz.func231, Tryz.ntmps231
    go_wp2_with fail
    go_ret
    exact ⟨_, rfl, rfl⟩
def HlPost (w : World) (e : Ending) (w' : World) : Prop := ∃ h l : Int, e = .returned (.tuple #[.int .u64 h, .int .u64 l]) ∧ w' = w
set_option maxHeartbeats 1600000 in
set_option maxRecDepth 100000 in
theorem bits_mul64_any (w : World) (x y : Int) : Calls Tryz.prog 230 #[.int .u64 x, .int .u64 y] w (HlPost w) := by
  go_enter Tryz.func230, Tryz.ntmps230
  go_wp2_with fail
  go_ret2
  exact ⟨_, _, rfl, rfl⟩
set_option maxHeartbeats 1600000 in
set_option maxRecDepth 100000 in
theorem fx_edge (w : World) (b : Bool) : Calls Tryz.prog 275 #[.bool b] w (InK .i64 w) := by
  cases b
  · go_enter Tryz.func275, Tryz.ntmps275
    go_wp2_with fail
    go_ret
    exact ⟨_, rfl, rfl⟩
  · go_enter Tryz.func275, Tryz.ntmps275
    go_wp2_with fail
    go_ret
    exact ⟨_, rfl, rfl⟩
set_option maxHeartbeats 1600000 in
set_option maxRecDepth 100000 in
theorem fx_made_any (w : World) (hi lo : Int) (below more : Bool) (hbm : (below && more) = false) : Calls Tryz.prog 232 #[.int .u64 hi, .int .u64 lo, .bool below, .bool more] w (InK .i64 w) := by
  cases below <;> cases more
  all_goals
    first
    | (exfalso; simp at hbm; done)
    | (clear hbm
       go_enter Tryz.func232, Tryz.ntmps232
       go_wp2_with fail
       all_goals first | (go_ret; exact ⟨_, rfl, rfl⟩) | (refine (fx_edge _ _).mono ?_; rintro e w' ⟨u, rfl, rfl⟩; go_wp2_with fail; go_ret; exact ⟨_, rfl, rfl⟩))
end Go.Proofs.YtoeppmnoifankaaGreatDoor
namespace Go.Proofs.YtoeppmnoifankaaGreatDoor
open Go.RowKit Go.Maps

theorem run_add64_any (w : World) (x : Int) : ∃ s c : Int, (callFunc 284 #[.int .u64 x, .int .u64 1, .int .u64 0]).run Tryz.prog w = .ok (.value (.tuple #[.int .u64 s, .int .u64 c])) w := by
  refine ⟨Int.ofNat ((x.toNat + 1 + 0) % Extern.MathBitsCarry.m64), Int.ofNat ((x.toNat + 1 + 0) / Extern.MathBitsCarry.m64), ?_⟩
  rw [run_callFunc_extern (e := add64Entry) Tryz.func284 (by kernel_rfl) (by kernel_rfl) (by kernel_rfl) (by rfl)]
  rfl
set_option maxHeartbeats 4000000 in
set_option maxRecDepth 100000 in
theorem fx_made_any2 (w : World) (hi lo : Int) (below more : Bool) : Calls Tryz.prog 232 #[.int .u64 hi, .int .u64 lo, .bool below, .bool more] w (InK .i64 w) := by
  cases hbm : (below && more)
  · exact fx_made_any w hi lo below more hbm
  · obtain ⟨rfl, rfl⟩ : below = true ∧ more = true := by simpa using hbm
    clear hbm
    obtain ⟨s, c, hr⟩ := run_add64_any w lo
    go_enter Tryz.func232, Tryz.ntmps232
    go_wp2_with fail
    all_goals first | (go_ret; exact ⟨_, rfl, rfl⟩) | (refine (fx_edge _ _).mono ?_; rintro e w' ⟨u, rfl, rfl⟩; go_wp2_with fail; go_ret; exact ⟨_, rfl, rfl⟩)
set_option maxHeartbeats 4000000 in
set_option maxRecDepth 100000 in
theorem fx_mul_any (w : World) (a b : Int) : Calls Tryz.prog 156 #[.int .i64 a, .int .i64 b] w (InK .i64 w) := by
  go_enter Tryz.func156, Tryz.ntmps156
  go_wp2_with fail
  refine (fx_size_any w a).mono ?_
  rintro e w1 ⟨u1, rfl, rfl⟩
  go_wp2_with fail
  refine (fx_size_any w1 b).mono ?_
  rintro e w1 ⟨u2, rfl, rfl⟩
  go_wp2_with fail
  refine (bits_mul64_any w1 u1 u2).mono ?_
  rintro e w1 ⟨h, l, rfl, rfl⟩
  go_wp2_with fail
  refine (fx_made_any2 _ _ _ _ _).mono ?_
  rintro e w1 ⟨u, rfl, rfl⟩
  go_wp2_with fail
  go_ret
  exact ⟨_, rfl, rfl⟩
set_option maxHeartbeats 1600000 in
set_option maxRecDepth 100000 in
theorem sh_may (w : World) (wk al : Nat) (part : Int) (h1 : wk ≤ 1000000) (h2 : al ≤ 1000000) : Calls Tryz.prog 105 #[.int .i64 (wk : Nat), .int .i64 (al : Nat), .int .i64 part] w (BoPost w) := by
  have K1 := fun w : World => fx_whole w (al + 1) (by omega)
  have K2 := fun w : World => fx_whole w (wk + 1) (by omega)
  have HK := Lib.hid (And.intro K1 K2); clear K1 K2
  have e1 : (al : Int) + 1 = ((al + 1 : Nat) : Int) := by omega
  have e2 : (wk : Int) + 1 = ((wk + 1 : Nat) : Int) := by omega
  have HE := Lib.hid (And.intro e1 e2); clear e1 e2
  go_enter Tryz.func105, Tryz.ntmps105
  go_wp2_with fail
  refine (sh_few w wk h1).mono ?_
  rintro e w1 ⟨rfl, rfl⟩
  go_wp2_with fail
  refine (sh_few w1 al h2).mono ?_
  rintro e w1 ⟨rfl, rfl⟩
  go_wp2_with fail
  rw [HE.out.1]
  refine (HK.out.1 w1).mono ?_
  rintro e w1 ⟨rfl, rfl⟩
  go_wp2_with fail
  refine (fx_mul_any _ _ _).mono ?_
  rintro e w1 ⟨u, rfl, rfl⟩
  go_wp2_with fail
  rw [HE.out.2]
  refine (HK.out.2 w1).mono ?_
  rintro e w1 ⟨rfl, rfl⟩
  go_wp2_with fail
  go_ret
  exact ⟨_, rfl, Chg.refl _ _⟩
end Go.Proofs.YtoeppmnoifankaaGreatDoor
