/- Fixed-point numbers, as far as a machine's goal wants them: nothing overflows. -/
/- Floats of whatever bits: what comes of them is some integer, some float; nothing but draws. No program's number in sight. -/
import Derived.Test.YtoeppmnoifankaaGreatDoorMOw
import Derived.Test.YtoeppmnoifankaaGreatDoorMCl
import Derived.Test.YtoeppmnoifankaaGreatDoorMBitJ
import Derived.Lib.Mul64
import Derived.Laws.FloatArith
import Derived.Laws.NewFold
namespace Go.Proofs.YtoeppmnoifankaaGreatDoor
open Go.RowKit Go.Maps

set_option maxHeartbeats 1600000 in
set_option maxRecDepth 100000 in
theorem fx_size (w : World) (a : Nat) (h : a < 9223372036854775808) : Calls Tryz.prog 231 #[.int .i64 (a : Nat)] w (QuPost (.int .u64 (a : Nat)) w) := by
  have d0 : decide ((a : Int) < 0) = false := decide_eq_false (by omega)
  go_enter Tryz.func231, Tryz.ntmps231
  go_wp2_with fail
  go_ret
  exact ⟨rfl, rfl⟩
set_option maxHeartbeats 1600000 in
set_option maxRecDepth 100000 in
theorem fx_made (w : World) (lo : Nat) (more : Bool) (h : lo < 9223372036854775808) : Calls Tryz.prog 232 #[.int .u64 0, .int .u64 (lo : Nat), .bool false, .bool more] w (QuPost (.int .i64 (lo : Nat)) w) := by
  have d1 : decide ((lo : Int) > 9223372036854775808) = false := decide_eq_false (by omega)
  have d2 : ((lo : Int) == 9223372036854775808) = false := by rw [beq_eq_false_iff_ne]; omega
  go_enter Tryz.func232, Tryz.ntmps232
  go_wp2_with fail
  go_ret
  exact ⟨rfl, rfl⟩
set_option maxHeartbeats 1600000 in
set_option maxRecDepth 100000 in
theorem bits_mul64 (w : World) (x y : Nat) (hx : x < 18446744073709551616) (hy : y < 18446744073709551616) (h : x * y < 18446744073709551616) : Calls Tryz.prog 230 #[.int .u64 (x : Nat), .int .u64 (y : Nat)] w (QuPost (.tuple #[.int .u64 0, .int .u64 (x * y : Nat)]) w) := by
  go_enter Tryz.func230, Tryz.ntmps230
  go_wp2_with fail
  have a1 : bits BinOp.and IntKind.u64 (x : Int) 4294967295 = ((x % 4294967296 : Nat) : Int) := by
    rw [show (4294967295 : Int) = ((4294967295 : Nat) : Int) from rfl, bits_and_u64_nat x 4294967295 hx (by decide)]
    congr 1; exact Nat.and_two_pow_sub_one_eq_mod x 32
  have a2 : bits BinOp.and IntKind.u64 (y : Int) 4294967295 = ((y % 4294967296 : Nat) : Int) := by
    rw [show (4294967295 : Int) = ((4294967295 : Nat) : Int) from rfl, bits_and_u64_nat y 4294967295 hy (by decide)]
    congr 1; exact Nat.and_two_pow_sub_one_eq_mod y 32
  obtain ⟨m1, m2, m3, m4⟩ := Go.Lib.mul64_hi x y hx hy
  rw [Nat.div_eq_of_lt h] at m4
  have p0 : (x : Int) / 4294967296 = ((x / 4294967296 : Nat) : Int) := by omega
  have p00 : (y : Int) / 4294967296 = ((y / 4294967296 : Nat) : Int) := by omega
  go_ret2
  refine ⟨?_, rfl⟩
  simp only [a1, a2, p0, p00, IntKind.wrap_u64, ← Int.natCast_mul]
  generalize (x / 4294967296) * (y / 4294967296) = A at *
  generalize (x / 4294967296) * (y % 4294967296) = B at *
  generalize (x % 4294967296) * (y / 4294967296) = C at *
  generalize (x % 4294967296) * (y % 4294967296) = D at *
  have a3 : ∀ z : Nat, z < 18446744073709551616 → bits BinOp.and IntKind.u64 (z : Int) 4294967295 = ((z % 4294967296 : Nat) : Int) := fun z hz => by
    rw [show (4294967295 : Int) = ((4294967295 : Nat) : Int) from rfl, bits_and_u64_nat z 4294967295 hz (by decide)]
    congr 1; exact Nat.and_two_pow_sub_one_eq_mod z 32
  have q1 : ((B : Int) % 18446744073709551616 + (D : Int) % 18446744073709551616 / 4294967296) % 18446744073709551616 = ((B + D / 4294967296 : Nat) : Int) := by omega
  rw [q1, a3 _ m2]
  have q2 : ((A : Int) % 18446744073709551616 + ((B + D / 4294967296 : Nat) : Int) / 4294967296) % 18446744073709551616 = ((A + (B + D / 4294967296) / 4294967296 : Nat) : Int) := by omega
  have q3 : (((A + (B + D / 4294967296) / 4294967296 : Nat) : Int) + (((B + D / 4294967296) % 4294967296 : Nat) + (C : Int) % 18446744073709551616) % 18446744073709551616 / 4294967296) % 18446744073709551616 = 0 := by omega
  simp only [q2, q3]
  rfl
set_option maxHeartbeats 1600000 in
set_option maxRecDepth 100000 in
theorem fx_mul (w : World) (a b : Nat) (ha : a < 9223372036854775808) (hb : b < 9223372036854775808) (h : a * b < 18446744073709551616) : Calls Tryz.prog 156 #[.int .i64 (a : Nat), .int .i64 (b : Nat)] w (QuPost (.int .i64 (a * b / 1048576 : Nat)) w) := by
  have d1 : decide ((a : Int) < 0) = false := decide_eq_false (by omega)
  have d2 : decide ((b : Int) < 0) = false := decide_eq_false (by omega)
  go_enter Tryz.func156, Tryz.ntmps156
  go_wp2_with fail
  refine (fx_size w a ha).mono ?_
  rintro e w' ⟨rfl, rfl⟩
  go_wp2_with fail
  refine (fx_size _ b hb).mono ?_
  rintro e w' ⟨rfl, rfl⟩
  go_wp2_with fail
  refine (bits_mul64 _ a b (by omega) (by omega) h).mono ?_
  rintro e w' ⟨rfl, rfl⟩
  have o1 : bits BinOp.or IntKind.u64 0 ((a : Int) * (b : Int) / 1048576) = ((a * b / 1048576 : Nat) : Int) := by
    rw [show (0 : Int) = ((0 : Nat) : Int) from rfl, show (a : Int) * (b : Int) / 1048576 = ((a * b / 1048576 : Nat) : Int) from by rw [← Int.natCast_mul]; omega, bits_or_u64_nat _ _ (by decide) (by omega)]
    congr 1; exact Nat.zero_or _
  go_wp2_with fail
  rw [show (a : Int) * (b : Int) / 1048576 = ((a * b / 1048576 : Nat) : Int) from by rw [← Int.natCast_mul]; omega]
  refine (fx_made _ _ _ (by omega)).mono ?_
  rintro e w' ⟨rfl, rfl⟩
  go_wp2_with fail
  go_ret
  exact ⟨rfl, rfl⟩
set_option maxHeartbeats 1600000 in
set_option maxRecDepth 100000 in
theorem fx_whole (w : World) (n : Nat) (h : n < 8388608) : Calls Tryz.prog 157 #[.int .i64 (n : Nat)] w (QuPost (.int .i64 (n * 1048576 : Nat)) w) := by
  have K := fx_mul w n 1099511627776 (by omega) (by decide) (by omega)
  rw [show n * 1099511627776 / 1048576 = n * 1048576 from by omega] at K
  go_enter Tryz.func157, Tryz.ntmps157
  go_wp2_with fail
  refine K.mono ?_
  rintro e w' ⟨rfl, rfl⟩
  go_wp2_with fail
  go_ret
  exact ⟨rfl, rfl⟩
set_option maxHeartbeats 1600000 in
set_option maxRecDepth 100000 in
theorem fx_int (w : World) (a : Nat) (h : a < 9223372036854775808) : Calls Tryz.prog 229 #[.int .i64 (a : Nat)] w (QuPost (.int .i64 (a / 1048576 : Nat)) w) := by
  go_enter Tryz.func229, Tryz.ntmps229
  go_wp2_with fail
  go_ret
  exact ⟨by simp, rfl⟩
set_option maxHeartbeats 1600000 in
set_option maxRecDepth 100000 in
theorem fx_add (w : World) (a b : Nat) (ha : a < 1152921504606846976) (hb : b < 1152921504606846976) : Calls Tryz.prog 213 #[.int .i64 (a : Nat), .int .i64 (b : Nat)] w (QuPost (.int .i64 (a + b : Nat)) w) := by
  by_cases h0 : b = 0
  · subst h0
    go_enter Tryz.func213, Tryz.ntmps213
    go_wp2_with fail
    go_ret
    exact ⟨by simp, rfl⟩
  · have d1 : decide ((b : Int) > 0) = true := decide_eq_true (by omega)
    have d1' : (0 : Int) < (b : Int) := by omega
    have d2 : decide ((b : Int) < 0) = false := decide_eq_false (by omega)
    have d3 : decide ((a : Int) > 9223372036854775807 - (b : Int)) = false := decide_eq_false (by omega)
    have d4 : decide (9223372036854775807 - (b : Int) < (a : Int)) = false := decide_eq_false (by omega)
    have d5 : ¬ (9223372036854775807 - (b : Int) < (a : Int)) := by omega
    go_enter Tryz.func213, Tryz.ntmps213
    go_wp2_with fail
    go_ret
    exact ⟨by simp, rfl⟩
set_option maxHeartbeats 1600000 in
set_option maxRecDepth 100000 in
theorem bits_div64 (w : World) (x y : Nat) (hx : x < 18446744073709551616) (h0 : 0 < y) (hy : y < 18446744073709551616) : Calls Tryz.prog 282 #[.int .u64 0, .int .u64 (x : Nat), .int .u64 (y : Nat)] w (NwPost (.tuple #[.int .u64 (x / y : Nat), .int .u64 (x % y : Nat)]) w) := by
  have d1 : ((y : Int) == 0) = false := by rw [beq_eq_false_iff_ne]; omega
  have d2 : decide ((y : Int) ≤ 0) = false := decide_eq_false (by omega)
  have d3 : ¬ (y : Int) = 0 := by omega
  have d4 : ¬ (y : Int) ≤ 0 := by omega
  go_enter Tryz.func282, Tryz.ntmps282
  go_wp2_with fail
  go_quiet (fail)
  go_wp2_with fail
  go_ret2
  have hw : IntKind.u64.wrap ((x : Int) / (y : Int)) = (x : Int) / (y : Int) := by
    have e : (x : Int) / (y : Int) = ((x / y : Nat) : Int) := (Int.natCast_ediv x y).symm
    have hle := Nat.div_le_self x y
    rw [e]
    generalize x / y = q at *
    rw [IntKind.wrap_u64]; omega
  exact ⟨by simp [hw], (Chg.refl _ _).drewN _⟩
set_option maxHeartbeats 1600000 in
set_option maxRecDepth 100000 in
theorem fx_div (w : World) (a b : Nat) (ha : a < 8796093022208) (h0 : 0 < b) (hb : b < 9223372036854775808) : Calls Tryz.prog 221 #[.int .i64 (a : Nat), .int .i64 (b : Nat)] w (NwPost (.int .i64 (a * 1048576 / b : Nat)) w) := by
  have d0 : ((b : Int) == 0) = false := by rw [beq_eq_false_iff_ne]; omega
  have d1 : decide ((a : Int) < 0) = false := decide_eq_false (by omega)
  have d2 : decide ((b : Int) < 0) = false := decide_eq_false (by omega)
  have d3 : ¬ (b : Int) = 0 := by omega
  have hq : a * 1048576 / b ≤ a * 1048576 := Nat.div_le_self _ _
  have e1 : (a : Int) / 17592186044416 = 0 := by omega
  go_enter Tryz.func221, Tryz.ntmps221
  go_wp2_with fail
  refine (fx_size w a (by omega)).mono ?_
  rintro e w' ⟨rfl, rfl⟩
  go_wp2_with fail
  refine (fx_size _ b hb).mono ?_
  rintro e w' ⟨rfl, rfl⟩
  go_wp2_with fail
  rw [show (a : Int) * 1048576 = ((a * 1048576 : Nat) : Int) from by omega]
  refine (bits_div64 _ (a * 1048576) b (by omega) h0 (by omega)).mono ?_
  rintro e w1 ⟨rfl, c1⟩
  have HC := Lib.hid c1; clear c1
  go_wp2_with fail
  rw [show ((a : Int) * 1048576 / (b : Int)) = ((a * 1048576 / b : Nat) : Int) from by simp]
  refine (fx_made _ (a * 1048576 / b) _ (by omega)).mono ?_
  rintro e w2 ⟨rfl, rfl⟩
  go_wp2_with fail
  go_ret
  exact ⟨by simp, HC.out⟩
end Go.Proofs.YtoeppmnoifankaaGreatDoor
namespace Go.Proofs.YtoeppmnoifankaaGreatDoor
open Go.RowKit

section
variable {P : Program}
theorem run_conv_any (w : World) (src dst : TypeId) (s : FloatKind) (k : IntKind) (b : Nat) (hs : (P.underlying src).isSome = true) (hd : P.underlying dst = some (.int k)) :
    ∃ n m, (convert src dst (.float s b)).run P w = .ok (.int k n) (w.drewN m) ∧ k.min ≤ n ∧ n ≤ k.max := by
  by_cases h : (floatToIntVal s b k).isSome
  · obtain ⟨n, hn⟩ := Option.isSome_iff_exists.1 h
    have hw := floatToIntVal_wf hn
    refine ⟨n, 0, run_convert_float_int w src dst s k b n hs hd hn, ?_⟩
    simpa [Lit.wf] using hw
  · obtain ⟨u, hs'⟩ := Option.isSome_iff_exists.1 hs
    have he : Conv.floatToInt s b k = (do pure (.int k (k.wrap (← choose (.floatToInt s b k))))) := by
      unfold floatToIntVal at h
      unfold Conv.floatToInt
      split at h
      · rename_i m hm
        rw [hm]
        split at h
        · simp at h
        · rename_i hb
          simp only [hb, if_false]
      · rename_i hm
        rw [hm]
    have hr : (Conv.floatToInt s b k).run P w = .ok (.int k (k.wrap ((Question.floatToInt s b k).cut (w.tape w.drawn (.floatToInt s b k)) : Nat))) w.drew := by
      rw [he]
      simp [Question.forced]
    refine ⟨k.wrap ((Question.floatToInt s b k).cut (w.tape w.drawn (.floatToInt s b k)) : Nat), 1, ?_, wrap_within k _⟩
    show _ = Result.ok _ w.drew
    cases u <;> simp [convert, run_underlying hs', run_underlying hd, hr]
/-- A float that is no NaN, held against another one: the lesser of the two. -/
theorem run_min2_any (w : World) (k : FloatKind) (x y : Nat) : ∃ r m, (Builtin.min2 (.float k x) (.float k y)).run P w = .ok (.float k r) (w.drewN m) := by
  unfold Builtin.min2
  cases h : k.format.order x y with
  | none =>
    refine ⟨(Question.nanMinMax k false x y).cut (w.tape w.drawn (.nanMinMax k false x y)), 1, ?_⟩
    simp only [h]
    simp [Question.forced]
    rfl
  | some o =>
    cases o
    · exact ⟨x, 0, by simp only [h]; simp; rfl⟩
    · exact ⟨if (k.decode x).neg = true then x else y, 0, by simp only [h]; simp; rfl⟩
    · exact ⟨y, 0, by simp only [h]; simp; rfl⟩
/-- What the machine's floor of a float is, by what the float stands for. -/
def floD (x : Nat) : Ieee.Datum → Sem Value
  | .nan s t => if FloatKind.f64.format.quiet t = t then pure (.float .f64 x) else do
      let kept ← choose (.extern "math.Floor,Ceil,Trunc,RoundToEven.signallingNaN kept" 2)
      pure (.float .f64 (if kept == 1 then x else FloatKind.f64.encode (.nan s (FloatKind.f64.format.quiet t))))
  | d => pure (.float .f64 (FloatKind.f64.encode (d.integral .down)))
theorem run_floor_any (w : World) (x : Nat) : ∃ r m, (Extern.MathFloor.toIntegral "math.archFloor" .down #[.float .f64 x]).run P w = .ok (.float .f64 r) (w.drewN m) := by
  have e : Extern.MathFloor.toIntegral "math.archFloor" .down #[.float .f64 x] = floD x (FloatKind.f64.decode x) := rfl
  rw [e]
  cases FloatKind.f64.decode x with
  | nan s t =>
    by_cases hq : FloatKind.f64.format.quiet t = t
    · exact ⟨x, 0, by simp only [floD, if_pos hq]; rfl⟩
    · refine ⟨if (Question.extern "math.Floor,Ceil,Trunc,RoundToEven.signallingNaN kept" 2).cut (w.tape w.drawn (.extern "math.Floor,Ceil,Trunc,RoundToEven.signallingNaN kept" 2)) == 1 then x else FloatKind.f64.encode (.nan s (FloatKind.f64.format.quiet t)), 1, ?_⟩
      simp only [floD, if_neg hq]
      simp [Question.forced]
      rfl
  | number s m e => exact ⟨_, 0, rfl⟩
  | infinity s => exact ⟨_, 0, rfl⟩
theorem run_mul_any (w : World) (t : TypeId) (k : FloatKind) (x y : Nat) : ∃ r m, (binOp .mul t (.float k x) (.float k y)).run P w = .ok (.float k r) (w.drewN m) := by
  cases h : floatBits .mul k x y with
  | some r => exact ⟨r, 0, run_float_arith w .mul t k x y r h⟩
  | none =>
    have h' : k.format.mul x y = none := h
    refine ⟨(Question.nanBits k x y).cut (w.tape w.drawn (.nanBits k x y)), 1, ?_⟩
    simp [binOp, Op.floatArith, h', Question.forced]
    rfl
end
end Go.Proofs.YtoeppmnoifankaaGreatDoor
