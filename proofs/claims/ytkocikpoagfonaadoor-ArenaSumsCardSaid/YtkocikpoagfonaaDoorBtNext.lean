/- The walks of package bits: Next; math/bits.TrailingZeros64. -/
import Derived.Test.YtkocikpoagfonaaDoorBt
import Derived.Deep.LoopGhost
import Derived.Deep.DeepCutAuto
import Derived.Deep.CutBlock
import Derived.Deep.RegionHeld3
import Derived.Deep.RegionLaw
namespace Go.Proofs.YtkocikpoagfonaaDoor
open Go.RowKit

/-- The library's table, in its variable. -/
def Tab (w : World) : Prop := ∀ j, j < 64 → w.cell? ⟨0, j, none⟩ = some (.int .u8 ((Lib.deBruijn64tab.getD j 0 : Nat) : Int))
theorem lt_of_cell {w : World} {b off : Nat} {v : Value} (h : w.cell? ⟨b, off, none⟩ = some v) : b < w.heap.size := by
  rcases Nat.lt_or_ge b w.heap.size with h1 | h1
  · exact h1
  · simp [World.cell?, Array.getElem?_eq_none h1] at h
theorem Tab.chg {S : List Nat} {w w' : World} (h : Tab w) (c : Chg S w w') (hn : 0 ∉ S) : Tab w' := fun j hj => c.cellv (lt_of_cell (h j hj)) hn (h j hj)
theorem ctz_key (x a : Nat) (hx : x < 18446744073709551616) (hx0 : x ≠ 0) (hlow : x &&& (18446744073709551616 - x) = a) :
    IntKind.u64.wrap (bits BinOp.and IntKind.u64 (x : Int) (IntKind.u64.wrap (-(x : Int))) * 285870213051353865) / 288230376151711744 = ((a * 285870213051353865 % 18446744073709551616 / 288230376151711744 : Nat) : Int) := by
  have e1 : IntKind.u64.wrap (-(x : Int)) = ((18446744073709551616 - x : Nat) : Int) := by rw [IntKind.wrap_u64]; omega
  rw [e1, bits_and_u64_nat x _ hx (by omega), hlow, IntKind.wrap_u64]
  omega
set_option maxHeartbeats 1600000 in
set_option maxRecDepth 100000 in
theorem ctz_ok (w : World) (T : Tab w) (x : Nat) (h0 : x ≠ 0) (hx : x < 18446744073709551616) : Calls Tryd.prog 73 #[.int .u64 x] w (QuPost (.int .i64 (Lib.ctz 64 x)) w) := by
  obtain ⟨h1, h2⟩ := Lib.lowest_bit 64 x h0 hx
  obtain ⟨h3, h4⟩ := Lib.deBruijn64_at _ h2
  have key := ctz_key x _ hx h0 h1
  have hcell := T _ h3
  rw [h4] at hcell
  obtain ⟨c, hc⟩ : ∃ c, c = Lib.ctz 64 x := ⟨_, rfl⟩
  rw [← hc] at h2 h3 h4 hcell key ⊢
  obtain ⟨idx, hi⟩ : ∃ idx, idx = 2 ^ c * 285870213051353865 % 18446744073709551616 / 288230376151711744 := ⟨_, rfl⟩
  rw [← hi] at h3 hcell key
  have hx0 : ((x : Int) == 0) = false := by rw [beq_eq_false_iff_ne]; omega
  have hc8 : (c : Int) < 256 := by omega
  clear h0 h1 h4 T hc hi
  go_enter Tryd.func73, Tryd.ntmps73
  go_wp2_with (simp only [key])
  go_ret
  exact ⟨rfl, rfl⟩
def BxPost (n : Nat) (G : Nat → Bool) (f : Nat) (w : World) (e : Ending) (w' : World) : Prop := ∃ r, e = .returned (.int .i64 r) ∧ NextSays n G f r ∧ w' = w
def BxRel (w : World) (n : Nat) (G : Nat → Bool) (f : Nat) (gk : Nat) (idx : Value) (w' : World) : Prop :=
  (gk = 2 ∧ idx = .int .i64 (f : Nat) ∧ f < n ∧ w' = w) ∨ (gk = 1 ∧ idx = .int .i64 64 ∧ (∀ x, f ≤ x → x < n → G x = false) ∧ w' = w)
set_option maxHeartbeats 1600000 in
set_option maxRecDepth 100000 in
theorem bnext_true (w : World) (g A n : Nat) (F : Nat → Bool) (I : IsSet w g A n F) (T : Tab w) (f : Nat) (hf : f ≤ 1000) :
    Calls Tryd.prog 56 #[.pointer (some ⟨g, 0, none⟩), .int .i64 f, .bool true] w (BxPost n F f w) := by
  have b0 := I.b.cellv 0 rfl
  have b1 := I.b.cellv 1 rfl
  have d0 := I.d.cellv 0 rfl
  have hn := I.n64
  have HI := Lib.hid (And.intro I T); clear I T
  by_cases hfn : f < n
  · have hfn' : (f : Int) < (n : Int) := by omega
    have e0 : max (f : Int) 0 = f := by omega
    have e00 : max 0 (f : Int) = f := by omega
    have d1 : decide (n ≤ f) = false := decide_eq_false (by omega)
    go_enter Tryd.func56, Tryd.ntmps56
    go_wp2_with fail
    clear d1
    go_loopg [1] 2 (fun gk idx wr => BxRel w n F f gk idx wr)
    case atStart => exact .inl ⟨rfl, rfl, hfn, rfl⟩
    case round =>
      rcases hrel with ⟨rfl, rfl, _, rfl⟩ | ⟨rfl, rfl, hz, rfl⟩
      · have e1 : (f : Int).tdiv 64 = 0 := by rw [Int.tdiv_eq_ediv_of_nonneg (by omega)]; omega
        have e2 : (f : Int).tmod 64 = f := by rw [Int.tmod_eq_emod_of_nonneg (by omega)]; omega
        have e3 : IntKind.u64.wrap (f : Int) = f := by rw [IntKind.wrap_u64]; omega
        have e4 : min f 64 = f := by omega
        by_cases hz : bw F 64 / 2 ^ f = 0
        · have hz2 : ((bw F 64 : Nat) : Int) / 2 ^ f = 0 := by rw [bw_cast, hz]; rfl
          have HZ := Lib.hid hz; clear hz
          go_wp2_with fail
          go_roundg 1
          case measure => omega
          case rel => exact .inr ⟨rfl, rfl, fun x h1 h2 => bw_zero HZ.out x h1 (by omega), rfl⟩
        · have hz2 : (((bw F 64 : Nat) : Int) / 2 ^ f != 0) = true := by rw [bw_cast, bne_iff_ne]; omega
          have HZ := Lib.hid hz; clear hz
          go_wp2_with fail
          rw [bw_cast]
          refine (ctz_ok wr HI.out.2 _ HZ.out (bw_small _ f)).mono ?_
          rintro e w1 ⟨rfl, rfl⟩
          have hc := (ctz_bit HZ.out (Nat.lt_of_lt_of_le (bw_small F f) (by decide))).2.2
          obtain ⟨c, hcc⟩ : ∃ c, c = Lib.ctz 64 (bw F 64 / 2 ^ f) := ⟨_, rfl⟩
          rw [← hcc] at hc ⊢
          have HC := Lib.hid hcc; clear hcc hz2
          by_cases hl : f + c < n
          · have hl' : (f : Int) + (c : Int) < (n : Int) := by omega
            go_wp2_with fail
            go_ret
            refine ⟨_, rfl, ?_, rfl⟩
            have := next_some (n := n) HZ.out (by rw [← HC.out]; exact hl)
            rw [← HC.out] at this
            simpa using this
          · have hl' : ¬ (f : Int) + (c : Int) < (n : Int) := by omega
            go_wp2_with fail
            go_ret
            exact ⟨-1, rfl, next_far HZ.out (by rw [← HC.out]; omega), rfl⟩
      · have hn' : ¬ (64 : Int) < (n : Int) := by omega
        have HZ := Lib.hid hz; clear hz
        go_wp2_with fail
        go_ret
        exact ⟨-1, rfl, .inl ⟨rfl, HZ.out⟩, rfl⟩
  · have hfn' : ¬ (f : Int) < (n : Int) := by omega
    have d1 : decide (n ≤ f) = true := decide_eq_true (by omega)
    have d2 : decide ((n : Int) ≤ (f : Int)) = true := decide_eq_true (by omega)
    go_enter Tryd.func56, Tryd.ntmps56
    go_wp2_with fail
    go_ret
    exact ⟨-1, rfl, .inl ⟨rfl, fun x h1 h2 => by omega⟩, rfl⟩
def notF (F : Nat → Bool) (x : Nat) : Bool := !(F x)
theorem not_val (F : Nat → Bool) : bits BinOp.xor IntKind.u64 IntKind.u64.max ((bw F 64 : Nat) : Int) = ((bw (notF F) 64 : Nat) : Int) := by
  have e : IntKind.u64.max = ((2 ^ 64 - 1 : Nat) : Int) := by decide
  rw [e, bits_xor_u64_nat _ _ (by decide) (bw_lt F 64)]
  congr 1
  apply Nat.eq_of_testBit_eq
  intro j
  rw [Nat.testBit_xor, Nat.testBit_two_pow_sub_one, bw_bit, bw_bit]
  unfold notF
  cases decide (j < 64) <;> cases F j <;> rfl
theorem not_val' (F : Nat → Bool) : bits BinOp.xor IntKind.u64 (if IntKind.u64.signed = true then -1 else IntKind.u64.max) ((bw F 64 : Nat) : Int) = ((bw (notF F) 64 : Nat) : Int) := by
  rw [if_neg (by decide)]; exact not_val F
set_option maxHeartbeats 1600000 in
set_option maxRecDepth 100000 in
theorem bnext_false (w : World) (g A n : Nat) (F : Nat → Bool) (I : IsSet w g A n F) (T : Tab w) (f : Nat) (hf : f ≤ 1000) :
    Calls Tryd.prog 56 #[.pointer (some ⟨g, 0, none⟩), .int .i64 f, .bool false] w (BxPost n (notF F) f w) := by
  have b0 := I.b.cellv 0 rfl
  have b1 := I.b.cellv 1 rfl
  have d0 := I.d.cellv 0 rfl
  have hn := I.n64
  have HI := Lib.hid (And.intro I T); clear I T
  by_cases hfn : f < n
  · have hfn' : (f : Int) < (n : Int) := by omega
    have e0 : max (f : Int) 0 = f := by omega
    have e00 : max 0 (f : Int) = f := by omega
    have d1 : decide (n ≤ f) = false := decide_eq_false (by omega)
    go_enter Tryd.func56, Tryd.ntmps56
    go_wp2_with fail
    clear d1
    go_loopg [1] 2 (fun gk idx wr => BxRel w n (notF F) f gk idx wr)
    case atStart => exact .inl ⟨rfl, rfl, hfn, rfl⟩
    case round =>
      rcases hrel with ⟨rfl, rfl, _, rfl⟩ | ⟨rfl, rfl, hz, rfl⟩
      · have e1 : (f : Int).tdiv 64 = 0 := by rw [Int.tdiv_eq_ediv_of_nonneg (by omega)]; omega
        have e2 : (f : Int).tmod 64 = f := by rw [Int.tmod_eq_emod_of_nonneg (by omega)]; omega
        have e3 : IntKind.u64.wrap (f : Int) = f := by rw [IntKind.wrap_u64]; omega
        have e4 : min f 64 = f := by omega
        go_upto_region 9 with fail
        rw [not_val' F]
        by_cases hz : bw (notF F) 64 / 2 ^ f = 0
        · have hz2 : ((bw (notF F) 64 : Nat) : Int) / 2 ^ f = 0 := by rw [bw_cast, hz]; rfl
          have HZ := Lib.hid hz; clear hz
          go_wp2_with fail
          go_roundg 1
          case measure => omega
          case rel => exact .inr ⟨rfl, rfl, fun x h1 h2 => bw_zero HZ.out x h1 (by omega), rfl⟩
        · have hz2 : (((bw (notF F) 64 : Nat) : Int) / 2 ^ f != 0) = true := by rw [bw_cast, bne_iff_ne]; omega
          have HZ := Lib.hid hz; clear hz
          go_wp2_with fail
          rw [bw_cast]
          refine (ctz_ok wr HI.out.2 _ HZ.out (bw_small _ f)).mono ?_
          rintro e w1 ⟨rfl, rfl⟩
          have hc := (ctz_bit HZ.out (Nat.lt_of_lt_of_le (bw_small (notF F) f) (by decide))).2.2
          obtain ⟨c, hcc⟩ : ∃ c, c = Lib.ctz 64 (bw (notF F) 64 / 2 ^ f) := ⟨_, rfl⟩
          rw [← hcc] at hc ⊢
          have HC := Lib.hid hcc; clear hcc hz2
          by_cases hl : f + c < n
          · have hl' : (f : Int) + (c : Int) < (n : Int) := by omega
            go_wp2_with fail
            go_ret
            refine ⟨_, rfl, ?_, rfl⟩
            have := next_some (n := n) HZ.out (by rw [← HC.out]; exact hl)
            rw [← HC.out] at this
            simpa using this
          · have hl' : ¬ (f : Int) + (c : Int) < (n : Int) := by omega
            go_wp2_with fail
            go_ret
            exact ⟨-1, rfl, next_far HZ.out (by rw [← HC.out]; omega), rfl⟩
      · have hn' : ¬ (64 : Int) < (n : Int) := by omega
        have HZ := Lib.hid hz; clear hz
        go_wp2_with fail
        go_ret
        exact ⟨-1, rfl, .inl ⟨rfl, HZ.out⟩, rfl⟩
  · have hfn' : ¬ (f : Int) < (n : Int) := by omega
    have d1 : decide (n ≤ f) = true := decide_eq_true (by omega)
    have d2 : decide ((n : Int) ≤ (f : Int)) = true := decide_eq_true (by omega)
    go_enter Tryd.func56, Tryd.ntmps56
    go_wp2_with fail
    go_ret
    exact ⟨-1, rfl, .inl ⟨rfl, fun x h1 h2 => by omega⟩, rfl⟩
end Go.Proofs.YtkocikpoagfonaaDoor
