/- Words of 64 bits that say which numbers are in a set. Plain laws; no program in sight. -/
/- The walks of package bits: sets of at most 64 numbers, in one word. -/
/- The walks of package bits: Next; math/bits.TrailingZeros64. -/
/- A list of integers that the call owns: append of one (no map, no view). Plain theorems on worlds; no program in sight. -/
/- The walk of package bits: All. -/
import Derived.Laws.Bits64
import Derived.Laws.Bits64b
import Derived.Lib.TrailingZeros
import Derived.Test.YtcnchgbngcnijaaGreatDoorMem
import Derived.Deep.LoopGhost
import Derived.Deep.DeepCutAuto
import Derived.Deep.CutBlock
import Derived.Deep.RegionHeld3
import Derived.Deep.RegionLaw
import Derived.Maps.AppendAt
namespace Go.Proofs.YtcnchgbngcnijaaGreatDoor

/-- The number whose bits are F's first ones. -/
def bw (F : Nat → Bool) : Nat → Nat
  | 0 => 0
  | k + 1 => bw F k + if F k = true then 2 ^ k else 0
theorem bw_lt (F : Nat → Bool) : ∀ k, bw F k < 2 ^ k
  | 0 => by simp [bw]
  | k + 1 => by
    have := bw_lt F k
    rw [bw, Nat.pow_succ]
    split <;> omega
theorem bw_bit (F : Nat → Bool) : ∀ k j, (bw F k).testBit j = (decide (j < k) && F j)
  | 0, j => by simp [bw]
  | k + 1, j => by
    have ih := bw_bit F k
    have hl := bw_lt F k
    rw [bw]
    by_cases hF : F k = true
    · rw [if_pos hF, Nat.add_comm]
      rcases Nat.lt_trichotomy j k with h | h | h
      · rw [Nat.testBit_two_pow_add_gt h, ih, decide_eq_true h, decide_eq_true (by omega)]
      · subst h
        rw [Nat.testBit_two_pow_add_eq, ih, hF]
        simp
      · rw [Nat.testBit_lt_two_pow (Nat.lt_of_lt_of_le (Nat.add_lt_add_left hl _) (by rw [← Nat.two_mul, ← Nat.pow_succ']; exact Nat.pow_le_pow_right (by decide) h)), decide_eq_false (by omega)]
        rfl
    · rw [if_neg hF, Nat.add_zero, ih]
      by_cases h : j = k
      · subst h
        have : F j = false := by cases h2 : F j <;> simp_all
        rw [this]; simp
      · congr 1
        exact decide_eq_decide.2 (by omega)
def flipF (F : Nat → Bool) (i x : Nat) : Bool := if x = i then !(F x) else F x
theorem bw_flip (F : Nat → Bool) {i k : Nat} (hi : i < k) : bw F k ^^^ 2 ^ i = bw (flipF F i) k := by
  apply Nat.eq_of_testBit_eq
  intro j
  rw [Nat.testBit_xor, bw_bit, bw_bit, Nat.testBit_two_pow]
  unfold flipF
  by_cases h : j = i
  · subst h
    simp [hi]
  · rw [if_neg h, decide_eq_false (Ne.symm h)]
    simp
theorem bw_div_bit (F : Nat → Bool) (k s j : Nat) : (bw F k / 2 ^ s).testBit j = (decide (s + j < k) && F (s + j)) := by
  rw [Nat.testBit_div_two_pow, bw_bit, Nat.add_comm]
theorem bw_has (F : Nat → Bool) {k s : Nat} (hs : s < k) : bw F k / 2 ^ s % 2 = if F s = true then 1 else 0 := by
  have h := bw_div_bit F k s 0
  rw [Nat.add_zero, Nat.testBit_zero, decide_eq_true hs, Bool.true_and] at h
  have h2 := Nat.mod_two_eq_zero_or_one (bw F k / 2 ^ s)
  cases hF : F s
  · rw [hF] at h
    rw [if_neg (by decide)]
    rcases h2 with h3 | h3
    · exact h3
    · rw [h3] at h; simp at h
  · rw [hF] at h
    rw [if_pos rfl]
    simpa using h
theorem bw_zero {F : Nat → Bool} {k s : Nat} (h : bw F k / 2 ^ s = 0) : ∀ x, s ≤ x → x < k → F x = false := fun x h1 h2 => by
  have := bw_div_bit F k s (x - s)
  rw [h, Nat.zero_testBit, show s + (x - s) = x by omega, decide_eq_true h2, Bool.true_and] at this
  exact this.symm
theorem ctz_bit {x : Nat} (h0 : x ≠ 0) (hx : x < 2 ^ 64) : x.testBit (Lib.ctz 64 x) = true ∧ (∀ t, t < Lib.ctz 64 x → x.testBit t = false) ∧ Lib.ctz 64 x < 64 := by
  obtain ⟨m, hm, hk⟩ := Lib.ctzFrom_spec 64 x (by omega) hx
  have e : Lib.ctz 64 x = Lib.ctzFrom 64 x := by unfold Lib.ctz; rw [if_neg h0]
  rw [e]
  generalize Lib.ctzFrom 64 x = c at hm hk ⊢
  subst hm
  rw [Nat.mul_comm]
  refine ⟨?_, fun t ht => ?_, hk⟩
  · rw [Nat.testBit_mul_two_pow]; simp
  · rw [Nat.testBit_mul_two_pow, decide_eq_false (by omega)]; rfl
/-- The least one from s on. -/
theorem bw_next {F : Nat → Bool} {s : Nat} (h : bw F 64 / 2 ^ s ≠ 0) : ∃ y, y = s + Lib.ctz 64 (bw F 64 / 2 ^ s) ∧ y < 64 ∧ F y = true ∧ ∀ x, s ≤ x → x < y → F x = false := by
  have hlt : bw F 64 / 2 ^ s < 2 ^ 64 := Nat.lt_of_le_of_lt (Nat.div_le_self ..) (bw_lt F 64)
  obtain ⟨h1, h2, h3⟩ := ctz_bit h hlt
  rw [bw_div_bit, Bool.and_eq_true, decide_eq_true_iff] at h1
  refine ⟨_, rfl, h1.1, h1.2, fun x hx hy => ?_⟩
  have := h2 (x - s) (by omega)
  rw [bw_div_bit, show s + (x - s) = x by omega, decide_eq_true (by omega), Bool.true_and] at this
  exact this
/-- What Next tells. -/
def NextSays (n : Nat) (G : Nat → Bool) (from_ : Nat) (r : Int) : Prop := (r = -1 ∧ ∀ x, from_ ≤ x → x < n → G x = false) ∨ ∃ y : Nat, r = y ∧ from_ ≤ y ∧ y < n ∧ G y = true ∧ ∀ x, from_ ≤ x → x < y → G x = false
theorem next_some {n : Nat} {F : Nat → Bool} {s : Nat} (h : bw F 64 / 2 ^ s ≠ 0) (hl : s + Lib.ctz 64 (bw F 64 / 2 ^ s) < n) : NextSays n F s ((s + Lib.ctz 64 (bw F 64 / 2 ^ s) : Nat) : Int) := by
  obtain ⟨y, rfl, h1, h2, h3⟩ := bw_next h
  exact .inr ⟨_, rfl, by omega, hl, h2, h3⟩
theorem next_far {n : Nat} {F : Nat → Bool} {s : Nat} (h : bw F 64 / 2 ^ s ≠ 0) (hl : n ≤ s + Lib.ctz 64 (bw F 64 / 2 ^ s)) : NextSays n F s (-1) := by
  obtain ⟨y, rfl, h1, h2, h3⟩ := bw_next h
  exact .inl ⟨rfl, fun x h4 h5 => h3 x h4 (by omega)⟩
/-- How many. -/
def cntF (F : Nat → Bool) : Nat → Nat
  | 0 => 0
  | k + 1 => cntF F k + if F k = true then 1 else 0
theorem cntF_le (F : Nat → Bool) : ∀ k, cntF F k ≤ k
  | 0 => Nat.le_refl _
  | k + 1 => by have := cntF_le F k; rw [cntF]; split <;> omega
theorem cntF_ext {F G : Nat → Bool} : ∀ {k : Nat}, (∀ j, j < k → F j = G j) → cntF F k = cntF G k
  | 0, _ => rfl
  | k + 1, h => by rw [cntF, cntF, cntF_ext (fun j hj => h j (by omega)), h k (by omega)]
theorem cntF_flip {F : Nat → Bool} {i : Nat} : ∀ {k : Nat}, i < k → cntF (flipF F i) k + (if F i = true then 1 else 0) = cntF F k + (if F i = true then 0 else 1)
  | 0, h => by omega
  | k + 1, h => by
    rw [cntF, cntF]
    by_cases e : i = k
    · subst e
      rw [cntF_ext (F := flipF F i) (G := F) fun j hj => by unfold flipF; rw [if_neg (by omega)]]
      unfold flipF
      cases hF : F i <;> simp
    · have ih := cntF_flip (F := F) (i := i) (k := k) (by omega)
      have e2 : flipF F i k = F k := by unfold flipF; rw [if_neg (Ne.symm e)]
      rw [e2]
      omega
end Go.Proofs.YtcnchgbngcnijaaGreatDoor
namespace Go.Proofs.YtcnchgbngcnijaaGreatDoor
open Go.RowKit

/-- A set in blocks g and A: of n numbers, F says which. -/
structure IsSet (w : World) (g A n : Nat) (F : Nat → Bool) : Prop where
  b : Blk w g 166 #[.int .i64 n, .slice (some ⟨A, 0, none⟩) 1 1, .int .i64 (cntF F n)]
  d : Blk w A 167 #[.int .u64 (bw F 64)]
  z : ∀ x, n ≤ x → F x = false
  n1 : 1 ≤ n
  n64 : n ≤ 64
section
variable {w w' : World} {g A n : Nat} {F : Nat → Bool}
theorem IsSet.chg {S : List Nat} (h : IsSet w g A n F) (c : Chg S w w') (h1 : g ∉ S) (h2 : A ∉ S) : IsSet w' g A n F := ⟨c.blk h.b h1, c.blk h.d h2, h.z, h.n1, h.n64⟩
theorem IsSet.chg0 (h : IsSet w g A n F) (c : Chg [] w w') : IsSet w' g A n F := h.chg c (by simp) (by simp)
theorem IsSet.ne (h : IsSet w g A n F) : g ≠ A := h.b.ne_ h.d (by decide)
end
/-! New -/
def BnPost (n : Nat) (w : World) (e : Ending) (w' : World) : Prop := ∃ g A, e = .returned (.pointer (some ⟨g, 0, none⟩)) ∧ IsSet w' g A n (fun _ => false) ∧ Chg [] w w' ∧ w.heap.size ≤ g ∧ w.heap.size ≤ A
theorem bw_none : bw (fun _ => false) 64 = 0 := by decide
theorem cnt_none : ∀ n, cntF (fun _ => false) n = 0
  | 0 => rfl
  | n + 1 => by rw [cntF, cnt_none n]; rfl
set_option maxHeartbeats 1600000 in
set_option maxRecDepth 100000 in
theorem bnew_ok (w : World) (n : Nat) (h1 : 1 ≤ n) (h2 : n ≤ 64) : Calls Tryz.prog 145 #[.int .i64 n] w (BnPost n w) := by
  have hmk : ∀ W : World, (Instr.makeSlice 164 (.int .i64 1) (.int .i64 1)).run Tryz.prog W = .ok (.slice (some ⟨W.heap.size, 0, none⟩) 1 1) (W.alloc (.cells #[.int .u64 0] 167)) := fun W => run_make_z (P := Tryz.prog) 164 167 (.int .u64 0) 8 Tryz.underlying164 (by kernel_rfl) rfl .i64 .i64 1 (by omega) (by omega) W
  have n6 : min (n : Int) 16777216 = n := by omega
  have n7 : max (n : Int) 0 = n := by omega
  have n8 : max 0 (n : Int) = n := by omega
  have n9 : ((n : Int) + 63).tdiv 64 = 1 := by rw [Int.tdiv_eq_ediv_of_nonneg (by omega)]; omega
  have n10 : ((n : Int) + 63) / 64 = 1 := by omega
  go_enter Tryz.func145, Tryz.ntmps145
  go_wp2_with fail
  go_ret
  have B2 := (Blk.new w 167 #[.int .u64 0]).alloc (.cells #[.int .i64 n, .slice (some ⟨w.heap.size, 0, none⟩) 1 1, .int .i64 0] 166)
  have B1 := Blk.new (w.alloc (.cells #[.int .u64 0] 167)) 166 #[.int .i64 n, .slice (some ⟨w.heap.size, 0, none⟩) 1 1, .int .i64 0]
  rw [World.size_alloc] at B1
  exact ⟨w.heap.size + 1, w.heap.size, rfl, ⟨by rw [cnt_none]; exact B1, by rw [bw_none]; exact B2, fun _ _ => rfl, h1, h2⟩, ((Chg.refl _ w).alloc _).alloc _, by omega, by omega⟩
/-! Has -/
def hasI (F : Nat → Bool) (n : Nat) (i : Int) : Bool := decide (0 ≤ i ∧ i < n) && F i.toNat
def QuPost (v : Value) (w : World) (e : Ending) (w' : World) : Prop := e = .returned v ∧ w' = w
theorem bw_cast (F : Nat → Bool) (s : Nat) : ((bw F 64 : Nat) : Int) / 2 ^ s = ((bw F 64 / 2 ^ s : Nat) : Int) := by simp
theorem bw_small (F : Nat → Bool) (s : Nat) : bw F 64 / 2 ^ s < 18446744073709551616 := Nat.lt_of_le_of_lt (Nat.div_le_self ..) (bw_lt F 64)
theorem has_val (F : Nat → Bool) {s : Nat} (hs : s < 64) : (bits BinOp.and IntKind.u64 (((bw F 64 : Nat) : Int) / 2 ^ s) 1 == 1) = F s := by
  rw [bw_cast, show (1 : Int) = ((1 : Nat) : Int) from rfl, bits_and_u64_nat _ 1 (bw_small F s) (by omega), Nat.and_one_is_mod, bw_has F hs]
  cases F s <;> rfl
set_option maxHeartbeats 1600000 in
set_option maxRecDepth 100000 in
theorem bhas_ok (w : World) (g A n : Nat) (F : Nat → Bool) (I : IsSet w g A n F) (i : Int) : Calls Tryz.prog 146 #[.pointer (some ⟨g, 0, none⟩), .int .i64 i] w (QuPost (.bool (hasI F n i)) w) := by
  have b0 := I.b.cellv 0 rfl
  have b1 := I.b.cellv 1 rfl
  have d0 := I.d.cellv 0 rfl
  have hn := I.n64
  by_cases h0 : 0 ≤ i
  · by_cases h1 : i < n
    · obtain ⟨s, rfl⟩ : ∃ s : Nat, i = s := ⟨i.toNat, by omega⟩
      have e1 : (s : Int).tdiv 64 = 0 := by rw [Int.tdiv_eq_ediv_of_nonneg (by omega)]; omega
      have e2 : (s : Int).tmod 64 = s := by rw [Int.tmod_eq_emod_of_nonneg (by omega)]; omega
      have e3 : IntKind.u64.wrap (s : Int) = s := by rw [IntKind.wrap_u64]; omega
      have e4 : min s 64 = s := by omega
      go_enter Tryz.func146, Tryz.ntmps146
      go_wp2_with fail
      go_ret
      exact ⟨by rw [has_val F (by omega)]; unfold hasI; rw [decide_eq_true ⟨h0, h1⟩]; rfl, rfl⟩
    · have d1 : decide (i < n) = false := decide_eq_false h1
      go_enter Tryz.func146, Tryz.ntmps146
      go_wp2_with fail
      go_ret
      exact ⟨by unfold hasI; rw [decide_eq_false (by omega)]; rfl, rfl⟩
  · have d1 : decide (0 ≤ i) = false := decide_eq_false h0
    go_enter Tryz.func146, Tryz.ntmps146
    go_wp2_with fail
    go_ret
    exact ⟨by unfold hasI; rw [decide_eq_false (by omega)]; rfl, rfl⟩
/-! turn, Set, Clear -/
def BtPost (v : Value) (g A n : Nat) (F : Nat → Bool) (w : World) (e : Ending) (w' : World) : Prop := e = .returned v ∧ IsSet w' g A n F ∧ Chg [g, A] w w'
theorem turn_val (F : Nat → Bool) {s : Nat} (hs : s < 64) : bits BinOp.xor IntKind.u64 ((bw F 64 : Nat) : Int) (IntKind.u64.wrap (2 ^ s)) = ((bw (flipF F s) 64 : Nat) : Int) := by
  have h1 : (2 : Nat) ^ s < 18446744073709551616 := Nat.pow_lt_pow_right (by decide) hs
  have e : IntKind.u64.wrap ((2 : Int) ^ s) = ((2 ^ s : Nat) : Int) := by
    have e2 : ((2 : Int) ^ s) = ((2 ^ s : Nat) : Int) := by simp
    rw [e2, IntKind.wrap_u64]
    generalize (2 : Nat) ^ s = T at h1
    omega
  rw [e, bits_xor_u64_nat _ _ (bw_lt F 64) h1, bw_flip F hs]
set_option maxHeartbeats 1600000 in
set_option maxRecDepth 100000 in
theorem bturn_ok (w : World) (g A n : Nat) (F : Nat → Bool) (I : IsSet w g A n F) (s : Nat) (hs : s < n) (more : Int) (hm : (cntF F n : Int) + more = cntF (flipF F s) n) :
    Calls Tryz.prog 159 #[.pointer (some ⟨g, 0, none⟩), .int .i64 s, .int .i64 more] w (BtPost (.tuple #[]) g A n (flipF F s) w) := by
  have b1 := I.b.cellv 1 rfl
  have b2 := I.b.cellv 2 rfl
  have d0 := I.d.cellv 0 rfl
  have f0 := I.d.frozen 0
  have f2 := I.b.frozen 2
  have hn := I.n64
  have hne := I.ne
  have e1 : (s : Int).tdiv 64 = 0 := by rw [Int.tdiv_eq_ediv_of_nonneg (by omega)]; omega
  have e2 : (s : Int).tmod 64 = s := by rw [Int.tmod_eq_emod_of_nonneg (by omega)]; omega
  have e3 : IntKind.u64.wrap (s : Int) = s := by rw [IntKind.wrap_u64]; omega
  have e4 : min s 64 = s := by omega
  have hc := cntF_le (flipF F s) n
  have HI := Lib.hid (And.intro I hm); clear I
  go_enter Tryz.func159, Tryz.ntmps159
  go_wp2_with fail
  go_end0
  have hI := HI.out.1
  rw [turn_val F (by omega)]
  refine ⟨rfl, ⟨?_, ?_, fun x hx => ?_, hI.n1, hI.n64⟩, ?_⟩
  · exact (hI.b.far (p := ⟨A, 0, none⟩) hne _).setv 2 _ rfl
  · exact (hI.d.setv 0 _ rfl).far (p := ⟨g, 2, none⟩) (Ne.symm hne) _
  · unfold flipF; rw [if_neg (by omega)]; exact hI.z x hx
  · exact ((Chg.refl _ w).setCell (p := ⟨A, 0, none⟩) (.inl (by simp)) _).setCell (p := ⟨g, 2, none⟩) (.inl (by simp)) _
def setF (F : Nat → Bool) (i x : Nat) : Bool := if x = i then true else F x
def clrF (F : Nat → Bool) (i x : Nat) : Bool := if x = i then false else F x
theorem flip_set {F : Nat → Bool} {i : Nat} (h : F i = false) : flipF F i = setF F i := by
  funext x; unfold flipF setF; split
  · next e => rw [e, h]; rfl
  · rfl
theorem flip_clr {F : Nat → Bool} {i : Nat} (h : F i = true) : flipF F i = clrF F i := by
  funext x; unfold flipF clrF; split
  · next e => rw [e, h]; rfl
  · rfl
theorem set_same {F : Nat → Bool} {i : Nat} (h : F i = true) : setF F i = F := by
  funext x; unfold setF; split
  · next e => rw [e, h]
  · rfl
theorem clr_same {F : Nat → Bool} {i : Nat} (h : F i = false) : clrF F i = F := by
  funext x; unfold clrF; split
  · next e => rw [e, h]
  · rfl
theorem hasI_nat {F : Nat → Bool} {n s : Nat} (h : s < n) : hasI F n (s : Nat) = F s := by unfold hasI; rw [decide_eq_true ⟨by omega, by omega⟩]; rfl
set_option maxHeartbeats 1600000 in
set_option maxRecDepth 100000 in
/-- Set of a number within. -/
theorem bset_ok (w : World) (g A n : Nat) (F : Nat → Bool) (I : IsSet w g A n F) (s : Nat) (hs : s < n) :
    Calls Tryz.prog 127 #[.pointer (some ⟨g, 0, none⟩), .int .i64 s] w (BtPost (.bool (!(F s))) g A n (setF F s) w) := by
  have b0 := I.b.cellv 0 rfl
  have hsn : (s : Int) < (n : Int) := by omega
  have hn := I.n64
  have HI := Lib.hid I; clear I
  go_enter Tryz.func127, Tryz.ntmps127
  go_wp2_with fail
  refine (bhas_ok w g A n F HI.out s).mono ?_
  rintro e w1 ⟨rfl, rfl⟩
  rw [hasI_nat hs]
  cases hF : F s with
  | true =>
    have HF := Lib.hid hF; clear hF
    go_wp2_with fail
    go_ret
    exact ⟨by rw [HF.out]; rfl, by rw [set_same HF.out]; exact HI.out, Chg.refl _ _⟩
  | false =>
    have hc := cntF_flip (F := F) (i := s) (k := n) hs
    rw [if_neg (by rw [hF]; decide), if_neg (by rw [hF]; decide)] at hc
    have HF := Lib.hid (And.intro hF hc); clear hF hc
    go_wp2_with fail
    refine (bturn_ok _ g A n F HI.out s hs 1 (by have := HF.out.2; omega)).mono ?_
    rintro e w2 ⟨rfl, I2, C2⟩
    rw [flip_set HF.out.1] at I2
    have H2 := Lib.hid (And.intro I2 C2); clear I2 C2
    go_wp2_with fail
    go_ret
    exact ⟨by rw [HF.out.1]; rfl, H2.out⟩
set_option maxHeartbeats 1600000 in
set_option maxRecDepth 100000 in
/-- Clear of a number within. -/
theorem bclear_ok (w : World) (g A n : Nat) (F : Nat → Bool) (I : IsSet w g A n F) (s : Nat) (hs : s < n) :
    Calls Tryz.prog 153 #[.pointer (some ⟨g, 0, none⟩), .int .i64 s] w (BtPost (.bool (F s)) g A n (clrF F s) w) := by
  have hn := I.n64
  have HI := Lib.hid I; clear I
  go_enter Tryz.func153, Tryz.ntmps153
  go_wp2_with fail
  refine (bhas_ok w g A n F HI.out s).mono ?_
  rintro e w1 ⟨rfl, rfl⟩
  rw [hasI_nat hs]
  cases hF : F s with
  | false =>
    have HF := Lib.hid hF; clear hF
    go_wp2_with fail
    go_ret
    exact ⟨by rw [HF.out]; rfl, by rw [clr_same HF.out]; exact HI.out, Chg.refl _ _⟩
  | true =>
    have hc := cntF_flip (F := F) (i := s) (k := n) hs
    rw [if_pos hF, if_pos hF] at hc
    have HF := Lib.hid (And.intro hF hc); clear hF hc
    go_wp2_with fail
    refine (bturn_ok _ g A n F HI.out s hs (-1) (by have := HF.out.2; omega)).mono ?_
    rintro e w2 ⟨rfl, I2, C2⟩
    rw [flip_clr HF.out.1] at I2
    have H2 := Lib.hid (And.intro I2 C2); clear I2 C2
    go_wp2_with fail
    go_ret
    exact ⟨by rw [HF.out.1]; rfl, H2.out⟩
set_option maxHeartbeats 1600000 in
set_option maxRecDepth 100000 in
theorem bcount_ok (w : World) (g A n : Nat) (F : Nat → Bool) (I : IsSet w g A n F) : Calls Tryz.prog 148 #[.pointer (some ⟨g, 0, none⟩)] w (QuPost (.int .i64 (cntF F n)) w) := by
  have b2 := I.b.cellv 2 rfl
  go_enter Tryz.func148, Tryz.ntmps148
  go_wp2_with fail
  go_ret
  exact ⟨rfl, rfl⟩
set_option maxHeartbeats 1600000 in
set_option maxRecDepth 100000 in
theorem blen_ok (w : World) (g A n : Nat) (F : Nat → Bool) (I : IsSet w g A n F) : Calls Tryz.prog 161 #[.pointer (some ⟨g, 0, none⟩)] w (QuPost (.int .i64 n) w) := by
  have b0 := I.b.cellv 0 rfl
  go_enter Tryz.func161, Tryz.ntmps161
  go_wp2_with fail
  go_ret
  exact ⟨rfl, rfl⟩
end Go.Proofs.YtcnchgbngcnijaaGreatDoor
namespace Go.Proofs.YtcnchgbngcnijaaGreatDoor
open Go.RowKit

/-- The library's table, in its variable. -/
def Tab (w : World) : Prop := ∀ j, j < 64 → w.cell? ⟨0, j, none⟩ = some (.int .u8 ((Lib.deBruijn64tab.getD j 0 : Nat) : Int))
theorem lt_of_cell {w : World} {b off : Nat} {v : Value} (h : w.cell? ⟨b, off, none⟩ = some v) : b < w.heap.size := by
  rcases Nat.lt_or_ge b w.heap.size with h1 | h1
  · exact h1
  · simp [World.cell?, Array.getElem?_eq_none h1] at h
theorem Tab.chg {S : List Nat} {w w' : World} (h : Tab w) (c : Chg S w w') (hn : 0 ∉ S) : Tab w' := fun j hj => c.cellv (lt_of_cell (h j hj)) hn (h j hj)
theorem ctz_key (x a : Nat) (hx : x < 18446744073709551616) (hx0 : x ≠ 0) (hlow : x &&& (18446744073709551616 - x) = a) :
    IntKind.u64.wrap (bits BinOp.and IntKind.u64 (x : Int) (IntKind.u64.wrap (-(x : Int))) * 285870213051353865) / 288230376151711744 = ((a * 285870213051353865 % 18446744073709551616 / 288230376151711744 : Nat) : Int) := by
  have e1 : IntKind.u64.wrap (-(x : Int)) = ((18446744073709551616 - x : Nat) : Int) := by rw [IntKind.wrap_u64]; omega
  rw [e1, bits_and_u64_nat x _ hx (by omega), hlow, IntKind.wrap_u64]
  omega
set_option maxHeartbeats 1600000 in
set_option maxRecDepth 100000 in
theorem ctz_ok (w : World) (T : Tab w) (x : Nat) (h0 : x ≠ 0) (hx : x < 18446744073709551616) : Calls Tryz.prog 162 #[.int .u64 x] w (QuPost (.int .i64 (Lib.ctz 64 x)) w) := by
  obtain ⟨h1, h2⟩ := Lib.lowest_bit 64 x h0 hx
  obtain ⟨h3, h4⟩ := Lib.deBruijn64_at _ h2
  have key := ctz_key x _ hx h0 h1
  have hcell := T _ h3
  rw [h4] at hcell
  obtain ⟨c, hc⟩ : ∃ c, c = Lib.ctz 64 x := ⟨_, rfl⟩
  rw [← hc] at h2 h3 h4 hcell key ⊢
  obtain ⟨idx, hi⟩ : ∃ idx, idx = 2 ^ c * 285870213051353865 % 18446744073709551616 / 288230376151711744 := ⟨_, rfl⟩
  rw [← hi] at h3 hcell key
  have hx0 : ((x : Int) == 0) = false := by rw [beq_eq_false_iff_ne]; omega
  have hc8 : (c : Int) < 256 := by omega
  clear h0 h1 h4 T hc hi
  go_enter Tryz.func162, Tryz.ntmps162
  go_wp2_with (simp only [key])
  go_ret
  exact ⟨rfl, rfl⟩
def BxPost (n : Nat) (G : Nat → Bool) (f : Nat) (w : World) (e : Ending) (w' : World) : Prop := ∃ r, e = .returned (.int .i64 r) ∧ NextSays n G f r ∧ w' = w
def BxRel (w : World) (n : Nat) (G : Nat → Bool) (f : Nat) (gk : Nat) (idx : Value) (w' : World) : Prop :=
  (gk = 2 ∧ idx = .int .i64 (f : Nat) ∧ f < n ∧ w' = w) ∨ (gk = 1 ∧ idx = .int .i64 64 ∧ (∀ x, f ≤ x → x < n → G x = false) ∧ w' = w)
set_option maxHeartbeats 1600000 in
set_option maxRecDepth 100000 in
theorem bnext_true (w : World) (g A n : Nat) (F : Nat → Bool) (I : IsSet w g A n F) (T : Tab w) (f : Nat) (hf : f ≤ 1000) :
    Calls Tryz.prog 130 #[.pointer (some ⟨g, 0, none⟩), .int .i64 f, .bool true] w (BxPost n F f w) := by
  have b0 := I.b.cellv 0 rfl
  have b1 := I.b.cellv 1 rfl
  have d0 := I.d.cellv 0 rfl
  have hn := I.n64
  have HI := Lib.hid (And.intro I T); clear I T
  by_cases hfn : f < n
  · have hfn' : (f : Int) < (n : Int) := by omega
    have e0 : max (f : Int) 0 = f := by omega
    have e00 : max 0 (f : Int) = f := by omega
    have d1 : decide (n ≤ f) = false := decide_eq_false (by omega)
    go_enter Tryz.func130, Tryz.ntmps130
    go_wp2_with fail
    clear d1
    go_loopg [1] 2 (fun gk idx wr => BxRel w n F f gk idx wr)
    case atStart => exact .inl ⟨rfl, rfl, hfn, rfl⟩
    case round =>
      rcases hrel with ⟨rfl, rfl, _, rfl⟩ | ⟨rfl, rfl, hz, rfl⟩
      · have e1 : (f : Int).tdiv 64 = 0 := by rw [Int.tdiv_eq_ediv_of_nonneg (by omega)]; omega
        have e2 : (f : Int).tmod 64 = f := by rw [Int.tmod_eq_emod_of_nonneg (by omega)]; omega
        have e3 : IntKind.u64.wrap (f : Int) = f := by rw [IntKind.wrap_u64]; omega
        have e4 : min f 64 = f := by omega
        by_cases hz : bw F 64 / 2 ^ f = 0
        · have hz2 : ((bw F 64 : Nat) : Int) / 2 ^ f = 0 := by rw [bw_cast, hz]; rfl
          have HZ := Lib.hid hz; clear hz
          go_wp2_with fail
          go_roundg 1
          case measure => omega
          case rel => exact .inr ⟨rfl, rfl, fun x h1 h2 => bw_zero HZ.out x h1 (by omega), rfl⟩
        · have hz2 : (((bw F 64 : Nat) : Int) / 2 ^ f != 0) = true := by rw [bw_cast, bne_iff_ne]; omega
          have HZ := Lib.hid hz; clear hz
          go_wp2_with fail
          rw [bw_cast]
          refine (ctz_ok wr HI.out.2 _ HZ.out (bw_small _ f)).mono ?_
          rintro e w1 ⟨rfl, rfl⟩
          have hc := (ctz_bit HZ.out (Nat.lt_of_lt_of_le (bw_small F f) (by decide))).2.2
          obtain ⟨c, hcc⟩ : ∃ c, c = Lib.ctz 64 (bw F 64 / 2 ^ f) := ⟨_, rfl⟩
          rw [← hcc] at hc ⊢
          have HC := Lib.hid hcc; clear hcc hz2
          by_cases hl : f + c < n
          · have hl' : (f : Int) + (c : Int) < (n : Int) := by omega
            go_wp2_with fail
            go_ret
            refine ⟨_, rfl, ?_, rfl⟩
            have := next_some (n := n) HZ.out (by rw [← HC.out]; exact hl)
            rw [← HC.out] at this
            simpa using this
          · have hl' : ¬ (f : Int) + (c : Int) < (n : Int) := by omega
            go_wp2_with fail
            go_ret
            exact ⟨-1, rfl, next_far HZ.out (by rw [← HC.out]; omega), rfl⟩
      · have hn' : ¬ (64 : Int) < (n : Int) := by omega
        have HZ := Lib.hid hz; clear hz
        go_wp2_with fail
        go_ret
        exact ⟨-1, rfl, .inl ⟨rfl, HZ.out⟩, rfl⟩
  · have hfn' : ¬ (f : Int) < (n : Int) := by omega
    have d1 : decide (n ≤ f) = true := decide_eq_true (by omega)
    have d2 : decide ((n : Int) ≤ (f : Int)) = true := decide_eq_true (by omega)
    go_enter Tryz.func130, Tryz.ntmps130
    go_wp2_with fail
    go_ret
    exact ⟨-1, rfl, .inl ⟨rfl, fun x h1 h2 => by omega⟩, rfl⟩
def notF (F : Nat → Bool) (x : Nat) : Bool := !(F x)
theorem not_val (F : Nat → Bool) : bits BinOp.xor IntKind.u64 IntKind.u64.max ((bw F 64 : Nat) : Int) = ((bw (notF F) 64 : Nat) : Int) := by
  have e : IntKind.u64.max = ((2 ^ 64 - 1 : Nat) : Int) := by decide
  rw [e, bits_xor_u64_nat _ _ (by decide) (bw_lt F 64)]
  congr 1
  apply Nat.eq_of_testBit_eq
  intro j
  rw [Nat.testBit_xor, Nat.testBit_two_pow_sub_one, bw_bit, bw_bit]
  unfold notF
  cases decide (j < 64) <;> cases F j <;> rfl
theorem not_val' (F : Nat → Bool) : bits BinOp.xor IntKind.u64 (if IntKind.u64.signed = true then -1 else IntKind.u64.max) ((bw F 64 : Nat) : Int) = ((bw (notF F) 64 : Nat) : Int) := by
  rw [if_neg (by decide)]; exact not_val F
set_option maxHeartbeats 1600000 in
set_option maxRecDepth 100000 in
theorem bnext_false (w : World) (g A n : Nat) (F : Nat → Bool) (I : IsSet w g A n F) (T : Tab w) (f : Nat) (hf : f ≤ 1000) :
    Calls Tryz.prog 130 #[.pointer (some ⟨g, 0, none⟩), .int .i64 f, .bool false] w (BxPost n (notF F) f w) := by
  have b0 := I.b.cellv 0 rfl
  have b1 := I.b.cellv 1 rfl
  have d0 := I.d.cellv 0 rfl
  have hn := I.n64
  have HI := Lib.hid (And.intro I T); clear I T
  by_cases hfn : f < n
  · have hfn' : (f : Int) < (n : Int) := by omega
    have e0 : max (f : Int) 0 = f := by omega
    have e00 : max 0 (f : Int) = f := by omega
    have d1 : decide (n ≤ f) = false := decide_eq_false (by omega)
    go_enter Tryz.func130, Tryz.ntmps130
    go_wp2_with fail
    clear d1
    go_loopg [1] 2 (fun gk idx wr => BxRel w n (notF F) f gk idx wr)
    case atStart => exact .inl ⟨rfl, rfl, hfn, rfl⟩
    case round =>
      rcases hrel with ⟨rfl, rfl, _, rfl⟩ | ⟨rfl, rfl, hz, rfl⟩
      · have e1 : (f : Int).tdiv 64 = 0 := by rw [Int.tdiv_eq_ediv_of_nonneg (by omega)]; omega
        have e2 : (f : Int).tmod 64 = f := by rw [Int.tmod_eq_emod_of_nonneg (by omega)]; omega
        have e3 : IntKind.u64.wrap (f : Int) = f := by rw [IntKind.wrap_u64]; omega
        have e4 : min f 64 = f := by omega
        go_upto_region 9 with fail
        rw [not_val' F]
        by_cases hz : bw (notF F) 64 / 2 ^ f = 0
        · have hz2 : ((bw (notF F) 64 : Nat) : Int) / 2 ^ f = 0 := by rw [bw_cast, hz]; rfl
          have HZ := Lib.hid hz; clear hz
          go_wp2_with fail
          go_roundg 1
          case measure => omega
          case rel => exact .inr ⟨rfl, rfl, fun x h1 h2 => bw_zero HZ.out x h1 (by omega), rfl⟩
        · have hz2 : (((bw (notF F) 64 : Nat) : Int) / 2 ^ f != 0) = true := by rw [bw_cast, bne_iff_ne]; omega
          have HZ := Lib.hid hz; clear hz
          go_wp2_with fail
          rw [bw_cast]
          refine (ctz_ok wr HI.out.2 _ HZ.out (bw_small _ f)).mono ?_
          rintro e w1 ⟨rfl, rfl⟩
          have hc := (ctz_bit HZ.out (Nat.lt_of_lt_of_le (bw_small (notF F) f) (by decide))).2.2
          obtain ⟨c, hcc⟩ : ∃ c, c = Lib.ctz 64 (bw (notF F) 64 / 2 ^ f) := ⟨_, rfl⟩
          rw [← hcc] at hc ⊢
          have HC := Lib.hid hcc; clear hcc hz2
          by_cases hl : f + c < n
          · have hl' : (f : Int) + (c : Int) < (n : Int) := by omega
            go_wp2_with fail
            go_ret
            refine ⟨_, rfl, ?_, rfl⟩
            have := next_some (n := n) HZ.out (by rw [← HC.out]; exact hl)
            rw [← HC.out] at this
            simpa using this
          · have hl' : ¬ (f : Int) + (c : Int) < (n : Int) := by omega
            go_wp2_with fail
            go_ret
            exact ⟨-1, rfl, next_far HZ.out (by rw [← HC.out]; omega), rfl⟩
      · have hn' : ¬ (64 : Int) < (n : Int) := by omega
        have HZ := Lib.hid hz; clear hz
        go_wp2_with fail
        go_ret
        exact ⟨-1, rfl, .inl ⟨rfl, HZ.out⟩, rfl⟩
  · have hfn' : ¬ (f : Int) < (n : Int) := by omega
    have d1 : decide (n ≤ f) = true := decide_eq_true (by omega)
    have d2 : decide ((n : Int) ≤ (f : Int)) = true := decide_eq_true (by omega)
    go_enter Tryz.func130, Tryz.ntmps130
    go_wp2_with fail
    go_ret
    exact ⟨-1, rfl, .inl ⟨rfl, fun x h1 h2 => by omega⟩, rfl⟩
end Go.Proofs.YtcnchgbngcnijaaGreatDoor
namespace Go.Proofs.YtcnchgbngcnijaaGreatDoor
open Go.RowKit Go.Maps

/-- What a slice type of integers of the program is. -/
structure SlTy (P : Program) (T E : TypeId) : Prop where
  s : P.underlying T = some (.slice E)
  i : (P.info? E).map (fun i => (i.zero, i.size, i.bytes)) = some (some (.int .i64 0), 1, 8)
/-- Slice v owns the list xs. -/
structure OwnI (E : TypeId) (w : World) (v : Value) (xs : List Int) : Prop where
  o : w.ownsRow 0 E 1 v xs.length (xs.map (Value.int .i64))

section
variable {P : Program} {T E : TypeId} {w w' : World} {v : Value} {xs : List Int}
theorem OwnI.nil (E : TypeId) (w : World) : OwnI E w (.slice none 0 0) [] := ⟨World.ownsRow_nil _ _ _ _⟩
theorem OwnI.lt (h : OwnI E w v xs) {k : Nat} (hk : k ∈ fpv v) : k < w.heap.size := own_lt h.o (mem_fpv.1 hk)
theorem OwnI.chg {S : List Nat} (h : OwnI E w v xs) (c : Chg S w w') (hn : ∀ k ∈ fpv v, k ∉ S) : OwnI E w' v xs := ⟨own_chg h.o c fun k hk => hn k (mem_fpv.2 hk)⟩
theorem OwnI.chg0 (h : OwnI E w v xs) (c : Chg [] w w') : OwnI E w' v xs := h.chg c (by simp)
theorem OwnI.alloc (h : OwnI E w v xs) (o : Obj) : OwnI E (w.alloc o) v xs := ⟨h.o.alloc o⟩
theorem OwnI.slice (h : OwnI E w v xs) : ∃ A c, v = .slice A xs.length c := by
  rcases h.o.2 with ⟨rfl, h0⟩ | ⟨g, cap, cur, rfl, _⟩
  · exact ⟨none, 0, by rw [h0]⟩
  · exact ⟨_, _, rfl⟩
theorem OwnI.cell {A : Option Addr} {n c i : Nat} {x : Int} (h : OwnI E w (.slice A n c) xs) (hx : xs[i]? = some x) : ∃ g, A = some ⟨g, 0, none⟩ ∧ w.cell? ⟨g, i, none⟩ = some (.int .i64 x) ∧ w.frozen? ⟨g, i, none⟩ = false ∧ n = xs.length := by
  rcases h.o.2 with ⟨_, h0⟩ | ⟨g, cap, cur, e, _, hh, hc, hm, hs, ht⟩
  · have : xs = [] := List.eq_nil_of_length_eq_zero h0
    subst this; simp at hx
  · injection e with e1 e2 e3
    refine ⟨g, e1, ?_, Blk.frozen (t := E) (cs := cur) hh i, e2⟩
    rw [Blk.cell (t := E) (cs := cur) hh]
    have h1 : (cur.toList.take (xs.length * 1))[i]? = some (.int .i64 x) := by rw [ht]; simp [hx]
    rw [List.getElem?_take] at h1
    split at h1
    · simpa using h1
    · cases h1

theorem news_one (w : World) (u : Value) (E : TypeId) : ∀ j x, [u][j]? = some x → (w.alloc (.cells #[u] E)).cell? ((⟨w.heap.size, 0, none⟩ : Addr).add j) = some x := cell_one_new w u E

theorem run_push_int (t : SlTy P T E) (ty : TypeId) (h : OwnI E w v xs) (z : Int) (hl : xs.length + 1 ≤ 1000000000000) :
    ∃ v' w', (Builtin.append_ #[T, T] ty #[v, .slice (some ⟨w.heap.size, 0, none⟩) 1 1]).run P (w.alloc (.cells #[.int .i64 z] E)) = .ok v' w' ∧ OwnI E w' v' (xs ++ [z]) ∧ Stp (fpv v) (fpv v') w w' := by
  obtain ⟨i, hi, hz, hs, hb⟩ := info_parts t.i
  obtain ⟨v', w', hrun, h1, h2, h3, h4⟩ := run_append_own_at (P := P) (w.alloc (.cells #[.int .i64 z] E)) 0 T ty E i (.int .i64 0) 1 8 t.s hi hz hs hb rfl (by decide) v xs.length (xs.map (Value.int .i64)) (h.o.alloc _) ⟨w.heap.size, 0, none⟩ 1 1 [.int .i64 z] rfl (news_one w _ E) (by intro u hu; simp at hu; subst hu; rfl) (by unfold maxLen; omega) (by omega) (Nat.zero_le _)
  refine ⟨v', w', hrun, ⟨by simpa using h1⟩, ⟨((Chg.refl (fpv v) w).alloc _).grown h2 fun k hk => .inl (mem_fpv.2 hk), fun k hk => ?_⟩⟩
  rcases h4 with h4 | h4
  · rw [mem_fpv, h4] at hk; exact .inl (mem_fpv.2 hk)
  · rw [mem_fpv, h4] at hk
    injection hk with hk
    rw [World.size_alloc] at hk
    exact .inr (by omega)
theorem wpList_push_int {ops : Array Oper} {rest : List Oper} {o : Oper} {a : Act} {Q : Exit → Act → World → Prop} (hgd : o.guard = none) (s x : Operand)
    (ho : o.op = .call { callee := .builtin .append, args := #[s, x], argTypes := #[T, T] }) (t : SlTy P T E) (hs : a.eval s = v) (h : OwnI E w v xs) {z : Int} (hx : a.eval x = .slice (some ⟨w.heap.size, 0, none⟩) 1 1) (hl : xs.length + 1 ≤ 1000000000000)
    (hK : ∀ A' c' w', OwnI E w' (.slice A' (xs.length + 1) c') (xs ++ [z]) → Stp (fpv v) (fpv (.slice A' (xs.length + 1) c')) w w' → wpList P ops Q rest (a.put o.dst (.slice A' (xs.length + 1) c')) w') : wpList P ops Q (o :: rest) a (w.alloc (.cells #[.int .i64 z] E)) := by
  obtain ⟨v', w', hr, h2, h3⟩ := run_push_int t o.type h z hl
  obtain ⟨A', c', e⟩ := h2.slice
  rw [List.length_append, List.length_singleton] at e
  subst e
  refine wpList_plain hgd fun K' hK' => ?_
  unfold Oper.wp execOp
  simp only [ho, resolve, invoke, builtin, Sem.run_bind, Sem.run_pure, Result.andThen_ok, List.map_toArray, List.map_cons, List.map_nil, hs, hx, hr]
  exact hK' _ _ (hK A' c' w' h2 h3)
end
end Go.Proofs.YtcnchgbngcnijaaGreatDoor
namespace Go.Proofs.YtcnchgbngcnijaaGreatDoor
open Go.RowKit

def allN (F : Nat → Bool) (n : Nat) : List Nat := (List.range n).filter F
theorem allN_len (F : Nat → Bool) : ∀ n, (allN F n).length = cntF F n
  | 0 => rfl
  | n + 1 => by
    have ih := allN_len F n
    unfold allN at ih ⊢
    rw [List.range_succ, List.filter_append, List.length_append, ih, cntF]
    cases h : F n <;> simp [h]
theorem allN_succ (F : Nat → Bool) (n : Nat) : allN F (n + 1) = if F n = true then allN F n ++ [n] else allN F n := by
  unfold allN
  rw [List.range_succ, List.filter_append]
  cases h : F n <;> simp [h]
theorem allN_skip {F : Nat → Bool} {m : Nat} : ∀ {y : Nat}, m ≤ y → (∀ x, m ≤ x → x < y → F x = false) → allN F y = allN F m
  | 0, h, _ => by rw [show m = 0 by omega]
  | y + 1, h, hx => by
    rcases Nat.lt_or_ge y m with h1 | h1
    · rw [show m = y + 1 by omega]
    · rw [allN_succ, if_neg (by rw [hx y h1 (by omega)]; decide)]
      exact allN_skip h1 fun x a b => hx x a (by omega)
theorem allN_more {F : Nat → Bool} {m n : Nat} (h : m ≤ n) (hc : (allN F m).length < (allN F n).length) : ∃ x, m ≤ x ∧ x < n ∧ F x = true := by
  refine Classical.byContradiction fun hno => ?_
  have := allN_skip (F := F) h fun x a b => by
    cases hF : F x
    · rfl
    · exact absurd ⟨x, a, b, hF⟩ hno
  rw [this] at hc
  omega
theorem allN_whole {F : Nat → Bool} {m n : Nat} (h : m ≤ n) (hc : (allN F m).length = (allN F n).length) : allN F m = allN F n := by
  refine (allN_skip h fun x a b => ?_).symm
  cases hF : F x
  · rfl
  · exfalso
    have h1 := allN_skip (F := F) (m := m) (y := m) (Nat.le_refl _) (fun _ _ _ => by omega)
    have mono : ∀ a b : Nat, a ≤ b → (allN F a).length ≤ (allN F b).length := fun a b hab => by
      induction hab with
      | refl => exact Nat.le_refl _
      | step _ ih => rw [allN_succ]; split
                     · rw [List.length_append]; omega
                     · exact ih
    have h2 := mono m x a
    have h3 := mono (x + 1) n b
    rw [allN_succ, if_pos hF] at h3
    simp at h3
    omega
def intsN (l : List Nat) : List Int := l.map fun (x : Nat) => (x : Int)
def BaPost (xs : List Nat) (w : World) (e : Ending) (w' : World) : Prop := ∃ v, e = .returned v ∧ OwnI 3 w' v (intsN xs) ∧ Chg [] w w' ∧ ∀ k ∈ fpv v, w.heap.size ≤ k
def BaRel (w0 : World) (n : Nat) (F : Nat → Bool) (gk : Nat) (v idx : Value) (w : World) : Prop :=
  ∃ j m, gk + j = cntF F n + 1 ∧ j ≤ cntF F n ∧ idx = .int .i64 (j : Nat) ∧ m ≤ n ∧ (allN F m).length = j ∧ (m = 0 ∨ F (m - 1) = true) ∧ OwnI 3 w v (intsN (allN F m)) ∧ Chg [] w0 w ∧ ∀ k ∈ fpv v, w0.heap.size ≤ k
theorem Chg.newS {T : List Nat} {a w w' : World} (h : Chg [] a w) (c : Chg T w w') (hT : ∀ k ∈ T, a.heap.size ≤ k) : Chg [] a w' :=
  ⟨c.os.trans h.os, c.tape.trans h.tape, c.output.trans h.output, Nat.le_trans h.size c.size, fun k hk _ =>
    (c.block k (Nat.lt_of_lt_of_le hk h.size) (fun hm => by have := hT k hm; omega)).trans (h.block k hk (by simp))⟩
theorem slZ : SlTy Tryz.prog 33 3 := ⟨Tryz.underlying33, by kernel_rfl⟩
set_option maxHeartbeats 1600000 in
set_option maxRecDepth 100000 in
theorem ball_ok (w : World) (g A n : Nat) (F : Nat → Bool) (I : IsSet w g A n F) (T : Tab w) : Calls Tryz.prog 152 #[.pointer (some ⟨g, 0, none⟩)] w (BaPost (allN F n) w) := by
  have hn := I.n64
  have hc := cntF_le F n
  have HI := Lib.hid (And.intro I T); clear I T
  go_enter Tryz.func152, Tryz.ntmps152
  go_wp2_with fail
  refine (bcount_ok w g A n F HI.out.1).mono ?_
  rintro e w1 ⟨rfl, rfl⟩
  go_wp2_with fail
  obtain ⟨w0, rfl⟩ : ∃ w0 : World, w0 = w1 := ⟨_, rfl⟩
  go_loopg [3, 7] (cntF F n + 1) (fun gk v idx wr => BaRel w0 n F gk v idx wr)
  case atStart => exact ⟨0, 0, by omega, by omega, rfl, by omega, rfl, .inl rfl, OwnI.nil _ _, Chg.refl _ _, by simp [fpv, Value.ownBlock]⟩
  case round =>
    obtain ⟨j, m, hgk, hjc, rfl, hmn, hlen, hlast, O, C, Fv⟩ := hrel
    by_cases e : j < cntF F n
    · have hj' : (j : Int) < (cntF F n : Int) := by omega
      obtain ⟨Ao, co, rfl⟩ := O.slice
      have hli : (intsN (allN F m)).length = j := by unfold intsN; rw [List.length_map, hlen]
      have O2 := O
      rw [hli] at O ⊢
      have hcells : ∀ x, 1 ≤ j → F (m - 1) = true → 1 ≤ m → x = m - 1 → ∃ g, Ao = some ⟨g, 0, none⟩ ∧ wr.cell? ⟨g, j - 1, none⟩ = some (.int .i64 (x : Nat)) := fun x h1 h2 h3 h4 => by
        have e9 : allN F m = allN F (m - 1) ++ [m - 1] := by rw [show m = m - 1 + 1 by omega, allN_succ, Nat.add_sub_cancel, if_pos h2]
        have hx : (intsN (allN F m))[j - 1]? = some (x : Int) := by
          have hl2 : (allN F (m - 1)).length = j - 1 := by rw [e9, List.length_append] at hlen; simp at hlen; omega
          unfold intsN
          rw [List.getElem?_map, e9, List.getElem?_append_right (by omega), hl2, h4]; simp
        obtain ⟨g', e1, h5, _, _⟩ := O2.cell hx
        exact ⟨g', e1, h5⟩
      have hj0 : j = 0 → m = 0 ∨ F (m - 1) = true → m = 0 := fun h1 h2 => by
        rcases h2 with h2 | h2
        · exact h2
        · rcases Nat.eq_zero_or_pos m with h3 | h3
          · exact h3
          · exfalso
            have e9 : allN F m = allN F (m - 1) ++ [m - 1] := by rw [show m = m - 1 + 1 by omega, allN_succ, Nat.add_sub_cancel, if_pos h2]
            rw [e9, List.length_append] at hlen
            simp at hlen; omega
      have HC := Lib.hid (And.intro C (And.intro Fv (And.intro hlen (And.intro O2 (And.intro hlast (And.intro hcells hj0)))))); clear C Fv hlen O O2 hli hcells hj0 hlast
      go_upto_if 11 with fail
      go_cut [4] from 9 to 18 (fun v wd => v = .int .i64 (m : Nat) ∧ wd = wr)
      case first =>
        by_cases hj1 : j = 0
        · have hm0 := HC.out.2.2.2.2.2.2 hj1 HC.out.2.2.2.2.1
          subst hj1 hm0
          go_wp2_with fail
          go_meet
          exact ⟨rfl, rfl⟩
        · have hjp : (0 : Int) < (j : Int) := by omega
          have hm1 : 1 ≤ m := by
            rcases Nat.eq_zero_or_pos m with h | h
            · subst h; exact absurd HC.out.2.2.1.symm hj1
            · exact h
          have hF := HC.out.2.2.2.2.1.resolve_left (by omega)
          obtain ⟨x, hx⟩ : ∃ x, x = m - 1 := ⟨_, rfl⟩
          obtain ⟨g', rfl, q0⟩ := HC.out.2.2.2.2.2.1 x (by omega) hF hm1 hx
          obtain ⟨j', rfl⟩ : ∃ j', j = j' + 1 := ⟨j - 1, by omega⟩
          have hmx : m = x + 1 := by omega
          subst hmx
          rw [Nat.add_sub_cancel] at q0
          have hj'' : (j' : Int) < (j' : Int) + 1 := by omega
          clear hj1 hF hx hm1
          go_wp2_with fail
          go_meet
          exact ⟨by go_num, rfl⟩
      case rest =>
        obtain ⟨rfl, rfl⟩ := hcut
        obtain ⟨wr, rfl⟩ : ∃ wr : World, wr = wc := ⟨_, rfl⟩
        go_wp2_with fail
        refine (bnext_true wr g A n F (HI.out.1.chg0 HC.out.1) (HI.out.2.chg HC.out.1 (by simp)) m (by omega)).mono ?_
        rintro e w1 ⟨r, rfl, hr, rfl⟩
        obtain ⟨y, rfl, hy1, hy2, hy3, hy4⟩ : ∃ y : Nat, r = y ∧ m ≤ y ∧ y < n ∧ F y = true ∧ ∀ x, m ≤ x → x < y → F x = false := by
          rcases hr with ⟨_, h1⟩ | h1
          · exfalso
            obtain ⟨x, a, b, c⟩ := allN_more (F := F) (m := m) (n := n) (by omega) (by rw [HC.out.2.2.1, allN_len]; exact e)
            rw [h1 x a b] at c; cases c
          · exact h1
        have hll : (intsN (allN F m)).length + 1 ≤ 1000000000000 := by unfold intsN; rw [List.length_map, HC.out.2.2.1]; omega
        have HY := Lib.hid (And.intro hy3 hy4); clear hy3 hy4 hr
        go_wp2_with (at_builtin; refine wpList_push_int rfl _ _ rfl slZ (by rw [← HC.out.2.2.1, show (allN F m).length = (intsN (allN F m)).length by unfold intsN; rw [List.length_map]]; rfl) HC.out.2.2.2.1 rfl hll ?_)
        intro A' c' w5 O5 S5
        have H5 := Lib.hid (And.intro O5 (And.intro (HC.out.1.newS S5.c HC.out.2.1) (fun k hk => by
          rcases S5.f k hk with h | h
          · exact HC.out.2.1 k h
          · exact Nat.le_trans HC.out.1.size h : ∀ k ∈ fpv _, w0.heap.size ≤ k))); clear O5 S5
        go_wp2_with fail
        go_roundg (cntF F n - j)
        case measure => omega
        case rel =>
          have e9 : allN F (y + 1) = allN F m ++ [y] := by rw [allN_succ, if_pos HY.out.1, allN_skip hy1 HY.out.2]
          refine ⟨j + 1, y + 1, by omega, by omega, by go_num, by omega, by rw [e9, List.length_append, HC.out.2.2.1]; rfl, .inr (by simpa using HY.out.1), ?_, H5.out.2.1, H5.out.2.2⟩
          rw [e9]; unfold intsN; rw [List.map_append]; exact H5.out.1
    · have ej : j = cntF F n := by omega
      have hj' : ¬ (j : Int) < (cntF F n : Int) := by omega
      have HC := Lib.hid (And.intro C (And.intro Fv (And.intro O (allN_whole (F := F) hmn (by rw [hlen, allN_len]; exact ej))))); clear C Fv O hlen hlast e hgk
      go_wp2_with fail
      go_ret
      exact ⟨_, rfl, by rw [← HC.out.2.2.2]; exact HC.out.2.2.1, HC.out.1, HC.out.2.1⟩
end Go.Proofs.YtcnchgbngcnijaaGreatDoor
