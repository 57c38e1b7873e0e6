/- The walks of package bits: sets of at most 64 numbers, in one word. -/
import Derived.Test.YtkocikpoagfonaaDoorMem
import Derived.Test.YtkocikpoagfonaaDoorBtLaw
import Derived.Laws.Bits64
import Derived.Laws.Bits64b
namespace Go.Proofs.YtkocikpoagfonaaDoor
open Go.RowKit

/-- A set in blocks g and A: of n numbers, F says which. -/
structure IsSet (w : World) (g A n : Nat) (F : Nat → Bool) : Prop where
  b : Blk w g 99 #[.int .i64 n, .slice (some ⟨A, 0, none⟩) 1 1, .int .i64 (cntF F n)]
  d : Blk w A 100 #[.int .u64 (bw F 64)]
  z : ∀ x, n ≤ x → F x = false
  n1 : 1 ≤ n
  n64 : n ≤ 64
section
variable {w w' : World} {g A n : Nat} {F : Nat → Bool}
theorem IsSet.chg {S : List Nat} (h : IsSet w g A n F) (c : Chg S w w') (h1 : g ∉ S) (h2 : A ∉ S) : IsSet w' g A n F := ⟨c.blk h.b h1, c.blk h.d h2, h.z, h.n1, h.n64⟩
theorem IsSet.chg0 (h : IsSet w g A n F) (c : Chg [] w w') : IsSet w' g A n F := h.chg c (by simp) (by simp)
theorem IsSet.ne (h : IsSet w g A n F) : g ≠ A := h.b.ne_ h.d (by decide)
end
/-! New -/
def BnPost (n : Nat) (w : World) (e : Ending) (w' : World) : Prop := ∃ g A, e = .returned (.pointer (some ⟨g, 0, none⟩)) ∧ IsSet w' g A n (fun _ => false) ∧ Chg [] w w' ∧ w.heap.size ≤ g ∧ w.heap.size ≤ A
theorem bw_none : bw (fun _ => false) 64 = 0 := by decide
theorem cnt_none : ∀ n, cntF (fun _ => false) n = 0
  | 0 => rfl
  | n + 1 => by rw [cntF, cnt_none n]; rfl
set_option maxHeartbeats 1600000 in
set_option maxRecDepth 100000 in
theorem bnew_ok (w : World) (n : Nat) (h1 : 1 ≤ n) (h2 : n ≤ 64) : Calls Tryd.prog 54 #[.int .i64 n] w (BnPost n w) := by
  have hmk : ∀ W : World, (Instr.makeSlice 97 (.int .i64 1) (.int .i64 1)).run Tryd.prog W = .ok (.slice (some ⟨W.heap.size, 0, none⟩) 1 1) (W.alloc (.cells #[.int .u64 0] 100)) := fun W => run_make_z (P := Tryd.prog) 97 100 (.int .u64 0) 8 Tryd.underlying97 (by kernel_rfl) rfl .i64 .i64 1 (by omega) (by omega) W
  have n6 : min (n : Int) 16777216 = n := by omega
  have n7 : max (n : Int) 0 = n := by omega
  have n8 : max 0 (n : Int) = n := by omega
  have n9 : ((n : Int) + 63).tdiv 64 = 1 := by rw [Int.tdiv_eq_ediv_of_nonneg (by omega)]; omega
  have n10 : ((n : Int) + 63) / 64 = 1 := by omega
  go_enter Tryd.func54, Tryd.ntmps54
  go_wp2_with fail
  go_ret
  have B2 := (Blk.new w 100 #[.int .u64 0]).alloc (.cells #[.int .i64 n, .slice (some ⟨w.heap.size, 0, none⟩) 1 1, .int .i64 0] 99)
  have B1 := Blk.new (w.alloc (.cells #[.int .u64 0] 100)) 99 #[.int .i64 n, .slice (some ⟨w.heap.size, 0, none⟩) 1 1, .int .i64 0]
  rw [World.size_alloc] at B1
  exact ⟨w.heap.size + 1, w.heap.size, rfl, ⟨by rw [cnt_none]; exact B1, by rw [bw_none]; exact B2, fun _ _ => rfl, h1, h2⟩, ((Chg.refl _ w).alloc _).alloc _, by omega, by omega⟩
/-! Has -/
def hasI (F : Nat → Bool) (n : Nat) (i : Int) : Bool := decide (0 ≤ i ∧ i < n) && F i.toNat
def QuPost (v : Value) (w : World) (e : Ending) (w' : World) : Prop := e = .returned v ∧ w' = w
theorem bw_cast (F : Nat → Bool) (s : Nat) : ((bw F 64 : Nat) : Int) / 2 ^ s = ((bw F 64 / 2 ^ s : Nat) : Int) := by simp
theorem bw_small (F : Nat → Bool) (s : Nat) : bw F 64 / 2 ^ s < 18446744073709551616 := Nat.lt_of_le_of_lt (Nat.div_le_self ..) (bw_lt F 64)
theorem has_val (F : Nat → Bool) {s : Nat} (hs : s < 64) : (bits BinOp.and IntKind.u64 (((bw F 64 : Nat) : Int) / 2 ^ s) 1 == 1) = F s := by
  rw [bw_cast, show (1 : Int) = ((1 : Nat) : Int) from rfl, bits_and_u64_nat _ 1 (bw_small F s) (by omega), Nat.and_one_is_mod, bw_has F hs]
  cases F s <;> rfl
set_option maxHeartbeats 1600000 in
set_option maxRecDepth 100000 in
theorem bhas_ok (w : World) (g A n : Nat) (F : Nat → Bool) (I : IsSet w g A n F) (i : Int) : Calls Tryd.prog 59 #[.pointer (some ⟨g, 0, none⟩), .int .i64 i] w (QuPost (.bool (hasI F n i)) w) := by
  have b0 := I.b.cellv 0 rfl
  have b1 := I.b.cellv 1 rfl
  have d0 := I.d.cellv 0 rfl
  have hn := I.n64
  by_cases h0 : 0 ≤ i
  · by_cases h1 : i < n
    · obtain ⟨s, rfl⟩ : ∃ s : Nat, i = s := ⟨i.toNat, by omega⟩
      have e1 : (s : Int).tdiv 64 = 0 := by rw [Int.tdiv_eq_ediv_of_nonneg (by omega)]; omega
      have e2 : (s : Int).tmod 64 = s := by rw [Int.tmod_eq_emod_of_nonneg (by omega)]; omega
      have e3 : IntKind.u64.wrap (s : Int) = s := by rw [IntKind.wrap_u64]; omega
      have e4 : min s 64 = s := by omega
      go_enter Tryd.func59, Tryd.ntmps59
      go_wp2_with fail
      go_ret
      exact ⟨by rw [has_val F (by omega)]; unfold hasI; rw [decide_eq_true ⟨h0, h1⟩]; rfl, rfl⟩
    · have d1 : decide (i < n) = false := decide_eq_false h1
      go_enter Tryd.func59, Tryd.ntmps59
      go_wp2_with fail
      go_ret
      exact ⟨by unfold hasI; rw [decide_eq_false (by omega)]; rfl, rfl⟩
  · have d1 : decide (0 ≤ i) = false := decide_eq_false h0
    go_enter Tryd.func59, Tryd.ntmps59
    go_wp2_with fail
    go_ret
    exact ⟨by unfold hasI; rw [decide_eq_false (by omega)]; rfl, rfl⟩
/-! turn, Set, Clear -/
def BtPost (v : Value) (g A n : Nat) (F : Nat → Bool) (w : World) (e : Ending) (w' : World) : Prop := e = .returned v ∧ IsSet w' g A n F ∧ Chg [g, A] w w'
theorem turn_val (F : Nat → Bool) {s : Nat} (hs : s < 64) : bits BinOp.xor IntKind.u64 ((bw F 64 : Nat) : Int) (IntKind.u64.wrap (2 ^ s)) = ((bw (flipF F s) 64 : Nat) : Int) := by
  have h1 : (2 : Nat) ^ s < 18446744073709551616 := Nat.pow_lt_pow_right (by decide) hs
  have e : IntKind.u64.wrap ((2 : Int) ^ s) = ((2 ^ s : Nat) : Int) := by
    have e2 : ((2 : Int) ^ s) = ((2 ^ s : Nat) : Int) := by simp
    rw [e2, IntKind.wrap_u64]
    generalize (2 : Nat) ^ s = T at h1
    omega
  rw [e, bits_xor_u64_nat _ _ (bw_lt F 64) h1, bw_flip F hs]
set_option maxHeartbeats 1600000 in
set_option maxRecDepth 100000 in
theorem bturn_ok (w : World) (g A n : Nat) (F : Nat → Bool) (I : IsSet w g A n F) (s : Nat) (hs : s < n) (more : Int) (hm : (cntF F n : Int) + more = cntF (flipF F s) n) :
    Calls Tryd.prog 74 #[.pointer (some ⟨g, 0, none⟩), .int .i64 s, .int .i64 more] w (BtPost (.tuple #[]) g A n (flipF F s) w) := by
  have b1 := I.b.cellv 1 rfl
  have b2 := I.b.cellv 2 rfl
  have d0 := I.d.cellv 0 rfl
  have f0 := I.d.frozen 0
  have f2 := I.b.frozen 2
  have hn := I.n64
  have hne := I.ne
  have e1 : (s : Int).tdiv 64 = 0 := by rw [Int.tdiv_eq_ediv_of_nonneg (by omega)]; omega
  have e2 : (s : Int).tmod 64 = s := by rw [Int.tmod_eq_emod_of_nonneg (by omega)]; omega
  have e3 : IntKind.u64.wrap (s : Int) = s := by rw [IntKind.wrap_u64]; omega
  have e4 : min s 64 = s := by omega
  have hc := cntF_le (flipF F s) n
  have HI := Lib.hid (And.intro I hm); clear I
  go_enter Tryd.func74, Tryd.ntmps74
  go_wp2_with fail
  go_end0
  have hI := HI.out.1
  rw [turn_val F (by omega)]
  refine ⟨rfl, ⟨?_, ?_, fun x hx => ?_, hI.n1, hI.n64⟩, ?_⟩
  · exact (hI.b.far (p := ⟨A, 0, none⟩) hne _).setv 2 _ rfl
  · exact (hI.d.setv 0 _ rfl).far (p := ⟨g, 2, none⟩) (Ne.symm hne) _
  · unfold flipF; rw [if_neg (by omega)]; exact hI.z x hx
  · exact ((Chg.refl _ w).setCell (p := ⟨A, 0, none⟩) (.inl (by simp)) _).setCell (p := ⟨g, 2, none⟩) (.inl (by simp)) _
def setF (F : Nat → Bool) (i x : Nat) : Bool := if x = i then true else F x
def clrF (F : Nat → Bool) (i x : Nat) : Bool := if x = i then false else F x
theorem flip_set {F : Nat → Bool} {i : Nat} (h : F i = false) : flipF F i = setF F i := by
  funext x; unfold flipF setF; split
  · next e => rw [e, h]; rfl
  · rfl
theorem flip_clr {F : Nat → Bool} {i : Nat} (h : F i = true) : flipF F i = clrF F i := by
  funext x; unfold flipF clrF; split
  · next e => rw [e, h]; rfl
  · rfl
theorem set_same {F : Nat → Bool} {i : Nat} (h : F i = true) : setF F i = F := by
  funext x; unfold setF; split
  · next e => rw [e, h]
  · rfl
theorem clr_same {F : Nat → Bool} {i : Nat} (h : F i = false) : clrF F i = F := by
  funext x; unfold clrF; split
  · next e => rw [e, h]
  · rfl
theorem hasI_nat {F : Nat → Bool} {n s : Nat} (h : s < n) : hasI F n (s : Nat) = F s := by unfold hasI; rw [decide_eq_true ⟨by omega, by omega⟩]; rfl
set_option maxHeartbeats 1600000 in
set_option maxRecDepth 100000 in
/-- Set of a number within. -/
theorem bset_ok (w : World) (g A n : Nat) (F : Nat → Bool) (I : IsSet w g A n F) (s : Nat) (hs : s < n) :
    Calls Tryd.prog 57 #[.pointer (some ⟨g, 0, none⟩), .int .i64 s] w (BtPost (.bool (!(F s))) g A n (setF F s) w) := by
  have b0 := I.b.cellv 0 rfl
  have hsn : (s : Int) < (n : Int) := by omega
  have hn := I.n64
  have HI := Lib.hid I; clear I
  go_enter Tryd.func57, Tryd.ntmps57
  go_wp2_with fail
  refine (bhas_ok w g A n F HI.out s).mono ?_
  rintro e w1 ⟨rfl, rfl⟩
  rw [hasI_nat hs]
  cases hF : F s with
  | true =>
    have HF := Lib.hid hF; clear hF
    go_wp2_with fail
    go_ret
    exact ⟨by rw [HF.out]; rfl, by rw [set_same HF.out]; exact HI.out, Chg.refl _ _⟩
  | false =>
    have hc := cntF_flip (F := F) (i := s) (k := n) hs
    rw [if_neg (by rw [hF]; decide), if_neg (by rw [hF]; decide)] at hc
    have HF := Lib.hid (And.intro hF hc); clear hF hc
    go_wp2_with fail
    refine (bturn_ok _ g A n F HI.out s hs 1 (by have := HF.out.2; omega)).mono ?_
    rintro e w2 ⟨rfl, I2, C2⟩
    rw [flip_set HF.out.1] at I2
    have H2 := Lib.hid (And.intro I2 C2); clear I2 C2
    go_wp2_with fail
    go_ret
    exact ⟨by rw [HF.out.1]; rfl, H2.out⟩
set_option maxHeartbeats 1600000 in
set_option maxRecDepth 100000 in
/-- Clear of a number within. -/
theorem bclear_ok (w : World) (g A n : Nat) (F : Nat → Bool) (I : IsSet w g A n F) (s : Nat) (hs : s < n) :
    Calls Tryd.prog 62 #[.pointer (some ⟨g, 0, none⟩), .int .i64 s] w (BtPost (.bool (F s)) g A n (clrF F s) w) := by
  have hn := I.n64
  have HI := Lib.hid I; clear I
  go_enter Tryd.func62, Tryd.ntmps62
  go_wp2_with fail
  refine (bhas_ok w g A n F HI.out s).mono ?_
  rintro e w1 ⟨rfl, rfl⟩
  rw [hasI_nat hs]
  cases hF : F s with
  | false =>
    have HF := Lib.hid hF; clear hF
    go_wp2_with fail
    go_ret
    exact ⟨by rw [HF.out]; rfl, by rw [clr_same HF.out]; exact HI.out, Chg.refl _ _⟩
  | true =>
    have hc := cntF_flip (F := F) (i := s) (k := n) hs
    rw [if_pos hF, if_pos hF] at hc
    have HF := Lib.hid (And.intro hF hc); clear hF hc
    go_wp2_with fail
    refine (bturn_ok _ g A n F HI.out s hs (-1) (by have := HF.out.2; omega)).mono ?_
    rintro e w2 ⟨rfl, I2, C2⟩
    rw [flip_clr HF.out.1] at I2
    have H2 := Lib.hid (And.intro I2 C2); clear I2 C2
    go_wp2_with fail
    go_ret
    exact ⟨by rw [HF.out.1]; rfl, H2.out⟩
set_option maxHeartbeats 1600000 in
set_option maxRecDepth 100000 in
theorem bcount_ok (w : World) (g A n : Nat) (F : Nat → Bool) (I : IsSet w g A n F) : Calls Tryd.prog 64 #[.pointer (some ⟨g, 0, none⟩)] w (QuPost (.int .i64 (cntF F n)) w) := by
  have b2 := I.b.cellv 2 rfl
  go_enter Tryd.func64, Tryd.ntmps64
  go_wp2_with fail
  go_ret
  exact ⟨rfl, rfl⟩
set_option maxHeartbeats 1600000 in
set_option maxRecDepth 100000 in
theorem blen_ok (w : World) (g A n : Nat) (F : Nat → Bool) (I : IsSet w g A n F) : Calls Tryd.prog 75 #[.pointer (some ⟨g, 0, none⟩)] w (QuPost (.int .i64 n) w) := by
  have b0 := I.b.cellv 0 rfl
  go_enter Tryd.func75, Tryd.ntmps75
  go_wp2_with fail
  go_ret
  exact ⟨rfl, rfl⟩
end Go.Proofs.YtkocikpoagfonaaDoor
