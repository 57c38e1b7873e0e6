/- The second form of pages: a list of Booleans. Its contracts. -/
import Derived.Test.YtcmligooekbodaaPgLaw2
import Derived.Test.YtcmligooekbodaaPgI
namespace Go.Proofs.Ytcmligooekbodaa
open Go.RowKit

/-- The pages' second form at g: n of them, F says which are free. -/
structure RfI (w : World) (g n : Nat) (F : Nat → Bool) : Prop where
  ex : ∃ A c, Blk w g 58 #[.slice (some ⟨A, 0, none⟩) n c] ∧ Blk w A 4 ((List.range n).map fun i => Value.bool (F i)).toArray
theorem RfI.chg {w w' : World} {g n : Nat} {F : Nat → Bool} (h : RfI w g n F) (c : Chg [] w w') : RfI w' g n F := by
  obtain ⟨A, k, h1, h2⟩ := h.ex
  exact ⟨A, k, c.blk h1 (by simp), c.blk h2 (by simp)⟩
theorem bools_at {w : World} {A n i : Nat} {F : Nat → Bool} (h : Blk w A 4 ((List.range n).map fun i => Value.bool (F i)).toArray) (hi : i < n) : w.cell? ⟨A, i, none⟩ = some (.bool (F i)) := h.cellv i (by simp [hi])
theorem bools_set {w : World} {A n i : Nat} {F : Nat → Bool} (h : Blk w A 4 ((List.range n).map fun i => Value.bool (F i)).toArray) (hi : i < n) (b : Bool) :
    Blk (w.setCell ⟨A, i, none⟩ (.bool b)) A 4 ((List.range n).map fun j => Value.bool (if j = i then b else F j)).toArray := by
  refine h.setv i _ ?_
  apply Array.ext'
  simp only [Array.toList_setIfInBounds]
  apply List.ext_getElem?
  intro j
  rw [List.getElem?_set]
  by_cases hj : j < n
  · by_cases e : i = j
    · subst e; simp [hj]
    · simp [e, hj, Ne.symm e]
  · by_cases e : i = j
    · omega
    · simp [e, hj]
/-! NewPages -/
def RnF (k i : Nat) : Bool := decide (1 ≤ i ∧ i < k)
def RnPost (n : Nat) (w : World) (e : Ending) (w' : World) : Prop := ∃ g, e = .returned (.pointer (some ⟨g, 0, none⟩)) ∧ (∃ A c, Blk w' g 58 #[.slice (some ⟨A, 0, none⟩) n c] ∧ Blk w' A 4 ((List.range n).map fun i => Value.bool (RnF n i)).toArray ∧ w.heap.size ≤ A) ∧ Chg [] w w' ∧ w.heap.size ≤ g
def RnRel (w0 : World) (A g n c : Nat) (gk : Nat) (idx : Value) (w : World) : Prop :=
  ∃ i, gk + i = n + 2 ∧ 1 ≤ i ∧ i ≤ n ∧ idx = .int .i64 (i : Nat) ∧ Blk w g 58 #[.slice (some ⟨A, 0, none⟩) n c] ∧ Blk w A 4 ((List.range n).map fun j => Value.bool (RnF i j)).toArray ∧ Chg [] w0 w ∧ w0.heap.size ≤ A
theorem RnF_succ (i j : Nat) (hi : 1 ≤ i) : (if j = i then true else RnF i j) = RnF (i + 1) j := by
  unfold RnF
  by_cases e : j = i
  · rw [if_pos e]; symm; exact decide_eq_true (by omega)
  · rw [if_neg e]; congr 1; apply propext; omega
theorem rn_zero (n : Nat) : List.replicate n (Value.bool false) = (List.range n).map fun j => Value.bool (RnF 1 j) := by
  apply List.ext_getElem?
  intro i
  by_cases h : i < n
  · simp [h, RnF]; omega
  · simp [h]
set_option maxHeartbeats 1600000 in
set_option maxRecDepth 100000 in
theorem rnew_ok (w : World) (N : Nat) (h0 : 2 ≤ N) (h2 : N ≤ 200) : Calls Try.prog 15 #[.int .i64 N] w (RnPost N w) := by
  have hmk := fun W => run_make_z (P := Try.prog) 28 4 (.bool false) 1 Try.underlying28 (by kernel_rfl) rfl .i64 .i64 N (by omega) (by omega) W
  have h1 : 1 ≤ N := by omega
  have n8 : ¬ (N : Int) ≤ 1 := by omega
  have n9 : ¬ N ≤ 1 := by omega
  have n10 : (1 : Int) < N := by omega
  have n11 : 1 < N := by omega
  have n1 : ¬ (N : Int) < 1 := by omega
  have n2 : ¬ 262144 < (N : Int) := by omega
  have n3 : (N : Int) ≤ 262144 := by omega
  have n4 : 1 ≤ (N : Int) := by omega
  have n5 : N ≤ 262144 := by omega
  have n6 : min (N : Int) 262144 = N := by omega
  have n7 : max 1 (N : Int) = N := by omega
  go_enter Try.func15, Try.ntmps15
  go_wp2_with fail
  have B1 : Blk ((w.alloc (.cells (zcells (.bool false) N) 4)).alloc (.cells #[.slice (some ⟨w.heap.size, 0, none⟩) N N] 58)) (w.heap.size + 1) 58 #[.slice (some ⟨w.heap.size, 0, none⟩) N N] := by
    have := Blk.new (w.alloc (.cells (zcells (.bool false) N) 4)) 58 #[.slice (some ⟨w.heap.size, 0, none⟩) N N]
    rwa [World.size_alloc] at this
  have B2 : Blk ((w.alloc (.cells (zcells (.bool false) N) 4)).alloc (.cells #[.slice (some ⟨w.heap.size, 0, none⟩) N N] 58)) w.heap.size 4 ((List.range N).map fun j => Value.bool (RnF 1 j)).toArray := by
    have := (Blk.new w 4 (zcells (.bool false) N)).alloc (.cells #[.slice (some ⟨w.heap.size, 0, none⟩) N N] 58)
    have hz : ((List.range N).map fun j => Value.bool (RnF 1 j)).toArray = zcells (.bool false) N := by rw [zcells_list, rn_zero]
    rw [hz]
    exact this
  have C := ((Chg.refl [] w).alloc (.cells (zcells (.bool false) N) 4)).alloc (.cells #[.slice (some ⟨w.heap.size, 0, none⟩) N N] 58)
  have HB := Lib.hid (And.intro B1 (And.intro B2 C)); clear B1 B2 C
  obtain ⟨A, hA⟩ : ∃ A, A = w.heap.size := ⟨_, rfl⟩
  obtain ⟨g, hg⟩ : ∃ g, g = w.heap.size + 1 := ⟨_, rfl⟩
  rw [← hg, ← hA] at HB ⊢
  have hfr := Lib.hid (And.intro hA hg)
  clear hA hg hmk
  go_loopg [4] (N + 1) (fun gk idx wr => RnRel w A g N N gk idx wr)
  case atStart => exact ⟨1, by omega, by omega, by omega, rfl, HB.out.1, HB.out.2.1, HB.out.2.2, by have := hfr.out; omega⟩
  case round =>
    obtain ⟨i, hgk, h1i, hin, rfl, B1, B2, C, hAw⟩ := hrel
    have b0 := B1.cellv 0 rfl
    have hne : A ≠ g := by have := hfr.out; omega
    by_cases e : i < N
    · have hi' : (i : Int) < (N : Int) := by omega
      have i0 := bools_at B2 e
      have f0 := B2.frozen i
      have B3 := bools_set B2 e true
      have E3 : ((List.range N).map fun j => Value.bool (if j = i then true else RnF i j)) = ((List.range N).map fun j => Value.bool (RnF (i + 1) j)) := List.map_congr_left fun j _ => by rw [RnF_succ i j h1i]
      rw [E3] at B3
      have HX := Lib.hid (And.intro (B1.far (p := ⟨A, i, none⟩) hne.symm (.bool true)) (And.intro B3 (C.setCell (p := ⟨A, i, none⟩) (.inr hAw) (.bool true)))); clear B1 B2 B3 E3 C
      go_wp2_with fail
      go_roundg (N + 1 - i)
      case measure => omega
      case rel => exact ⟨i + 1, by omega, by omega, by omega, by go_num, HX.out.1, HX.out.2.1, HX.out.2.2, hAw⟩
    · have e2 : i = N := by omega
      subst e2
      have hi' : ¬ (i : Int) < (i : Int) := by omega
      have HX := Lib.hid (And.intro B1 (And.intro B2 C)); clear B1 B2 C hgk
      go_wp2_with fail
      go_ret
      exact ⟨g, rfl, ⟨A, _, HX.out.1, HX.out.2.1, by have := hfr.out; omega⟩, HX.out.2.2, by have := hfr.out; omega⟩
set_option maxHeartbeats 1600000 in
set_option maxRecDepth 100000 in
theorem rnew1_ok (w : World) (n : Int) (h1 : n ≤ 1) : Calls Try.prog 15 #[.int .i64 n] w (RnPost 1 w) := by
  have hmk : ∀ W : World, (Instr.makeSlice 28 (.int .i64 1) (.int .i64 1)).run Try.prog W = .ok (.slice (some ⟨W.heap.size, 0, none⟩) 1 1) (W.alloc (.cells (zcells (.bool false) 1) 4)) := fun W =>
    run_make_z (P := Try.prog) 28 4 (.bool false) 1 Try.underlying28 (by kernel_rfl) rfl .i64 .i64 1 (by omega) (by omega) W
  have n2 : ¬ 262144 < n := by omega
  have n3 : n ≤ 262144 := by omega
  have n4 : ¬ 1 < n := by omega
  go_enter Try.func15, Try.ntmps15
  go_wp2_with fail
  have B1 : Blk ((w.alloc (.cells (zcells (.bool false) 1) 4)).alloc (.cells #[.slice (some ⟨w.heap.size, 0, none⟩) 1 1] 58)) (w.heap.size + 1) 58 #[.slice (some ⟨w.heap.size, 0, none⟩) 1 1] := by
    have := Blk.new (w.alloc (.cells (zcells (.bool false) 1) 4)) 58 #[.slice (some ⟨w.heap.size, 0, none⟩) 1 1]
    rwa [World.size_alloc] at this
  have B2 : Blk ((w.alloc (.cells (zcells (.bool false) 1) 4)).alloc (.cells #[.slice (some ⟨w.heap.size, 0, none⟩) 1 1] 58)) w.heap.size 4 ((List.range 1).map fun j => Value.bool (RnF 1 j)).toArray := by
    have := (Blk.new w 4 (zcells (.bool false) 1)).alloc (.cells #[.slice (some ⟨w.heap.size, 0, none⟩) 1 1] 58)
    have hz : ((List.range 1).map fun j => Value.bool (RnF 1 j)).toArray = zcells (.bool false) 1 := by rw [zcells_list, rn_zero]
    rw [hz]
    exact this
  have C := ((Chg.refl [] w).alloc (.cells (zcells (.bool false) 1) 4)).alloc (.cells #[.slice (some ⟨w.heap.size, 0, none⟩) 1 1] 58)
  have HB := Lib.hid (And.intro B1 (And.intro B2 C)); clear B1 B2 C
  obtain ⟨A, hA⟩ : ∃ A, A = w.heap.size := ⟨_, rfl⟩
  obtain ⟨g, hg⟩ : ∃ g, g = w.heap.size + 1 := ⟨_, rfl⟩
  rw [← hg, ← hA] at HB ⊢
  have hfr := Lib.hid (And.intro hA hg)
  clear hA hg hmk
  go_loopg [4] (1 + 1) (fun gk idx wr => RnRel w A g 1 1 gk idx wr)
  case atStart => exact ⟨1, by omega, by omega, by omega, rfl, HB.out.1, HB.out.2.1, HB.out.2.2, by have := hfr.out; omega⟩
  case round =>
    obtain ⟨i, hgk, h1i, hin, rfl, B1, B2, C, hAw⟩ := hrel
    have b0 := B1.cellv 0 rfl
    have hne : A ≠ g := by have := hfr.out; omega
    by_cases e : i < 1
    · omega
    · have e2 : i = 1 := by omega
      subst e2
      have HX := Lib.hid (And.intro B1 (And.intro B2 C)); clear B1 B2 C hgk
      go_wp2_with fail
      go_ret
      exact ⟨g, rfl, ⟨A, _, HX.out.1, HX.out.2.1, by have := hfr.out; omega⟩, HX.out.2.2, by have := hfr.out; omega⟩
/-! Left -/
def RlPost (n : Nat) (F : Nat → Bool) (w : World) (e : Ending) (w' : World) : Prop := e = .returned (.int .i64 (((List.range n).filter F).length : Nat)) ∧ Chg [] w w'
def RlRel (w0 : World) (n : Nat) (F : Nat → Bool) (gk : Nat) (s idx : Value) (w : World) : Prop :=
  ∃ i, gk + i = n + 1 ∧ i ≤ n ∧ s = .int .i64 (((List.range i).filter F).length : Nat) ∧ idx = .int .i64 (i : Nat) ∧ Chg [] w0 w
set_option maxHeartbeats 1600000 in
set_option maxRecDepth 100000 in
theorem rleft_ok (w : World) (g n : Nat) (F : Nat → Bool) (I : RfI w g n F) (hn : n ≤ 262144) : Calls Try.prog 20 #[.pointer (some ⟨g, 0, none⟩)] w (RlPost n F w) := by
  have HI := Lib.hid I; clear I
  go_enter Try.func20, Try.ntmps20
  go_wp2_with fail
  go_loopg [3, 4] (n + 1) (fun gk s idx wr => RlRel w n F gk s idx wr)
  case atStart => exact ⟨0, by omega, by omega, by simp, rfl, Chg.refl [] _⟩
  case round =>
    obtain ⟨i, hgk, hin, rfl, rfl, C⟩ := hrel
    obtain ⟨A, c, B1, B2⟩ := (HI.out.chg C).ex
    have b0 := B1.cellv 0 rfl
    have hle : ((List.range i).filter F).length ≤ i := by have := List.length_filter_le F (List.range i); simpa using this
    by_cases e : i < n
    · have hi' : (i : Int) < (n : Int) := by omega
      have i0 := bools_at B2 e
      have hs : ((List.range (i + 1)).filter F).length = ((List.range i).filter F).length + if F i = true then 1 else 0 := by
        rw [List.range_succ, List.filter_append, List.length_append]
        cases hF : F i <;> simp [hF]
      obtain ⟨q, hq⟩ : ∃ q, q = ((List.range i).filter F).length := ⟨_, rfl⟩
      rw [← hq] at hs hle ⊢
      have HX := Lib.hid (And.intro C hs); clear C hs hq B1 B2
      cases hF : F i with
      | true =>
        have HF := Lib.hid hF
        rw [hF] at i0
        clear hF
        go_wp2_with fail
        go_roundg (n - i)
        case measure => omega
        case rel => exact ⟨i + 1, by omega, by omega, by rw [HX.out.2, if_pos HF.out]; go_num, by go_num, HX.out.1⟩
      | false =>
        have HF := Lib.hid hF
        rw [hF] at i0
        clear hF
        go_wp2_with fail
        go_roundg (n - i)
        case measure => omega
        case rel => exact ⟨i + 1, by omega, by omega, by rw [HX.out.2, if_neg (by rw [HF.out]; decide)]; rfl, by go_num, HX.out.1⟩
    · have e2 : n = i := by omega
      subst e2
      have hi' : ¬ (n : Int) < (n : Int) := by omega
      have HX := Lib.hid C; clear C hgk hin e hle B1 B2
      go_wp2_with fail
      go_ret
      exact ⟨rfl, HX.out⟩
end Go.Proofs.Ytcmligooekbodaa
