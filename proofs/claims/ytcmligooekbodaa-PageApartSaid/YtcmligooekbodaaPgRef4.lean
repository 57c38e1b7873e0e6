/- The second form of pages: Back. -/
import Derived.Test.YtcmligooekbodaaPgRef2
namespace Go.Proofs.Ytcmligooekbodaa
open Go.RowKit

/-! Back -/
def RbPost (g A c n : Nat) (l : List R) (first k : Int) (w : World) (e : Ending) (w' : World) : Prop := ∃ cc l' F', e = .returned (.int .i64 cc) ∧ FreeSays n l first k cc l' ∧ SayF n l' F' ∧ RfA w' g A c n F' ∧ Chg [A] w w'
def Rb1Rel (w0 : World) (K : Nat) (F : Nat → Bool) (f : Nat) (gk : Nat) (idx : Value) (w : World) : Prop := ∃ i, gk + i = K + 1 ∧ i ≤ K ∧ idx = .int .i64 (i : Nat) ∧ (∀ j, j < i → F (f + j) = false) ∧ w = w0
def Rb2Rel (w0 : World) (g A c n K : Nat) (F : Nat → Bool) (f : Nat) (gk : Nat) (idx : Value) (w : World) : Prop := ∃ i, gk + i = K + 1 ∧ i ≤ K ∧ idx = .int .i64 (i : Nat) ∧ RfA w g A c n (giveF F f i) ∧ Chg [A] w0 w
theorem giveF_zero (F : Nat → Bool) (f x : Nat) : giveF F f 0 x = F x := by unfold giveF; rw [decide_eq_false (by omega), Bool.or_false]
theorem giveF_succ (F : Nat → Bool) (f i x : Nat) : (if x = f + i then true else giveF F f i x) = giveF F f (i + 1) x := by
  unfold giveF
  by_cases e : x = f + i
  · rw [if_pos e, decide_eq_true (show f ≤ x ∧ x < f + (i + 1) by omega), Bool.or_true]
  · rw [if_neg e]; congr 1; apply decide_eq_decide.2; omega
set_option maxHeartbeats 3200000 in
set_option maxRecDepth 100000 in
theorem rback_ok (w : World) (g A c n : Nat) (F : Nat → Bool) (l : List R) (I : RfA w g A c n F) (hok : Okn n l) (hs : SayF n l F) (hn : n ≤ 400) (first k : Int) : Calls Try.prog 17 #[.pointer (some ⟨g, 0, none⟩), .int .i64 first, .int .i64 k] w (RbPost g A c n l first k w) := by
  have HI := Lib.hid (And.intro I (And.intro hok hs))
  have b0 := I.b1.cellv 0 rfl
  clear I hok hs
  go_enter Try.func17, Try.ntmps17
  by_cases h1 : k < 1
  · go_wp2_with fail
    go_ret
    exact ⟨1, l, F, rfl, .inl ⟨.inl h1, rfl, rfl⟩, HI.out.2.2, HI.out.1, Chg.refl _ _⟩
  have d1 : decide (k < 1) = false := decide_eq_false h1
  by_cases h2 : first < 1
  · go_wp2_with fail
    go_ret
    exact ⟨1, l, F, rfl, .inl ⟨.inr (.inl h2), rfl, rfl⟩, HI.out.2.2, HI.out.1, Chg.refl _ _⟩
  have d2 : decide (first < 1) = false := decide_eq_false h2
  obtain ⟨f, rfl⟩ : ∃ f : Nat, first = f := ⟨first.toNat, by omega⟩
  obtain ⟨K, rfl⟩ : ∃ K : Nat, k = K := ⟨k.toNat, by omega⟩
  by_cases h3 : n ≤ f
  · have h3' : (n : Int) ≤ (f : Int) := by omega
    go_wp2_with fail
    go_ret
    exact ⟨1, l, F, rfl, .inl ⟨.inr (.inr (.inl (by omega))), rfl, rfl⟩, HI.out.2.2, HI.out.1, Chg.refl _ _⟩
  have d3 : decide ((n : Int) ≤ (f : Int)) = false := decide_eq_false (by omega)
  have d3' : decide (n ≤ f) = false := decide_eq_false h3
  have ew : Value.int .i64 (wrap64 ((n : Int) - (f : Int))) = Value.int .i64 ((n : Int) - (f : Int)) := congrArg _ (by unfold wrap64; omega)
  by_cases h4 : (n : Int) - f < K
  · go_wp2_with fail
    go_ret
    exact ⟨1, l, F, rfl, .inl ⟨.inr (.inr (.inr h4)), rfl, rfl⟩, HI.out.2.2, HI.out.1, Chg.refl _ _⟩
  have d4 : decide ((n : Int) - (f : Int) < (K : Int)) = false := decide_eq_false h4
  have hf1 : 1 ≤ f := by omega
  have hK1 : 1 ≤ K := by omega
  have hfk : f + K ≤ n := by omega
  go_wp2_with fail
  clear d1 d2 d3 d3' d4 ew
  go_loopg [7] (K + 1) (fun gk idx wr => Rb1Rel w K F f gk idx wr)
  case atStart => exact ⟨0, by omega, by omega, rfl, fun j hj => by omega, rfl⟩
  case round =>
    obtain ⟨i, hgk, hin, rfl, hno, rfl⟩ := hrel
    by_cases e : i < K
    · have hi' : (i : Int) < (K : Int) := by omega
      have i0 := bools_at (i := f + i) HI.out.1.b2 (by omega)
      have ew : Value.int .i64 (wrap64 ((f : Int) + (i : Int))) = Value.int .i64 ((f + i : Nat) : Int) := congrArg _ (wr_add f i (by omega)).1
      have hb1 : (f : Int) + (i : Int) < (n : Int) := by omega
      have hb2 : (0 : Int) ≤ (f : Int) + (i : Int) := by omega
      have hb3 : ((f + i : Nat) : Int) < (n : Int) := by omega
      have ht : ((f : Int) + (i : Int)).toNat = f + i := by omega
      cases hF : F (f + i) with
      | true =>
        rw [hF] at i0
        have HX := Lib.hid hF; clear hF
        go_wp2_with fail
        go_ret
        exact ⟨5, l, F, rfl, .inr ⟨by omega, .inl ⟨(some_F HI.out.2.1 HI.out.2.2 (by simpa using hK1) (by simpa using hfk)).2 ⟨i, by simpa using e, by simpa using HX.out⟩, rfl, rfl⟩⟩, HI.out.2.2, HI.out.1, Chg.refl _ _⟩
      | false =>
        rw [hF] at i0
        have hno2 : ∀ j, j < i + 1 → F (f + j) = false := fun j hj => by
          by_cases h : j = i
          · rw [h]; exact hF
          · exact hno j (by omega)
        have HX := Lib.hid hno2; clear hF hno hno2
        go_wp2_with fail
        clear ew
        go_roundg (K - i)
        case measure => omega
        case rel => exact ⟨i + 1, by omega, by omega, by go_num, HX.out, rfl⟩
    · have e2 : i = K := by omega
      subst e2
      have hi' : ¬ (i : Int) < (i : Int) := by omega
      have HX := Lib.hid hno; clear hno hgk hin e
      go_wp2_with fail
      obtain ⟨wq, rfl⟩ : ∃ wq : World, wq = wr := ⟨_, rfl⟩
      go_loopg [8] (i + 1) (fun gk idx wr => Rb2Rel wq g A c n i F f gk idx wr)
      case atStart => exact ⟨0, by omega, by omega, rfl, by rw [show giveF F f 0 = F from funext (giveF_zero F f)]; exact HI.out.1, Chg.refl _ _⟩
      case round =>
        clear b0
        obtain ⟨j, hgk, hjn, rfl, J, C⟩ := hrel
        have b0 := J.b1.cellv 0 rfl
        by_cases e : j < i
        · have hj' : (j : Int) < (i : Int) := by omega
          have i0 := bools_at (i := f + j) J.b2 (by omega)
          have f0 := J.b2.frozen (f + j)
          have ew : Value.int .i64 (wrap64 ((f : Int) + (j : Int))) = Value.int .i64 ((f + j : Nat) : Int) := congrArg _ (wr_add f j (by omega)).1
          have hb1 : (f : Int) + (j : Int) < (n : Int) := by omega
          have hb2 : (0 : Int) ≤ (f : Int) + (j : Int) := by omega
          have hb3 : ((f + j : Nat) : Int) < (n : Int) := by omega
          have ht : ((f : Int) + (j : Int)).toNat = f + j := by omega
          have HY := Lib.hid (And.intro (J.set_ (i := f + j) (by omega) true (giveF_succ F f j)) (C.setCell (p := ⟨A, f + j, none⟩) (.inl (by simp)) (.bool true))); clear J C
          go_wp2_with fail
          clear ew
          go_roundg (i - j)
          case measure => omega
          case rel => exact ⟨j + 1, by omega, by omega, by go_num, HY.out.1, HY.out.2⟩
        · have e2 : i = j := by omega
          subst e2
          have HY := Lib.hid (And.intro J C); clear J C
          go_wp2_with fail
          go_ret
          have hns : ¬ someR l f i := fun h => by
            obtain ⟨m, h1, h2⟩ := (some_F HI.out.2.1 HI.out.2.2 hK1 hfk).1 h
            rw [HX.out m h1] at h2; cases h2
          exact ⟨0, backR l f i, giveF F f i, rfl, .inr ⟨by omega, .inr ⟨by simpa using hns, rfl, by simp⟩⟩, sayF_back HI.out.2.1 HI.out.2.2 hK1 hf1 hfk hns, HY.out.1, HY.out.2⟩
end Go.Proofs.Ytcmligooekbodaa
