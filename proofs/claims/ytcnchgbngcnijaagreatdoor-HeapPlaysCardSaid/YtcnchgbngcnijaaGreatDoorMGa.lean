/- The arena's ops, with any arguments, as to a state that a law carries along. -/
/- ArenaPlays: the state of both forms, side by side. -/
/- ArenaPlays: numbers of words that may not be. -/
import Derived.Test.YtcnchgbngcnijaaGreatDoorDr
import Derived.Test.YtcnchgbngcnijaaGreatDoorMAq
import Derived.Test.YtcnchgbngcnijaaGreatDoorMRl
namespace Go.Proofs.YtcnchgbngcnijaaGreatDoor
open Go.RowKit

section
variable {w0 w : World} {g N b : Nat} {h : ArH} {a : Ar} (S : ArS w0 w g h a N b)
include S
theorem g_mark (hN : N ≤ 1000000) (x : Int) (hx : Wf64 x) : Calls Tryz.prog 26 #[.pointer (some ⟨g, 0, none⟩), .int .i64 x] w fun e w' =>
    (obI a x = none ∧ e = .returned (.bool false) ∧ Chg [] w w') ∨ ∃ id i s, a.sp id = some s ∧ i < slK s.k ∧ s.F i = true ∧ x = ((s.addr i : Nat) : Int) ∧ e = .returned (.bool (!(s.M i))) ∧ ArS w0 w' g h { a with sp := updF a.sp id (some (markS s i)) } N b ∧ StA h a h { a with sp := updF a.sp id (some (markS s i)) } w w' := by
  have h1 := amark_ok w { h with N := N } a (S.M.nn N) S.I.ok hN x hx
  obtain rfl : h.ga = g := S.ga
  refine h1.mono ?_
  rintro e w' (h2 | ⟨id, i, s, -, hs, hi, hF, hx, he, M, c⟩)
  · exact .inl h2
  · have st := StA.turn (h := h) (a := a) (id := id) (s := s) (s' := markS s i) (b := h.B id) hs c (fun k hk => hk)
    rw [turnH_self] at st
    have M2 : ArM w' h { a with sp := updF a.sp id (some (markS s i)) } := M.nn h.N
    exact .inr ⟨id, i, s, hs, hi, hF, hx, he, S.step M2 st (S.I.mark hs hF) rfl S.m, st⟩
end
end Go.Proofs.YtcnchgbngcnijaaGreatDoor
namespace Go.Proofs.YtcnchgbngcnijaaGreatDoor
open Go.RowKit Go.Maps

structure ApT (W : World) (g rg : Nat) (h : ArH) (hr : RaH) (a : Ar) (ids : List Nat) (N b m : Nat) (w : World) : Prop where
  S : ArS W w g h a N b
  M : RaM w hr a ids
  far : ∀ k, RaF hr a k → W.heap.size ≤ k
  apart : ∀ k, RaF hr a k → ¬ ArF h a k
  rg : hr.g = rg
  mw : hr.mw ≤ m
section
variable {W w w1 w2 : World} {g rg N b m N' b' m' : Nat} {h h1 : ArH} {hr hr' : RaH} {a a' : Ar} {ids ids' : List Nat}
end
end Go.Proofs.YtcnchgbngcnijaaGreatDoor
namespace Go.Proofs.YtcnchgbngcnijaaGreatDoor
open Go.RowKit Go.Maps

/-- So many words may be. -/
def okW (z : Int) : Prop := 256 ≤ z ∧ z ≤ 16777216 ∧ z.tmod 64 = 0
set_option maxHeartbeats 1600000 in
set_option maxRecDepth 100000 in
theorem anew_bad (w : World) (z : Int) (hz : ¬ okW z) : Calls Tryz.prog 10 #[.int .i64 z] w (NwPost (.tuple #[.pointer none, .int .i64 1]) w) := by
  by_cases h1 : z < 256
  · exact anew_no w z h1
  · have d1 : decide (z < 256) = false := decide_eq_false h1
    by_cases h2 : 16777216 < z
    · have d2 : decide ((16777216 : Int) < z) = true := decide_eq_true h2
      clear hz
      go_enter Tryz.func10, Tryz.ntmps10
      go_wp2_with fail
      go_ret2
      exact ⟨rfl, Chg.refl _ _⟩
    · have d2 : decide ((16777216 : Int) < z) = false := decide_eq_false h2
      have h3 : ¬ z.tmod 64 = 0 := fun h => hz ⟨by omega, by omega, h⟩
      have d3 : (z.tmod 64 != 0) = true := by rw [bne_iff_ne]; exact h3
      have d4 : (z.tmod 64 == 0) = false := by rw [beq_eq_false_iff_ne]; exact h3
      have e6 : z.tmod 64 = z % 64 := Int.tmod_eq_emod_of_nonneg (by omega)
      have d5 : (z % 64 != 0) = true := by rw [← e6]; exact d3
      have d6 : (z % 64 == 0) = false := by rw [← e6]; exact d4
      clear e6
      clear hz
      go_enter Tryz.func10, Tryz.ntmps10
      go_wp2_with fail
      go_ret2
      exact ⟨rfl, Chg.refl _ _⟩
set_option maxHeartbeats 1600000 in
set_option maxRecDepth 100000 in
theorem ranew_bad (w : World) (z : Int) (hz : ¬ okW z) : Calls Tryz.prog 11 #[.int .i64 z] w (NwPost (.pointer none) w) := by
  by_cases h1 : z < 256
  · have d1 : decide (z < 256) = true := decide_eq_true h1
    clear hz
    go_enter Tryz.func11, Tryz.ntmps11
    go_wp2_with fail
    go_ret
    exact ⟨rfl, Chg.refl _ _⟩
  · have d1 : decide (z < 256) = false := decide_eq_false h1
    by_cases h2 : 16777216 < z
    · have d2 : decide ((16777216 : Int) < z) = true := decide_eq_true h2
      clear hz
      go_enter Tryz.func11, Tryz.ntmps11
      go_wp2_with fail
      go_ret
      exact ⟨rfl, Chg.refl _ _⟩
    · have d2 : decide ((16777216 : Int) < z) = false := decide_eq_false h2
      have h3 : ¬ z.tmod 64 = 0 := fun h => hz ⟨by omega, by omega, h⟩
      have d3 : (z.tmod 64 != 0) = true := by rw [bne_iff_ne]; exact h3
      have d4 : (z.tmod 64 == 0) = false := by rw [beq_eq_false_iff_ne]; exact h3
      have e6 : z.tmod 64 = z % 64 := Int.tmod_eq_emod_of_nonneg (by omega)
      have d5 : (z % 64 != 0) = true := by rw [← e6]; exact d3
      have d6 : (z % 64 == 0) = false := by rw [← e6]; exact d4
      clear e6
      clear hz
      go_enter Tryz.func11, Tryz.ntmps11
      go_wp2_with fail
      go_ret
      exact ⟨rfl, Chg.refl _ _⟩
theorem okW.pages {z : Int} (h : okW z) (h2 : z ≤ 2048) : ∃ n : Nat, z = ((n * 64 : Nat) : Int) ∧ 4 ≤ n ∧ n ≤ 32 := by
  obtain ⟨h0, -, h1⟩ := h
  rw [Int.tmod_eq_emod_of_nonneg (by omega)] at h1
  exact ⟨(z / 64).toNat, by omega, by omega, by omega⟩
end Go.Proofs.YtcnchgbngcnijaaGreatDoor
