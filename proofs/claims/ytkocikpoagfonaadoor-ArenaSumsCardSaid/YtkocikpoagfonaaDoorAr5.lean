/- The walks of package arena: New, Span. -/
import Derived.Test.YtkocikpoagfonaaDoorAr4
namespace Go.Proofs.YtkocikpoagfonaaDoor
open Go.RowKit

def newA (n : Nat) : Ar := ⟨n, newL n, fun _ => none, fun _ => none, fun _ => none, 0⟩
theorem newA_ok (N n : Nat) (h1 : 1 ≤ n) (h2 : n ≤ 262144) : ArOk N (newA n) :=
  ⟨newL_ok n h1, h2, fun _ _ h => by simp [newA] at h, fun _ _ _ h => by simp [newA] at h, fun _ _ h => by simp [newA] at h, fun x => ⟨fun h => by simp [newA] at h, fun ⟨_, _, _, h, _⟩ => by simp [newA] at h⟩, fun _ _ h => by simp [newA] at h⟩
def AnPost (n : Nat) (w : World) (e : Ending) (w' : World) : Prop := ∃ h : ArH, e = .returned (.tuple #[.pointer (some ⟨h.ga, 0, none⟩), .int .i64 0]) ∧ ArM w' h (newA n) ∧ Chg [] w w' ∧ (∀ k, ArF h (newA n) k → w.heap.size ≤ k) ∧ h.m = 0 ∧ h.N = 0
theorem natV_none : natV (fun _ => none) = fun _ => none := by funext x; unfold natV; split <;> rfl
set_option maxHeartbeats 1600000 in
set_option maxRecDepth 100000 in
theorem anew_ok (w : World) (n : Nat) (h4 : 4 ≤ n) (hn : n ≤ 262144) : Calls Tryd.prog 8 #[.int .i64 ((n * 64 : Nat) : Int)] w (AnPost n w) := by
  obtain ⟨z, hz⟩ : ∃ z, z = n * 64 := ⟨_, rfl⟩
  have d1 : decide ((z : Int) < 256) = false := decide_eq_false (by omega)
  have d2 : decide ((16777216 : Int) < (z : Int)) = false := decide_eq_false (by omega)
  have e1 : (z : Int).tmod 64 = 0 := by rw [Int.tmod_eq_emod_of_nonneg (by omega)]; omega
  have e2 : (z : Int).tdiv 64 = (n : Int) := by rw [Int.tdiv_eq_ediv_of_nonneg (by omega)]; omega
  have d3 : ¬ (z : Int) < 256 := by omega
  have d4 : ¬ (16777216 : Int) < (z : Int) := by omega
  have hew : IntKind.i64.wrap (n : Int) = (n : Int) := IntWalk.i64_in _ (by omega)
  rw [← hz]
  clear hz
  have hmm := @run_makeMap Tryd.prog
  go_enter Tryd.func8, Tryd.ntmps8
  go_wp2_with fail
  refine (new_ok w (n : Int)).mono ?_
  rintro e w1 ⟨g, v, rfl, I, c1, f1⟩
  rw [show newN (n : Int) = n by unfold newN; omega] at I
  have HI := Lib.hid (And.intro I (And.intro c1 f1)); clear I c1 f1
  go_wp2_with fail
  go_ret2
  have I := HI.out.1
  have m1 := VMap.made w1 Tryd.prog 3
  have C1 := (Chg.refl [] w1).alloc (.map #[] 0)
  have m2 := VMap.made (w1.alloc (.map #[] 0)) Tryd.prog 3
  have C2 := (Chg.refl [] (w1.alloc (.map #[] 0))).alloc (.map #[] 0)
  have m3 := VMap.made ((w1.alloc (.map #[] 0)).alloc (.map #[] 0)) Tryd.prog 3
  have C3 := (Chg.refl [] ((w1.alloc (.map #[] 0)).alloc (.map #[] 0))).alloc (.map #[] 0)
  have z1 : (w1.alloc (.map #[] 0)).heap.size = w1.heap.size + 1 := World.size_alloc _ _
  have z2 : ((w1.alloc (.map #[] 0)).alloc (.map #[] 0)).heap.size = w1.heap.size + 1 + 1 := by rw [World.size_alloc, z1]
  have z3 : (((w1.alloc (.map #[] 0)).alloc (.map #[] 0)).alloc (.map #[] 0)).heap.size = w1.heap.size + 1 + 1 + 1 := by rw [World.size_alloc, z2]
  rw [z1] at m2
  rw [z2] at m3
  obtain ⟨w4, hw4⟩ : ∃ w4, w4 = ((w1.alloc (.map #[] 0)).alloc (.map #[] 0)).alloc (.map #[] 0) := ⟨_, rfl⟩
  rw [← hw4] at m3 C3 z3 ⊢
  have B4 := Blk.new w4 54 #[.pointer (some ⟨g, 0, none⟩), .map (some w1.heap.size), .map (some (w1.heap.size + 1)), .map (some (w1.heap.size + 1 + 1)), .int .i64 0]
  have C4 := (Chg.refl [] w4).alloc (.cells #[.pointer (some ⟨g, 0, none⟩), .map (some w1.heap.size), .map (some (w1.heap.size + 1)), .map (some (w1.heap.size + 1 + 1)), .int .i64 0] 54)
  have hs := HI.out.2.1.size
  rw [z3] at B4
  have nn1 : natV (spV ⟨w1.heap.size + 1 + 1 + 1, g, v, w1.heap.size, w1.heap.size + 1, w1.heap.size + 1 + 1, fun _ => ⟨0, 0, 0, 0, 0⟩, fun _ => 0, 0, 0⟩ (newA n)) = fun _ => none := natV_none
  have nn2 : natV (owV (newA n)) = fun _ => none := natV_none
  have nn3 : natV (obV ⟨w1.heap.size + 1 + 1 + 1, g, v, w1.heap.size, w1.heap.size + 1, w1.heap.size + 1 + 1, fun _ => ⟨0, 0, 0, 0, 0⟩, fun _ => 0, 0, 0⟩ (newA n)) = fun _ => none := natV_none
  have Ia := (((I.chg0 C1).chg0 C2).chg0 C3).chg0 C4
  refine ⟨⟨w1.heap.size + 1 + 1 + 1, g, v, w1.heap.size, w1.heap.size + 1, w1.heap.size + 1 + 1, fun _ => ⟨0, 0, 0, 0, 0⟩, fun _ => 0, 0, 0⟩, rfl, ⟨B4, Ia, ?_, ?_, ?_, fun id s h => by simp [newA] at h, fun x xs h => by simp [newA] at h, fun _ _ _ _ h => by simp [newA] at h, fun _ _ h => by simp [newA] at h, by show w1.heap.size ≠ w1.heap.size + 1; omega, by show w1.heap.size ≠ w1.heap.size + 1 + 1; omega, by show w1.heap.size + 1 ≠ w1.heap.size + 1 + 1; omega⟩, (((HI.out.2.1.trans C1).trans C2).trans C3).trans C4, fun k hk => ?_, rfl, rfl⟩
  · rw [nn1]; exact ((m1.chg C2 (by simp)).chg C3 (by simp)).chg C4 (by simp)
  · rw [nn2]; exact (m2.chg C3 (by simp)).chg C4 (by simp)
  · rw [nn3]; exact m3.chg C4 (by simp)
  · rcases hk with h1 | h1 | h1 | h1 | h1 | h1 | ⟨_, _, h1, _⟩ | ⟨x, h1, _⟩
    · rw [h1]; show w.heap.size ≤ w1.heap.size + 1 + 1 + 1; omega
    · rw [h1]; exact HI.out.2.2 g (List.mem_cons_self ..)
    · exact HI.out.2.2 k (List.mem_cons_of_mem _ h1)
    · rw [h1]; exact hs
    · rw [h1]; show w.heap.size ≤ w1.heap.size + 1; omega
    · rw [h1]; show w.heap.size ≤ w1.heap.size + 1 + 1; omega
    · simp [newA] at h1
    · simp [newA] at h1
end Go.Proofs.YtkocikpoagfonaaDoor
