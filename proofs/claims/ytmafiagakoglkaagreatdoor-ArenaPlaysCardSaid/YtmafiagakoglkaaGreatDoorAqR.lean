/- The walk of the document's Pages (layer 4). -/
import Derived.Test.YtmafiagakoglkaaGreatDoorMCl
import Derived.IntWalk
namespace Go.Proofs.YtmafiagakoglkaaGreatDoor
open Go.RowKit

def fitR (s p : Nat) : Bool := decide (s ≤ p * 64 ∧ p * 64 % s * 8 ≤ p * 64)
theorem fit_r : ∀ k : Fin 16, fitR (szK k) (pgK k) = true ∧ (∀ p : Fin 5, 1 ≤ p.val → p.val < pgK k → fitR (szK k) p = false) := by decide +kernel
def RpRel (w0 : World) (P gk : Nat) (idx : Value) (w : World) : Prop := ∃ p, gk + p = P + 1 ∧ 1 ≤ p ∧ p ≤ P ∧ idx = .int .i64 (p : Nat) ∧ Chg [] w0 w
set_option maxHeartbeats 1600000 in
set_option maxRecDepth 100000 in
theorem rpages_ok (w : World) (q : Nat) (hq : q < 16) : Calls Tryz.prog 29 #[.int .i64 (q : Nat)] w (NwPost (.int .i64 (pgK q : Nat)) w) := by
  obtain ⟨f1, f2⟩ := fit_r ⟨q, hq⟩
  obtain ⟨_, _, h3, h4, h5, h6, _⟩ := kF hq
  have h2 : ∀ p, 1 ≤ p → p < pgK q → fitR (szK q) p = false := fun p a b => f2 ⟨p, by omega⟩ a b
  have h1 : fitR (szK q) (pgK q) = true := f1
  clear f1 f2
  go_enter Tryz.func29, Tryz.ntmps29
  go_wp2_with fail
  refine (rsize_ok w (q : Nat)).mono ?_
  rintro e w1 ⟨rfl, c1⟩
  rw [szI_nat hq]
  obtain ⟨s, hs⟩ : ∃ s, s = szK q := ⟨_, rfl⟩
  obtain ⟨P, hP⟩ : ∃ P, P = pgK q := ⟨_, rfl⟩
  rw [← hs] at h1 h2 h3 h4 ⊢
  rw [← hP] at h1 h2 h5 h6 ⊢
  have hz : ((s : Int) == 0) = false := by rw [beq_eq_false_iff_ne]; omega
  have hz2 : (s == 0) = false := by rw [beq_eq_false_iff_ne]; omega
  have HH := Lib.hid (And.intro h1 (And.intro h2 (And.intro c1 hP))); clear h1 h2 c1 hs hP hq
  go_wp2_with fail
  clear hz hz2
  go_loopg [4] P (fun gk idx wr => RpRel w1 P gk idx wr)
  case atStart => exact ⟨1, by omega, by omega, by omega, rfl, Chg.refl _ _⟩
  case round =>
    obtain ⟨p, hgk, hp1, hpP, rfl, C⟩ := hrel
    obtain ⟨r, hr⟩ : ∃ r, r = p * 64 % s := ⟨_, rfl⟩
    have hrs : r < s := by rw [hr]; exact Nat.mod_lt _ (by omega)
    have e1 : ((p : Int) * 64).tmod (s : Int) = (r : Int) := by
      rw [show (p : Int) * 64 = ((p * 64 : Nat) : Int) by omega, hr]
      exact Int.ofNat_tmod (p * 64) s
    have e11 : ((p : Int) * 64) % (s : Int) = (r : Int) := by
      rw [show (p : Int) * 64 = ((p * 64 : Nat) : Int) by omega, hr]
      exact (Int.natCast_emod (p * 64) s).symm
    have hs0 : ¬ (s : Int) = 0 := by omega
    have hs1 : ¬ s = 0 := by omega
    have hb : (r : Int) * 8 ≤ 2048 := by omega
    have hsp : (s : Int) ≤ (p : Int) * 64 ∨ ¬ (s : Int) ≤ (p : Int) * 64 := by omega
    by_cases hlt : p < P
    · have hf := HH.out.2.1 p hp1 hlt
      unfold fitR at hf
      rw [← hr, decide_eq_false_iff_not] at hf
      have HC := Lib.hid C; clear C hr
      rcases hsp with hsp | hsp
      · have d1 : ¬ (r : Int) * 8 ≤ (p : Int) * 64 := by omega
        clear hf
        go_wp2_with fail
        go_roundg (P - p)
        case measure => omega
        case rel => exact ⟨p + 1, by omega, by omega, by omega, by go_num, HC.out⟩
      · clear hf
        go_wp2_with fail
        go_roundg (P - p)
        case measure => omega
        case rel => exact ⟨p + 1, by omega, by omega, by omega, by go_num, HC.out⟩
    · have hpe : p = P := by omega
      subst hpe
      have hf := HH.out.1
      unfold fitR at hf
      rw [← hr, decide_eq_true_iff] at hf
      have hsp2 : (s : Int) ≤ (p : Int) * 64 := by omega
      have d1 : (r : Int) * 8 ≤ (p : Int) * 64 := by omega
      have HC := Lib.hid C; clear C hr hf hsp
      go_wp2_with fail
      go_ret
      exact ⟨by rw [← HH.out.2.2.2]; rfl, HH.out.2.2.1.trans HC.out⟩
end Go.Proofs.YtmafiagakoglkaaGreatDoor
