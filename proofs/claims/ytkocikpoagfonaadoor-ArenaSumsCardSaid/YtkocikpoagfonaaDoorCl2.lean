/- The walks of package class: Pages, Slots, Of. -/
import Derived.Test.YtkocikpoagfonaaDoorCl
import Derived.Deep.RegionLaw
import Derived.IntWalk
namespace Go.Proofs.YtkocikpoagfonaaDoor
open Go.RowKit

/-- p pages serve a size s. -/
def fitP (s p : Nat) : Bool := decide (p * 64 % s * 8 ≤ p * 64 - p * 64 % s)
theorem fit_k : ∀ k : Fin 16, fitP (szK k) (pgK k) = true ∧ (∀ p : Fin 5, 1 ≤ p.val → p.val < pgK k → fitP (szK k) p = false) ∧ 1 ≤ szK k ∧ szK k ≤ 256 ∧ 1 ≤ pgK k ∧ pgK k ≤ 4 ∧ pgK k * 64 / szK k = slK k ∧ 1 ≤ slK k ∧ slK k ≤ 64 := by decide +kernel
theorem kF {k : Nat} (h : k < 16) : fitP (szK k) (pgK k) = true ∧ (∀ p, 1 ≤ p → p < pgK k → fitP (szK k) p = false) ∧ 1 ≤ szK k ∧ szK k ≤ 256 ∧ 1 ≤ pgK k ∧ pgK k ≤ 4 ∧ pgK k * 64 / szK k = slK k ∧ 1 ≤ slK k ∧ slK k ≤ 64 := by
  obtain ⟨h1, h2, h3, h4, h5, h6, h7⟩ := fit_k ⟨k, h⟩
  exact ⟨h1, fun p a b => h2 ⟨p, by simp only at h6; omega⟩ a b, h3, h4, h5, h6, h7⟩
theorem szI_nat {k : Nat} (h : k < 16) : szI (k : Nat) = szK k := by unfold szI; rw [if_pos (by unfold isK; omega)]; simp
theorem pgI_nat {k : Nat} (h : k < 16) : pgI (k : Nat) = pgK k := by unfold pgI; rw [if_pos (by unfold isK; omega)]; simp
theorem slI_nat {k : Nat} (h : k < 16) : slI (k : Nat) = slK k := by unfold slI; rw [if_pos (by unfold isK; omega)]; simp
theorem szI_no {k : Int} (h : ¬ isK k) : szI k = 0 := by unfold szI; rw [if_neg h]
theorem pgI_no {k : Int} (h : ¬ isK k) : pgI k = 0 := by unfold pgI; rw [if_neg h]
theorem slI_no {k : Int} (h : ¬ isK k) : slI k = 0 := by unfold slI; rw [if_neg h]
def CpRel (w0 : World) (P : Nat) (gk : Nat) (idx : Value) (w : World) : Prop := ∃ p, gk + p = P + 1 ∧ 1 ≤ p ∧ p ≤ P ∧ idx = .int .i64 (p : Nat) ∧ Chg [] w0 w
set_option maxHeartbeats 1600000 in
set_option maxRecDepth 100000 in
theorem pages_ok (w : World) (k : Int) : Calls Tryd.prog 30 #[.int .i64 k] w (NwPost (.int .i64 (pgI k)) w) := by
  go_enter Tryd.func30, Tryd.ntmps30
  go_wp2_with fail
  refine (size_ok w k).mono ?_
  rintro e w1 ⟨rfl, c1⟩
  by_cases h : isK k
  · obtain ⟨q, rfl⟩ : ∃ q : Nat, k = q := ⟨k.toNat, by have := h.1; omega⟩
    have hq : q < 16 := by have := h.2; omega
    obtain ⟨h1, h2, h3, h4, h5, h6, _⟩ := kF hq
    rw [szI_nat hq]
    obtain ⟨s, hs⟩ : ∃ s, s = szK q := ⟨_, rfl⟩
    obtain ⟨P, hP⟩ : ∃ P, P = pgK q := ⟨_, rfl⟩
    have hout : pgI (q : Nat) = (P : Int) := by rw [pgI_nat hq, hP]
    rw [← hs] at h1 h2 h3 h4 ⊢
    rw [← hP] at h1 h2 h5 h6
    have hz : ((s : Int) == 0) = false := by rw [beq_eq_false_iff_ne]; omega
    have hz2 : (s == 0) = false := by rw [beq_eq_false_iff_ne]; omega
    have HH := Lib.hid (And.intro h1 (And.intro h2 (And.intro c1 hout))); clear h1 h2 c1 hs hP h hq hout
    go_wp2_with fail
    clear hz hz2
    obtain ⟨w0, rfl⟩ : ∃ w0 : World, w0 = w1 := ⟨_, rfl⟩
    go_loopg [4] P (fun gk idx wr => CpRel w0 P gk idx wr)
    case atStart => exact ⟨1, by omega, by omega, by omega, rfl, Chg.refl _ _⟩
    case round =>
      obtain ⟨p, hgk, hp1, hpP, rfl, C⟩ := hrel
      obtain ⟨r, hr⟩ : ∃ r, r = p * 64 % s := ⟨_, rfl⟩
      have hrs : r < s := by rw [hr]; exact Nat.mod_lt _ (by omega)
      have hrp : r ≤ p * 64 := by rw [hr]; exact Nat.mod_le _ _
      have e1 : ((p : Int) * 64).tmod (s : Int) = (r : Int) := by
        rw [show (p : Int) * 64 = ((p * 64 : Nat) : Int) by omega, hr]
        exact Int.ofNat_tmod (p * 64) s
      have e2 : IntKind.i64.wrap ((r : Int) * 8) = (r : Int) * 8 := IntWalk.i64_in _ (by omega)
      have e3 : IntKind.i64.wrap ((p : Int) * 64 - (r : Int)) = (p : Int) * 64 - (r : Int) := IntWalk.i64_in _ (by omega)
      have e4 : IntKind.i64.wrap (r : Int) = (r : Int) := IntWalk.i64_in _ (by omega)
      have hs0 : ¬ (s : Int) = 0 := by omega
      have hs1 : ¬ s = 0 := by omega
      by_cases hlt : p < P
      · have hf := HH.out.2.1 p hp1 hlt
        have d1 : decide ((r : Int) * 8 ≤ (p : Int) * 64 - (r : Int)) = false := decide_eq_false (by unfold fitP at hf; rw [← hr, decide_eq_false_iff_not] at hf; omega)
        have HC := Lib.hid C; clear C hf hr
        go_upto_region 7 with fail
        go_quiet (fail)
        go_wp2_with fail
        go_roundg (P - p)
        case measure => omega
        case rel => exact ⟨p + 1, by omega, by omega, by omega, by go_num, HC.out.drewN _⟩
      · have hpe : p = P := by omega
        subst hpe
        have hf := HH.out.1
        have d1 : decide ((r : Int) * 8 ≤ (p : Int) * 64 - (r : Int)) = true := decide_eq_true (by unfold fitP at hf; rw [← hr, decide_eq_true_iff] at hf; omega)
        have HC := Lib.hid C; clear C hf hr
        go_upto_region 7 with fail
        go_quiet (fail)
        go_wp2_with fail
        go_ret
        exact ⟨by rw [HH.out.2.2.2]; rfl, HH.out.2.2.1.trans (HC.out.drewN _)⟩
  · rw [szI_no h]
    have HH := Lib.hid (And.intro c1 (pgI_no h)); clear c1 h
    go_wp2_with fail
    go_ret
    exact ⟨by rw [HH.out.2]; rfl, HH.out.1⟩
set_option maxHeartbeats 1600000 in
set_option maxRecDepth 100000 in
theorem slots_ok (w : World) (k : Int) : Calls Tryd.prog 53 #[.int .i64 k] w (NwPost (.int .i64 (slI k)) w) := by
  go_enter Tryd.func53, Tryd.ntmps53
  go_wp2_with fail
  refine (size_ok w k).mono ?_
  rintro e w1 ⟨rfl, c1⟩
  by_cases h : isK k
  · obtain ⟨q, rfl⟩ : ∃ q : Nat, k = q := ⟨k.toNat, by have := h.1; omega⟩
    have hq : q < 16 := by have := h.2; omega
    obtain ⟨_, _, h3, h4, h5, h6, h7, h8, h9⟩ := kF hq
    rw [szI_nat hq]
    have hout := slI_nat hq
    have hpg := pgI_nat hq
    obtain ⟨s, hs⟩ : ∃ s, s = szK q := ⟨_, rfl⟩
    obtain ⟨P, hP⟩ : ∃ P, P = pgK q := ⟨_, rfl⟩
    rw [← hs] at h3 h4 h7 ⊢
    rw [← hP] at h5 h6 h7 hpg
    have hz : (0 : Int) < (s : Int) := by omega
    have hz2 : 0 < s := by omega
    have HH := Lib.hid (And.intro h7 (And.intro c1 (And.intro hpg (And.intro h9 hout)))); clear h7 c1 hs hP h hq h8 h9 hpg hout
    go_wp2_with fail
    refine (pages_ok w1 q).mono ?_
    rintro e w2 ⟨rfl, c2⟩
    rw [HH.out.2.2.1]
    have e1 : ((P : Int) * 64).tdiv (s : Int) = (slK q : Int) := by
      rw [show (P : Int) * 64 = ((P * 64 : Nat) : Int) by omega, ← HH.out.1]
      exact Int.ofNat_tdiv (P * 64) s
    have e2 : ((P : Int) * 64) / (s : Int) = (slK q : Int) := by
      rw [show (P : Int) * 64 = ((P * 64 : Nat) : Int) by omega, ← HH.out.1]
      rfl
    have h9 := HH.out.2.2.2.1
    have hs0 : ¬ s = 0 := by omega
    have HC := Lib.hid (HH.out.2.1.trans c2); clear c2
    go_wp2_with fail
    go_ret
    exact ⟨by rw [HH.out.2.2.2.2]; rfl, HC.out⟩
  · rw [szI_no h]
    have HH := Lib.hid (And.intro c1 (slI_no h)); clear c1 h
    go_wp2_with fail
    go_ret
    exact ⟨by rw [HH.out.2]; rfl, HH.out.1⟩
end Go.Proofs.YtkocikpoagfonaaDoor
