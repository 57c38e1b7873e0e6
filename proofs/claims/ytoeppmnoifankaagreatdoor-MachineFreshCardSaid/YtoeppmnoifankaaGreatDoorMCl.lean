/- The walks of package class. -/
/- The walks of package class: Pages, Slots, Of. -/
/- The walks of the document's Sizes, Size, Of (layer 4). -/
import Derived.Test.YtoeppmnoifankaaGreatDoorMem
import Derived.BigQuiet
import Derived.Deep.LoopGhost
import Derived.Deep.DeepCutAuto
import Derived.Deep.RegionLaw
import Derived.IntWalk
namespace Go.Proofs.YtoeppmnoifankaaGreatDoor
open Go.RowKit

def szL : List Nat := [1, 2, 3, 4, 6, 8, 12, 16, 24, 32, 48, 64, 96, 128, 192, 256]
def pgL : List Nat := [1, 1, 1, 1, 1, 1, 1, 1, 2, 1, 3, 1, 3, 2, 3, 4]
def slL : List Nat := [64, 32, 21, 16, 10, 8, 5, 4, 5, 2, 4, 1, 2, 1, 1, 1]
def szK (k : Nat) : Nat := szL.getD k 0
def pgK (k : Nat) : Nat := pgL.getD k 0
def slK (k : Nat) : Nat := slL.getD k 0
def isK (k : Int) : Prop := 0 ≤ k ∧ k < 16
instance (k : Int) : Decidable (isK k) := inferInstanceAs (Decidable (_ ∧ _))
def szI (k : Int) : Int := if isK k then szK k.toNat else 0
def pgI (k : Int) : Int := if isK k then pgK k.toNat else 0
def slI (k : Int) : Int := if isK k then slK k.toNat else 0
def szA : Array Value := (szL.map fun (n : Nat) => Value.int .i64 (n : Int)).toArray
def NwPost (v : Value) (w : World) (e : Ending) (w' : World) : Prop := e = .returned v ∧ Chg [] w w'
theorem szA_get (k : Nat) (h : k < 16) : szA[k]? = some (.int .i64 (szK k : Int)) := by
  have h1 : szL[k]? = some (szK k) := by
    unfold szK
    rw [List.getD_eq_getElem?_getD, List.getElem?_eq_getElem (by exact h)]; rfl
  unfold szA
  rw [List.getElem?_toArray, List.getElem?_map, h1]; rfl
set_option maxHeartbeats 1600000 in
set_option maxRecDepth 100000 in
theorem table_ok (w : World) : Calls Tryz.prog 89 #[] w (NwPost (.agg szA) w) := by
  go_enter Tryz.func89, Tryz.ntmps89
  go_wp2_with fail
  exact ⟨rfl, _, results_cell_row (P := Tryz.prog) (fn := Tryz.f89) rfl _ _ _ _ _ _ _ rfl (heap_alloc_new w _) Tryz.underlying90 (by rfl) (by kernel_rfl), rfl, (Chg.refl [] w).alloc _⟩
set_option maxHeartbeats 1600000 in
set_option maxRecDepth 100000 in
theorem count_ok (w : World) : Calls Tryz.prog 135 #[] w (NwPost (.int .i64 16) w) := by
  go_enter Tryz.func135, Tryz.ntmps135
  go_wp2_with fail
  refine (table_ok w).mono ?_
  rintro e w1 ⟨rfl, c1⟩
  go_wp2_with fail
  go_ret
  exact ⟨rfl, c1⟩
theorem idx_sz (W : World) (q : Nat) (hq : q < 16) : (Instr.index 90 (.agg szA) (.int .i64 (q : Nat))).run Tryz.prog W = .ok (.int .i64 (szK q : Nat)) W := by
  have h : q = 0 ∨ q = 1 ∨ q = 2 ∨ q = 3 ∨ q = 4 ∨ q = 5 ∨ q = 6 ∨ q = 7 ∨ q = 8 ∨ q = 9 ∨ q = 10 ∨ q = 11 ∨ q = 12 ∨ q = 13 ∨ q = 14 ∨ q = 15 := by omega
  rcases h with rfl | rfl | rfl | rfl | rfl | rfl | rfl | rfl | rfl | rfl | rfl | rfl | rfl | rfl | rfl | rfl <;> (show _ = _; kernel_rfl)
set_option maxHeartbeats 1600000 in
set_option maxRecDepth 100000 in
theorem size_ok (w : World) (k : Int) : Calls Tryz.prog 82 #[.int .i64 k] w (NwPost (.int .i64 (szI k)) w) := by
  go_enter Tryz.func82, Tryz.ntmps82
  by_cases h0 : k < 0
  · have d0 : decide (k < 0) = true := decide_eq_true h0
    have HK := Lib.hid h0
    go_wp2_with fail
    go_ret
    exact ⟨by unfold szI; rw [if_neg (by unfold isK; have := HK.out; omega)]; rfl, Chg.refl _ _⟩
  · have d0 : decide (k < 0) = false := decide_eq_false h0
    go_wp2_with fail
    refine (count_ok w).mono ?_
    rintro e w1 ⟨rfl, c1⟩
    have HC := Lib.hid c1; clear c1
    by_cases h1 : 16 ≤ k
    · have d1 : decide (16 ≤ k) = true := decide_eq_true h1
      have HK := Lib.hid h1
      go_wp2_with fail
      go_ret
      exact ⟨by unfold szI; rw [if_neg (by unfold isK; have := HK.out; omega)]; rfl, HC.out⟩
    · have d1 : decide (16 ≤ k) = false := decide_eq_false h1
      obtain ⟨q, rfl⟩ : ∃ q : Nat, k = q := ⟨k.toNat, by omega⟩
      have hq : q < 16 := by omega
      have hx := fun W => idx_sz W q hq
      have HK := Lib.hid hq
      go_wp2_with fail
      refine (table_ok w1).mono ?_
      rintro e w2 ⟨rfl, c2⟩
      have HC2 := Lib.hid (HC.out.trans c2); clear c2
      go_wp2_with fail
      go_ret
      exact ⟨by unfold szI; rw [if_pos (by unfold isK; have := HK.out; omega)]; simp, HC2.out⟩
end Go.Proofs.YtoeppmnoifankaaGreatDoor
namespace Go.Proofs.YtoeppmnoifankaaGreatDoor
open Go.RowKit

/-- p pages serve a size s. -/
def fitP (s p : Nat) : Bool := decide (p * 64 % s * 8 ≤ p * 64 - p * 64 % s)
theorem fit_k : ∀ k : Fin 16, fitP (szK k) (pgK k) = true ∧ (∀ p : Fin 5, 1 ≤ p.val → p.val < pgK k → fitP (szK k) p = false) ∧ 1 ≤ szK k ∧ szK k ≤ 256 ∧ 1 ≤ pgK k ∧ pgK k ≤ 4 ∧ pgK k * 64 / szK k = slK k ∧ 1 ≤ slK k ∧ slK k ≤ 64 := by decide +kernel
theorem kF {k : Nat} (h : k < 16) : fitP (szK k) (pgK k) = true ∧ (∀ p, 1 ≤ p → p < pgK k → fitP (szK k) p = false) ∧ 1 ≤ szK k ∧ szK k ≤ 256 ∧ 1 ≤ pgK k ∧ pgK k ≤ 4 ∧ pgK k * 64 / szK k = slK k ∧ 1 ≤ slK k ∧ slK k ≤ 64 := by
  obtain ⟨h1, h2, h3, h4, h5, h6, h7⟩ := fit_k ⟨k, h⟩
  exact ⟨h1, fun p a b => h2 ⟨p, by simp only at h6; omega⟩ a b, h3, h4, h5, h6, h7⟩
theorem szI_nat {k : Nat} (h : k < 16) : szI (k : Nat) = szK k := by unfold szI; rw [if_pos (by unfold isK; omega)]; simp
theorem pgI_nat {k : Nat} (h : k < 16) : pgI (k : Nat) = pgK k := by unfold pgI; rw [if_pos (by unfold isK; omega)]; simp
theorem slI_nat {k : Nat} (h : k < 16) : slI (k : Nat) = slK k := by unfold slI; rw [if_pos (by unfold isK; omega)]; simp
theorem szI_no {k : Int} (h : ¬ isK k) : szI k = 0 := by unfold szI; rw [if_neg h]
theorem pgI_no {k : Int} (h : ¬ isK k) : pgI k = 0 := by unfold pgI; rw [if_neg h]
theorem slI_no {k : Int} (h : ¬ isK k) : slI k = 0 := by unfold slI; rw [if_neg h]
def CpRel (w0 : World) (P : Nat) (gk : Nat) (idx : Value) (w : World) : Prop := ∃ p, gk + p = P + 1 ∧ 1 ≤ p ∧ p ≤ P ∧ idx = .int .i64 (p : Nat) ∧ Chg [] w0 w
set_option maxHeartbeats 1600000 in
set_option maxRecDepth 100000 in
theorem pages_ok (w : World) (k : Int) : Calls Tryz.prog 87 #[.int .i64 k] w (NwPost (.int .i64 (pgI k)) w) := by
  go_enter Tryz.func87, Tryz.ntmps87
  go_wp2_with fail
  refine (size_ok w k).mono ?_
  rintro e w1 ⟨rfl, c1⟩
  by_cases h : isK k
  · obtain ⟨q, rfl⟩ : ∃ q : Nat, k = q := ⟨k.toNat, by have := h.1; omega⟩
    have hq : q < 16 := by have := h.2; omega
    obtain ⟨h1, h2, h3, h4, h5, h6, _⟩ := kF hq
    rw [szI_nat hq]
    obtain ⟨s, hs⟩ : ∃ s, s = szK q := ⟨_, rfl⟩
    obtain ⟨P, hP⟩ : ∃ P, P = pgK q := ⟨_, rfl⟩
    have hout : pgI (q : Nat) = (P : Int) := by rw [pgI_nat hq, hP]
    rw [← hs] at h1 h2 h3 h4 ⊢
    rw [← hP] at h1 h2 h5 h6
    have hz : ((s : Int) == 0) = false := by rw [beq_eq_false_iff_ne]; omega
    have hz2 : (s == 0) = false := by rw [beq_eq_false_iff_ne]; omega
    have HH := Lib.hid (And.intro h1 (And.intro h2 (And.intro c1 hout))); clear h1 h2 c1 hs hP h hq hout
    go_wp2_with fail
    clear hz hz2
    obtain ⟨w0, rfl⟩ : ∃ w0 : World, w0 = w1 := ⟨_, rfl⟩
    go_loopg [4] P (fun gk idx wr => CpRel w0 P gk idx wr)
    case atStart => exact ⟨1, by omega, by omega, by omega, rfl, Chg.refl _ _⟩
    case round =>
      obtain ⟨p, hgk, hp1, hpP, rfl, C⟩ := hrel
      obtain ⟨r, hr⟩ : ∃ r, r = p * 64 % s := ⟨_, rfl⟩
      have hrs : r < s := by rw [hr]; exact Nat.mod_lt _ (by omega)
      have hrp : r ≤ p * 64 := by rw [hr]; exact Nat.mod_le _ _
      have e1 : ((p : Int) * 64).tmod (s : Int) = (r : Int) := by
        rw [show (p : Int) * 64 = ((p * 64 : Nat) : Int) by omega, hr]
        exact Int.ofNat_tmod (p * 64) s
      have e2 : IntKind.i64.wrap ((r : Int) * 8) = (r : Int) * 8 := IntWalk.i64_in _ (by omega)
      have e3 : IntKind.i64.wrap ((p : Int) * 64 - (r : Int)) = (p : Int) * 64 - (r : Int) := IntWalk.i64_in _ (by omega)
      have e4 : IntKind.i64.wrap (r : Int) = (r : Int) := IntWalk.i64_in _ (by omega)
      have hs0 : ¬ (s : Int) = 0 := by omega
      have hs1 : ¬ s = 0 := by omega
      by_cases hlt : p < P
      · have hf := HH.out.2.1 p hp1 hlt
        have d1 : decide ((r : Int) * 8 ≤ (p : Int) * 64 - (r : Int)) = false := decide_eq_false (by unfold fitP at hf; rw [← hr, decide_eq_false_iff_not] at hf; omega)
        have HC := Lib.hid C; clear C hf hr
        go_upto_region 7 with fail
        go_quiet (fail)
        go_wp2_with fail
        go_roundg (P - p)
        case measure => omega
        case rel => exact ⟨p + 1, by omega, by omega, by omega, by go_num, HC.out.drewN _⟩
      · have hpe : p = P := by omega
        subst hpe
        have hf := HH.out.1
        have d1 : decide ((r : Int) * 8 ≤ (p : Int) * 64 - (r : Int)) = true := decide_eq_true (by unfold fitP at hf; rw [← hr, decide_eq_true_iff] at hf; omega)
        have HC := Lib.hid C; clear C hf hr
        go_upto_region 7 with fail
        go_quiet (fail)
        go_wp2_with fail
        go_ret
        exact ⟨by rw [HH.out.2.2.2]; rfl, HH.out.2.2.1.trans (HC.out.drewN _)⟩
  · rw [szI_no h]
    have HH := Lib.hid (And.intro c1 (pgI_no h)); clear c1 h
    go_wp2_with fail
    go_ret
    exact ⟨by rw [HH.out.2]; rfl, HH.out.1⟩
set_option maxHeartbeats 1600000 in
set_option maxRecDepth 100000 in
theorem slots_ok (w : World) (k : Int) : Calls Tryz.prog 88 #[.int .i64 k] w (NwPost (.int .i64 (slI k)) w) := by
  go_enter Tryz.func88, Tryz.ntmps88
  go_wp2_with fail
  refine (size_ok w k).mono ?_
  rintro e w1 ⟨rfl, c1⟩
  by_cases h : isK k
  · obtain ⟨q, rfl⟩ : ∃ q : Nat, k = q := ⟨k.toNat, by have := h.1; omega⟩
    have hq : q < 16 := by have := h.2; omega
    obtain ⟨_, _, h3, h4, h5, h6, h7, h8, h9⟩ := kF hq
    rw [szI_nat hq]
    have hout := slI_nat hq
    have hpg := pgI_nat hq
    obtain ⟨s, hs⟩ : ∃ s, s = szK q := ⟨_, rfl⟩
    obtain ⟨P, hP⟩ : ∃ P, P = pgK q := ⟨_, rfl⟩
    rw [← hs] at h3 h4 h7 ⊢
    rw [← hP] at h5 h6 h7 hpg
    have hz : (0 : Int) < (s : Int) := by omega
    have hz2 : 0 < s := by omega
    have HH := Lib.hid (And.intro h7 (And.intro c1 (And.intro hpg (And.intro h9 hout)))); clear h7 c1 hs hP h hq h8 h9 hpg hout
    go_wp2_with fail
    refine (pages_ok w1 q).mono ?_
    rintro e w2 ⟨rfl, c2⟩
    rw [HH.out.2.2.1]
    have e1 : ((P : Int) * 64).tdiv (s : Int) = (slK q : Int) := by
      rw [show (P : Int) * 64 = ((P * 64 : Nat) : Int) by omega, ← HH.out.1]
      exact Int.ofNat_tdiv (P * 64) s
    have e2 : ((P : Int) * 64) / (s : Int) = (slK q : Int) := by
      rw [show (P : Int) * 64 = ((P * 64 : Nat) : Int) by omega, ← HH.out.1]
      rfl
    have h9 := HH.out.2.2.2.1
    have hs0 : ¬ s = 0 := by omega
    have HC := Lib.hid (HH.out.2.1.trans c2); clear c2
    go_wp2_with fail
    go_ret
    exact ⟨by rw [HH.out.2.2.2.2]; rfl, HC.out⟩
  · rw [szI_no h]
    have HH := Lib.hid (And.intro c1 (slI_no h)); clear c1 h
    go_wp2_with fail
    go_ret
    exact ⟨by rw [HH.out.2]; rfl, HH.out.1⟩
end Go.Proofs.YtoeppmnoifankaaGreatDoor
namespace Go.Proofs.YtoeppmnoifankaaGreatDoor
open Go.RowKit

def SzsPost (w : World) (e : Ending) (w' : World) : Prop := e = .returned (.slice (some ⟨w.heap.size, 0, none⟩) 16 16) ∧ Blk w' w.heap.size 3 szA ∧ Chg [] w w'
set_option maxHeartbeats 800000 in
theorem rsizes_ok (w : World) : Calls Tryz.prog 65 #[] w (SzsPost w) := by
  have C := (Chg.refl [] w).alloc (.cells szA 3)
  have B := Blk.new w 3 szA
  have HC := Lib.hid (And.intro C B); clear C B
  have e1 : szA = #[.int .i64 1, .int .i64 2, .int .i64 3, .int .i64 4, .int .i64 6, .int .i64 8, .int .i64 12, .int .i64 16, .int .i64 24, .int .i64 32, .int .i64 48, .int .i64 64, .int .i64 96, .int .i64 128, .int .i64 192, .int .i64 256] := rfl
  rw [e1] at HC
  go_enter Tryz.func65, Tryz.ntmps65
  go_wp2_with fail
  go_ret
  exact ⟨rfl, by rw [e1]; exact HC.out.2, HC.out.1⟩
set_option maxHeartbeats 800000 in
theorem rsize_ok (w : World) (k : Int) : Calls Tryz.prog 26 #[.int .i64 k] w (NwPost (.int .i64 (szI k)) w) := by
  by_cases h : isK k
  · obtain ⟨n, rfl⟩ : ∃ n : Nat, k = n := ⟨k.toNat, by have := h.1; omega⟩
    have hn : n < 16 := by have := h.2; omega
    have HS := Lib.hid (szI_nat hn)
    have h3 : ¬ (n : Int) < 0 := by omega
    have h4 : ¬ (15 : Int) < (n : Int) := by omega
    have h5 : ¬ 15 < n := by omega
    have h6 : (n : Int) < 16 := by omega
    clear h
    go_enter Tryz.func26, Tryz.ntmps26
    go_wp2_with fail
    refine (rsizes_ok w).mono ?_
    rintro e w1 ⟨rfl, B1, c1⟩
    have z := B1.cellv n (szA_get n hn)
    have HC := Lib.hid c1; clear c1 B1
    go_wp2_with fail
    go_ret
    exact ⟨by rw [HS.out]; rfl, HC.out⟩
  · have HS := Lib.hid (szI_no h)
    unfold isK at h
    by_cases h1 : k < 0
    · have HH := Lib.hid h; clear h
      go_enter Tryz.func26, Tryz.ntmps26
      go_wp2_with fail
      go_ret
      exact ⟨by rw [HS.out]; rfl, Chg.refl _ _⟩
    · have h3 : ¬ k < 0 := by omega
      have h4 : (15 : Int) < k := by omega
      clear h
      go_enter Tryz.func26, Tryz.ntmps26
      go_wp2_with fail
      go_ret
      exact ⟨by rw [HS.out]; rfl, Chg.refl _ _⟩
/-- The class of a size: the least that bears it. -/
def OfSays (n q : Nat) : Prop := q < 16 ∧ n ≤ szK q ∧ ∀ j, j < q → szK j < n
def OfPost (n : Nat) (w : World) (e : Ending) (w' : World) : Prop := ∃ q, OfSays n q ∧ NwPost (.int .i64 (q : Nat)) w e w'
theorem OfSays.uniq {n q q' : Nat} (h : OfSays n q) (h' : OfSays n q') : q = q' := by
  rcases Nat.lt_trichotomy q q' with g | g | g
  · have := h'.2.2 q g; have := h.2.1; omega
  · exact g
  · have := h.2.2 q' g; have := h'.2.1; omega
def RoRel (w0 : World) (n : Int) (gk : Nat) (idx : Value) (w : World) : Prop := ∃ k, gk + k = 17 ∧ k ≤ 15 ∧ idx = .int .i64 (k : Nat) ∧ (∀ j, j < k → (szK j : Int) < n) ∧ Chg [] w0 w
set_option maxHeartbeats 1600000 in
theorem rof_ok (w : World) (n : Nat) (h0 : 1 ≤ n) (h1 : n ≤ 256) : Calls Tryz.prog 7 #[.int .i64 (n : Nat)] w (OfPost n w) := by
  have h2 : ¬ (n : Int) < 1 := by omega
  have h3 : ¬ 256 < (n : Int) := by omega
  have h22 : ¬ n < 1 := by omega
  have h33 : ¬ 256 < n := by omega
  go_enter Tryz.func7, Tryz.ntmps7
  go_wp2_with fail
  go_loopg [3] 17 (fun gk idx wr => RoRel w (n : Nat) gk idx wr)
  case atStart => exact ⟨0, by omega, by omega, rfl, fun j hj => by omega, Chg.refl _ _⟩
  case round =>
    obtain ⟨k, hgk, hk, rfl, hp, c⟩ := hrel
    have hk0 : (0 : Int) ≤ (k : Int) := by omega
    have HP := Lib.hid (And.intro hp c); clear hp c
    go_wp2_with fail
    refine (rsize_ok _ _).mono ?_
    rintro e w1 ⟨rfl, c1⟩
    rw [szI_nat (by omega : k < 16)]
    obtain ⟨s, hs⟩ : ∃ s, s = szK k := ⟨_, rfl⟩
    rw [← hs]
    have HS := Lib.hid (And.intro hs (HP.out.2.trans c1)); clear hs c1
    by_cases h4 : (s : Int) < (n : Int)
    · have hk15 : k < 15 := by
        rcases Nat.lt_or_ge k 15 with h5 | h5
        · exact h5
        · have e : k = 15 := by omega
          have := HS.out.1
          rw [e] at this
          have e2 : szK 15 = 256 := rfl
          omega
      have h44 : s < n := by omega
      go_wp2_with fail
      go_roundg (16 - k)
      case measure => omega
      case rel => exact ⟨k + 1, by omega, by omega, by go_num, fun j hj => by
        rcases Nat.lt_or_ge j k with g | g
        · exact HP.out.1 j g
        · have e2 : j = k := by omega
          rw [e2, ← HS.out.1]; exact h4, HS.out.2⟩
    · have h44 : ¬ s < n := by omega
      go_wp2_with fail
      go_ret
      exact ⟨k, ⟨by omega, by rw [← HS.out.1]; omega, fun j hj => by have := HP.out.1 j hj; omega⟩, rfl, HS.out.2⟩
end Go.Proofs.YtoeppmnoifankaaGreatDoor
