/- The walks of package arena: Class, Full. -/
/- The walk of the document's Pages (layer 4). -/
/- told of layer 7. -/
/- The walk of treadmillref1.Slots. -/
import Derived.Test.YtcnchgbngcnijaaGreatDoorMAs
import Derived.Test.YtcnchgbngcnijaaGreatDoorMPb
import Derived.Test.YtcnchgbngcnijaaGreatDoorMCl
import Derived.IntWalk
namespace Go.Proofs.YtcnchgbngcnijaaGreatDoor
open Go.RowKit

/-- No place is free from where the last one was found on. -/
def fullS (s : Sp) : Prop := ∀ x, s.fr ≤ x → x < slK s.k → s.F x = true
set_option maxHeartbeats 400000 in
theorem sfull_nil (w : World) : Calls Tryz.prog 81 #[.pointer none] w (NwPost (.bool true) w) := by
  go_enter Tryz.func81, Tryz.ntmps81
  go_wp2_with fail
  go_quiet (fail)
  go_wp2_with fail
  go_ret
  exact ⟨rfl, (Chg.refl _ _).drewN _⟩
theorem sf_full {s : Sp} {r : Int} (h : NextSays (slK s.k) (notF s.F) s.fr r) : decide (r < 0) = true ↔ fullS s := by
  rw [decide_eq_true_iff]
  rcases h with ⟨rfl, h⟩ | ⟨y, rfl, h1, h2, h3, h4⟩
  · refine ⟨fun _ x h1 h2 => ?_, fun _ => by decide⟩
    have := h x h1 h2
    unfold notF at this
    cases e : s.F x
    · rw [e] at this; cases this
    · rfl
  · refine ⟨fun h => by omega, fun h => ?_⟩
    have := h y h1 h2
    unfold notF at h3
    rw [this] at h3; cases h3
def afPost (a : Ar) (id : Int) (w : World) (e : Ending) (w' : World) : Prop := ∃ bo, e = .returned (.bool bo) ∧ Chg [] w w' ∧ (bo = true ↔ ∀ s, spI a id = some s → fullS s)
section
variable {w0 w : World} {g N b : Nat} {h : ArH} {a : Ar} (S : ArS w0 w g h a N b)
include S
theorem sp_look (id : Int) (hid : Wf64 id) : (Instr.lookup 76 (.map (some h.bs)) (.int .i64 id) false).run Tryz.prog w = .ok ((natV (spV h a) id).getD (.pointer none)) w := S.M.s.look tyS hid
set_option maxHeartbeats 1600000 in
set_option maxRecDepth 100000 in
theorem s_full (T0 : Tab w0) (id : Int) (hid : Wf64 id) : Calls Tryz.prog 32 #[.pointer (some ⟨g, 0, none⟩), .int .i64 id] w (afPost a id w) := by
  have T := T0.chg S.c (by simp)
  obtain rfl : h.ga = g := S.ga
  have b1 : w.cell? ⟨h.ga, 1, none⟩ = some (.map (some h.bs)) := S.M.b.cellv 1 rfl
  have hl := sp_look S id hid
  rw [spV_I] at hl
  cases hsp : spI a id with
  | none =>
    rw [hsp] at hl
    have hl' : (Instr.lookup 76 (.map (some h.bs)) (.int .i64 id) false).run Tryz.prog w = .ok (.pointer none) w := hl
    have HP := Lib.hid hsp
    clear hl S hsp
    go_enter Tryz.func32, Tryz.ntmps32
    go_wp2_with fail
    refine (sfull_nil w).mono ?_
    rintro e w1 ⟨rfl, c⟩
    have HC := Lib.hid c; clear c
    go_wp2_with fail
    go_ret
    exact ⟨true, rfl, HC.out, ⟨fun _ s hs => (by rw [HP.out] at hs; cases hs), fun _ => rfl⟩⟩
  | some s =>
    rw [hsp] at hl
    have hl' : (Instr.lookup 76 (.map (some h.bs)) (.int .i64 id) false).run Tryz.prog w = .ok (.pointer (some ⟨(h.B id.toNat).g, 0, none⟩)) w := hl
    have hs : a.sp id.toNat = some s := by unfold spI at hsp; split at hsp <;> first | exact hsp | cases hsp
    have HI := Lib.hid (And.intro (S.M.S id.toNat s hs) (And.intro T hsp)); clear hl S hsp hs T
    go_enter Tryz.func32, Tryz.ntmps32
    go_wp2_with fail
    refine (sfull_ok w (h.B id.toNat) s HI.out.1 HI.out.2.1).mono ?_
    rintro e w1 ⟨r, rfl, hr, c⟩
    have HR := Lib.hid (And.intro (sf_full hr) c); clear hr c
    obtain ⟨bo, hbo⟩ : ∃ bo, bo = decide (r < 0) := ⟨_, rfl⟩
    rw [← hbo] at HR ⊢
    clear hbo
    go_wp2_with fail
    go_ret
    refine ⟨bo, rfl, HR.out.2, ?_⟩
    rw [HI.out.2.2]
    exact ⟨fun h s' hs' => (by injection hs' with hs'; rw [← hs']; exact HR.out.1.1 h), fun h => HR.out.1.2 (h s rfl)⟩
end
end Go.Proofs.YtcnchgbngcnijaaGreatDoor
namespace Go.Proofs.YtcnchgbngcnijaaGreatDoor
open Go.RowKit

def fitR (s p : Nat) : Bool := decide (s ≤ p * 64 ∧ p * 64 % s * 8 ≤ p * 64)
theorem fit_r : ∀ k : Fin 16, fitR (szK k) (pgK k) = true ∧ (∀ p : Fin 5, 1 ≤ p.val → p.val < pgK k → fitR (szK k) p = false) := by decide +kernel
def RpRel (w0 : World) (P gk : Nat) (idx : Value) (w : World) : Prop := ∃ p, gk + p = P + 1 ∧ 1 ≤ p ∧ p ≤ P ∧ idx = .int .i64 (p : Nat) ∧ Chg [] w0 w
set_option maxHeartbeats 1600000 in
set_option maxRecDepth 100000 in
theorem rpages_ok (w : World) (q : Nat) (hq : q < 16) : Calls Tryz.prog 36 #[.int .i64 (q : Nat)] w (NwPost (.int .i64 (pgK q : Nat)) w) := by
  obtain ⟨f1, f2⟩ := fit_r ⟨q, hq⟩
  obtain ⟨_, _, h3, h4, h5, h6, _⟩ := kF hq
  have h2 : ∀ p, 1 ≤ p → p < pgK q → fitR (szK q) p = false := fun p a b => f2 ⟨p, by omega⟩ a b
  have h1 : fitR (szK q) (pgK q) = true := f1
  clear f1 f2
  go_enter Tryz.func36, Tryz.ntmps36
  go_wp2_with fail
  refine (rsize_ok w (q : Nat)).mono ?_
  rintro e w1 ⟨rfl, c1⟩
  rw [szI_nat hq]
  obtain ⟨s, hs⟩ : ∃ s, s = szK q := ⟨_, rfl⟩
  obtain ⟨P, hP⟩ : ∃ P, P = pgK q := ⟨_, rfl⟩
  rw [← hs] at h1 h2 h3 h4 ⊢
  rw [← hP] at h1 h2 h5 h6 ⊢
  have hz : ((s : Int) == 0) = false := by rw [beq_eq_false_iff_ne]; omega
  have hz2 : (s == 0) = false := by rw [beq_eq_false_iff_ne]; omega
  have HH := Lib.hid (And.intro h1 (And.intro h2 (And.intro c1 hP))); clear h1 h2 c1 hs hP hq
  go_wp2_with fail
  clear hz hz2
  go_loopg [4] P (fun gk idx wr => RpRel w1 P gk idx wr)
  case atStart => exact ⟨1, by omega, by omega, by omega, rfl, Chg.refl _ _⟩
  case round =>
    obtain ⟨p, hgk, hp1, hpP, rfl, C⟩ := hrel
    obtain ⟨r, hr⟩ : ∃ r, r = p * 64 % s := ⟨_, rfl⟩
    have hrs : r < s := by rw [hr]; exact Nat.mod_lt _ (by omega)
    have e1 : ((p : Int) * 64).tmod (s : Int) = (r : Int) := by
      rw [show (p : Int) * 64 = ((p * 64 : Nat) : Int) by omega, hr]
      exact Int.ofNat_tmod (p * 64) s
    have e11 : ((p : Int) * 64) % (s : Int) = (r : Int) := by
      rw [show (p : Int) * 64 = ((p * 64 : Nat) : Int) by omega, hr]
      exact (Int.natCast_emod (p * 64) s).symm
    have hs0 : ¬ (s : Int) = 0 := by omega
    have hs1 : ¬ s = 0 := by omega
    have hb : (r : Int) * 8 ≤ 2048 := by omega
    have hsp : (s : Int) ≤ (p : Int) * 64 ∨ ¬ (s : Int) ≤ (p : Int) * 64 := by omega
    by_cases hlt : p < P
    · have hf := HH.out.2.1 p hp1 hlt
      unfold fitR at hf
      rw [← hr, decide_eq_false_iff_not] at hf
      have HC := Lib.hid C; clear C hr
      rcases hsp with hsp | hsp
      · have d1 : ¬ (r : Int) * 8 ≤ (p : Int) * 64 := by omega
        clear hf
        go_wp2_with fail
        go_roundg (P - p)
        case measure => omega
        case rel => exact ⟨p + 1, by omega, by omega, by omega, by go_num, HC.out⟩
      · clear hf
        go_wp2_with fail
        go_roundg (P - p)
        case measure => omega
        case rel => exact ⟨p + 1, by omega, by omega, by omega, by go_num, HC.out⟩
    · have hpe : p = P := by omega
      subst hpe
      have hf := HH.out.1
      unfold fitR at hf
      rw [← hr, decide_eq_true_iff] at hf
      have hsp2 : (s : Int) ≤ (p : Int) * 64 := by omega
      have d1 : (r : Int) * 8 ≤ (p : Int) * 64 := by omega
      have HC := Lib.hid C; clear C hr hf hsp
      go_wp2_with fail
      go_ret
      exact ⟨by rw [← HH.out.2.2.2]; rfl, HH.out.2.2.1.trans HC.out⟩
end Go.Proofs.YtcnchgbngcnijaaGreatDoor
namespace Go.Proofs.YtcnchgbngcnijaaGreatDoor
open Go.RowKit

set_option maxHeartbeats 1600000 in
set_option maxRecDepth 100000 in
theorem anew_no (w : World) (z : Int) (hz : z < 256) : Calls Tryz.prog 10 #[.int .i64 z] w (NwPost (.tuple #[.pointer none, .int .i64 1]) w) := by
  have d1 : decide (z < 256) = true := decide_eq_true hz
  go_enter Tryz.func10, Tryz.ntmps10
  go_wp2_with fail
  go_ret2
  exact ⟨rfl, Chg.refl _ _⟩
theorem s_new (w : World) (n : Nat) (z : Int) (hz : z = ((n * 64 : Nat) : Int)) (h4 : 4 ≤ n) (hn : n ≤ 262144) : Calls Tryz.prog 10 #[.int .i64 z] w fun e w' => ∃ g h, e = .returned (.tuple #[.pointer (some ⟨g, 0, none⟩), .int .i64 0]) ∧ ArS w w' g h (newA n) 0 0 := by
  subst hz
  refine (anew_ok w n h4 hn).mono ?_
  rintro e w' ⟨h, he, M, c, far, hm, -⟩
  exact ⟨h.ga, h, he, M, newA_I 0 n (by omega) hn, far, c, rfl, by omega⟩
theorem says_one {f p k : Nat} {a c : Int} {l' : List R} (hk : 1 ≤ k) (hp : k < p) (h : AllocSays [⟨f, p⟩] (k : Nat) a c l') : a = (f : Nat) ∧ c = 0 ∧ l' = [⟨f + k, p - k⟩] := by
  rcases h with ⟨h, _⟩ | ⟨_, h, _⟩ | ⟨_, r, hr, ha, hc, hl⟩
  · omega
  · have := h ⟨f, p⟩ (by simp)
    simp only at this
    omega
  · have e : r = ⟨f, p⟩ := by have := hr.1; simpa using this
    subst e
    refine ⟨ha, hc, ?_⟩
    rw [hl, Int.toNat_natCast]
    unfold cutR
    rw [if_neg (by show ¬ p = k; omega)]
    simp
/-- The next span, where all that is free is one run, and ids are taken from 0. -/
def spn (f q : Nat) : Sp := ⟨f, q, fun _ => false, fun _ => false, 0⟩
def TdPost (w : World) (e : Ending) (w' : World) : Prop := e = .returned (.bool true) ∧ Chg [] w w'
end Go.Proofs.YtcnchgbngcnijaaGreatDoor
namespace Go.Proofs.YtcnchgbngcnijaaGreatDoor
open Go.RowKit Go.Maps

set_option maxHeartbeats 1600000 in
set_option maxRecDepth 100000 in
theorem rslots_ok (w : World) (q : Nat) (hq : q < 16) : Calls Tryz.prog 38 #[.int .i64 (q : Nat)] w (NwPost (.int .i64 (slK q : Nat)) w) := by
  obtain ⟨_, _, h3, h4, h5, h6, h7, h8, h9⟩ := kF hq
  have hdiv : ((pgK q : Nat) : Int) * 64 / ((szK q : Nat) : Int) = ((slK q : Nat) : Int) := by
    rw [← h7]
    exact (Int.natCast_ediv (pgK q * 64) (szK q)).symm
  have hz : (((szK q : Nat) : Int) == 0) = false := by rw [beq_eq_false_iff_ne]; omega
  have HH := Lib.hid hdiv; clear hdiv h7
  go_enter Tryz.func38, Tryz.ntmps38
  go_wp2_with fail
  refine (rsize_ok w (q : Nat)).mono ?_
  rintro e w1 ⟨rfl, c1⟩
  rw [szI_nat hq]
  have HC1 := Lib.hid c1; clear c1
  go_wp2_with fail
  refine (rpages_ok w1 q hq).mono ?_
  rintro e w2 ⟨rfl, c2⟩
  have HC2 := Lib.hid (HC1.out.trans c2); clear c2
  go_wp2_with fail
  refine (rsize_ok w2 (q : Nat)).mono ?_
  rintro e w3 ⟨rfl, c3⟩
  rw [szI_nat hq]
  have HC3 := Lib.hid (HC2.out.trans c3); clear c3
  have hs0 : ¬ ((szK q : Nat) : Int) = 0 := by omega
  have hs1 : ¬ szK q = 0 := by omega
  go_wp2_with fail
  go_ret
  exact ⟨by rw [← HH.out]; rfl, HC3.out⟩
end Go.Proofs.YtcnchgbngcnijaaGreatDoor
