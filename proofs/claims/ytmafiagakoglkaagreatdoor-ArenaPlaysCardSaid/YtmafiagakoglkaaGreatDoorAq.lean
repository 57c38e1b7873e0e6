/- The walks of package arena: Class, Full. -/
import Derived.Test.YtmafiagakoglkaaGreatDoorMAs
import Derived.Test.YtmafiagakoglkaaGreatDoorMPb
namespace Go.Proofs.YtmafiagakoglkaaGreatDoor
open Go.RowKit

/-- No place is free from where the last one was found on. -/
def fullS (s : Sp) : Prop := ∀ x, s.fr ≤ x → x < slK s.k → s.F x = true
set_option maxHeartbeats 400000 in
theorem sfull_nil (w : World) : Calls Tryz.prog 53 #[.pointer none] w (NwPost (.bool true) w) := by
  go_enter Tryz.func53, Tryz.ntmps53
  go_wp2_with fail
  go_quiet (fail)
  go_wp2_with fail
  go_ret
  exact ⟨rfl, (Chg.refl _ _).drewN _⟩
theorem sf_full {s : Sp} {r : Int} (h : NextSays (slK s.k) (notF s.F) s.fr r) : decide (r < 0) = true ↔ fullS s := by
  rw [decide_eq_true_iff]
  rcases h with ⟨rfl, h⟩ | ⟨y, rfl, h1, h2, h3, h4⟩
  · refine ⟨fun _ x h1 h2 => ?_, fun _ => by decide⟩
    have := h x h1 h2
    unfold notF at this
    cases e : s.F x
    · rw [e] at this; cases this
    · rfl
  · refine ⟨fun h => by omega, fun h => ?_⟩
    have := h y h1 h2
    unfold notF at h3
    rw [this] at h3; cases h3
def afPost (a : Ar) (id : Int) (w : World) (e : Ending) (w' : World) : Prop := ∃ bo, e = .returned (.bool bo) ∧ Chg [] w w' ∧ (bo = true ↔ ∀ s, spI a id = some s → fullS s)
section
variable {w0 w : World} {g N b : Nat} {h : ArH} {a : Ar} (S : ArS w0 w g h a N b)
include S
theorem sp_look (id : Int) (hid : Wf64 id) : (Instr.lookup 85 (.map (some h.bs)) (.int .i64 id) false).run Tryz.prog w = .ok ((natV (spV h a) id).getD (.pointer none)) w := S.M.s.look tyS hid
set_option maxHeartbeats 1600000 in
set_option maxRecDepth 100000 in
theorem s_class (id : Int) (hid : Wf64 id) : Calls Tryz.prog 89 #[.pointer (some ⟨g, 0, none⟩), .int .i64 id] w (QuPost (.int .i64 (match spI a id with | none => -1 | some s => (s.k : Int))) w) := by
  obtain rfl : h.ga = g := S.ga
  have b1 : w.cell? ⟨h.ga, 1, none⟩ = some (.map (some h.bs)) := S.M.b.cellv 1 rfl
  have hl := sp_look S id hid
  rw [spV_I] at hl
  cases hsp : spI a id with
  | none =>
    rw [hsp] at hl
    have hl' : (Instr.lookup 85 (.map (some h.bs)) (.int .i64 id) false).run Tryz.prog w = .ok (.pointer none) w := hl
    clear hl S hsp
    go_enter Tryz.func89, Tryz.ntmps89
    go_wp2_with fail
    go_ret
    exact ⟨rfl, rfl⟩
  | some s =>
    rw [hsp] at hl
    have hl' : (Instr.lookup 85 (.map (some h.bs)) (.int .i64 id) false).run Tryz.prog w = .ok (.pointer (some ⟨(h.B id.toNat).g, 0, none⟩)) w := hl
    have hs : a.sp id.toNat = some s := by unfold spI at hsp; split at hsp <;> first | exact hsp | cases hsp
    have HI := Lib.hid (S.M.S id.toNat s hs); clear hl S hsp hs
    go_enter Tryz.func89, Tryz.ntmps89
    go_wp2_with fail
    refine (sclass_ok w (h.B id.toNat) s HI.out).mono ?_
    rintro e w1 ⟨rfl, rfl⟩
    go_wp2_with fail
    go_ret
    exact ⟨rfl, rfl⟩
set_option maxHeartbeats 1600000 in
set_option maxRecDepth 100000 in
theorem s_full (T0 : Tab w0) (id : Int) (hid : Wf64 id) : Calls Tryz.prog 20 #[.pointer (some ⟨g, 0, none⟩), .int .i64 id] w (afPost a id w) := by
  have T := T0.chg S.c (by simp)
  obtain rfl : h.ga = g := S.ga
  have b1 : w.cell? ⟨h.ga, 1, none⟩ = some (.map (some h.bs)) := S.M.b.cellv 1 rfl
  have hl := sp_look S id hid
  rw [spV_I] at hl
  cases hsp : spI a id with
  | none =>
    rw [hsp] at hl
    have hl' : (Instr.lookup 85 (.map (some h.bs)) (.int .i64 id) false).run Tryz.prog w = .ok (.pointer none) w := hl
    have HP := Lib.hid hsp
    clear hl S hsp
    go_enter Tryz.func20, Tryz.ntmps20
    go_wp2_with fail
    refine (sfull_nil w).mono ?_
    rintro e w1 ⟨rfl, c⟩
    have HC := Lib.hid c; clear c
    go_wp2_with fail
    go_ret
    exact ⟨true, rfl, HC.out, ⟨fun _ s hs => (by rw [HP.out] at hs; cases hs), fun _ => rfl⟩⟩
  | some s =>
    rw [hsp] at hl
    have hl' : (Instr.lookup 85 (.map (some h.bs)) (.int .i64 id) false).run Tryz.prog w = .ok (.pointer (some ⟨(h.B id.toNat).g, 0, none⟩)) w := hl
    have hs : a.sp id.toNat = some s := by unfold spI at hsp; split at hsp <;> first | exact hsp | cases hsp
    have HI := Lib.hid (And.intro (S.M.S id.toNat s hs) (And.intro T hsp)); clear hl S hsp hs T
    go_enter Tryz.func20, Tryz.ntmps20
    go_wp2_with fail
    refine (sfull_ok w (h.B id.toNat) s HI.out.1 HI.out.2.1).mono ?_
    rintro e w1 ⟨r, rfl, hr, c⟩
    have HR := Lib.hid (And.intro (sf_full hr) c); clear hr c
    obtain ⟨bo, hbo⟩ : ∃ bo, bo = decide (r < 0) := ⟨_, rfl⟩
    rw [← hbo] at HR ⊢
    clear hbo
    go_wp2_with fail
    go_ret
    refine ⟨bo, rfl, HR.out.2, ?_⟩
    rw [HI.out.2.2]
    exact ⟨fun h s' hs' => (by injection hs' with hs'; rw [← hs']; exact HR.out.1.1 h), fun h => HR.out.1.2 (h s rfl)⟩
end
end Go.Proofs.YtmafiagakoglkaaGreatDoor
