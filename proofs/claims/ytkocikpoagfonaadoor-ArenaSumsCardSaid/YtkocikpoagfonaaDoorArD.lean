/- The walk of package arena: Drop of a span that has objects. -/
import Derived.Test.YtkocikpoagfonaaDoorArS
namespace Go.Proofs.YtkocikpoagfonaaDoor
open Go.RowKit

section
variable {w0 w : World} {g N b : Nat} {h : ArH} {a : Ar} (S : ArS w0 w g h a N b)
include S
set_option maxHeartbeats 1600000 in
set_option maxRecDepth 100000 in
theorem s_drop_no {id : Nat} {s : Sp} (hs : a.sp id = some s) (hN : N ≤ 1000000) (hl : 0 < cntF s.F (slK s.k)) : Calls Tryd.prog 19 #[.pointer (some ⟨g, 0, none⟩), .int .i64 (id : Nat)] w (NwPost (.int .i64 5) w) := by
  obtain rfl : h.ga = g := S.ga
  have hlt := S.I.ok.top id s hs
  have b1 : w.cell? ⟨h.ga, 1, none⟩ = some (.map (some h.bs)) := S.M.b.cellv 1 rfl
  have hlo := S.M.s.look tyS (x := (id : Int)) (by unfold Wf64; omega)
  rw [natV_nat] at hlo
  have e9 : (spV h a id).getD (.pointer none) = .pointer (some ⟨(h.B id).g, 0, none⟩) := by unfold spV; rw [hs]; rfl
  rw [e9] at hlo
  have hl' : (Instr.lookup 50 (.map (some h.bs)) (.int .i64 (id : Nat)) false).run Tryd.prog w = .ok (.pointer (some ⟨(h.B id).g, 0, none⟩)) w := hlo
  have I := S.M.S id s hs
  have HI := Lib.hid I
  obtain ⟨n, hn⟩ : ∃ n, n = cntF s.F (slK s.k) := ⟨_, rfl⟩
  rw [← hn] at hl
  have hl2 : (0 : Int) < (n : Int) := by omega
  have HN := Lib.hid hn
  clear hlo e9 S hs I hn
  go_enter Tryd.func19, Tryd.ntmps19
  go_wp2_with fail
  refine (slive_ok w (h.B id) s HI.out).mono ?_
  rintro e w1 ⟨rfl, rfl⟩
  rw [← HN.out]
  go_wp2_with fail
  go_ret
  exact ⟨rfl, Chg.refl _ _⟩
end
end Go.Proofs.YtkocikpoagfonaaDoor
