/- Package machine: Status. -/
import Derived.Test.YtoeppmnoifankaaGreatDoorMcSgJ
namespace Go.Proofs.YtoeppmnoifankaaGreatDoor
open Go.RowKit Go.Maps

theorem MM.drewN {W : Bs} {w : World} {p : MAt} {m : Mac} (M : MM W w p m) (k : Nat) : MM W (w.drewN k) p m := M.chg0 ((Chg.refl [] w).drewN k)
/-- The world stays, but for draws. -/
def QdPost (v : Value) (w : World) (e : Ending) (w' : World) : Prop := e = .returned v ∧ ∃ k, w' = w.drewN k
section
variable {W : Bs} {w : World} {p : MAt} {m : Mac} (M : MM W w p m)
include M
theorem cnt_add (h : m.sts.length ≤ 1024) : cntI m.sts 1 ≤ 1024 ∧ cntI m.sts 2 ≤ 1024 ∧ cntI m.sts 4 ≤ 1024 ∧ cntI m.sts 5 ≤ 1024 := by
  have _ := M
  have h1 := cntI_le m.sts 1
  have h2 := cntI_le m.sts 2
  have h3 := cntI_le m.sts 4
  have h4 := cntI_le m.sts 5
  omega
set_option maxHeartbeats 3200000 in
set_option maxRecDepth 100000 in
theorem m_status (hl : m.sts.length ≤ 1024) (ht : m.tm.length ≤ 1024) : Calls Tryz.prog 28 #[.pointer (some ⟨p.gm, 0, none⟩)] w (QdPost (.int .i64 (stV m)) w) := by
  have hmf : ∀ (fn : Fn) (first cap : Array Value) (w : World), (Instr.makeFunc fn first cap).run Tryz.prog w = .ok (.func fn first cap) w := fun _ _ _ _ => rfl
  have c7 : w.cell? ⟨p.gm, 7, none⟩ = some (.pointer (some ⟨p.gst, 0, none⟩)) := M.mb.cellv 7 rfl
  have c27 : w.cell? ⟨p.gm, 27, none⟩ = some (.bool m.out) := M.mb.cellv 27 rfl
  have c11 : w.cell? ⟨p.gm, 11, none⟩ = some (.pointer (some ⟨p.gtm, 0, none⟩)) := M.mb.cellv 11 rfl
  have HM := Lib.hid M
  by_cases ho : m.out = true
  · have e : stV m = 2 := by unfold stV; rw [if_pos ho]
    rw [e]
    rw [ho] at c27
    clear M
    go_enter Tryz.func28, Tryz.ntmps28
    go_wp2_with fail
    go_ret
    exact ⟨rfl, 0, rfl⟩
  · have ho' : m.out = false := by simpa using ho
    rw [ho'] at c27
    obtain ⟨b1, b2, b4, b5⟩ := cnt_add M hl
    have K5 : ∀ k, Calls Tryz.prog 79 #[.pointer (some ⟨p.gst, 0, none⟩), .int .i64 5] (w.drewN k) (QuPost (.int .i64 (cntI m.sts 5 : Nat)) (w.drewN k)) := fun k => st_count _ _ _ _ (M.drewN k).st 5 (by decide) (by decide)
    have KL : ∀ k, Calls Tryz.prog 80 #[.pointer (some ⟨p.gst, 0, none⟩)] (w.drewN k) (QuPost (.int .i64 (m.sts.length : Nat)) (w.drewN k)) := fun k => st_len _ _ _ _ (M.drewN k).st
    have HK := Lib.hid (And.intro K5 KL); clear K5 KL M
    obtain ⟨n5, h5⟩ : ∃ n, n = cntI m.sts 5 := ⟨_, rfl⟩
    obtain ⟨nl, hnl⟩ : ∃ n, n = m.sts.length := ⟨_, rfl⟩
    rw [← h5, ← hnl] at HK
    have HN := Lib.hid (And.intro h5 hnl); clear h5 hnl
    go_enter Tryz.func28, Tryz.ntmps28
    go_wp2_with fail
    go_quiet (first | (go_at_call 79; exact Calls.quiet_of_same (HK.out.1 _)) | (go_at_call 80; exact Calls.quiet_of_same (HK.out.2 _)))
    obtain ⟨q1, hq1⟩ : ∃ q1, q1 = nq := ⟨_, rfl⟩
    rw [← hq1]
    clear hq1 nq
    by_cases e5 : n5 = nl
    · have d1 : ((n5 : Int) == (nl : Int)) = true := by simp [e5]
      have d2 : (n5 : Int) = (nl : Int) := by omega
      have eS : stV m = 1 := by unfold stV; rw [if_neg ho, ← HN.out.1, ← HN.out.2, if_pos e5]
      rw [d1]
      have HS := Lib.hid eS; clear eS
      go_wp2_with fail
      go_ret
      exact ⟨by rw [HS.out]; rfl, q1, rfl⟩
    · have d1 : ((n5 : Int) == (nl : Int)) = false := by rw [beq_eq_false_iff_ne]; omega
      have d2 : ¬ (n5 : Int) = (nl : Int) := by omega
      rw [d1]
      have K1 : ∀ k, Calls Tryz.prog 79 #[.pointer (some ⟨p.gst, 0, none⟩), .int .i64 1] ((w.drewN q1).drewN k) (QuPost (.int .i64 (cntI m.sts 1 : Nat)) ((w.drewN q1).drewN k)) := fun k => st_count _ _ _ _ ((HM.out.drewN q1).drewN k).st 1 (by decide) (by decide)
      have K2 : ∀ k, Calls Tryz.prog 79 #[.pointer (some ⟨p.gst, 0, none⟩), .int .i64 2] ((w.drewN q1).drewN k) (QuPost (.int .i64 (cntI m.sts 2 : Nat)) ((w.drewN q1).drewN k)) := fun k => st_count _ _ _ _ ((HM.out.drewN q1).drewN k).st 2 (by decide) (by decide)
      have K4 : ∀ k, Calls Tryz.prog 79 #[.pointer (some ⟨p.gst, 0, none⟩), .int .i64 4] ((w.drewN q1).drewN k) (QuPost (.int .i64 (cntI m.sts 4 : Nat)) ((w.drewN q1).drewN k)) := fun k => st_count _ _ _ _ ((HM.out.drewN q1).drewN k).st 4 (by decide) (by decide)
      have KT : ∀ k, Calls Tryz.prog 81 #[.pointer (some ⟨p.gtm, 0, none⟩)] ((w.drewN q1).drewN k) (QuPost (.int .i64 (m.tm.length : Nat)) ((w.drewN q1).drewN k)) := fun k => m_tmlen ((HM.out.drewN q1).drewN k)
      obtain ⟨n1, h1⟩ : ∃ n, n = cntI m.sts 1 := ⟨_, rfl⟩
      obtain ⟨n2, h2⟩ : ∃ n, n = cntI m.sts 2 := ⟨_, rfl⟩
      obtain ⟨n4, h4⟩ : ∃ n, n = cntI m.sts 4 := ⟨_, rfl⟩
      obtain ⟨nt, h6⟩ : ∃ n, n = m.tm.length := ⟨_, rfl⟩
      rw [← h1] at K1; rw [← h2] at K2; rw [← h4] at K4; rw [← h6] at KT
      rw [← h1] at b1; rw [← h2] at b2; rw [← h4] at b4; rw [← h6] at ht
      have HQ := Lib.hid (And.intro K1 (And.intro K2 (And.intro K4 KT))); clear K1 K2 K4 KT
      have eS : stV m = if n1 + n2 + n4 + nt = 0 then 3 else 0 := by
        unfold stV; rw [if_neg ho, ← HN.out.1, ← HN.out.2, if_neg e5, ← h1, ← h2, ← h4, ← h6]
      have HS := Lib.hid eS; clear eS h1 h2 h4 h6 hl
      have c11' : (w.drewN q1).cell? ⟨p.gm, 11, none⟩ = some (.pointer (some ⟨p.gtm, 0, none⟩)) := c11
      generalize hwq : w.drewN q1 = wq at HQ c11' ⊢
      have hwq := Lib.hid hwq
      clear c11 c27 c7 HK
      go_wp2_with fail
      go_quiet (first
        | (go_at_call_of 79 (Value.int IntKind.i64 1); exact Calls.quiet_of_same (HQ.out.1 _))
        | (go_at_call_of 79 (Value.int IntKind.i64 2); exact Calls.quiet_of_same (HQ.out.2.1 _))
        | (go_at_call_of 79 (Value.int IntKind.i64 4); exact Calls.quiet_of_same (HQ.out.2.2.1 _))
        | (go_at_call 81; exact Calls.quiet_of_same (HQ.out.2.2.2 _)))
      by_cases e0 : n1 + n2 + n4 + nt = 0
      · have d3 : ((n1 : Int) + (n2 : Int) + (n4 : Int) + (nt : Int) == 0) = true := by rw [beq_iff_eq]; omega
        rw [d3]
        go_wp2_with fail
        go_ret
        exact ⟨by rw [HS.out, if_pos e0]; rfl, q1 + nq, by rw [← hwq.out, World.drewN_drewN]⟩
      · have d3 : ((n1 : Int) + (n2 : Int) + (n4 : Int) + (nt : Int) == 0) = false := by rw [beq_eq_false_iff_ne]; omega
        rw [d3]
        go_wp2_with fail
        go_ret
        exact ⟨by rw [HS.out, if_neg e0]; rfl, q1 + nq, by rw [← hwq.out, World.drewN_drewN]⟩
end
end Go.Proofs.YtoeppmnoifankaaGreatDoor
