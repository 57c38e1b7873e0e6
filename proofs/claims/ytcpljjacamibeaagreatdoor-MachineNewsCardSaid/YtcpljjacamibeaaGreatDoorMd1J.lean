/- Package machine: what is asked of a machine: has, Phase, Live, Status. -/
/- Package machine: Status. -/
/- Fixed-point numbers, as far as a machine's goal wants them: nothing overflows. -/
/- Floats of whatever bits: what comes of them is some integer, some float; nothing but draws. No program's number in sight. -/
/- Floats: what is greater than the greatest number, and what less itself is not 0, is one thing. No program in sight. -/
import Derived.Test.YtcpljjacamibeaaGreatDoorMm2J
import Derived.Test.YtcpljjacamibeaaGreatDoorMcSfJ
import Derived.Test.YtcpljjacamibeaaGreatDoorMOw
import Derived.Test.YtcpljjacamibeaaGreatDoorMClJ
import Derived.Test.YtcpljjacamibeaaGreatDoorMemJ
import Derived.Lib.Mul64
import Derived.Laws.FloatArith
import Derived.Laws.NewFold
namespace Go.Proofs.YtcpljjacamibeaaGreatDoor
set_option maxHeartbeats 16000000
set_option maxRecDepth 100000
open Go.RowKit Go.Maps
theorem HpS.lo {W w : World} {H : HpH} {A : HpA} {N b : Nat} (Q : HpS W w H A N b) {k : Nat} (hk : HpF H A k) : W.heap.size ≤ k := by
  rcases hk with h | h | h
  · exact Q.S.far k h
  · exact Q.n1 k h
  · exact Q.n2 k h
theorem HpS.hi {W w : World} {H : HpH} {A : HpA} {N b : Nat} (Q : HpS W w H A N b) {k : Nat} (hk : HpF H A k) : k < w.heap.size := by
  rcases hk with h | h | h
  · exact Q.S.M.lt k h
  · exact Q.C.lt h
  · exact Q.ltO h
section
variable {W : Bs} {w : World} {p : MAt} {m : Mac} (M : MM W w p m)
include M
theorem MM.mb : Blk w p.gm 109 (mC p m) := M.k .mach
theorem MM.pb {q : Nat} (hq : q < m.np) : Blk w (p.bp q) 128 (prcC (m.ps q) (p.vsc q) (p.bn q)) := M.k (.proc q) hq
theorem MM.gb {g : Nat} (hg : g < m.ng) : Blk w (p.bg g) 118 (gorC (m.gs g)) := M.k (.gor g) hg
theorem MM.sc : IsSc w p.gsd p.gq m.np p.vr p.vq p.gr m.rg m.com := M.k .sched
theorem MM.st : IsSt w p.gst p.vst m.sts := M.k .states
theorem MM.ph : IsPh w p.gph p.bsd m.ph := M.k .phases
theorem MM.hp : HpS (wE W.w) w p.H m.A p.N p.b := M.k .heap
theorem MM.psl : ∃ b cap, w.cell? ⟨p.gm, 9, none⟩ = some p.vps ∧ (∀ q, q < m.np → p.vps = .slice (some ⟨b, 0, none⟩) m.np cap ∧ w.cell? ⟨b, q, none⟩ = some (.pointer (some ⟨p.bp q, 0, none⟩)) ∧ b < w.heap.size) := by
  have o : OwnV 124 w p.vps (ptrs p.bp m.np) := M.k .psl
  obtain ⟨A, cap, hv⟩ := o.slice
  rw [ptrs_len] at hv
  by_cases h0 : m.np = 0
  · exact ⟨0, 0, M.mb.cellv 9 rfl, fun q hq => by omega⟩
  · have o2 := o
    rw [hv] at o2
    obtain ⟨b, hA, -, -, -, -, hb⟩ := o2.cell (ptrs_at p.bp (show 0 < m.np by omega))
    subst hA
    refine ⟨b, cap, M.mb.cellv 9 rfl, fun q hq => ⟨hv, ?_, hb⟩⟩
    obtain ⟨b', hb', hc, -⟩ := o2.cell (ptrs_at p.bp hq)
    injection hb' with hb'
    injection hb' with hb'
    subst hb'
    exact hc
theorem MM.gsl : ∃ b cap, w.cell? ⟨p.gm, 8, none⟩ = some p.vgs ∧ (∀ g, g < m.ng → p.vgs = .slice (some ⟨b, 0, none⟩) m.ng cap ∧ w.cell? ⟨b, g, none⟩ = some (.pointer (some ⟨p.bg g, 0, none⟩)) ∧ b < w.heap.size) := by
  have o : OwnV 115 w p.vgs (ptrs p.bg m.ng) := M.k .gsl
  obtain ⟨A, cap, hv⟩ := o.slice
  rw [ptrs_len] at hv
  by_cases h0 : m.ng = 0
  · exact ⟨0, 0, M.mb.cellv 8 rfl, fun q hq => by omega⟩
  · have o2 := o
    rw [hv] at o2
    obtain ⟨b, hA, -, -, -, -, hb⟩ := o2.cell (ptrs_at p.bg (show 0 < m.ng by omega))
    subst hA
    refine ⟨b, cap, M.mb.cellv 8 rfl, fun q hq => ⟨hv, ?_, hb⟩⟩
    obtain ⟨b', hb', hc, -⟩ := o2.cell (ptrs_at p.bg hq)
    injection hb' with hb'
    injection hb' with hb'
    subst hb'
    exact hc
theorem m_has (q : Nat) (hq : q < m.np) : Calls Tryz.prog 79 #[.pointer (some ⟨p.gm, 0, none⟩), .int .i64 (q : Nat)] w (QuPost (.bool true) w) := by
  obtain ⟨b, cap, c9, hs⟩ := M.psl
  obtain ⟨hv, -⟩ := hs q hq
  rw [hv] at c9
  have d1 : (0 : Int) ≤ q := by omega
  have d2 : (q : Int) < m.np := by omega
  clear hs hv M
  go_enter Tryz.func79, Tryz.ntmps79
  go_wp2_with fail
  go_ret
  exact ⟨by simp [hq], rfl⟩
theorem m_arena : Calls Tryz.prog 67 #[.pointer (some ⟨p.gm, 0, none⟩)] w (QuPost (.pointer (some ⟨p.H.ah.ga, 0, none⟩)) w) := by
  have c6 : w.cell? ⟨p.gm, 6, none⟩ = some (.pointer (some ⟨p.H.gh, 0, none⟩)) := M.mb.cellv 6 rfl
  have b0 : w.cell? ⟨p.H.gh, 0, none⟩ = some (.pointer (some ⟨p.H.ah.ga, 0, none⟩)) := M.hp.hb.cellv 0 rfl
  have K : Calls Tryz.prog 44 #[.pointer (some ⟨p.H.gh, 0, none⟩)] w (QuPost (.pointer (some ⟨p.H.ah.ga, 0, none⟩)) w) := by
    clear M c6
    go_enter Tryz.func44, Tryz.ntmps44
    go_wp2_with fail
    go_ret
    exact ⟨rfl, rfl⟩
  have HK := Lib.hid K; clear K M b0
  go_enter Tryz.func67, Tryz.ntmps67
  go_wp2_with fail
  refine HK.out.mono ?_
  rintro e w1 ⟨rfl, rfl⟩
  go_wp2_with fail
  go_ret
  exact ⟨rfl, rfl⟩
theorem m_live : Calls Tryz.prog 22 #[.pointer (some ⟨p.gm, 0, none⟩)] w (QuPost (.int .i64 (m.A.a.live : Nat)) w) := by
  have HM := Lib.hid M; clear M
  go_enter Tryz.func22, Tryz.ntmps22
  go_wp2_with fail
  refine (m_arena HM.out).mono ?_
  rintro e w1 ⟨rfl, rfl⟩
  go_wp2_with fail
  refine (s_live HM.out.hp.S).mono ?_
  rintro e w1 ⟨rfl, rfl⟩
  go_wp2_with fail
  go_ret
  exact ⟨rfl, rfl⟩
theorem m_tmlen : Calls Tryz.prog 38 #[.pointer (some ⟨p.gtm, 0, none⟩)] w (QuPost (.int .i64 (m.tm.length : Nat)) w) := by
  obtain ⟨h1, h2⟩ : Blk w p.gtm 166 #[p.vtm, .int .i64 m.made] ∧ OwnG tmC 3 237 w p.vtm m.tm := M.k .timers
  obtain ⟨A, c, hv⟩ := h2.slice
  have c0 : w.cell? ⟨p.gtm, 0, none⟩ = some p.vtm := h1.cellv 0 rfl
  rw [hv] at c0
  generalize m.tm.length = n at c0 ⊢
  clear h1 h2 hv M
  go_enter Tryz.func38, Tryz.ntmps38
  go_wp2_with fail
  go_ret
  exact ⟨rfl, rfl⟩
end
def stV (m : Mac) : Int := if m.out = true then 2 else if cntI m.sts 5 = m.sts.length then 1 else if cntI m.sts 1 + cntI m.sts 2 + cntI m.sts 4 + m.tm.length = 0 then 3 else 0
theorem MM.drewN {W : Bs} {w : World} {p : MAt} {m : Mac} (M : MM W w p m) (k : Nat) : MM W (w.drewN k) p m := M.chg0 ((Chg.refl [] w).drewN k)
def QdPost (v : Value) (w : World) (e : Ending) (w' : World) : Prop := e = .returned v ∧ ∃ k, w' = w.drewN k
section
variable {W : Bs} {w : World} {p : MAt} {m : Mac} (M : MM W w p m)
include M
theorem cnt_add (h : m.sts.length ≤ 1024) : cntI m.sts 1 ≤ 1024 ∧ cntI m.sts 2 ≤ 1024 ∧ cntI m.sts 4 ≤ 1024 ∧ cntI m.sts 5 ≤ 1024 := by
  have _ := M
  have h1 := cntI_le m.sts 1
  have h2 := cntI_le m.sts 2
  have h3 := cntI_le m.sts 4
  have h4 := cntI_le m.sts 5
  omega
theorem m_status (hl : m.sts.length ≤ 1024) (ht : m.tm.length ≤ 1024) : Calls Tryz.prog 11 #[.pointer (some ⟨p.gm, 0, none⟩)] w (QdPost (.int .i64 (stV m)) w) := by
  have hmf : ∀ (fn : Fn) (first cap : Array Value) (w : World), (Instr.makeFunc fn first cap).run Tryz.prog w = .ok (.func fn first cap) w := fun _ _ _ _ => rfl
  have c7 : w.cell? ⟨p.gm, 7, none⟩ = some (.pointer (some ⟨p.gst, 0, none⟩)) := M.mb.cellv 7 rfl
  have c27 : w.cell? ⟨p.gm, 27, none⟩ = some (.bool m.out) := M.mb.cellv 27 rfl
  have c11 : w.cell? ⟨p.gm, 11, none⟩ = some (.pointer (some ⟨p.gtm, 0, none⟩)) := M.mb.cellv 11 rfl
  have HM := Lib.hid M
  by_cases ho : m.out = true
  · have e : stV m = 2 := by unfold stV; rw [if_pos ho]
    rw [e]
    rw [ho] at c27
    clear M
    go_enter Tryz.func11, Tryz.ntmps11
    go_wp2_with fail
    go_ret
    exact ⟨rfl, 0, rfl⟩
  · have ho' : m.out = false := by simpa using ho
    rw [ho'] at c27
    obtain ⟨b1, b2, b4, b5⟩ := cnt_add M hl
    have K5 : ∀ k, Calls Tryz.prog 36 #[.pointer (some ⟨p.gst, 0, none⟩), .int .i64 5] (w.drewN k) (QuPost (.int .i64 (cntI m.sts 5 : Nat)) (w.drewN k)) := fun k => st_count _ _ _ _ (M.drewN k).st 5 (by decide) (by decide)
    have KL : ∀ k, Calls Tryz.prog 37 #[.pointer (some ⟨p.gst, 0, none⟩)] (w.drewN k) (QuPost (.int .i64 (m.sts.length : Nat)) (w.drewN k)) := fun k => st_len _ _ _ _ (M.drewN k).st
    have HK := Lib.hid (And.intro K5 KL); clear K5 KL M
    obtain ⟨n5, h5⟩ : ∃ n, n = cntI m.sts 5 := ⟨_, rfl⟩
    obtain ⟨nl, hnl⟩ : ∃ n, n = m.sts.length := ⟨_, rfl⟩
    rw [← h5, ← hnl] at HK
    have HN := Lib.hid (And.intro h5 hnl); clear h5 hnl
    go_enter Tryz.func11, Tryz.ntmps11
    go_wp2_with fail
    go_quiet (first | (go_at_call 36; exact Calls.quiet_of_same (HK.out.1 _)) | (go_at_call 37; exact Calls.quiet_of_same (HK.out.2 _)))
    obtain ⟨q1, hq1⟩ : ∃ q1, q1 = nq := ⟨_, rfl⟩
    rw [← hq1]
    clear hq1 nq
    by_cases e5 : n5 = nl
    · have d1 : ((n5 : Int) == (nl : Int)) = true := by simp [e5]
      have d2 : (n5 : Int) = (nl : Int) := by omega
      have eS : stV m = 1 := by unfold stV; rw [if_neg ho, ← HN.out.1, ← HN.out.2, if_pos e5]
      rw [d1]
      have HS := Lib.hid eS; clear eS
      go_wp2_with fail
      go_ret
      exact ⟨by rw [HS.out]; rfl, q1, rfl⟩
    · have d1 : ((n5 : Int) == (nl : Int)) = false := by rw [beq_eq_false_iff_ne]; omega
      have d2 : ¬ (n5 : Int) = (nl : Int) := by omega
      rw [d1]
      have K1 : ∀ k, Calls Tryz.prog 36 #[.pointer (some ⟨p.gst, 0, none⟩), .int .i64 1] ((w.drewN q1).drewN k) (QuPost (.int .i64 (cntI m.sts 1 : Nat)) ((w.drewN q1).drewN k)) := fun k => st_count _ _ _ _ ((HM.out.drewN q1).drewN k).st 1 (by decide) (by decide)
      have K2 : ∀ k, Calls Tryz.prog 36 #[.pointer (some ⟨p.gst, 0, none⟩), .int .i64 2] ((w.drewN q1).drewN k) (QuPost (.int .i64 (cntI m.sts 2 : Nat)) ((w.drewN q1).drewN k)) := fun k => st_count _ _ _ _ ((HM.out.drewN q1).drewN k).st 2 (by decide) (by decide)
      have K4 : ∀ k, Calls Tryz.prog 36 #[.pointer (some ⟨p.gst, 0, none⟩), .int .i64 4] ((w.drewN q1).drewN k) (QuPost (.int .i64 (cntI m.sts 4 : Nat)) ((w.drewN q1).drewN k)) := fun k => st_count _ _ _ _ ((HM.out.drewN q1).drewN k).st 4 (by decide) (by decide)
      have KT : ∀ k, Calls Tryz.prog 38 #[.pointer (some ⟨p.gtm, 0, none⟩)] ((w.drewN q1).drewN k) (QuPost (.int .i64 (m.tm.length : Nat)) ((w.drewN q1).drewN k)) := fun k => m_tmlen ((HM.out.drewN q1).drewN k)
      obtain ⟨n1, h1⟩ : ∃ n, n = cntI m.sts 1 := ⟨_, rfl⟩
      obtain ⟨n2, h2⟩ : ∃ n, n = cntI m.sts 2 := ⟨_, rfl⟩
      obtain ⟨n4, h4⟩ : ∃ n, n = cntI m.sts 4 := ⟨_, rfl⟩
      obtain ⟨nt, h6⟩ : ∃ n, n = m.tm.length := ⟨_, rfl⟩
      rw [← h1] at K1; rw [← h2] at K2; rw [← h4] at K4; rw [← h6] at KT
      rw [← h1] at b1; rw [← h2] at b2; rw [← h4] at b4; rw [← h6] at ht
      have HQ := Lib.hid (And.intro K1 (And.intro K2 (And.intro K4 KT))); clear K1 K2 K4 KT
      have eS : stV m = if n1 + n2 + n4 + nt = 0 then 3 else 0 := by
        unfold stV; rw [if_neg ho, ← HN.out.1, ← HN.out.2, if_neg e5, ← h1, ← h2, ← h4, ← h6]
      have HS := Lib.hid eS; clear eS h1 h2 h4 h6 hl
      have c11' : (w.drewN q1).cell? ⟨p.gm, 11, none⟩ = some (.pointer (some ⟨p.gtm, 0, none⟩)) := c11
      generalize hwq : w.drewN q1 = wq at HQ c11' ⊢
      have hwq := Lib.hid hwq
      clear c11 c27 c7 HK
      go_wp2_with fail
      go_quiet (first
        | (go_at_call_of 36 (Value.int IntKind.i64 1); exact Calls.quiet_of_same (HQ.out.1 _))
        | (go_at_call_of 36 (Value.int IntKind.i64 2); exact Calls.quiet_of_same (HQ.out.2.1 _))
        | (go_at_call_of 36 (Value.int IntKind.i64 4); exact Calls.quiet_of_same (HQ.out.2.2.1 _))
        | (go_at_call 38; exact Calls.quiet_of_same (HQ.out.2.2.2 _)))
      by_cases e0 : n1 + n2 + n4 + nt = 0
      · have d3 : ((n1 : Int) + (n2 : Int) + (n4 : Int) + (nt : Int) == 0) = true := by rw [beq_iff_eq]; omega
        rw [d3]
        go_wp2_with fail
        go_ret
        exact ⟨by rw [HS.out, if_pos e0]; rfl, q1 + nq, by rw [← hwq.out, World.drewN_drewN]⟩
      · have d3 : ((n1 : Int) + (n2 : Int) + (n4 : Int) + (nt : Int) == 0) = false := by rw [beq_eq_false_iff_ne]; omega
        rw [d3]
        go_wp2_with fail
        go_ret
        exact ⟨by rw [HS.out, if_neg e0]; rfl, q1 + nq, by rw [← hwq.out, World.drewN_drewN]⟩
end
theorem fx_size (w : World) (a : Nat) (h : a < 9223372036854775808) : Calls Tryz.prog 261 #[.int .i64 (a : Nat)] w (QuPost (.int .u64 (a : Nat)) w) := by
  have d0 : decide ((a : Int) < 0) = false := decide_eq_false (by omega)
  go_enter Tryz.func261, Tryz.ntmps261
  go_wp2_with fail
  go_ret
  exact ⟨rfl, rfl⟩
theorem fx_made (w : World) (lo : Nat) (more : Bool) (h : lo < 9223372036854775808) : Calls Tryz.prog 262 #[.int .u64 0, .int .u64 (lo : Nat), .bool false, .bool more] w (QuPost (.int .i64 (lo : Nat)) w) := by
  have d1 : decide ((lo : Int) > 9223372036854775808) = false := decide_eq_false (by omega)
  have d2 : ((lo : Int) == 9223372036854775808) = false := by rw [beq_eq_false_iff_ne]; omega
  go_enter Tryz.func262, Tryz.ntmps262
  go_wp2_with fail
  go_ret
  exact ⟨rfl, rfl⟩
theorem bits_mul64 (w : World) (x y : Nat) (hx : x < 18446744073709551616) (hy : y < 18446744073709551616) (h : x * y < 18446744073709551616) : Calls Tryz.prog 270 #[.int .u64 (x : Nat), .int .u64 (y : Nat)] w (QuPost (.tuple #[.int .u64 0, .int .u64 (x * y : Nat)]) w) := by
  go_enter Tryz.func270, Tryz.ntmps270
  go_wp2_with fail
  have a1 : bits BinOp.and IntKind.u64 (x : Int) 4294967295 = ((x % 4294967296 : Nat) : Int) := by
    rw [show (4294967295 : Int) = ((4294967295 : Nat) : Int) from rfl, bits_and_u64_nat x 4294967295 hx (by decide)]
    congr 1; exact Nat.and_two_pow_sub_one_eq_mod x 32
  have a2 : bits BinOp.and IntKind.u64 (y : Int) 4294967295 = ((y % 4294967296 : Nat) : Int) := by
    rw [show (4294967295 : Int) = ((4294967295 : Nat) : Int) from rfl, bits_and_u64_nat y 4294967295 hy (by decide)]
    congr 1; exact Nat.and_two_pow_sub_one_eq_mod y 32
  obtain ⟨m1, m2, m3, m4⟩ := Go.Lib.mul64_hi x y hx hy
  rw [Nat.div_eq_of_lt h] at m4
  have p0 : (x : Int) / 4294967296 = ((x / 4294967296 : Nat) : Int) := by omega
  have p00 : (y : Int) / 4294967296 = ((y / 4294967296 : Nat) : Int) := by omega
  go_ret2
  refine ⟨?_, rfl⟩
  simp only [a1, a2, p0, p00, IntKind.wrap_u64, ← Int.natCast_mul]
  generalize (x / 4294967296) * (y / 4294967296) = A at *
  generalize (x / 4294967296) * (y % 4294967296) = B at *
  generalize (x % 4294967296) * (y / 4294967296) = C at *
  generalize (x % 4294967296) * (y % 4294967296) = D at *
  have a3 : ∀ z : Nat, z < 18446744073709551616 → bits BinOp.and IntKind.u64 (z : Int) 4294967295 = ((z % 4294967296 : Nat) : Int) := fun z hz => by
    rw [show (4294967295 : Int) = ((4294967295 : Nat) : Int) from rfl, bits_and_u64_nat z 4294967295 hz (by decide)]
    congr 1; exact Nat.and_two_pow_sub_one_eq_mod z 32
  have q1 : ((B : Int) % 18446744073709551616 + (D : Int) % 18446744073709551616 / 4294967296) % 18446744073709551616 = ((B + D / 4294967296 : Nat) : Int) := by omega
  rw [q1, a3 _ m2]
  have q2 : ((A : Int) % 18446744073709551616 + ((B + D / 4294967296 : Nat) : Int) / 4294967296) % 18446744073709551616 = ((A + (B + D / 4294967296) / 4294967296 : Nat) : Int) := by omega
  have q3 : (((A + (B + D / 4294967296) / 4294967296 : Nat) : Int) + (((B + D / 4294967296) % 4294967296 : Nat) + (C : Int) % 18446744073709551616) % 18446744073709551616 / 4294967296) % 18446744073709551616 = 0 := by omega
  simp only [q2, q3]
  rfl
theorem fx_mul (w : World) (a b : Nat) (ha : a < 9223372036854775808) (hb : b < 9223372036854775808) (h : a * b < 18446744073709551616) : Calls Tryz.prog 188 #[.int .i64 (a : Nat), .int .i64 (b : Nat)] w (QuPost (.int .i64 (a * b / 1048576 : Nat)) w) := by
  have d1 : decide ((a : Int) < 0) = false := decide_eq_false (by omega)
  have d2 : decide ((b : Int) < 0) = false := decide_eq_false (by omega)
  go_enter Tryz.func188, Tryz.ntmps188
  go_wp2_with fail
  refine (fx_size w a ha).mono ?_
  rintro e w' ⟨rfl, rfl⟩
  go_wp2_with fail
  refine (fx_size _ b hb).mono ?_
  rintro e w' ⟨rfl, rfl⟩
  go_wp2_with fail
  refine (bits_mul64 _ a b (by omega) (by omega) h).mono ?_
  rintro e w' ⟨rfl, rfl⟩
  have o1 : bits BinOp.or IntKind.u64 0 ((a : Int) * (b : Int) / 1048576) = ((a * b / 1048576 : Nat) : Int) := by
    rw [show (0 : Int) = ((0 : Nat) : Int) from rfl, show (a : Int) * (b : Int) / 1048576 = ((a * b / 1048576 : Nat) : Int) from by rw [← Int.natCast_mul]; omega, bits_or_u64_nat _ _ (by decide) (by omega)]
    congr 1; exact Nat.zero_or _
  go_wp2_with fail
  rw [show (a : Int) * (b : Int) / 1048576 = ((a * b / 1048576 : Nat) : Int) from by rw [← Int.natCast_mul]; omega]
  refine (fx_made _ _ _ (by omega)).mono ?_
  rintro e w' ⟨rfl, rfl⟩
  go_wp2_with fail
  go_ret
  exact ⟨rfl, rfl⟩
theorem fx_whole (w : World) (n : Nat) (h : n < 8388608) : Calls Tryz.prog 169 #[.int .i64 (n : Nat)] w (QuPost (.int .i64 (n * 1048576 : Nat)) w) := by
  have K := fx_mul w n 1099511627776 (by omega) (by decide) (by omega)
  rw [show n * 1099511627776 / 1048576 = n * 1048576 from by omega] at K
  go_enter Tryz.func169, Tryz.ntmps169
  go_wp2_with fail
  refine K.mono ?_
  rintro e w' ⟨rfl, rfl⟩
  go_wp2_with fail
  go_ret
  exact ⟨rfl, rfl⟩
theorem fx_int (w : World) (a : Nat) (h : a < 9223372036854775808) : Calls Tryz.prog 269 #[.int .i64 (a : Nat)] w (QuPost (.int .i64 (a / 1048576 : Nat)) w) := by
  go_enter Tryz.func269, Tryz.ntmps269
  go_wp2_with fail
  go_ret
  exact ⟨by simp, rfl⟩
theorem fx_add (w : World) (a b : Nat) (ha : a < 1152921504606846976) (hb : b < 1152921504606846976) : Calls Tryz.prog 170 #[.int .i64 (a : Nat), .int .i64 (b : Nat)] w (QuPost (.int .i64 (a + b : Nat)) w) := by
  by_cases h0 : b = 0
  · subst h0
    go_enter Tryz.func170, Tryz.ntmps170
    go_wp2_with fail
    go_ret
    exact ⟨by simp, rfl⟩
  · have d1 : decide ((b : Int) > 0) = true := decide_eq_true (by omega)
    have d1' : (0 : Int) < (b : Int) := by omega
    have d2 : decide ((b : Int) < 0) = false := decide_eq_false (by omega)
    have d3 : decide ((a : Int) > 9223372036854775807 - (b : Int)) = false := decide_eq_false (by omega)
    have d4 : decide (9223372036854775807 - (b : Int) < (a : Int)) = false := decide_eq_false (by omega)
    have d5 : ¬ (9223372036854775807 - (b : Int) < (a : Int)) := by omega
    go_enter Tryz.func170, Tryz.ntmps170
    go_wp2_with fail
    go_ret
    exact ⟨by simp, rfl⟩
theorem bits_div64 (w : World) (x y : Nat) (hx : x < 18446744073709551616) (h0 : 0 < y) (hy : y < 18446744073709551616) : Calls Tryz.prog 181 #[.int .u64 0, .int .u64 (x : Nat), .int .u64 (y : Nat)] w (NwPost (.tuple #[.int .u64 (x / y : Nat), .int .u64 (x % y : Nat)]) w) := by
  have d1 : ((y : Int) == 0) = false := by rw [beq_eq_false_iff_ne]; omega
  have d2 : decide ((y : Int) ≤ 0) = false := decide_eq_false (by omega)
  have d3 : ¬ (y : Int) = 0 := by omega
  have d4 : ¬ (y : Int) ≤ 0 := by omega
  go_enter Tryz.func181, Tryz.ntmps181
  go_wp2_with fail
  go_quiet (fail)
  go_wp2_with fail
  go_ret2
  have hw : IntKind.u64.wrap ((x : Int) / (y : Int)) = (x : Int) / (y : Int) := by
    have e : (x : Int) / (y : Int) = ((x / y : Nat) : Int) := (Int.natCast_ediv x y).symm
    have hle := Nat.div_le_self x y
    rw [e]
    generalize x / y = q at *
    rw [IntKind.wrap_u64]; omega
  exact ⟨by simp [hw], (Chg.refl _ _).drewN _⟩
theorem fx_div (w : World) (a b : Nat) (ha : a < 8796093022208) (h0 : 0 < b) (hb : b < 9223372036854775808) : Calls Tryz.prog 173 #[.int .i64 (a : Nat), .int .i64 (b : Nat)] w (NwPost (.int .i64 (a * 1048576 / b : Nat)) w) := by
  have d0 : ((b : Int) == 0) = false := by rw [beq_eq_false_iff_ne]; omega
  have d1 : decide ((a : Int) < 0) = false := decide_eq_false (by omega)
  have d2 : decide ((b : Int) < 0) = false := decide_eq_false (by omega)
  have d3 : ¬ (b : Int) = 0 := by omega
  have hq : a * 1048576 / b ≤ a * 1048576 := Nat.div_le_self _ _
  have e1 : (a : Int) / 17592186044416 = 0 := by omega
  go_enter Tryz.func173, Tryz.ntmps173
  go_wp2_with fail
  refine (fx_size w a (by omega)).mono ?_
  rintro e w' ⟨rfl, rfl⟩
  go_wp2_with fail
  refine (fx_size _ b hb).mono ?_
  rintro e w' ⟨rfl, rfl⟩
  go_wp2_with fail
  rw [show (a : Int) * 1048576 = ((a * 1048576 : Nat) : Int) from by omega]
  refine (bits_div64 _ (a * 1048576) b (by omega) h0 (by omega)).mono ?_
  rintro e w1 ⟨rfl, c1⟩
  have HC := Lib.hid c1; clear c1
  go_wp2_with fail
  rw [show ((a : Int) * 1048576 / (b : Int)) = ((a * 1048576 / b : Nat) : Int) from by simp]
  refine (fx_made _ (a * 1048576 / b) _ (by omega)).mono ?_
  rintro e w2 ⟨rfl, rfl⟩
  go_wp2_with fail
  go_ret
  exact ⟨by simp, HC.out⟩
open Go.RowKit
section
variable {P : Program}
theorem run_conv_any (w : World) (src dst : TypeId) (s : FloatKind) (k : IntKind) (b : Nat) (hs : (P.underlying src).isSome = true) (hd : P.underlying dst = some (.int k)) :
    ∃ n m, (convert src dst (.float s b)).run P w = .ok (.int k n) (w.drewN m) ∧ k.min ≤ n ∧ n ≤ k.max := by
  by_cases h : (floatToIntVal s b k).isSome
  · obtain ⟨n, hn⟩ := Option.isSome_iff_exists.1 h
    have hw := floatToIntVal_wf hn
    refine ⟨n, 0, run_convert_float_int w src dst s k b n hs hd hn, ?_⟩
    simpa [Lit.wf] using hw
  · obtain ⟨u, hs'⟩ := Option.isSome_iff_exists.1 hs
    have he : Conv.floatToInt s b k = (do pure (.int k (k.wrap (← choose (.floatToInt s b k))))) := by
      unfold floatToIntVal at h
      unfold Conv.floatToInt
      split at h
      · rename_i m hm
        rw [hm]
        split at h
        · simp at h
        · rename_i hb
          simp only [hb, if_false]
      · rename_i hm
        rw [hm]
    have hr : (Conv.floatToInt s b k).run P w = .ok (.int k (k.wrap ((Question.floatToInt s b k).cut (w.tape w.drawn (.floatToInt s b k)) : Nat))) w.drew := by
      rw [he]
      simp [Question.forced]
    refine ⟨k.wrap ((Question.floatToInt s b k).cut (w.tape w.drawn (.floatToInt s b k)) : Nat), 1, ?_, wrap_within k _⟩
    show _ = Result.ok _ w.drew
    cases u <;> simp [convert, run_underlying hs', run_underlying hd, hr]
theorem run_min2_any (w : World) (k : FloatKind) (x y : Nat) : ∃ r m, (Builtin.min2 (.float k x) (.float k y)).run P w = .ok (.float k r) (w.drewN m) := by
  unfold Builtin.min2
  cases h : k.format.order x y with
  | none =>
    refine ⟨(Question.nanMinMax k false x y).cut (w.tape w.drawn (.nanMinMax k false x y)), 1, ?_⟩
    simp only [h]
    simp [Question.forced]
    rfl
  | some o =>
    cases o
    · exact ⟨x, 0, by simp only [h]; simp; rfl⟩
    · exact ⟨if (k.decode x).neg = true then x else y, 0, by simp only [h]; simp; rfl⟩
    · exact ⟨y, 0, by simp only [h]; simp; rfl⟩
def floD (x : Nat) : Ieee.Datum → Sem Value
  | .nan s t => if FloatKind.f64.format.quiet t = t then pure (.float .f64 x) else do
      let kept ← choose (.extern "math.Floor,Ceil,Trunc,RoundToEven.signallingNaN kept" 2)
      pure (.float .f64 (if kept == 1 then x else FloatKind.f64.encode (.nan s (FloatKind.f64.format.quiet t))))
  | d => pure (.float .f64 (FloatKind.f64.encode (d.integral .down)))
theorem run_floor_any (w : World) (x : Nat) : ∃ r m, (Extern.MathFloor.toIntegral "math.archFloor" .down #[.float .f64 x]).run P w = .ok (.float .f64 r) (w.drewN m) := by
  have e : Extern.MathFloor.toIntegral "math.archFloor" .down #[.float .f64 x] = floD x (FloatKind.f64.decode x) := rfl
  rw [e]
  cases FloatKind.f64.decode x with
  | nan s t =>
    by_cases hq : FloatKind.f64.format.quiet t = t
    · exact ⟨x, 0, by simp only [floD, if_pos hq]; rfl⟩
    · refine ⟨if (Question.extern "math.Floor,Ceil,Trunc,RoundToEven.signallingNaN kept" 2).cut (w.tape w.drawn (.extern "math.Floor,Ceil,Trunc,RoundToEven.signallingNaN kept" 2)) == 1 then x else FloatKind.f64.encode (.nan s (FloatKind.f64.format.quiet t)), 1, ?_⟩
      simp only [floD, if_neg hq]
      simp [Question.forced]
      rfl
  | number s m e => exact ⟨_, 0, rfl⟩
  | infinity s => exact ⟨_, 0, rfl⟩
theorem run_mul_any (w : World) (t : TypeId) (k : FloatKind) (x y : Nat) : ∃ r m, (binOp .mul t (.float k x) (.float k y)).run P w = .ok (.float k r) (w.drewN m) := by
  cases h : floatBits .mul k x y with
  | some r => exact ⟨r, 0, run_float_arith w .mul t k x y r h⟩
  | none =>
    have h' : k.format.mul x y = none := h
    refine ⟨(Question.nanBits k x y).cut (w.tape w.drawn (.nanBits k x y)), 1, ?_⟩
    simp [binOp, Op.floatArith, h', Question.forced]
    rfl
end
def infB (b : Nat) : Bool := (FloatKind.f64.format.order b 9218868437227405311 == some Ordering.gt)
theorem f64_fmt : FloatKind.f64.format = _root_.Ieee.double := rfl
theorem rd_max : _root_.Ieee.double.read 9218868437227405311 = .number false 9007199254740991 971 := by decide +kernel
theorem rd_zero : _root_.Ieee.double.read 0 = .number false 0 (-1074) := by decide +kernel
theorem rd_num (b : Nat) {s : Bool} {m : Nat} {e : Int} (h : _root_.Ieee.double.read b = .number s m e) : m ≤ 9007199254740991 ∧ e ≤ 971 := by
  have e1 : _root_.Ieee.double.signWeight = 9223372036854775808 := by decide
  have e2 : _root_.Ieee.double.binade = 4503599627370496 := by decide
  have e3 : _root_.Ieee.double.infRung = 9218868437227405312 := by decide
  have e4 : _root_.Ieee.double.leastPlace = -1074 := by decide
  unfold _root_.Ieee.Format.read at h
  rw [e1, e2, e3, e4] at h
  simp only at h
  split at h
  · injection h with h1 h2 h3; omega
  · split at h
    · injection h with h1 h2 h3; omega
    · split at h <;> cases h
theorem signed_le {m k : Nat} (hm : m ≤ 9007199254740991) : _root_.Ieee.signed false m 0 ≤ _root_.Ieee.signed false 9007199254740991 k := by
  unfold _root_.Ieee.signed
  have h2 : (1 : Nat) ≤ 2 ^ k := Nat.one_le_two_pow
  have h3 := Nat.mul_le_mul_left 9007199254740991 h2
  have h4 : m ≤ 9007199254740991 * 2 ^ k := by omega
  simp only [Bool.false_eq_true, if_false, Nat.shiftLeft_eq, Nat.pow_zero, Nat.mul_one]
  exact Int.ofNat_le.2 h4
theorem signed_neg_le {m k : Nat} : _root_.Ieee.signed true m 0 ≤ _root_.Ieee.signed false 9007199254740991 k := by
  unfold _root_.Ieee.signed
  simp only [Bool.false_eq_true, if_false, if_true, Nat.shiftLeft_eq]
  omega
theorem cmp_not_gt {a b : Int} (h : a ≤ b) : compare a b ≠ Ordering.gt := by
  intro hc
  rw [Int.compare_eq_gt] at hc
  omega
theorem infB_num {b : Nat} {s : Bool} {m : Nat} {e : Int} (h : _root_.Ieee.double.read b = .number s m e) : infB b = false := by
  obtain ⟨hm, he⟩ := rd_num b h
  unfold infB
  rw [f64_fmt]
  unfold _root_.Ieee.Format.order
  rw [h, rd_max]
  unfold _root_.Ieee.Datum.order
  have e1 : min e 971 = e := by omega
  simp only [e1, Int.sub_self, Int.toNat_zero]
  have hc : compare (_root_.Ieee.signed s m 0) (_root_.Ieee.signed false 9007199254740991 (971 - e).toNat) ≠ Ordering.gt := cmp_not_gt (by
    cases s
    · exact signed_le hm
    · exact signed_neg_le)
  rw [beq_eq_false_iff_ne]
  intro hx
  exact hc (Option.some.inj hx)
theorem infB_inf {b : Nat} (h : _root_.Ieee.double.read b = .infinity false) : infB b = true := by
  unfold infB
  rw [f64_fmt]
  unfold _root_.Ieee.Format.order
  rw [h, rd_max]
  rfl
theorem sub_num {b : Nat} {s : Bool} {m : Nat} {e : Int} (h : _root_.Ieee.double.read b = .number s m e) : floatBits .sub .f64 b b = some 0 := by
  show _root_.Ieee.double.sub b b = some 0
  unfold _root_.Ieee.Format.sub
  rw [h]
  show ((_root_.Ieee.Datum.sum (.number s m e) (.number (!s) m e)).map _) = _
  unfold _root_.Ieee.Datum.sum
  have e1 : min e e = e := by omega
  have e2 : _root_.Ieee.signed s m 0 + _root_.Ieee.signed (!s) m 0 = 0 := by
    unfold _root_.Ieee.signed
    cases s <;> simp <;> omega
  simp only [e1, Int.sub_self, Int.toNat_zero, e2, if_true, Option.map_some]
  have e3 : (s && !s) = false := by cases s <;> rfl
  rw [e3]
  rfl
theorem sub_inf {b : Nat} {s : Bool} (h : _root_.Ieee.double.read b = .infinity s) : floatBits .sub .f64 b b = none := by
  show _root_.Ieee.double.sub b b = none
  unfold _root_.Ieee.Format.sub
  rw [h]
  show ((_root_.Ieee.Datum.sum (.infinity s) (.infinity (!s))).map _) = _
  unfold _root_.Ieee.Datum.sum
  cases s <;> rfl
theorem nan_cut (t : Nat) : FloatKind.f64.format.order ((t % 2) * 2 ^ 63 + 0x7ff0000000000000 + 1 + (t / 2) % (2 ^ 52 - 1)) 0 = none := by
  rw [f64_fmt]
  unfold _root_.Ieee.Format.order
  have e1 : _root_.Ieee.double.signWeight = 9223372036854775808 := by decide
  have e2 : _root_.Ieee.double.binade = 4503599627370496 := by decide
  have e3 : _root_.Ieee.double.infRung = 9218868437227405312 := by decide
  have hr : ∃ s f, _root_.Ieee.double.read ((t % 2) * 2 ^ 63 + 0x7ff0000000000000 + 1 + (t / 2) % (2 ^ 52 - 1)) = .nan s f := by
    unfold _root_.Ieee.Format.read
    rw [e1, e2, e3]
    have h1 : (t % 2) * 2 ^ 63 + 0x7ff0000000000000 + 1 + (t / 2) % (2 ^ 52 - 1) = (t % 2) * 9223372036854775808 + (9218868437227405313 + (t / 2) % 4503599627370495) := by omega
    have h2 : ((t % 2) * 9223372036854775808 + (9218868437227405313 + (t / 2) % 4503599627370495)) % 9223372036854775808 = 9218868437227405313 + (t / 2) % 4503599627370495 := by omega
    rw [h1]
    simp only [h2]
    rw [if_neg (by omega), if_neg (by omega), if_neg (by omega)]
    exact ⟨_, _, rfl⟩
  obtain ⟨s, f, h⟩ := hr
  rw [h]
  rfl
theorem run_self_sub {P : Program} (w : World) (t : TypeId) (b : Nat) (h1 : (FloatKind.f64.format.order b b != some Ordering.eq) = false) (h2 : (FloatKind.f64.format.order b 0 == some Ordering.lt) = false) :
    ∃ r m, (binOp .sub t (.float .f64 b) (.float .f64 b)).run P w = .ok (.float .f64 r) (w.drewN m) ∧ (FloatKind.f64.format.order r 0 != some Ordering.eq) = infB b := by
  cases hb : _root_.Ieee.double.read b with
  | nan s f =>
    exfalso
    rw [f64_fmt] at h1
    unfold _root_.Ieee.Format.order at h1
    rw [hb] at h1
    have h1 : ((none : Option Ordering) != some Ordering.eq) = false := h1
    exact absurd h1 (by decide)
  | number s m e =>
    refine ⟨0, 0, run_float_arith w .sub t .f64 b b 0 (sub_num hb), ?_⟩
    rw [infB_num hb]
    decide +kernel
  | infinity s =>
    cases s
    · refine ⟨(Question.nanBits .f64 b b).cut (w.tape w.drawn (.nanBits .f64 b b)), 1, ?_, ?_⟩
      · have h' : FloatKind.f64.format.sub b b = none := sub_inf hb
        simp [binOp, Op.floatArith, h', Question.forced]
        rfl
      · rw [infB_inf hb]
        show (FloatKind.f64.format.order ((_ % 2) * 2 ^ 63 + 0x7ff0000000000000 + 1 + (_ / 2) % (2 ^ 52 - 1)) 0 != some Ordering.eq) = true
        rw [nan_cut]
        rfl
    · exfalso
      rw [f64_fmt] at h2
      unfold _root_.Ieee.Format.order at h2
      rw [hb, rd_zero] at h2
      have h2 : (some Ordering.lt == some Ordering.lt) = false := h2
      exact absurd h2 (by decide)
end Go.Proofs.YtcpljjacamibeaaGreatDoor
