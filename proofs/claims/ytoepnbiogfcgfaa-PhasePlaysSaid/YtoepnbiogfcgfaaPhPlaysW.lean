/- PhasePlays: the walk. -/
import Derived.Test.YtoepnbiogfcgfaaPhPlays
namespace Go.Proofs.Ytoepnbiogfcgfaa
open Go.RowKit

theorem q_same {P : Program} {f : FuncId} {args : Array Value} {w : World} {n : Nat} {v : Value} (h : Calls P f args (w.drewN n) fun e w' => e = .returned v ∧ w.drewN n = w') :
    Calls P f args (w.drewN n) fun e w'' => e = .returned v ∧ ∃ m, w'' = w.drewN m := h.mono fun _ _ ⟨he, hm⟩ => ⟨he, n, hm.symm⟩

def PlRel (w0 : World) (g b x n m gk : Nat) (v8 : Value) (w : World) : Prop :=
  ∃ (i y : Nat) (s : PS), gk + i = m + 1 ∧ i ≤ m ∧ i ≤ 100 ∧ v8 = .int .i64 i ∧ Bo w0 w g b x y n i s

set_option maxRecDepth 100000 in
set_option maxHeartbeats 2000000 in
theorem plays_any (ps : Int) (A : Option Addr) (c : Nat) (xs : List OpD) (w : World) (hA : OpsAt w w.heap.size A xs) (hl : xs.length ≤ maxLen) :
    Calls Try.prog 4 #[.int .i64 ps, .slice A xs.length c] w fun e w' => e = .returned (.bool true) ∧ Chg [] w w' := by
  unfold maxLen at hl
  by_cases hps : ps < 1 ∨ 64 < ps
  · have HA := Lib.hid hps; clear hA
    rcases hps with hp | hp
    · go_enter Try.func4, Try.ntmps4
      go_wp2_with fail
      refine (new_no ps _ HA.out).mono ?_
      rintro e w2 ⟨rfl, rfl⟩
      go_wp2_with fail
      refine (told_ok _).mono ?_
      rintro e w3 ⟨rfl, hc⟩
      go_wp2_with fail
      go_ret
      exact ⟨rfl, hc⟩
    · have hp' : ¬ ps < 1 := by omega
      go_enter Try.func4, Try.ntmps4
      go_wp2_with fail
      refine (new_no ps _ HA.out).mono ?_
      rintro e w2 ⟨rfl, rfl⟩
      go_wp2_with fail
      refine (told_ok _).mono ?_
      rintro e w3 ⟨rfl, hc⟩
      go_wp2_with fail
      go_ret
      exact ⟨rfl, hc⟩
  · have HA := Lib.hid hA; clear hA
    obtain ⟨n, rfl⟩ := Int.eq_ofNat_of_zero_le (show 0 ≤ ps by omega)
    have hn1 : 1 ≤ n := by omega
    have hn2 : n ≤ 64 := by omega
    have hn1' : ¬ ((n : Int) < 1) := by omega
    have hn2' : ¬ (64 < (n : Int)) := by omega
    clear hps
    have hmk := fun W => run_make_z (P := Try.prog) 29 4 (.bool false) 1 Try.underlying29 (by kernel_rfl) rfl .i64 .i64 n (by omega) (by omega) W
    go_enter Try.func4, Try.ntmps4
    go_wp2_with fail
    refine (new_ok n _ hn1 hn2).mono ?_
    rintro e w1 ⟨g, b, rfl, h1, hc1, hg, hb⟩
    have H : PhAt w w1 g b ⟨0, 0, List.replicate n false, 0, 0⟩ := ⟨h1, hc1, hg, hb⟩
    have hg1 := h1.g.lt
    have hb1 := h1.b.lt
    clear h1 hc1 hg hb
    go_wp2_with fail
    go_loopg [8] (xs.length + 1) (fun gk v8 wr => PlRel w g b (w1.heap.size + 1) n xs.length gk v8 wr)
    case atStart =>
      have H2 := H.other (((Chg.refl _ _).alloc (.cells (zcells (.bool false) n) 4)).alloc (.cells #[.int .i64 n, .int .i64 0, .int .i64 0, .int .i64 0, .slice (some ⟨w1.heap.size, 0, none⟩) n n] 36))
      have hx := Blk.new (w1.alloc (.cells (zcells (.bool false) n) 4)) 36 #[.int .i64 n, .int .i64 0, .int .i64 0, .int .i64 0, .slice (some ⟨w1.heap.size, 0, none⟩) n n]
      have hy := (Blk.new w1 4 (zcells (.bool false) n)).alloc (.cells #[.int .i64 n, .int .i64 0, .int .i64 0, .int .i64 0, .slice (some ⟨w1.heap.size, 0, none⟩) n n] 36)
      have hsz := H.c.size
      rw [World.size_alloc] at hx
      refine ⟨0, w1.heap.size, _, by omega, by omega, by omega, rfl, { p := H2, r := ⟨by simpa only [List.length_replicate] using hx, by simpa only [zcells_list, List.map_replicate] using hy⟩, lx := by omega, ly := by omega, gx := by omega, gy := by omega, bx := by omega, by_ := by omega, cnt := by simp [trues], len := by simp, p0 := by simp, p3 := by simp, y0 := by simp, y1 := by simp, r0 := by simp, r1 := by simp }⟩
    case round =>
      clear H hmk
      obtain ⟨i, y, s, hgk, him, hi100, rfl, B⟩ := hrel
      by_cases hi : i < xs.length
      · by_cases hi2 : i < 100
        · obtain ⟨ab, ao, rfl, hab, k0, k1, k2, k3⟩ := HA.out i xs[i] (List.getElem?_eq_getElem hi)
          generalize xs[i] = o at k0 k1 k2 k3
          have q0 := B.p.c.cellv hab (by simp) k0
          have q1 := B.p.c.cellv hab (by simp) k1
          have q2 := B.p.c.cellv hab (by simp) k2
          have q3 := B.p.c.cellv hab (by simp) k3
          clear k0 k1 k2 k3
          go_wp2_with fail
          · obtain ⟨a, hc⟩ := pair_begin (B.other ((Chg.refl _ _).alloc (.cells #[.int .i64 o.k, .int .i64 o.p, .bool o.em, .bool o.fl] 31))) hn1 hn2 hi2
            refine hc.mono ?_
            rintro e w2 ⟨rfl, hc1, hc2⟩
            have H2 := Lib.hid hc2; clear hc2 hc
            clear hc1
            go_wp2_with fail
            refine H2.out.mono ?_
            rintro e w3 ⟨rfl, y', s', B3⟩
            have x1 := B3.r.x.cellv 1 rfl
            have x2 := B3.r.x.cellv 2 rfl
            have x3 := B3.r.x.cellv 3 rfl
            go_wp2_with fail
            go_quiet (first | (go_at_call 13; exact q_same (phase_ok g b s' _ (B3.p.i.drewN _))) | (go_at_call 18; exact q_same (cycle_ok g b s' _ (B3.p.i.drewN _))) | (go_at_call 11; exact q_same (restarts_ok g b s' _ (B3.p.i.drewN _))) | (go_at_call 10; exact Calls.quiet_of (quiet_ok g b s' s'.quiet _ (B3.p.i.drewN _) rfl)) | (go_at_call 19; exact q_same (rquiet_ok (w1.heap.size + 1) y' s' s'.quiet _ (B3.r.drewN _) (by rw [B3.len]; exact hn2) B3.quiet.symm)))
            go_wp2_with fail
            go_roundg (xs.length - i)
            case measure => omega
            case rel => exact ⟨i + 1, y', s', by omega, by omega, by omega, by go_num, B3.drewN _⟩
          · obtain ⟨a, hc⟩ := pair_term (B.other ((Chg.refl _ _).alloc (.cells #[.int .i64 o.k, .int .i64 o.p, .bool o.em, .bool o.fl] 31))) hn1 hn2
            refine hc.mono ?_
            rintro e w2 ⟨rfl, hc1, hc2⟩
            have H2 := Lib.hid hc2; clear hc2 hc
            clear hc1
            go_wp2_with fail
            refine H2.out.mono ?_
            rintro e w3 ⟨rfl, y', s', B3⟩
            have x1 := B3.r.x.cellv 1 rfl
            have x2 := B3.r.x.cellv 2 rfl
            have x3 := B3.r.x.cellv 3 rfl
            go_wp2_with fail
            go_quiet (first | (go_at_call 13; exact q_same (phase_ok g b s' _ (B3.p.i.drewN _))) | (go_at_call 18; exact q_same (cycle_ok g b s' _ (B3.p.i.drewN _))) | (go_at_call 11; exact q_same (restarts_ok g b s' _ (B3.p.i.drewN _))) | (go_at_call 10; exact Calls.quiet_of (quiet_ok g b s' s'.quiet _ (B3.p.i.drewN _) rfl)) | (go_at_call 19; exact q_same (rquiet_ok (w1.heap.size + 1) y' s' s'.quiet _ (B3.r.drewN _) (by rw [B3.len]; exact hn2) B3.quiet.symm)))
            go_wp2_with fail
            go_roundg (xs.length - i)
            case measure => omega
            case rel => exact ⟨i + 1, y', s', by omega, by omega, by omega, by go_num, B3.drewN _⟩
          · obtain ⟨a, hc⟩ := pair_sweep (B.other ((Chg.refl _ _).alloc (.cells #[.int .i64 o.k, .int .i64 o.p, .bool o.em, .bool o.fl] 31))) hn1 hn2
            refine hc.mono ?_
            rintro e w2 ⟨rfl, hc1, hc2⟩
            have H2 := Lib.hid hc2; clear hc2 hc
            clear hc1
            go_wp2_with fail
            refine H2.out.mono ?_
            rintro e w3 ⟨rfl, y', s', B3⟩
            have x1 := B3.r.x.cellv 1 rfl
            have x2 := B3.r.x.cellv 2 rfl
            have x3 := B3.r.x.cellv 3 rfl
            go_wp2_with fail
            go_quiet (first | (go_at_call 13; exact q_same (phase_ok g b s' _ (B3.p.i.drewN _))) | (go_at_call 18; exact q_same (cycle_ok g b s' _ (B3.p.i.drewN _))) | (go_at_call 11; exact q_same (restarts_ok g b s' _ (B3.p.i.drewN _))) | (go_at_call 10; exact Calls.quiet_of (quiet_ok g b s' s'.quiet _ (B3.p.i.drewN _) rfl)) | (go_at_call 19; exact q_same (rquiet_ok (w1.heap.size + 1) y' s' s'.quiet _ (B3.r.drewN _) (by rw [B3.len]; exact hn2) B3.quiet.symm)))
            go_wp2_with fail
            go_roundg (xs.length - i)
            case measure => omega
            case rel => exact ⟨i + 1, y', s', by omega, by omega, by omega, by go_num, B3.drewN _⟩
          · obtain ⟨a, hc⟩ := pair_end (B.other ((Chg.refl _ _).alloc (.cells #[.int .i64 o.k, .int .i64 o.p, .bool o.em, .bool o.fl] 31))) hn1 hn2
            refine hc.mono ?_
            rintro e w2 ⟨rfl, hc1, hc2⟩
            have H2 := Lib.hid hc2; clear hc2 hc
            clear hc1
            go_wp2_with fail
            refine H2.out.mono ?_
            rintro e w3 ⟨rfl, y', s', B3⟩
            have x1 := B3.r.x.cellv 1 rfl
            have x2 := B3.r.x.cellv 2 rfl
            have x3 := B3.r.x.cellv 3 rfl
            go_wp2_with fail
            go_quiet (first | (go_at_call 13; exact q_same (phase_ok g b s' _ (B3.p.i.drewN _))) | (go_at_call 18; exact q_same (cycle_ok g b s' _ (B3.p.i.drewN _))) | (go_at_call 11; exact q_same (restarts_ok g b s' _ (B3.p.i.drewN _))) | (go_at_call 10; exact Calls.quiet_of (quiet_ok g b s' s'.quiet _ (B3.p.i.drewN _) rfl)) | (go_at_call 19; exact q_same (rquiet_ok (w1.heap.size + 1) y' s' s'.quiet _ (B3.r.drewN _) (by rw [B3.len]; exact hn2) B3.quiet.symm)))
            go_wp2_with fail
            go_roundg (xs.length - i)
            case measure => omega
            case rel => exact ⟨i + 1, y', s', by omega, by omega, by omega, by go_num, B3.drewN _⟩
          · obtain ⟨a, hc⟩ := pair_say (B.other ((Chg.refl _ _).alloc (.cells #[.int .i64 o.k, .int .i64 o.p, .bool o.em, .bool o.fl] 31))) hn1 hn2 hi2 o.p o.em o.fl
            refine hc.mono ?_
            rintro e w2 ⟨rfl, hc1, hc2⟩
            have H2 := Lib.hid hc2; clear hc2 hc
            have hob := hc1.blk (Blk.new wr 31 #[.int .i64 o.k, .int .i64 o.p, .bool o.em, .bool o.fl]) (by have := B.p.i.g.lt; have := B.p.i.b.lt; simp; omega)
            have o1 := hob.cellv 1 rfl
            have o2 := hob.cellv 2 rfl
            have o3 := hob.cellv 3 rfl
            clear hob
            clear hc1
            go_wp2_with fail
            refine H2.out.mono ?_
            rintro e w3 ⟨rfl, y', s', B3⟩
            have x1 := B3.r.x.cellv 1 rfl
            have x2 := B3.r.x.cellv 2 rfl
            have x3 := B3.r.x.cellv 3 rfl
            go_wp2_with fail
            go_quiet (first | (go_at_call 13; exact q_same (phase_ok g b s' _ (B3.p.i.drewN _))) | (go_at_call 18; exact q_same (cycle_ok g b s' _ (B3.p.i.drewN _))) | (go_at_call 11; exact q_same (restarts_ok g b s' _ (B3.p.i.drewN _))) | (go_at_call 10; exact Calls.quiet_of (quiet_ok g b s' s'.quiet _ (B3.p.i.drewN _) rfl)) | (go_at_call 19; exact q_same (rquiet_ok (w1.heap.size + 1) y' s' s'.quiet _ (B3.r.drewN _) (by rw [B3.len]; exact hn2) B3.quiet.symm)))
            go_wp2_with fail
            go_roundg (xs.length - i)
            case measure => omega
            case rel => exact ⟨i + 1, y', s', by omega, by omega, by omega, by go_num, B3.drewN _⟩
        · have hi2' : ¬ (i : Int) < 100 := by omega
          go_wp2_with fail
          refine (told_ok _).mono ?_
          rintro e w3 ⟨rfl, hc⟩
          go_wp2_with fail
          go_ret
          exact ⟨rfl, B.p.c.trans hc⟩
      · have hi2' : ¬ (i : Int) < xs.length := by omega
        go_wp2_with fail
        refine (told_ok _).mono ?_
        rintro e w3 ⟨rfl, hc⟩
        go_wp2_with fail
        go_ret
        exact ⟨rfl, B.p.c.trans hc⟩
end Go.Proofs.Ytoepnbiogfcgfaa
