/- PhaseCycles: the walk. -/
import Derived.Test.YtoepnbiogfcgfaaPh
import Derived.Deep.LoopGhost
namespace Go.Proofs.Ytoepnbiogfcgfaa
open Go.RowKit

def sd (n p : Nat) : List Bool := List.replicate p true ++ List.replicate (n - p) false
theorem sd_len (n p : Nat) (h : p ≤ n) : (sd n p).length = n := by simp [sd]; omega
theorem sd_get (n p : Nat) (h : p < n) : (sd n p).getD p false = false := by
  simp [sd, List.getD, List.getElem?_append_right, List.getElem?_replicate, show 0 < n - p by omega]
theorem sd_set (n p : Nat) (h : p < n) : (sd n p).set p true = sd n (p + 1) := by
  apply List.ext_getElem?
  intro i
  simp only [sd, List.getElem?_set, List.getElem?_append, List.length_replicate, List.getElem?_replicate, List.length_append]
  by_cases h1 : i < p
  · simp [show ¬ p = i by omega, h1, show i < p + 1 by omega]
  · by_cases h2 : p = i
    · subst h2; simp [show p < p + (n - p) by omega]
    · simp [h1, h2, show ¬ i < p + 1 by omega]
      by_cases h3 : i < n
      · simp [show i - p < n - p by omega, show i - (p + 1) < n - (p + 1) by omega]
      · simp [show ¬ i - p < n - p by omega, show ¬ i - (p + 1) < n - (p + 1) by omega]

/-- At the head of the outer loop. -/
def CyOut (w0 : World) (g b n k gk : Nat) (v : Value) (w : World) : Prop :=
  ∃ c : Nat, gk + c = k + 2 ∧ 1 ≤ c ∧ c ≤ k + 1 ∧ v = .int .i64 c ∧ ∃ said, said.length = n ∧ ∃ cnt rs : Int, 0 ≤ cnt ∧ cnt ≤ 64 ∧ 0 ≤ rs ∧ PhAt w0 w g b ⟨0, (c : Int) - 1, said, cnt, rs⟩
/-- At the head of the inner loop. -/
def CyIn (w0 : World) (g b n c gk : Nat) (v : Value) (w : World) : Prop :=
  ∃ p : Nat, gk = n - p ∧ p ≤ n ∧ v = .int .i64 p ∧ PhAt w0 w g b ⟨1, c, sd n p, p, 0⟩


def okt (n : Nat) (s : PS) : Prop := s.ok ∧ s.said.length = n
theorem ok_of {ph cyc cnt rs : Int} {said : List Bool} {n : Nat} (p0 : 0 ≤ ph) (p3 : ph ≤ 3) (hl : said.length = n) (l1 : 1 ≤ n) (l2 : n ≤ 20) (c0 : 0 ≤ cnt) (c1 : cnt ≤ 64) (y0 : 0 ≤ cyc) (r0 : 0 ≤ rs) : PS.ok ⟨ph, cyc, said, cnt, rs⟩ :=
  ⟨p0, p3, by simp [hl]; omega, by simp [hl]; omega, c0, c1, y0, r0⟩
theorem not_quiet {ph cyc cnt rs : Int} {said : List Bool} (h : ph ≠ 1) : PS.quiet ⟨ph, cyc, said, cnt, rs⟩ = false := by simp [PS.quiet, h]
theorem sd_not_quiet {cyc rs : Int} {n p : Nat} (h : p < n) : PS.quiet ⟨1, cyc, sd n p, p, rs⟩ = false := by simp [PS.quiet, sd_len n p (by omega)]; omega
theorem sd_quiet {cyc rs : Int} {n : Nat} : PS.quiet ⟨1, cyc, sd n n, n, rs⟩ = true := by simp [PS.quiet, sd_len n n (by omega)]

set_option maxRecDepth 100000 in
set_option maxHeartbeats 2000000 in
theorem cycles_any (ps cy : Int) (w : World) :
    Calls Try.prog 5 #[.int .i64 ps, .int .i64 cy] w fun e w' => e = .returned (.bool true) ∧ Chg [] w w' := by
  obtain ⟨n, hn, en⟩ := mod_nat ps 20 (by omega) (by omega)
  obtain ⟨k, hk, ek⟩ := mod_nat cy 10 (by omega) (by omega)
  go_enter Try.func5, Try.ntmps5
  go_wp2_with fail
  clear en ek
  rw [show (1 : Int) + (n : Int) = ((n + 1 : Nat) : Int) by omega, show (1 : Int) + (k : Int) = ((k + 1 : Nat) : Int) by omega]
  obtain ⟨N, hN⟩ : ∃ N, N = n + 1 := ⟨_, rfl⟩
  obtain ⟨M, hM⟩ : ∃ M, M = k + 1 := ⟨_, rfl⟩
  rw [← hN, ← hM]
  have hN1 : 1 ≤ N := by omega
  have hN2 : N ≤ 20 := by omega
  have hM2 : M ≤ 10 := by omega
  clear hN hM hn hk
  refine (new_ok N _ (by omega) (by omega)).mono ?_
  rintro e w1 ⟨g, b, rfl, h1, hc1, hg, hb⟩
  have H : PhAt w w1 g b ⟨0, 0, List.replicate N false, 0, 0⟩ := ⟨h1, hc1, hg, hb⟩
  clear h1 hc1 hg hb
  go_wp2_with fail
  go_loopg [9] (M + 1) (fun gk v wr => CyOut w g b N M gk v wr)
  case atStart => exact ⟨1, by omega, by omega, by omega, rfl, _, List.length_replicate, 0, 0, by omega, by omega, by omega, H⟩
  case round =>
    clear H
    obtain ⟨c, hgk, hc1, hc2, rfl, said, hsl, cnt, rs, hcn0, hcn1, hrs, H⟩ := hrel
    by_cases hcM : c ≤ M
    · have hcM' : (c : Int) ≤ M := by omega
      have ho : ∀ said, said.length = N → PS.ok ⟨0, (c : Int) - 1, said, cnt, rs⟩ := fun _ hl => ok_of (by omega) (by omega) hl (by omega) (by omega) (by omega) (by omega) (by omega) (by omega)
      have Ho := Lib.hid (ho said hsl); clear ho
      have Hsl := Lib.hid hsl; clear hsl
      go_wp2_with fail
      refine (term_at_no H (not_quiet (by decide))).mono ?_
      rintro e v1 ⟨rfl, H⟩
      go_wp2_with fail
      refine (sweep_at_no H rfl).mono ?_
      rintro e v2 ⟨rfl, H⟩
      go_wp2_with fail
      refine (end_at_no H rfl).mono ?_
      rintro e v3 ⟨rfl, H⟩
      go_wp2_with fail
      refine (say_at_state 0 true false H (by omega) (by simp only [Hsl.out]; omega) rfl).mono ?_
      rintro e v4 ⟨rfl, H⟩
      go_wp2_with fail
      refine (quiet_at false H (not_quiet (by decide))).mono ?_
      rintro e v5 ⟨rfl, H⟩
      go_wp2_with fail
      refine (begin_at H Ho.out rfl (by show (c : Int) - 1 < _; omega)).mono ?_
      rintro e v6 ⟨rfl, H⟩
      replace H : PhAt w v6 g b ⟨1, (c : Int), sd N 0, 0, 0⟩ := by
        have := H
        simpa only [show (c : Int) - 1 + 1 = c by omega, none_said, sd, Hsl.out, List.replicate_zero, List.nil_append, Nat.sub_zero] using this
      go_wp2_with fail
      refine (begin_at_no H rfl).mono ?_
      rintro e v7 ⟨rfl, H⟩
      go_wp2_with fail
      refine (cycle_at H).mono ?_
      rintro e v8 ⟨rfl, H⟩
      go_wp2_with fail
      refine (restarts_at H).mono ?_
      rintro e v9 ⟨rfl, H⟩
      go_wp2_with fail
      go_loopg [10] N (fun gk v wr => CyIn w g b N c gk v wr)
      case atStart => exact ⟨0, by omega, by omega, rfl, H⟩
      case round =>
        clear H
        obtain ⟨p, hgk, hp, rfl, H⟩ := hrel
        have ho : PS.ok ⟨1, (c : Int), sd N p, p, 0⟩ := ok_of (by omega) (by omega) (sd_len N p hp) (by omega) (by omega) (by omega) (by omega) (by omega) (by omega)
        by_cases hpN : p < N
        · have hpN' : (p : Int) < N := by omega
          go_wp2_with fail
          refine (quiet_at false H (sd_not_quiet hpN)).mono ?_
          rintro e v10 ⟨rfl, H⟩
          go_wp2_with fail
          refine (term_at_no H (sd_not_quiet hpN)).mono ?_
          rintro e v11 ⟨rfl, H⟩
          go_wp2_with fail
          refine (say_at p true false H ho (by rw [sd_len N p hp]; exact hpN) rfl (by show (0 : Int) < _; omega)).mono ?_
          rintro e v12 ⟨rfl, H⟩
          go_wp2_with fail
          go_roundg (N - (p + 1))
          case measure => omega
          case rel =>
            refine ⟨p + 1, rfl, by omega, by go_num, ?_⟩
            have H' := H
            simpa only [PS.say, Bool.not_false, Bool.and_self, if_true, sd_get N p hpN, sd_set N p hpN, Bool.false_eq_true, if_false, Int.natCast_add, Int.natCast_one] using H'
        · obtain rfl : p = N := by omega
          clear hpN
          have hpN' : ¬ (p : Int) < p := by omega
          go_wp2_with fail
          refine (quiet_at true H sd_quiet).mono ?_
          rintro e v13 ⟨rfl, H⟩
          go_wp2_with fail
          refine (say_at_out p true false H (.inr (by simp only [sd_len p p hp]; omega))).mono ?_
          rintro e v14 ⟨rfl, H⟩
          go_wp2_with fail
          refine (term_at H ho sd_quiet).mono ?_
          rintro e v15 ⟨rfl, H⟩
          go_wp2_with fail
          refine (quiet_at false H (not_quiet (by decide))).mono ?_
          rintro e v16 ⟨rfl, H⟩
          go_wp2_with fail
          refine (say_at_state 0 false false H (by omega) (by simp only [sd_len p p hp]; omega) rfl).mono ?_
          rintro e v17 ⟨rfl, H⟩
          go_wp2_with fail
          refine (sweep_at H (ok_of (by omega) (by omega) (sd_len p p hp) (by omega) (by omega) (by omega) (by omega) (by omega) (by omega)) rfl).mono ?_
          rintro e v18 ⟨rfl, H⟩
          go_wp2_with fail
          refine (phase_at H).mono ?_
          rintro e v19 ⟨rfl, H⟩
          go_wp2_with fail
          refine (end_at H (ok_of (by omega) (by omega) (sd_len p p hp) (by omega) (by omega) (by omega) (by omega) (by omega) (by omega)) rfl).mono ?_
          rintro e v20 ⟨rfl, H⟩
          go_wp2_with fail
          refine (phase_at H).mono ?_
          rintro e v21 ⟨rfl, H⟩
          go_wp2_with fail
          go_roundg (M + 2 - (c + 1))
          case measure => omega
          case rel => exact ⟨c + 1, by omega, by omega, by omega, by go_num, sd p p, sd_len p p hp, p, 0, by omega, by omega, by omega, by simpa only [Int.natCast_add, Int.natCast_one, Int.add_sub_cancel] using H⟩
    · have hcM' : ¬ (c : Int) ≤ M := by omega
      go_wp2_with fail
      refine (at_chg H (told_ok _)).mono ?_
      rintro e v22 ⟨rfl, H⟩
      go_wp2_with fail
      refine (at_same H (begin_nil _)).mono ?_
      rintro e v23 ⟨rfl, H⟩
      go_wp2_with fail
      refine (at_same H (phase_nil _)).mono ?_
      rintro e v24 ⟨rfl, H⟩
      go_wp2_with fail
      refine (at_same H (cycle_nil _)).mono ?_
      rintro e v25 ⟨rfl, H⟩
      go_wp2_with fail
      refine (at_drew H (quiet_nil _)).mono ?_
      rintro e v26 ⟨rfl, H⟩
      go_wp2_with fail
      go_ret
      exact ⟨rfl, H.c⟩
end Go.Proofs.Ytoepnbiogfcgfaa
