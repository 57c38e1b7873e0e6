/- told of layer 7. -/
import Derived.Test.YtmafiagakoglkaaGreatDoorMAs
namespace Go.Proofs.YtmafiagakoglkaaGreatDoor
open Go.RowKit

set_option maxHeartbeats 1600000 in
set_option maxRecDepth 100000 in
theorem anew_no (w : World) (z : Int) (hz : z < 256) : Calls Tryz.prog 39 #[.int .i64 z] w (NwPost (.tuple #[.pointer none, .int .i64 1]) w) := by
  have d1 : decide (z < 256) = true := decide_eq_true hz
  go_enter Tryz.func39, Tryz.ntmps39
  go_wp2_with fail
  go_ret2
  exact ⟨rfl, Chg.refl _ _⟩
theorem s_new (w : World) (n : Nat) (z : Int) (hz : z = ((n * 64 : Nat) : Int)) (h4 : 4 ≤ n) (hn : n ≤ 262144) : Calls Tryz.prog 39 #[.int .i64 z] w fun e w' => ∃ g h, e = .returned (.tuple #[.pointer (some ⟨g, 0, none⟩), .int .i64 0]) ∧ ArS w w' g h (newA n) 0 0 := by
  subst hz
  refine (anew_ok w n h4 hn).mono ?_
  rintro e w' ⟨h, he, M, c, far, hm, -⟩
  exact ⟨h.ga, h, he, M, newA_I 0 n (by omega) hn, far, c, rfl, by omega⟩
theorem says_one {f p k : Nat} {a c : Int} {l' : List R} (hk : 1 ≤ k) (hp : k < p) (h : AllocSays [⟨f, p⟩] (k : Nat) a c l') : a = (f : Nat) ∧ c = 0 ∧ l' = [⟨f + k, p - k⟩] := by
  rcases h with ⟨h, _⟩ | ⟨_, h, _⟩ | ⟨_, r, hr, ha, hc, hl⟩
  · omega
  · have := h ⟨f, p⟩ (by simp)
    simp only at this
    omega
  · have e : r = ⟨f, p⟩ := by have := hr.1; simpa using this
    subst e
    refine ⟨ha, hc, ?_⟩
    rw [hl, Int.toNat_natCast]
    unfold cutR
    rw [if_neg (by show ¬ p = k; omega)]
    simp
/-- The next span, where all that is free is one run, and ids are taken from 0. -/
def spn (f q : Nat) : Sp := ⟨f, q, fun _ => false, fun _ => false, 0⟩
theorem s_span_next {w0 w : World} {g N b : Nat} {h : ArH} {a : Ar} (S : ArS w0 w g h a N b) (hb : b ≤ 1000000) (hN : N ≤ 1000000) {q f p : Nat} (hq : q < 16) (hl : a.l = [⟨f, p⟩]) (hp : pgK q < p) (hall : ∀ j, j < N → a.sp j ≠ none) :
    Calls Tryz.prog 75 #[.pointer (some ⟨g, 0, none⟩), .int .i64 (q : Nat)] w fun e w' => ∃ h', e = .returned (.tuple #[.int .i64 (N : Nat), .int .i64 0]) ∧ ArS w0 w' g h' (spanA a [⟨f + pgK q, p - pgK q⟩] N q f) (N + 1) (b + 6) ∧ a.sp N = none ∧ StA h a h' (spanA a [⟨f + pgK q, p - pgK q⟩] N q f) w w' := by
  refine (s_span S hb hN q hq).mono ?_
  rintro e w' ⟨x, c, l', hs, h1⟩
  rw [hl] at hs
  obtain ⟨rfl, rfl, rfl⟩ := says_one (kF hq).2.2.2.2.1 hp hs
  rcases h1 with ⟨h1, -⟩ | ⟨-, f', id, h', hx, hn, hj, hid, he, S', st⟩
  · exact absurd rfl h1
  · obtain rfl : f = f' := by omega
    have e1 : id = N := by
      rcases Nat.lt_or_ge id N with h2 | h2
      · exact absurd hn (hall id h2)
      · omega
    subst e1
    exact ⟨h', he, S', hn, st⟩
/-- The first place of a new span. -/
theorem s_alloc_first {w0 w : World} {g N b : Nat} {h : ArH} {a : Ar} (S : ArS w0 w g h a N b) (T0 : Tab w0) (hb : b ≤ 1000000) (hN : N ≤ 6000) {id n : Nat} {s : Sp} (hs : a.sp id = some s) (hf : s.fr = 0) (hF : s.F 0 = false) (h1 : 1 ≤ n) (h2 : n ≤ szK s.k) (black : Bool) :
    Calls Tryz.prog 48 #[.pointer (some ⟨g, 0, none⟩), .int .i64 (id : Nat), .int .i64 (n : Nat), .bool black] w fun e w' => ∃ h', e = .returned (.tuple #[.int .i64 (s.addr 0 : Nat), .int .i64 0]) ∧ ArS w0 w' g h' (allocA a id s 0 n black) N (b + 1) ∧ StA h a h' (allocA a id s 0 n black) w w' := by
  have hlt := S.I.ok.top id s hs
  have hk := (S.I.ok.pg id s hs).1
  have hsl := (kF hk).2.2.2.2.2.2.2.1
  refine (s_alloc S T0 hb hN id n (by unfold Wf64; omega) black).mono ?_
  have e0 : spI a (id : Nat) = some s := by unfold spI; rw [if_pos (by omega), Int.toNat_natCast]; exact hs
  rintro e w' (⟨c, he, S', c1, hc⟩ | ⟨s', y, h', h0, hs', hn1, hn2, hy1, hy2, hyF, hyl, he, S', st⟩)
  · rw [e0] at hc
    rcases hc with ⟨hc, -⟩ | ⟨s', hs', ⟨hc, -⟩ | ⟨-, -, hfull, -⟩⟩
    · cases hc
    · injection hs' with hs'; subst hs'
      omega
    · injection hs' with hs'; subst hs'
      have := hfull 0 (by omega) (by omega)
      rw [hF] at this; cases this
  · rw [Int.toNat_natCast] at hs' S' st
    rw [hs] at hs'; injection hs' with hs'; subst hs'
    have ey : y = 0 := by
      rcases Nat.eq_zero_or_pos y with h3 | h3
      · exact h3
      · have := hyl 0 (by omega) h3
        rw [hF] at this; cases this
    subst ey
    rw [Int.toNat_natCast] at S' st
    exact ⟨h', he, S', st⟩
def TdPost (w : World) (e : Ending) (w' : World) : Prop := e = .returned (.bool true) ∧ Chg [] w w'
set_option maxHeartbeats 3200000 in
set_option maxRecDepth 100000 in
theorem told_ok (w : World) (T0 : Tab w) : Calls Tryz.prog 41 #[] w (TdPost w) := by
  have HT := Lib.hid T0; clear T0
  go_enter Tryz.func41, Tryz.ntmps41
  go_wp2_with fail
  refine (s_new w 4 256 (by decide) (by decide) (by decide)).mono ?_
  rintro e w1 ⟨g, h, rfl, S⟩
  have S1 := Lib.hid S; clear S
  go_wp2_with fail
  refine (anew_no w1 255 (by decide)).mono ?_
  rintro e w2 ⟨rfl, c⟩
  have S2 := Lib.hid (S1.out.chg0 c); clear c
  go_wp2_with fail
  refine (s_span_next S2.out (by decide) (by decide) (q := 0) (f := 1) (p := 3) (by decide) (by decide) (by decide) (by intro j hj; omega)).mono ?_
  rintro e w3 ⟨h3, rfl, S, hn, -⟩
  obtain ⟨a3, ha3⟩ : ∃ a3, a3 = spanA (newA 4) [⟨1 + pgK 0, 3 - pgK 0⟩] 0 0 1 := ⟨_, rfl⟩
  rw [← ha3] at S
  have S3 := Lib.hid (And.intro S ha3); clear S ha3 hn
  go_wp2_with fail
  refine (s_alloc_first S3.out.1 HT.out (by decide) (by decide) (id := 0) (n := 1) (s := spn 1 0) (by rw [S3.out.2]; rfl) rfl rfl (by decide) (by decide) true).mono ?_
  rintro e w4 ⟨h4, rfl, S, -⟩
  rw [S3.out.2] at S
  have ad : (((spn 1 0).addr 0 : Nat) : Int) = 64 := by decide
  rw [ad]
  obtain ⟨a4, ha4⟩ : ∃ a4, a4 = allocA (spanA (newA 4) [⟨1 + pgK 0, 3 - pgK 0⟩] 0 0 1) 0 (spn 1 0) 0 1 true := ⟨_, rfl⟩
  have S : ArS w w4 g h4 a4 (0 + 1) (0 + 6 + 1) := by rw [ha4]; exact S
  have S4 := Lib.hid (And.intro S ha4); clear S ha4 ad
  go_wp2_with fail
  have e1 : slotC a4 64 0 = 0 := by rw [S4.out.2]; decide
  refine (s_store S4.out.1 64 0 7 (by unfold Wf64; decide)).mono ?_
  rintro e w5 ⟨rfl, S, -⟩
  rw [e1]
  obtain ⟨a5, ha5⟩ : ∃ a5, a5 = putA a4 64 0 7 := ⟨_, rfl⟩
  rw [← ha5] at S
  rw [S4.out.2] at ha5
  have S5 := Lib.hid (And.intro S ha5); clear S ha5 e1
  go_wp2_with fail
  have e1 : slotC a5 64 0 = 0 := by rw [S5.out.2]; decide
  have e2 : loadV a5 64 0 = 7 := by rw [S5.out.2]; decide
  refine (s_load S5.out.1 64 0 (by unfold Wf64; decide)).mono ?_
  rintro e w6 ⟨rfl, c⟩
  rw [e1, e2]
  have S6 := Lib.hid (S5.out.1.chg0 c); clear c e1 e2
  go_wp2_with fail
  have e1 : slotC a5 64 1 = 2 := by rw [S5.out.2]; decide
  refine (s_load S6.out 64 1 (by unfold Wf64; decide)).mono ?_
  rintro e w7 ⟨rfl, c⟩
  rw [e1]
  have S7 := Lib.hid (S6.out.chg0 c); clear c e1
  go_wp2_with fail
  have hs : a5.sp 0 = some (allocS (spn 1 0) 0 true) := by rw [S5.out.2]; rfl
  have hMk := s_marked S7.out (by decide) hs (i := 0) (by decide) (by decide)
  have ad : (((allocS (spn 1 0) 0 true).addr 0 : Nat) : Int) = 64 := by decide
  rw [ad] at hMk
  refine hMk.mono ?_
  rintro e w8 ⟨rfl, c⟩
  rw [show (allocS (spn 1 0) 0 true).M 0 = true by decide]
  have S8 := Lib.hid (S7.out.chg0 c); clear c hMk
  go_wp2_with fail
  have hMk := s_mark S8.out (by decide) hs (i := 0) (by decide) (by decide)
  rw [ad] at hMk
  refine hMk.mono ?_
  rintro e w9 ⟨rfl, S, -⟩
  rw [show (!(allocS (spn 1 0) 0 true).M 0) = false by decide]
  obtain ⟨a9, ha9⟩ : ∃ a9, a9 = ({ a5 with sp := updF a5.sp 0 (some (markS (allocS (spn 1 0) 0 true) 0)) } : Ar) := ⟨_, rfl⟩
  rw [← ha9] at S
  have S9 := Lib.hid (And.intro S ha9); clear S hMk ha9
  go_wp2_with fail
  have hv : a9.live = 1 := by rw [S9.out.2, S5.out.2]; decide
  refine (s_live S9.out.1).mono ?_
  rintro e w10 ⟨rfl, rfl⟩
  rw [hv]
  go_wp2_with fail
  have hl : a9.l = [⟨2, 2⟩] := by rw [S9.out.2, S5.out.2]; decide
  refine (s_left S9.out.1 (by rw [hl]; decide) (by rw [hl]; decide)).mono ?_
  rintro e w11 ⟨rfl, c⟩
  rw [hl]
  have S11 := Lib.hid (S9.out.1.chg0 c)
  go_wp2_with fail
  go_ret
  exact ⟨rfl, S11.out.c⟩
end Go.Proofs.YtmafiagakoglkaaGreatDoor
