/- The walk of PageLefts. -/
import Derived.Test.YtcmligooekbodaaPgLaw2
import Derived.Test.YtcmligooekbodaaPgBest
import Derived.Deep.DeepCutAuto
namespace Go.Proofs.Ytcmligooekbodaa
open Go.RowKit

set_option maxHeartbeats 1600000 in
set_option maxRecDepth 100000 in
theorem free_nil (w : World) (a k : Int) :
    Calls Try.prog 11 #[.pointer none, .int .i64 a, .int .i64 k] w fun e w' => e = .returned (.int .i64 1) ∧ w' = w := by
  go_enter Try.func11, Try.ntmps11
  go_wp2_with fail
  go_ret
  exact ⟨rfl, rfl⟩

structure LtI (w0 w : World) (g k : Nat) (l : List R) (v : Value) (out : Nat) : Prop where
  P : PgI w0 [] w g k l v
  ok : Okn k l
  sum : sumR l + out + 1 = k
def LtRel (w0 : World) (g k m : Nat) (gk : Nat) (vo idx : Value) (w : World) : Prop :=
  ∃ i out l v, gk + i = m + 1 ∧ i ≤ m ∧ vo = .int .i64 (out : Nat) ∧ idx = .int .i64 (i : Nat) ∧ LtI w0 w g k l v out
def LtCut (w0 : World) (g k wd : Nat) (c : Int) (vo : Value) (w : World) : Prop :=
  ∃ out l v, vo = .int .i64 (out : Nat) ∧ LtI w0 w g k l v out ∧ (c ≠ 0 → ∀ r ∈ l, r.p < wd)
def LtIn (w0 : World) (g k out : Nat) (l : List R) (v : Value) (A : Option Addr) (c : Nat) (gk : Nat) (vs idx : Value) (w : World) : Prop :=
  ∃ j, gk + j = l.length + 1 ∧ j ≤ l.length ∧ vs = .int .i64 (sumR (l.take j) : Nat) ∧ idx = .int .i64 (j : Nat) ∧ LtI w0 w g k l v out ∧ w.ownsRow 0 34 2 (.slice A l.length c) l.length (rc l)
theorem LtI.chg {w0 w w' : World} {g k out : Nat} {l : List R} {v : Value} (h : LtI w0 w g k l v out) (c : Chg [] w w') : LtI w0 w' g k l v out := ⟨h.P.chg0 c, h.ok, h.sum⟩

theorem newL_sum (N : Nat) (h : 1 ≤ N) : sumR (newL N) + 1 = N := by
  unfold newL; split
  · simp [sumR]; omega
  · simp [sumR]; omega

set_option maxHeartbeats 6400000 in
set_option maxRecDepth 100000 in
theorem lefts_any (K : Int) (A : Option Addr) (c : Nat) (xs : List Int) (w : World) (hA : IntsAt w w.heap.size A xs) (hl : xs.length ≤ maxLen) :
    Calls Try.prog 7 #[.int .i64 K, .slice A xs.length c] w (TdPost w) := by
  unfold maxLen at hl
  have HA := Lib.hid hA; clear hA
  by_cases h50 : 50 < xs.length
  · have h50' : (50 : Int) < (xs.length : Int) := by omega
    go_enter Try.func7, Try.ntmps7
    go_wp2_with fail
    refine (told_ok w).mono ?_
    rintro e w1 ⟨rfl, c1⟩
    go_wp2_with fail
    go_ret
    exact ⟨rfl, c1⟩
  have h50' : ¬ (50 : Int) < (xs.length : Int) := by omega
  obtain ⟨k0, hk0, ek0⟩ := mod_n K 100 (by omega) (by omega)
  have ek : wrap64 ((IntKind.u64.wrap K).tmod 100) = (k0 : Int) := ek0
  have ek2 : wrap64 (1 + (k0 : Int)) = ((k0 + 1 : Nat) : Int) := by rw [wrap64_small (by omega) (by omega)]; omega
  have EK := Lib.hid (And.intro ek ek2); clear ek0 ek ek2
  go_enter Try.func7, Try.ntmps7
  go_wp2_with fail
  rw [EK.out.1, EK.out.2]
  obtain ⟨k, hk⟩ : ∃ k, k = k0 + 1 := ⟨_, rfl⟩
  rw [← hk]
  have hkb : 1 ≤ k ∧ k ≤ 100 := by omega
  clear hk hk0 EK
  refine (new_ok w (k : Int)).mono ?_
  rintro e w1 ⟨g, v, rfl, I, cc, hn⟩
  have e6 : newN (k : Int) = k := by unfold newN; omega
  rw [e6] at I
  have P1 : PgI w [] w1 g k (newL k) v := PgI.mk I cc (fun k hk => ⟨hn k hk, by simp⟩) (fun k hk => by cases hk)
  have T0 := Lib.hid (LtI.mk P1 (newL_ok k hkb.1) (by have := newL_sum k hkb.1; omega) : LtI w w1 g k (newL k) v 0)
  clear I cc hn e6 P1
  go_wp2_with fail
  go_loopg [7, 8] (xs.length + 1) (fun gk vo idx wr => LtRel w g k xs.length gk vo idx wr)
  case atStart => exact ⟨0, 0, _, _, by omega, by omega, rfl, rfl, T0.out⟩
  case round =>
    obtain ⟨i, out, l, v3, hgk, hin, rfl, rfl, T⟩ := hrel
    have hob : out ≤ 100 := by have := T.sum; omega
    have HT := Lib.hid T; clear T
    by_cases e : i < xs.length
    · obtain ⟨z, hz⟩ : ∃ z, xs[i]? = some z := ⟨xs[i], List.getElem?_eq_getElem e⟩
      obtain ⟨ba, off, rfl, hb0, hb1⟩ := (HA.out.chg HT.out.P.c) i z hz
      have hi' : (i : Int) < (xs.length : Int) := by omega
      obtain ⟨n0, hn0, en0⟩ := mod_n z 12 (by omega) (by omega)
      have en : wrap64 ((IntKind.u64.wrap z).tmod 12) = (n0 : Int) := en0
      have en2 : wrap64 (1 + (n0 : Int)) = ((n0 + 1 : Nat) : Int) := by rw [wrap64_small (by omega) (by omega)]; omega
      have EN := Lib.hid (And.intro en en2); clear en en2 en0 hz hb0
      go_wp2_with fail
      rw [EN.out.1, EN.out.2]
      obtain ⟨n, hn⟩ : ∃ n, n = n0 + 1 := ⟨_, rfl⟩
      rw [← hn]
      have hnb : 1 ≤ n ∧ n ≤ 12 := by omega
      clear EN hn hn0
      refine (alloc_i HT.out.P HT.out.ok (by omega) (n : Int)).mono ?_
      rintro e w4 ⟨a, ca, l4, v4, rfl, hs, P4, _⟩
      have HS := Lib.hid (And.intro hs P4); clear hs P4 hb1
      go_upto_if 52 with fail
      go_cut [7] (fun vo wc => LtCut w g k n ca vo wc)
      case first =>
        by_cases hca : ca = 0
        · subst hca
          obtain ⟨r, hr, rfl, rfl⟩ : ∃ r, Best l n r ∧ a = (r.f : Int) ∧ l4 = cutR l r n := by
            rcases HS.out.1 with ⟨h1, _, h2, _⟩ | ⟨_, _, _, h2, _⟩ | ⟨_, r, hr, ha, hc, hl⟩
            · omega
            · omega
            · simp only [Int.toNat_natCast] at hr hl
              exact ⟨r, hr, ha, hl⟩
          have hcs := cut_sum HT.out.ok hr.1 hr.2.1
          have hout : out + n ≤ 100 := by have := HT.out.sum; omega
          have T4 : LtI w w4 g k (cutR l r n) v4 (out + n) := ⟨HS.out.2, cutR_ok HT.out.ok hr.1 hr.2.1, by have := HT.out.sum; omega⟩
          have H4 := Lib.hid (And.intro T4 hr); clear T4 hr hcs
          by_cases h3 : i % 3 = 2
          · have h3' : ((i : Int) % 3 == 2) = true := by rw [beq_iff_eq]; omega
            have h3'' : (i % 3 == 2) = true := by rw [beq_iff_eq]; omega
            clear h3
            go_wp2_with fail
            refine (free_i H4.out.1.P H4.out.1.ok (by omega) (r.f : Int) (n : Int)).mono ?_
            rintro e w5 ⟨c5, l5, v5, rfl, hs, P5, _⟩
            obtain ⟨rfl, ok5, sum5⟩ := free_taken HT.out.ok H4.out.2 (by omega) hs
            have T5 : LtI w w5 g k l5 v5 out := ⟨P5, ok5, by have := HT.out.sum; omega⟩
            have H5 := Lib.hid T5; clear T5 P5 ok5 sum5 hs
            go_wp2_with fail
            go_meet
            case rel => exact ⟨out, l5, v5, by go_num, H5.out, fun h => absurd rfl h⟩
          · have h3' : ((i : Int) % 3 == 2) = false := by rw [beq_eq_false_iff_ne]; omega
            have h3'' : (i % 3 == 2) = false := by rw [beq_eq_false_iff_ne]; omega
            clear h3
            go_wp2_with fail
            go_meet
            case rel => exact ⟨out + n, _, v4, by go_num, H4.out.1, fun h => absurd rfl h⟩
        · obtain ⟨rfl, rfl, hbad⟩ : ca = 3 ∧ l4 = l ∧ ∀ r ∈ l, r.p < n := by
            rcases HS.out.1 with ⟨h1, _, h2, _⟩ | ⟨_, h1, _, h2, h3⟩ | ⟨_, r, hr, ha, hc, hl⟩
            · omega
            · exact ⟨h2, h3, fun r hr => by have := h1 r hr; omega⟩
            · omega
          have T4 : LtI w w4 g k l4 v4 out := ⟨HS.out.2, HT.out.ok, HT.out.sum⟩
          have H4 := Lib.hid (And.intro T4 hbad); clear T4 hbad hca
          go_wp2_with fail
          go_meet
          case rel => exact ⟨out, l4, v4, rfl, H4.out.1, fun _ => H4.out.2⟩
      case rest =>
        obtain ⟨out', l', v', rfl, T', hbad⟩ := hcut
        have hob' : out' ≤ 100 := by have := T'.sum; omega
        have hsm : sumR l' ≤ 100 := by have := T'.sum; omega
        have HT' := Lib.hid (And.intro T' hbad); clear T' hbad
        go_wp2_with fail
        refine (runs_ok wc g k v' l' HT'.out.1.P.I (okn_len6 HT'.out.1.ok (by omega))).mono ?_
        rintro e w6 ⟨vr, rfl, ho6, c6, _⟩
        obtain ⟨A6, k6, rfl⟩ := own_slice ho6
        have H6 := Lib.hid (And.intro (HT'.out.1.chg c6) ho6); clear ho6 c6
        have hll : l'.length ≤ 1000000 := okn_len6 HT'.out.1.ok (by omega)
        go_wp2_with fail
        obtain ⟨wo, rfl⟩ : ∃ wo : World, wo = wr := ⟨_, rfl⟩
        go_loopg [13, 14] (l'.length + 1) (fun gk vs idx wr => LtIn w g k out' l' v' A6 k6 gk vs idx wr)
        case atStart => exact ⟨0, by omega, by omega, rfl, rfl, H6.out.1, H6.out.2⟩
        case round =>
          obtain ⟨j, hgk2, hj, rfl, rfl, T2, ho⟩ := hrel
          by_cases ej : j < l'.length
          · obtain ⟨r, hr⟩ : ∃ r, l'[j]? = some r := ⟨l'[j], List.getElem?_eq_getElem ej⟩
            obtain ⟨g', cap, rest, hvv, hbb, hll2, hcc, hm, _⟩ := own_open ho (by omega)
            injection hvv with q1 q2 q3
            subst q1 q3
            have i0 := hbb.cellv (j * 2) (by simpa using (rc_at hr rest).1)
            have i1 := hbb.cellv (j * 2 + 1) (by simpa using (rc_at hr rest).2)
            have hj' : (j : Int) < (l'.length : Int) := by omega
            have hsum := sum_take hr
            have hle := sum_le l' (j + 1)
            have hrb := T2.ok.bd r (List.mem_of_getElem? hr)
            have hbd := HT'.out.2
            have b1 : ¬ (r.p : Int) < 1 := by omega
            have b2 : ¬ (r.f : Int) < 1 := by omega
            have b3 : ¬ (k : Int) < (r.f : Int) + (r.p : Int) := by omega
            have b3' : ¬ k < r.f + r.p := by omega
            have hw : IntKind.i64.wrap ((sumR (l'.take j) : Int) + (r.p : Int)) = ((sumR (l'.take j) + r.p : Nat) : Int) := by rw [IntKind.wrap_i64]; omega
            have hw2 : IntKind.i64.wrap ((r.f : Int) + (r.p : Int)) = (r.f : Int) + (r.p : Int) := by rw [IntKind.wrap_i64]; omega
            have d1 : decide ((r.p : Int) < 1) = false := decide_eq_false b1
            have d2 : decide ((r.f : Int) < 1) = false := decide_eq_false b2
            have d3 : decide ((k : Int) < (r.f : Int) + (r.p : Int)) = false := decide_eq_false b3
            have d3' : decide (k < r.f + r.p) = false := decide_eq_false b3'
            have hca : ((ca != 0) = false) ∨ ((ca != 0) = true ∧ ¬ (n : Int) ≤ (r.p : Int) ∧ ¬ n ≤ r.p) := by
              by_cases h : ca = 0
              · left; simpa using h
              · right
                have := hbd h r (List.mem_of_getElem? hr)
                exact ⟨by simpa using h, by omega, by omega⟩
            obtain ⟨s, hsj⟩ : ∃ s, s = sumR (l'.take j) := ⟨_, rfl⟩
            rw [← hsj] at hw hsum ⊢
            clear hsj
            have H2 := Lib.hid (And.intro T2 (And.intro ho hsum)); clear T2 ho hll2 hcc hsum hbd
            rcases hca with hca | ⟨hca, hcb, hcb'⟩
            all_goals
              cases j with
              | zero =>
                clear hr hbb
                go_wp2_with fail
                go_quiet (fail)
                go_wp2_with fail
                go_roundg (l'.length - 0)
                case measure => omega
                case rel => exact ⟨1, by omega, by omega, by rw [show (1 : Nat) = 0 + 1 from rfl, H2.out.2.2]; go_num, by go_num, H2.out.1.chg ((Chg.refl _ _).drewN _), own_drewN H2.out.2.1 _⟩
              | succ j =>
                obtain ⟨q, hq⟩ : ∃ q, l'[j]? = some q := ⟨l'[j], List.getElem?_eq_getElem (by omega)⟩
                have k0 := hbb.cellv (j * 2) (by simpa using (rc_at hq rest).1)
                have k1 := hbb.cellv (j * 2 + 1) (by simpa using (rc_at hq rest).2)
                have hnx := H2.out.1.ok.1.next hq hr
                have hqb := H2.out.1.ok.bd q (List.mem_of_getElem? hq)
                have hjn : (j : Int) < (l'.length : Int) := by omega
                have hj0 : (0 : Int) ≤ (j : Int) := by omega
                have hj1 : (j : Int) + 1 < (l'.length : Int) := by omega
                have hj2 : (0 : Int) ≤ (j : Int) + 1 := by omega
                have hj3 : ((j : Int) + 1).toNat = j + 1 := by omega
                have hj4 : IntKind.i64.wrap (j : Int) = (j : Int) := by rw [IntKind.wrap_i64]; omega
                have hj5 : decide ((0 : Int) < (j : Int) + 1) = true := decide_eq_true (by omega)
                have hw3 : IntKind.i64.wrap ((q.f : Int) + (q.p : Int)) = (q.f : Int) + (q.p : Int) := by rw [IntKind.wrap_i64]; omega
                have d4 : decide ((r.f : Int) ≤ (q.f : Int) + (q.p : Int)) = false := decide_eq_false (by omega)
                have d4' : decide (r.f ≤ q.f + q.p) = false := decide_eq_false (by omega)
                clear hr hq hbb hnx
                go_wp2_with fail
                go_quiet (fail)
                go_wp2_with fail
                go_roundg (l'.length - (j + 1))
                case measure => omega
                case rel => exact ⟨j + 1 + 1, by omega, by omega, by rw [H2.out.2.2]; go_num, by go_num, H2.out.1.chg ((Chg.refl _ _).drewN _), own_drewN H2.out.2.1 _⟩
          · obtain rfl : j = l'.length := by omega
            rw [List.take_length]
            have hT2 := T2.sum
            have H2 := Lib.hid T2; clear T2 ho ej hgk2 hj
            have w1' : IntKind.i64.wrap ((sumR l' : Int) + (out' : Int)) = (k : Int) - 1 := by rw [IntKind.wrap_i64]; omega
            have w2' : IntKind.i64.wrap ((k : Int) - 1) = (k : Int) - 1 := by rw [IntKind.wrap_i64]; omega
            go_wp2_with fail
            refine (left_ok _ g k v' l' H2.out.P.I hll (by omega)).mono ?_
            rintro e w7 ⟨rfl, c7⟩
            have H7 := Lib.hid (H2.out.chg c7); clear c7
            go_wp2_with fail
            go_roundg (xs.length - i)
            case measure => omega
            case rel => exact ⟨i + 1, out', l', v', by omega, by omega, rfl, by go_num, H7.out⟩
    · obtain rfl : i = xs.length := by omega
      clear e hgk hin
      have hi' : ¬ (xs.length : Int) < (xs.length : Int) := by omega
      go_wp2_with fail
      refine (alloc_nil wr 1).mono ?_
      rintro e w5 ⟨rfl, rfl⟩
      go_wp2_with fail
      refine (told_ok w5).mono ?_
      rintro e w6 ⟨rfl, c6⟩
      have H6 := Lib.hid (HT.out.P.c.trans c6); clear c6
      go_wp2_with fail
      refine (free_nil w6 1 1).mono ?_
      rintro e w7 ⟨rfl, rfl⟩
      go_wp2_with fail
      refine (left_nil w7).mono ?_
      rintro e w8 ⟨rfl, c8⟩
      have H8 := Lib.hid (H6.out.trans c8); clear c8
      go_wp2_with fail
      refine (runs_nil w8).mono ?_
      rintro e w9 ⟨rfl, rfl⟩
      go_wp2_with fail
      go_ret
      exact ⟨rfl, H8.out⟩
end Go.Proofs.Ytcmligooekbodaa
