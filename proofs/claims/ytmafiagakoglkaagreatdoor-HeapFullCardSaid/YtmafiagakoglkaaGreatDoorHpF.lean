/- The walk of HeapFull. -/
import Derived.Test.YtmafiagakoglkaaGreatDoorMHf
import Derived.Test.YtmafiagakoglkaaGreatDoorHpZ
import Derived.Test.YtmafiagakoglkaaGreatDoorAqR
namespace Go.Proofs.YtmafiagakoglkaaGreatDoor
open Go.RowKit Go.Maps

set_option maxHeartbeats 1600000 in
set_option maxRecDepth 100000 in
theorem rslots_ok (w : World) (q : Nat) (hq : q < 16) : Calls Tryz.prog 31 #[.int .i64 (q : Nat)] w (NwPost (.int .i64 (slK q : Nat)) w) := by
  obtain ⟨_, _, h3, h4, h5, h6, h7, h8, h9⟩ := kF hq
  have hdiv : ((pgK q : Nat) : Int) * 64 / ((szK q : Nat) : Int) = ((slK q : Nat) : Int) := by
    rw [← h7]
    exact (Int.natCast_ediv (pgK q * 64) (szK q)).symm
  have hz : (((szK q : Nat) : Int) == 0) = false := by rw [beq_eq_false_iff_ne]; omega
  have HH := Lib.hid hdiv; clear hdiv h7
  go_enter Tryz.func31, Tryz.ntmps31
  go_wp2_with fail
  refine (rsize_ok w (q : Nat)).mono ?_
  rintro e w1 ⟨rfl, c1⟩
  rw [szI_nat hq]
  have HC1 := Lib.hid c1; clear c1
  go_wp2_with fail
  refine (rpages_ok w1 q hq).mono ?_
  rintro e w2 ⟨rfl, c2⟩
  have HC2 := Lib.hid (HC1.out.trans c2); clear c2
  go_wp2_with fail
  refine (rsize_ok w2 (q : Nat)).mono ?_
  rintro e w3 ⟨rfl, c3⟩
  rw [szI_nat hq]
  have HC3 := Lib.hid (HC2.out.trans c3); clear c3
  have hs0 : ¬ ((szK q : Nat) : Int) = 0 := by omega
  have hs1 : ¬ szK q = 0 := by omega
  go_wp2_with fail
  go_ret
  exact ⟨by rw [← HH.out]; rfl, HC3.out⟩
structure FuK (W : World) (gh P npg bb : Nat) (H : HpH) (A : HpA) (b : Nat) (w : World) : Prop where
  gh : H.gh = gh
  Q : HpS W w H A 64 b
  I : HpI A none
  P : A.P = P
  b : b ≤ bb
theorem FuK.chg0 {W w w' : World} {gh P npg bb b : Nat} {H : HpH} {A : HpA} (J : FuK W gh P npg bb H A b w) (c : Chg [] w w') : FuK W gh P npg bb H A b w' := ⟨J.gh, J.Q.chg0 c, J.I, J.P, J.b⟩
theorem FuK.alloc {W w w' : World} {gh P npg bb b q m got n p : Nat} {H : HpH} {A : HpA} {e : Ending} (J : FuK W gh P npg bb H A b w) (K : FuA A npg q m got) (hq : q < 16) (hn : npg ≤ 64) (hof : OfSays n q) (hp : p < P) (hpost : HaPost W w H A 64 b p n false e w') :
    ∃ x Av nv cv c H' A' b', e = .returned (.tuple #[.int .i64 (x : Nat), .slice Av nv cv, .int .i64 c]) ∧ FuK W gh P npg (bb + 7) H' A' b' w' ∧ (∀ p' k', p' ≠ p → A'.own p' k' = A.own p' k') ∧ (A.r (q * 4) = [] → A'.r (q * 4) = []) ∧
    ((c = 0 ∧ ∃ m', FuA A' npg q m' (got + 1)) ∨ (c = 3 ∧ FuA A' npg q m got ∧ m = (npg - 1) / pgK q ∧ A'.own p q = -1 ∧ A'.r (q * 4) = [])) := by
  obtain ⟨q', x, gone, c, vg, A', N', b', H', hof', hal, rfl, hN', hb', hE, Q', t', L', ln', I'⟩ := hpost
  obtain rfl := hof.uniq hof'
  obtain ⟨Av, nv, cv, rfl⟩ := L'.o.slice'
  obtain ⟨-, h1, h2, h3, h4, h5⟩ := hal.ful K J.I J.Q.S.I hn (by rw [J.P]; exact hp) hq
  have low : ∀ id s, A'.a.sp id = some s → id < 64 := fun id s hs => by
    rcases h5 with ⟨-, m', K'⟩ | ⟨-, K', -⟩
    · have := K'.lt hs; have := K'.m64 hq hn; omega
    · have := K'.lt hs; have := K'.m64 hq hn; omega
  exact ⟨x, Av, nv, cv, c, H', A', b', rfl, ⟨hE.gh.trans J.gh, Q'.low low, I', h1.trans J.P, by have := J.b; omega⟩, h3, h4, h5⟩
theorem FuK.up {W w : World} {gh P npg bb bb' b : Nat} {H : HpH} {A : HpA} (J : FuK W gh P npg bb H A b w) (h : bb ≤ bb') : FuK W gh P npg bb' H A b w := ⟨J.gh, J.Q, J.I, J.P, Nat.le_trans J.b h⟩
theorem most_le {npg q : Nat} (hq : q < 16) : (npg - 1) / pgK q * slK q ≤ npg * 64 := by
  have key : ∀ q : Fin 16, slK q.val ≤ pgK q.val * 64 := by decide
  have h1 : slK q ≤ pgK q * 64 := key ⟨q, hq⟩
  have h2 : (npg - 1) / pgK q * slK q ≤ (npg - 1) / pgK q * (pgK q * 64) := Nat.mul_le_mul_left _ h1
  have h3 : (npg - 1) / pgK q * pgK q ≤ npg - 1 := Nat.div_mul_le_self _ _
  have h4 : (npg - 1) / pgK q * (pgK q * 64) = (npg - 1) / pgK q * pgK q * 64 := by rw [Nat.mul_assoc]
  have h5 : (npg - 1) / pgK q * pgK q * 64 ≤ (npg - 1) * 64 := Nat.mul_le_mul_right _ h3
  omega
def Fu1Rel (W : World) (gh P npg q : Nat) (gk : Nat) (v14 : Value) (w : World) : Prop :=
  ∃ r H A b m, gk + r = 3 ∧ r ≤ 2 ∧ v14 = .int .i64 (r : Nat) ∧ FuK W gh P npg (r * 300000) H A b w ∧ FuA A npg q m 0 ∧ ∀ p k, p < A.P → k < 16 → A.own p k = -1
def Fu2Rel (W : World) (gh P npg q n b0 : Nat) (gk : Nat) (v15 v16 : Value) (w : World) : Prop :=
  ∃ i H A b m, gk + i = n + 11 ∧ i ≤ n + 10 ∧ v15 = .int .i64 (i : Nat) ∧ v16 = .int .i64 (i : Nat) ∧ FuK W gh P npg (b0 + 7 * i) H A b w ∧ FuA A npg q m i
def Fu3Rel (W : World) (gh P npg q b0 : Nat) (gk : Nat) (v15 v20 : Value) (w : World) : Prop :=
  ∃ t got H A b, gk + t = P + 1 ∧ t ≤ P ∧ v15 = .int .i64 (got : Nat) ∧ v20 = .int .i64 (t : Nat) ∧ FuK W gh P npg (b0 + 28756 * (t + 1)) H A b w ∧ FuA A npg q ((npg - 1) / pgK q) got ∧ A.r (q * 4) = [] ∧ ∀ p, p < t → A.own p q = -1
def Fu4Rel (W : World) (gh P npg q n b0 t : Nat) (gk : Nat) (v15 v21 : Value) (w : World) : Prop :=
  ∃ i got H A b m, gk + i = n + 11 ∧ i ≤ n + 10 ∧ i ≤ got ∧ v15 = .int .i64 (got : Nat) ∧ v21 = .int .i64 (i : Nat) ∧ FuK W gh P npg (b0 + 28756 * (t + 1) + 7 * i) H A b w ∧ FuA A npg q m got ∧ A.r (q * 4) = [] ∧ ∀ p, p < t → A.own p q = -1
def Fu5Rel (W : World) (gh P npg q n b0 : Nat) (gk : Nat) (v25 : Value) (w : World) : Prop :=
  ∃ gone got H A b, gk = unsN A.r 16 + 1 ∧ v25 = .int .i64 (gone : Nat) ∧ gone + got = n ∧ FuK W gh P npg b0 H A b w ∧ FsA A npg q ((npg - 1) / pgK q) got
set_option maxHeartbeats 12800000 in
set_option maxRecDepth 100000 in
theorem full9_any (words n ps : Int) (W : World) (T0 : Tab W) : Calls Tryz.prog 7 #[.int .i64 words, .int .i64 n, .int .i64 ps] W (TdPost9 W) := by
  have HT := Lib.hid T0; clear T0
  obtain ⟨j, hj, ej⟩ := mod_n words 61 (by decide) (by decide)
  obtain ⟨k0, hk0, ek0⟩ := mod_n n 256 (by decide) (by decide)
  obtain ⟨p0, hp0, ep0⟩ := mod_n ps 4 (by decide) (by decide)
  have e1 : wrap64 ((IntKind.u64.wrap words).tmod 61) = (j : Int) := ej
  have e2 : wrap64 ((IntKind.u64.wrap n).tmod 256) = (k0 : Int) := ek0
  have e3 : wrap64 ((IntKind.u64.wrap ps).tmod 4) = (p0 : Int) := ep0
  have e4 : wrap64 (64 * (j : Int)) = 64 * (j : Int) := by unfold wrap64; omega
  have e5 : wrap64 (256 + 64 * (j : Int)) = (((j + 4) * 64 : Nat) : Int) := by unfold wrap64; omega
  have e6 : wrap64 (1 + (k0 : Int)) = ((k0 + 1 : Nat) : Int) := by unfold wrap64; omega
  have e7 : wrap64 (1 + (p0 : Int)) = ((p0 + 1 : Nat) : Int) := by unfold wrap64; omega
  have HE := Lib.hid (And.intro e1 (And.intro e2 (And.intro e3 (And.intro e4 (And.intro e5 (And.intro e6 e7)))))); clear e1 e2 e3 e4 e5 e6 e7 ej ek0 ep0
  go_enter Tryz.func7, Tryz.ntmps7
  go_upto_region 2 with fail
  rw [HE.out.1, HE.out.2.1, HE.out.2.2.1, HE.out.2.2.2.1, HE.out.2.2.2.2.1, HE.out.2.2.2.2.2.1, HE.out.2.2.2.2.2.2]
  obtain ⟨npg, hnpg⟩ : ∃ npg, npg = j + 4 := ⟨_, rfl⟩
  obtain ⟨w64, hw64⟩ : ∃ w64, w64 = (j + 4) * 64 := ⟨_, rfl⟩
  obtain ⟨k, hk⟩ : ∃ k, k = k0 + 1 := ⟨_, rfl⟩
  obtain ⟨P, hP⟩ : ∃ P, P = p0 + 1 := ⟨_, rfl⟩
  rw [← hw64, ← hk, ← hP]
  have hn4 : 4 ≤ npg := by omega
  have hn64 : npg ≤ 64 := by omega
  have hwn : w64 = npg * 64 := by rw [hnpg]; exact hw64
  have hk1 : 1 ≤ k := by omega
  have hk2 : k ≤ 256 := by omega
  have hP1 : 1 ≤ P := by omega
  have hP4 : P ≤ 4 := by omega
  have hw4 : w64 ≤ 4096 := by omega
  have HW := Lib.hid hwn
  clear HE hj hk0 hp0 hnpg hw64 hk hP hwn
  go_wp2_with fail
  refine (hnew_ok W npg P (w64 : Nat) (by rw [HW.out]) hn4 (by omega) hP1 (by omega)).mono ?_
  rintro e w1 ⟨H0, rfl, Q⟩
  have HQ := Lib.hid Q; clear Q
  go_wp2_with fail
  refine (harena_ok HQ.out).mono ?_
  rintro e w2 ⟨rfl, rfl⟩
  go_wp2_with fail
  refine (rof_ok w2 k hk1 hk2).mono ?_
  rintro e w3 ⟨q, hof, rfl, c3⟩
  have hq := hof.1
  have H3 := Lib.hid (HQ.out.chg0 c3); clear c3 HQ
  go_upto_region 6 with fail
  obtain ⟨_, _, _, _, g5, g6, _, g8, g9⟩ := kF hq
  obtain ⟨pg, hpg⟩ : ∃ pg, pg = pgK q := ⟨_, rfl⟩
  obtain ⟨sl, hsl⟩ : ∃ sl, sl = slK q := ⟨_, rfl⟩
  have kP := fun (w' : World) => rpages_ok w' q hq
  have kS := fun (w' : World) => rslots_ok w' q hq
  rw [← hpg] at g5 g6 kP
  rw [← hsl] at g8 g9 kS
  have hKP := Lib.hid (And.intro kP kS); clear kP kS
  have HPG := Lib.hid (And.intro hpg hsl); clear hpg hsl
  obtain ⟨most, hmost⟩ : ∃ most, most = (npg - 1) / pg * sl := ⟨_, rfl⟩
  have hM1 : (npg - 1) / pg ≤ 63 := Nat.le_trans (Nat.div_le_self _ _) (by omega)
  have hM2 : (npg - 1) / pg * sl ≤ 63 * 64 := Nat.mul_le_mul hM1 g9
  have e13 : IntKind.i64.wrap (((npg : Int) - 1) / (pg : Int) * (sl : Int)) = (most : Int) := by
    rw [show ((npg : Int) - 1) = ((npg - 1 : Nat) : Int) by omega, ← Int.natCast_ediv, ← Int.natCast_mul, ← hmost, IntKind.wrap_i64]
    omega
  have e14 : IntKind.i64.wrap (IntKind.i64.wrap ((IntKind.i64.wrap (IntKind.i64.wrap (npg : Int) - 1)).tdiv (pg : Int)) * (sl : Int)) = (most : Int) := by
    have u1 : IntKind.i64.wrap (npg : Int) = (npg : Int) := by rw [IntKind.wrap_i64]; omega
    have u2 : IntKind.i64.wrap ((npg : Int) - 1) = ((npg - 1 : Nat) : Int) := by rw [IntKind.wrap_i64]; omega
    have u3 : ((npg - 1 : Nat) : Int).tdiv (pg : Int) = (((npg - 1) / pg : Nat) : Int) := by rw [Int.tdiv_eq_ediv_of_nonneg (by omega), ← Int.natCast_ediv]
    have u4 : IntKind.i64.wrap (((npg - 1) / pg : Nat) : Int) = (((npg - 1) / pg : Nat) : Int) := by
      generalize (npg - 1) / pg = M at hM1
      rw [IntKind.wrap_i64]; omega
    rw [u1, u2, u3, u4, ← Int.natCast_mul, ← hmost, IntKind.wrap_i64]
    omega
  have hmb : most ≤ 4032 := by rw [hmost]; exact hM2
  have HM := Lib.hid (And.intro e13 (And.intro hmost e14)); clear e13 hM1 hM2 hmost e14
  have d1 : (w64 : Int) / 64 = (npg : Int) := by have := HW.out; omega
  have d2 : IntKind.i64.wrap ((npg : Int) - 1) = (npg : Int) - 1 := by rw [IntKind.wrap_i64]; omega
  have d3 : ¬ (pg : Int) = 0 := by omega
  have d3' : ¬ pg = 0 := by omega
  have d4 : ((pg : Int) == 0) = false := by rw [beq_eq_false_iff_ne]; omega
  have d4' : (pg == 0) = false := by rw [beq_eq_false_iff_ne]; omega
  have k0 : Chg [] w3 w3.drew := (Chg.refl [] w3).drew
  go_cut [13] from 63 to 71 (fun v wc => v = .int .i64 (most : Nat) ∧ Chg [] w3 wc)
  case first =>
    go_region_held3 (fun w' => Chg [] w3 w') (first | assumption | exact Chg.drew (by assumption))
      (first
        | (go_at_call 29; refine (hKP.out.1 _).mono ?_; rintro e w' ⟨rfl, cw⟩; have D : Chg [] w3 w' := Chg.trans (by repeat (first | assumption | exact Chg.refl [] w3 | refine Chg.drew ?_)) cw)
        | (go_at_call 31; refine (hKP.out.2 _).mono ?_; rintro e w' ⟨rfl, cw⟩; have D : Chg [] w3 w' := Chg.trans (by repeat (first | assumption | exact Chg.refl [] w3 | refine Chg.drew ?_)) cw))
    all_goals (go_wp2_with fail)
    all_goals (go_meet)
    all_goals (exact ⟨by first | rw [HM.out.1] | rw [HM.out.2.2], by assumption⟩)
  case rest =>
    obtain ⟨rfl, C6⟩ := hcut
    have H6 := Lib.hid (H3.out.chg0 C6); clear C6 k0 d1 d2 d3 d3' d4 d4'
    have hPG := HPG.out
    have hmE : most = (npg - 1) / pgK q * slK q := by rw [HM.out.2.1, hPG.1, hPG.2]
    have hmw : most ≤ w64 := by rw [hmE, HW.out]; exact most_le hq
    have HME := Lib.hid hmE; clear hmE hPG HM HPG hKP H3 g5 g6 g8 g9
    have J0 : FuK W H0.gh P npg 0 H0 (hp0 npg P) 0 wc := ⟨rfl, H6.out.low (fun id s hs => (by cases hs)), hp0_inv npg P (by omega), rfl, Nat.le_refl _⟩
    have HJ0 := Lib.hid (And.intro J0 (FuA.new npg q P (by omega))); clear J0 H6
    have HOF := Lib.hid hof; clear hof
    go_wp2_with fail
    go_loopg [14] 3 (fun gk v14 wr => Fu1Rel W H0.gh P npg q gk v14 wr)
    case atStart => exact ⟨0, H0, _, 0, 0, by omega, by omega, rfl, by rw [Nat.zero_mul]; exact HJ0.out.1, HJ0.out.2, fun p k _ _ => rfl⟩
    case round =>
      clear HJ0
      obtain ⟨r, H, A9, b, m, hgk, hr, rfl, J, K, ho⟩ := hrel
      by_cases er : r < 2
      · have hr' : (r : Int) < 2 := by omega
        have HJ := Lib.hid (And.intro J K); clear J K ho
        obtain ⟨b0, hb0⟩ : ∃ b0, b0 = r * 300000 := ⟨_, rfl⟩
        have hb00 : b0 ≤ 300000 := by omega
        have HB0 := Lib.hid hb0; clear hb0
        go_wp2_with fail
        go_loopg [15, 16] (w64 + 11) (fun gk v15 v16 wr => Fu2Rel W H0.gh P npg q w64 b0 gk v15 v16 wr)
        case atStart => exact ⟨0, H, A9, b, m, by omega, by omega, rfl, rfl, HJ.out.1.up (by have := HB0.out; omega), HJ.out.2⟩
        case round =>
          clear HJ
          obtain ⟨i, H, A9, b, m, hgk2, hi, rfl, rfl, J, K⟩ := hrel
          have hmx := K.most hq hn64
          rw [← HME.out] at hmx
          by_cases ei : i < w64 + 10
          · have hi' : (i : Int) < (w64 : Int) + 10 := by omega
            have hx0 : ¬ P = 0 := by omega
            have hx1 : ¬ (P : Int) = 0 := by omega
            have hem : (i : Int) % (P : Int) = ((i % P : Nat) : Int) := (Int.natCast_emod i P).symm
            have hip : i % P < P := Nat.mod_lt _ (by omega)
            have HEM := Lib.hid hem; clear hem
            have HJ := Lib.hid (And.intro J K); clear J K
            have hbb := HJ.out.1.b
            go_wp2_with fail
            rw [HEM.out]
            obtain ⟨pi, hpi⟩ : ∃ pi, pi = i % P := ⟨_, rfl⟩
            rw [← hpi] at hip ⊢
            clear hpi
            have kk := halloc_ok W wr H A9 64 b HJ.out.1.Q HJ.out.1.I HT.out (by omega) (by omega) pi k (by rw [HJ.out.1.P]; exact hip) hk1 hk2 false
            rw [HJ.out.1.gh] at kk
            refine kk.mono ?_
            clear kk
            intro e2 w4 hpost
            obtain ⟨x, Av, nv, cv, c, H4, A4, b4, rfl, J4, ho4, hr4, hcase⟩ := HJ.out.1.alloc HJ.out.2 hq hn64 HOF.out hip hpost
            rcases hcase with ⟨rfl, m4, K4⟩ | ⟨rfl, K4, hm4, ho5, hr5⟩
            · have H4' := Lib.hid (And.intro J4 K4); clear J4 K4 ho4 hr4 hpost
              go_wp2_with fail
              go_roundg (w64 + 10 - i)
              case measure => omega
              case rel => exact ⟨i + 1, H4, A4, b4, m4, by omega, by omega, by go_num, by go_num, ⟨H4'.out.1.gh, H4'.out.1.Q, H4'.out.1.I, H4'.out.1.P, by have := H4'.out.1.b; omega⟩, H4'.out.2⟩
            · have H4' := Lib.hid (And.intro J4 (And.intro K4 (And.intro hm4 (And.intro ho5 hr5)))); clear J4 K4 ho4 hr4 hpost hm4 ho5 hr5
              go_wp2_with fail
              go_loopg [15, 20] (P + 1) (fun gk v15 v20 wr => Fu3Rel W H0.gh P npg q b0 gk v15 v20 wr)
              case atStart => exact ⟨0, i, H4, A4, b4, by omega, by omega, rfl, rfl, H4'.out.1.up (by omega), by rw [← H4'.out.2.2.1]; exact H4'.out.2.1, H4'.out.2.2.2.2, fun p hp => by omega⟩
              case round =>
                clear H4' HJ hbb HEM
                obtain ⟨t, got, H, A9, b, hgk3, ht, rfl, rfl, J, K, hrow, hown⟩ := hrel
                have hmx := K.most hq hn64
                rw [← HME.out] at hmx
                have HJ := Lib.hid (And.intro J (And.intro K (And.intro hrow hown))); clear J K hrow hown
                by_cases et : t < P
                · have ht' : (t : Int) < (P : Int) := by omega
                  go_wp2_with fail
                  go_loopg [15, 21] (w64 + 11) (fun gk v15 v21 wr => Fu4Rel W H0.gh P npg q w64 b0 t gk v15 v21 wr)
                  case atStart => exact ⟨0, got, H, A9, b, _, by omega, by omega, by omega, rfl, rfl, HJ.out.1.up (by omega), HJ.out.2.1, HJ.out.2.2.1, HJ.out.2.2.2⟩
                  case round =>
                    clear HJ hmx
                    obtain ⟨i, got, H, A9, b, m, hgk4, hi, hig, rfl, rfl, J, K, hrow, hown⟩ := hrel
                    have hmx := K.most hq hn64
                    rw [← HME.out] at hmx
                    have HJ := Lib.hid (And.intro J (And.intro K (And.intro hrow hown))); clear J K hrow hown
                    by_cases ei : i < w64 + 10
                    · have hi' : (i : Int) < (w64 : Int) + 10 := by omega
                      have hbb := HJ.out.1.b
                      go_wp2_with fail
                      have kk := halloc_ok W wr H A9 64 b HJ.out.1.Q HJ.out.1.I HT.out (by omega) (by omega) t k (by rw [HJ.out.1.P]; exact et) hk1 hk2 false
                      rw [HJ.out.1.gh] at kk
                      refine kk.mono ?_
                      clear kk
                      intro e2 w4 hpost
                      obtain ⟨x, Av, nv, cv, c, H4, A4, b4, rfl, J4, ho4, hr4, hcase⟩ := HJ.out.1.alloc HJ.out.2.1 hq hn64 HOF.out et hpost
                      rcases hcase with ⟨rfl, m4, K4⟩ | ⟨rfl, K4, hm4, ho5, hr5⟩
                      · have H4' := Lib.hid (And.intro J4 (And.intro K4 (And.intro ho4 (hr4 HJ.out.2.2.1)))); clear J4 K4 ho4 hr4 hpost
                        go_wp2_with fail
                        go_roundg (w64 + 10 - i)
                        case measure => omega
                        case rel => exact ⟨i + 1, got + 1, H4, A4, b4, m4, by omega, by omega, by omega, by go_num, by go_num, H4'.out.1.up (by omega), H4'.out.2.1, H4'.out.2.2.2, fun p hp => by rw [H4'.out.2.2.1 p q (by omega)]; exact HJ.out.2.2.2 p hp⟩
                      · have H4' := Lib.hid (And.intro J4 (And.intro K4 (And.intro hm4 (And.intro ho5 (And.intro hr5 ho4))))); clear J4 K4 ho4 hr4 hpost hm4 ho5 hr5
                        go_wp2_with fail
                        go_roundg (P - t)
                        case measure => omega
                        case rel =>
                          exact ⟨t + 1, got, H4, A4, b4, by omega, by omega, rfl, by go_num, H4'.out.1.up (by omega), by rw [← H4'.out.2.2.1]; exact H4'.out.2.1, H4'.out.2.2.2.2.1, fun p hp => by
                            by_cases ep : p = t
                            · rw [ep]; exact H4'.out.2.2.2.1
                            · rw [H4'.out.2.2.2.2.2 p q ep]; exact HJ.out.2.2.2 p (by omega)⟩
                    · exfalso
                      omega
                · obtain rfl : t = P := by omega
                  have ht' : ¬ (t : Int) < (t : Int) := by omega
                  have hgm : got = most := by
                    rw [HME.out]
                    exact HJ.out.2.1.full HJ.out.1.I hq hn64 (fun p hp => HJ.out.2.2.2 p (by rw [HJ.out.1.P] at hp; exact hp)) HJ.out.2.2.1
                  subst hgm
                  clear et ht
                  have hgb := HJ.out.1.b
                  have low : ∀ id s, A9.a.sp id = some s → id < 64 := fun id s hs => by have := HJ.out.2.1.lt hs; have := HJ.out.2.1.m64 hq hn64; omega
                  have HLOW := Lib.hid low; clear low
                  go_wp2_with fail
                  have kk := harena_ok HJ.out.1.Q
                  rw [HJ.out.1.gh] at kk
                  refine kk.mono ?_
                  clear kk
                  rintro e8 w9 ⟨rfl, rfl⟩
                  go_wp2_with fail
                  refine (s_objects HJ.out.1.Q.S (by omega)).mono ?_
                  rintro e9 w10 ⟨v9, ks, rfl, O9, c9, f9, r9, m9⟩
                  have hkl : ks.length = got := (objs_len HJ.out.1.Q.S.I HLOW.out r9 m9).trans HJ.out.2.1.tot
                  obtain ⟨A0, c0, rfl⟩ := O9.slice
                  rw [hkl]
                  have HJ1 := Lib.hid (HJ.out.1.chg0 c9); clear O9 c9 f9 r9 m9 hkl
                  go_wp2_with fail
                  have kk := hbegin_ok W w10 H A9 64 b HJ1.out.Q HJ1.out.I HT.out (by decide)
                  rw [HJ1.out.gh] at kk
                  refine kk.mono ?_
                  clear kk
                  rintro e5 w5 (⟨h1, -⟩ | ⟨-, rfl, r1, hF, I1, H1, hE, Q1, t1⟩)
                  · have h2 : unsN A9.r 16 = 0 := unsN_zero.2 fun k _ => ⟨HJ.out.2.1.unz _ (by omega), HJ.out.2.1.unz _ (by omega)⟩
                    omega
                  obtain ⟨A1, hA1⟩ : ∃ A1 : HpA, A1 = { A9 with r := bgR r1 32, own := faO A9.own A9.P } := ⟨_, rfl⟩
                  have hrows := begin_rows HJ1.out.I HJ.out.2.1.unz hF
                  rw [← hA1] at I1 Q1 t1
                  have hfo : ∀ p k, p < A1.P → k < 16 → A1.own p k = -1 := fun p k hp hk => by rw [hA1] at hp ⊢; exact faO_all _ hp hk
                  have C1 : FsA A1 npg q ((npg - 1) / pgK q) got := HJ.out.2.1.begin (by rw [hA1]) hfo (fun id s hs => all_wait (A := A1) I1 hfo (fun j hj => by rw [hA1]; exact hrows j hj) (by rw [hA1]; exact hs))
                  have J1 : FuK W H0.gh t npg 500000 H1 A1 b w5 := ⟨hE.gh.trans HJ1.out.gh, Q1, I1, by rw [hA1]; exact HJ1.out.P, by omega⟩
                  have HK := Lib.hid (And.intro J1 C1); clear J1 C1 I1 Q1 t1 hE hF hrows hA1 hfo HJ HJ1 HLOW
                  go_wp2_with fail
                  go_loopg [25] (unsN A1.r 16 + 1) (fun gk v25 wr => Fu5Rel W H0.gh t npg q got b gk v25 wr)
                  case atStart => exact ⟨0, got, H1, A1, b, rfl, rfl, by omega, ⟨HK.out.1.gh, HK.out.1.Q, HK.out.1.I, HK.out.1.P, Nat.le_refl _⟩, HK.out.2⟩
                  case round =>
                    clear HK
                    obtain ⟨gone, gt, H, A9, b9, hgk5, rfl, hsum, J, K⟩ := hrel
                    have HJ := Lib.hid (And.intro J K); clear J K
                    have hgb9 := HJ.out.1.b
                    go_wp2_with fail
                    have kk := hsweep_ok W wr H A9 64 b9 HJ.out.1.Q HT.out (HJ.out.1.I.B HJ.out.1.Q.S.I.ok (by decide)) (by decide) (fun j _ x hx => by obtain ⟨-, s, hs, -⟩ := HJ.out.1.I.r j x hx; exact ⟨s, hs⟩)
                    rw [HJ.out.1.gh] at kk
                    refine kk.mono ?_
                    clear kk
                    rintro e7 w8 (⟨hno, rfl, c8⟩ | ⟨k8, f, x, xs8, s, u, h8, v8, r8, hk8, hf, hr, hs, hput, rfl, Q8, t8, L8, hga, hnew⟩)
                    · have hun : ∀ j, 2 ≤ j % 4 → A9.r j = [] := fun j hj => HJ.out.1.I.unz (unsN_zero.2 fun k hk => hno k hk) hj
                      obtain ⟨h0, K8, hlive, -⟩ := HJ.out.2.done HJ.out.1.Q.S.I hun
                      subst h0
                      have H8 := Lib.hid (And.intro (HJ.out.1.chg0 c8) (And.intro K8 (And.intro hlive HJ.out.2.own))); clear c8 hno hun K8 HJ hlive
                      have hgg : gone = got := by omega
                      subst hgg
                      clear hsum
                      go_wp2_with fail
                      have kk := harena_ok H8.out.1.Q
                      rw [H8.out.1.gh] at kk
                      refine kk.mono ?_
                      clear kk
                      rintro e8 w9 ⟨rfl, rfl⟩
                      go_wp2_with fail
                      have kk := s_live H8.out.1.Q.S
                      rw [H8.out.2.2.1] at kk
                      refine kk.mono ?_
                      clear kk
                      rintro e9 w10 ⟨rfl, rfl⟩
                      go_wp2_with fail
                      go_roundg (2 - r)
                      case measure => omega
                      case rel => exact ⟨r + 1, H, A9, b9, _, by omega, by omega, by go_num, H8.out.1.up (by have := HB0.out; omega), H8.out.2.1, H8.out.2.2.2⟩
                    · have e4 : (k8 * 4 + 2 + f) / 4 = k8 := by clear hput; omega
                      have hP4 : PutTo (sweepA A9.a x s (sweptL s).length) (updV A9.r (k8 * 4 + 2 + f) xs8) ((k8 * 4 + 2 + f) / 4) x r8 := by rw [e4]; exact hput
                      have h416 : (k8 * 4 + 2 + f) / 4 < 16 := by rw [e4]; exact hk8
                      have I8 := HpI.swept (j := k8 * 4 + 2 + f) (n := (sweptL s).length) (r' := r8) HJ.out.1.I hr hs h416 hP4
                      have hu := swept_uns (k := k8) (f := f) HJ.out.1.I hk8 hf hr hput
                      obtain ⟨g8, K8, hg8⟩ := HJ.out.2.sweep (j0 := k8 * 4 + 2 + f) HJ.out.1.I HJ.out.1.Q.S.I hr hs hput (HJ.out.1.Q.S.I.ok.top x s hs)
                      have hul : (intsN ((sweptL s).map s.addr)).length = (sweptL s).length := by unfold intsN; rw [List.length_map, List.length_map]
                      obtain ⟨Au, cu, rfl⟩ : ∃ Au cu, u = .slice Au (sweptL s).length cu := by
                        obtain ⟨Au, cu, h⟩ := L8.o.slice
                        exact ⟨Au, cu, by rw [h, hul]⟩
                      obtain ⟨ul, hull⟩ : ∃ ul, ul = (sweptL s).length := ⟨_, rfl⟩
                      obtain ⟨A8, hA8⟩ : ∃ A8 : HpA, A8 = { A9 with a := sweepA A9.a x s (sweptL s).length, r := r8 } := ⟨_, rfl⟩
                      rw [← hA8] at Q8 I8 K8
                      have eun : unsN A8.r 16 + 1 = unsN A9.r 16 := by rw [hA8]; exact hu
                      have eP : A8.P = t := by rw [hA8]; exact HJ.out.1.P
                      have J8 : FuK W H0.gh t npg b { H with ah := h8, v := v8 } A8 b9 w8 := ⟨HJ.out.1.gh, Q8, I8, eP, HJ.out.1.b⟩
                      rw [← hull] at hg8 ⊢
                      have H8 := Lib.hid (And.intro J8 (And.intro K8 eun)); clear J8 K8 eun Q8 t8 L8 hput hP4 hr hs hnew hga hu I8 hA8 hul hull eP HJ
                      go_wp2_with fail
                      go_roundg (unsN A8.r 16 + 1)
                      case measure => have := H8.out.2.2; omega
                      case rel => exact ⟨gone + ul, g8, { H with ah := h8, v := v8 }, A8, b9, rfl, by go_num, by omega, H8.out.1, H8.out.2.1⟩
          · exfalso
            have := K.most hq hn64
            omega
      · obtain rfl : r = 2 := by omega
        have hr' : ¬ (2 : Int) < 2 := by omega
        have HJ := Lib.hid (And.intro J (And.intro K ho)); clear J K ho er hr
        have hgb := HJ.out.1.b
        go_wp2_with fail
        refine (told9_ok wr (HT.out.chg HJ.out.1.Q.S.c (by simp))).mono ?_
        rintro e4 w8 ⟨rfl, c8⟩
        have HC := Lib.hid (HJ.out.1.chg0 c8); clear c8
        go_wp2_with fail
        have kk := hdrop_ok W w8 H A9 64 b HC.out.Q HC.out.I (by decide) (by omega)
        rw [HC.out.gh] at kk
        refine kk.mono ?_
        clear kk
        rintro e6 w11 ⟨ks, C5, nd, hrise, hks, hdr, rfl, IC, HC5, hEC, QC, tC⟩
        have hsum : sumR C5.a.l = npg - 1 := HJ.out.2.1.drops HC.out.Q.S.I hq hn64 (fun id s hs => HJ.out.2.1.zero hq hn64 hs) HJ.out.2.2 hdr hrise hks
        have hnd0 : (0 : Int) ≤ (nd : Int) := by omega
        have hgh5 : HC5.gh = H0.gh := hEC.gh.trans HC.out.gh
        have H11 := Lib.hid (And.intro QC hsum); clear QC tC hEC hdr hrise hks IC hsum
        go_wp2_with fail
        have kk := harena_ok H11.out.1
        rw [hgh5] at kk
        refine kk.mono ?_
        clear kk
        rintro e7 w12 ⟨rfl, rfl⟩
        have kk := s_left H11.out.1.S (okn_len6 H11.out.1.S.I.ok.ok H11.out.1.S.I.ok.n) (by rw [H11.out.2]; omega)
        rw [H11.out.2] at kk
        have d1 : (w64 : Int) / 64 = (npg : Int) := by have := HW.out; omega
        have d5 : (((npg - 1 : Nat) : Int) == (npg : Int) - 1) = true := by rw [beq_iff_eq]; omega
        go_wp2_with fail
        refine kk.mono ?_
        clear kk
        rintro e8 w13 ⟨rfl, c13⟩
        have H13 := Lib.hid (H11.out.1.S.c.trans c13); clear c13 H11
        go_wp2_with fail
        go_ret
        exact ⟨by first | rfl | simp [d5] | (rw [d5]; rfl), H13.out⟩
end Go.Proofs.YtmafiagakoglkaaGreatDoor
