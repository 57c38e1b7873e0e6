/- The walk of HeapDrops. -/
import Derived.Test.YtmafiagakoglkaaGreatDoorHpD1
import Derived.Test.YtmafiagakoglkaaGreatDoorHpZ
import Derived.Test.YtmafiagakoglkaaGreatDoorHpSw
import Derived.Test.YtmafiagakoglkaaGreatDoorAqR
namespace Go.Proofs.YtmafiagakoglkaaGreatDoor
open Go.RowKit Go.Maps

theorem isO_bd (f : Nat → Option Sp) : ∀ n, smO isO f n ≤ n
  | 0 => Nat.le_refl _
  | n + 1 => by
    rw [smO]
    have h1 := isO_bd f n
    have h2 : isO (f n) ≤ 1 := by unfold isO; split <;> omega
    omega
/-- What all loops keep. -/
structure DpK (W : World) (gh ga i : Nat) (H : HpH) (A : HpA) (N b : Nat) (w : World) : Prop where
  gh : H.gh = gh
  ga : H.ah.ga = ga
  Q : HpS W w H A N b
  I : HpI A none
  P : A.P = 1
  n : A.a.n = 256
  N : N ≤ i
  b : b ≤ 7 * i
theorem DpK.chg0 {W w w' : World} {gh ga i : Nat} {H : HpH} {A : HpA} {N b : Nat} (J : DpK W gh ga i H A N b w) (c : Chg [] w w') : DpK W gh ga i H A N b w' := ⟨J.gh, J.ga, J.Q.chg0 c, J.I, J.P, J.n, J.N, J.b⟩
def Dp1Rel (W : World) (gh ga n : Nat) (gk : Nat) (idx : Value) (w : World) : Prop :=
  ∃ i H A N b, gk + i = n + 1 ∧ i ≤ n ∧ idx = .int .i64 (i : Nat) ∧ DpK W gh ga i H A N b w ∧ DfA A i
def Dp2Rel (W : World) (gh ga S : Nat) (gk : Nat) (_u11 _u12 : Value) (w : World) : Prop :=
  ∃ H A N b, gk = unsN A.r 16 + 1 ∧ DpK W gh ga 30 H A N b w ∧ DsA A S
set_option maxHeartbeats 6400000 in
set_option maxRecDepth 100000 in
theorem drops9_any (A : Option Addr) (c : Nat) (xs : List Int) (W : World) (T0 : Tab W) (hA : IntsAt W W.heap.size A xs) (hm : xs.length ≤ maxLen) : Calls Tryz.prog 5 #[.slice A xs.length c] W (TdPost9 W) := by
  have HT := Lib.hid (And.intro T0 hA); clear T0 hA
  by_cases hl : 30 < xs.length
  · have d2 : (30 : Int) < (xs.length : Int) := by omega
    go_enter Tryz.func5, Tryz.ntmps5
    go_wp2_with fail
    refine (told9_ok W HT.out.1).mono ?_
    rintro e w1 ⟨rfl, c1⟩
    have HC := Lib.hid c1; clear c1
    go_wp2_with fail
    go_ret
    exact ⟨rfl, HC.out⟩
  · have d2 : ¬ (30 : Int) < (xs.length : Int) := by omega
    have hm30 : xs.length ≤ 30 := by omega
    go_enter Tryz.func5, Tryz.ntmps5
    go_wp2_with fail
    refine (hnew_ok W 256 1 16384 (by decide) (by decide) (by decide) (by decide) (by decide)).mono ?_
    rintro e w1 ⟨H0, rfl, Q⟩
    have HQ := Lib.hid Q; clear Q
    go_wp2_with fail
    refine (harena_ok HQ.out).mono ?_
    rintro e w2 ⟨rfl, rfl⟩
    go_wp2_with fail
    refine (harena_ok HQ.out).mono ?_
    rintro e w3 ⟨rfl, rfl⟩
    clear d2 hl hm
    have K0 : DpK W H0.gh H0.ah.ga 0 H0 (hp0 256 1) 0 0 w3 := ⟨rfl, rfl, HQ.out, hp0_inv 256 1 (by decide), rfl, rfl, Nat.le_refl _, Nat.le_refl _⟩
    have HK := Lib.hid K0; clear K0 HQ
    go_wp2_with fail
    go_loopg [6] (xs.length + 1) (fun gk idx wr => Dp1Rel W H0.gh H0.ah.ga xs.length gk idx wr)
    case atStart => exact ⟨0, H0, _, 0, 0, by omega, by omega, rfl, HK.out, DfA.new⟩
    case round =>
      clear HK
      obtain ⟨i, H, A9, N, b, hgk, hi, rfl, J, K⟩ := hrel
      by_cases e : i < xs.length
      · obtain ⟨z, hz⟩ : ∃ z, xs[i]? = some z := ⟨xs[i], List.getElem?_eq_getElem e⟩
        obtain ⟨ba, off, rfl, -, hb1⟩ := ints_keep9 HT.out.2 J.Q.S.c hz
        have hi' : (i : Int) < (xs.length : Int) := by omega
        have hi0 : (0 : Int) ≤ (i : Int) := by omega
        obtain ⟨n0, hn0, en0⟩ := mod_n z 128 (by decide) (by decide)
        have en : wrap64 ((IntKind.u64.wrap z).tmod 128) = (n0 : Int) := en0
        have en2 : wrap64 (1 + (n0 : Int)) = ((n0 + 1 : Nat) : Int) := by unfold wrap64; omega
        have EN := Lib.hid (And.intro en en2); clear en en2 en0
        have HJ := Lib.hid (And.intro J K); clear J K
        go_wp2_with fail
        rw [EN.out.1, EN.out.2]
        obtain ⟨n, hn⟩ : ∃ n, n = n0 + 1 := ⟨_, rfl⟩
        rw [← hn]
        have hn1 : 1 ≤ n := by omega
        have hn2 : n ≤ 128 := by omega
        clear EN hn0 hn hb1 hz
        have hNi := HJ.out.1.N
        have hbi := HJ.out.1.b
        have k := halloc_ok W wr H A9 N b HJ.out.1.Q HJ.out.1.I HT.out.1 (by omega) (by omega) 0 n (by rw [HJ.out.1.P]; decide) hn1 (by omega) false
        rw [HJ.out.1.gh] at k
        refine k.mono ?_
        clear k
        rintro e2 w4 ⟨cl, x, gone, cc, vg, A4, N4, b4, H4, hof, hal, rfl, hN4, hb4, hE4, Q4, t4, L4, ln4, I4⟩
        obtain ⟨rfl, -, K4⟩ := HJ.out.2.step HJ.out.1.I HJ.out.1.Q.S.I Q4.S.I (by omega) hal (by rw [HJ.out.1.P]; decide) hof.1 (pg3 hof hn2) (by omega)
        obtain ⟨-, -, f, pp, id, s0, y, D, -, -, T⟩ := hal.pgs HJ.out.1.I (by rw [HJ.out.1.P]; decide) hof.1 HJ.out.1.Q.S.I HJ.out.2.B (pg3 hof hn2) (by omega)
        obtain ⟨Ag, ng, cg, rfl⟩ := L4.o.slice'
        have J4 : DpK W H0.gh H0.ah.ga (i + 1) H4 A4 N4 b4 w4 := ⟨hE4.gh.trans HJ.out.1.gh, hE4.ga.trans HJ.out.1.ga, Q4, I4, T.eP.trans HJ.out.1.P, T.eN.trans HJ.out.1.n, by omega, by omega⟩
        have H4' := Lib.hid (And.intro J4 K4); clear J4 K4 T hof hal hE4 Q4 t4 L4 ln4 I4
        go_wp2_with fail
        go_roundg (xs.length - i)
        case measure => omega
        case rel => exact ⟨i + 1, H4, A4, N4, b4, by omega, by omega, by go_num, H4'.out.1, H4'.out.2⟩
      · obtain rfl : i = xs.length := by omega
        have hi' : ¬ (xs.length : Int) < (xs.length : Int) := by omega
        have HJ := Lib.hid (And.intro J K); clear J K e hi
        have hNi := HJ.out.1.N
        have hbi := HJ.out.1.b
        have kD := fun (w' : World) (Q : HpS W w' H A9 N b) => hdrop_ok W w' H A9 N b Q HJ.out.1.I (by omega) (by omega)
        rw [HJ.out.1.gh] at kD
        go_wp2_with fail
        refine (kD wr HJ.out.1.Q).mono ?_
        clear kD
        rintro e4 w4 ⟨ks, B, nd, hrise, hks, hdr, rfl, IB, HB, hEB, QB, tB⟩
        obtain ⟨hnd, -, -⟩ := hdr.stays hrise HJ.out.1.Q.S.I HJ.out.2.noC
        subst hnd
        have hBA := hdr.zero rfl
        subst hBA
        have J4 : DpK W H0.gh H0.ah.ga xs.length HB B N b w4 := ⟨hEB.gh.trans HJ.out.1.gh, hEB.ga.trans HJ.out.1.ga, QB, HJ.out.1.I, HJ.out.1.P, HJ.out.1.n, HJ.out.1.N, HJ.out.1.b⟩
        have H4 := Lib.hid (And.intro J4 HJ.out.2); clear J4 hEB QB tB hdr hrise hks IB HJ
        go_wp2_with fail
        have k := hbegin_ok W w4 HB B N b H4.out.1.Q H4.out.1.I HT.out.1 (by omega)
        rw [H4.out.1.gh] at k
        refine k.mono ?_
        clear k
        rintro e5 w5 (⟨h1, -⟩ | ⟨-, rfl, r1, hF, I1, H1, hE, Q1, t1⟩)
        · have h2 : unsN B.r 16 = 0 := unsN_zero.2 fun k _ => ⟨H4.out.2.unz _ (by omega), H4.out.2.unz _ (by omega)⟩
          omega
        have hrows : ∀ j, j % 4 < 2 → bgR r1 32 j = [] := fun j hj => by
          have hz : ∀ j, 2 ≤ j % 4 → r1 j = [] := fun j hj => List.eq_nil_iff_forall_not_mem.2 fun z hz => by
            have := hF.un hj hz
            rw [H4.out.2.unz j hj] at this; cases this
          have h64 : ∀ j, 64 ≤ j → r1 j = [] := fun j hj => List.eq_nil_iff_forall_not_mem.2 fun z hz => by
            have := ((H4.out.1.I.flushAll (Nat.le_refl _) hF).r j z hz).1
            omega
          rw [bgR_at hz h64, if_pos hj]
        obtain ⟨A1, hA1⟩ : ∃ A1 : HpA, A1 = { B with r := bgR r1 32, own := faO B.own B.P } := ⟨_, rfl⟩
        have K1 : DsA A1 (smO isO B.a.sp 6000) := H4.out.2.begin hm30 (by rw [hA1]; exact I1) (by rw [hA1]) (fun p k hp hk => by rw [hA1] at hp ⊢; exact faO_all _ hp hk) (fun j hj => by rw [hA1]; exact hrows j hj)
        have hw1 : ∀ y, ¬ DrC A1 y := fun y ⟨s, hs, _, hw, _⟩ => by
          obtain ⟨j, hj, hm⟩ := all_wait (A := A1) (by rw [hA1]; exact I1) (fun p k hp hk => by rw [hA1] at hp ⊢; exact faO_all _ hp hk) (fun j hj => by rw [hA1]; exact hrows j hj) hs
          have hj64 : j < 64 := by rw [hA1] at hm; exact (I1.r j y hm).1
          refine hw (mem_waN.2 ⟨j / 4, by omega, ?_⟩)
          rcases (by omega : j = j / 4 * 4 + 2 ∨ j = j / 4 * 4 + 3) with e | e
          · left; rw [← e]; exact hm
          · right; rw [← e]; exact hm
        have J1 : DpK W H0.gh H0.ah.ga xs.length H1 A1 N b w5 := ⟨hE.gh.trans H4.out.1.gh, hE.ga.trans H4.out.1.ga, by rw [hA1]; exact Q1, by rw [hA1]; exact I1, by rw [hA1]; exact H4.out.1.P, by rw [hA1]; exact H4.out.1.n, H4.out.1.N, H4.out.1.b⟩
        obtain ⟨S, hS⟩ : ∃ S, S = smO isO B.a.sp 6000 := ⟨_, rfl⟩
        rw [← hS] at K1
        have hSA : smO isO A1.a.sp 6000 = S := by rw [hS, hA1]
        have H5 := Lib.hid (And.intro J1 (And.intro K1 (And.intro hw1 hSA))); clear J1 K1 hw1 hSA hA1 hS hE Q1 t1 hF I1 hrows H4
        go_wp2_with fail
        have k := hdrop_ok W w5 H1 A1 N b H5.out.1.Q H5.out.1.I (by omega) (by omega)
        rw [H5.out.1.gh] at k
        refine k.mono ?_
        clear k
        rintro e6 w6 ⟨ks, C, nd, hrise, hks, hdr, rfl, IC, HC, hEC, QC, tC⟩
        obtain ⟨hnd, -, -⟩ := hdr.stays hrise H5.out.1.Q.S.I H5.out.2.2.1
        subst hnd
        have hBA := hdr.zero rfl
        subst hBA
        have J6 : DpK W H0.gh H0.ah.ga xs.length HC C N b w6 := ⟨hEC.gh.trans H5.out.1.gh, hEC.ga.trans H5.out.1.ga, QC, H5.out.1.I, H5.out.1.P, H5.out.1.n, H5.out.1.N, H5.out.1.b⟩
        have H6 := Lib.hid (And.intro J6 (And.intro H5.out.2.1 H5.out.2.2.2)); clear J6 hEC QC tC hdr hrise hks IC H5
        go_wp2_with fail
        have k := s_spans H6.out.1.Q.S (by omega)
        rw [H6.out.1.ga] at k
        refine k.mono ?_
        clear k
        rintro e7 w7 ⟨v7, ks7, rfl, O7, c7, f7, r7, m7⟩
        have hlen : ks7.length = S := by
          rw [← H6.out.2.2]
          exact keys_cnt (fun id s hs => Nat.lt_of_lt_of_le (H6.out.1.Q.S.I.ok.top id s hs) (by omega)) (rise_nodup r7) (fun x => (m7 x).trans spI_iff)
        obtain ⟨A7, cc7, rfl⟩ := O7.slice
        rw [hlen] at *
        have H7 := Lib.hid (And.intro (H6.out.1.chg0 c7) H6.out.2.1); clear O7 c7 f7 r7 m7 hlen H6
        have JL : DpK W H0.gh H0.ah.ga 30 HC C N b w7 := ⟨H7.out.1.gh, H7.out.1.ga, H7.out.1.Q, H7.out.1.I, H7.out.1.P, H7.out.1.n, by omega, by omega⟩
        have HL := Lib.hid (And.intro JL H7.out.2); clear JL H7
        go_wp2_with fail
        go_loopg [11, 12] (unsN C.r 16 + 1) (fun gk u11 u12 wr => Dp2Rel W H0.gh H0.ah.ga S gk u11 u12 wr)
        case atStart => exact ⟨HC, C, N, b, rfl, HL.out.1, HL.out.2⟩
        case round =>
          clear HL hNi hbi
          obtain ⟨H, A9, N, b, hgk, J, K⟩ := hrel
          have HJ := Lib.hid (And.intro J K); clear J K
          have hNi := HJ.out.1.N
          have hbi := HJ.out.1.b
          go_wp2_with fail
          have k := hsweep_ok W wr H A9 N b HJ.out.1.Q HT.out.1 (HJ.out.1.I.B HJ.out.1.Q.S.I.ok (by omega)) (by omega) (fun j _ x hx => by obtain ⟨-, s, hs, -⟩ := HJ.out.1.I.r j x hx; exact ⟨s, hs⟩)
          rw [HJ.out.1.gh] at k
          refine k.mono ?_
          clear k
          rintro e7 w8 (⟨hno, rfl, c8⟩ | ⟨k, f, x, xs8, s, u, h8, v8, r8, hk, hf, hr, hs, hput, rfl, Q8, t8, L8, hga⟩)
          · have hun : ∀ j, 2 ≤ j % 4 → A9.r j = [] := fun j hj => HJ.out.1.I.unz (unsN_zero.2 fun k hk => hno k hk) hj
            have H8 := Lib.hid (And.intro (HJ.out.1.chg0 c8) (And.intro HJ.out.2 hun)); clear c8 hno hun HJ
            go_wp2_with fail
            have k := halloc_ok W w8 H A9 N b H8.out.1.Q H8.out.1.I HT.out.1 (by omega) (by omega) 0 1 (by rw [H8.out.1.P]; decide) (by decide) (by decide) false
            rw [H8.out.1.gh] at k
            refine k.mono ?_
            clear k
            rintro e2 w9 ⟨cl, x, gone, cc, vg, A4, N4, b4, H4, hof, hal, rfl, hN4, hb4, hE4, Q4, t4, L4, ln4, I4⟩
            have hq0 := of_one hof
            obtain ⟨rfl, ⟨id, K4⟩, hob⟩ := H8.out.2.1.last H8.out.2.2 H8.out.1.I H8.out.1.P H8.out.1.Q.S.I Q4.S.I (by omega) hal hq0
            obtain ⟨-, -, f, pp, id2, s0, y, D, -, -, T⟩ := hal.pgs H8.out.1.I (by rw [H8.out.1.P]; decide) hof.1 H8.out.1.Q.S.I H8.out.2.1.B (by rw [hq0]; decide) (by decide)
            obtain ⟨Ag, ng, cg, rfl⟩ := L4.o.slice'
            have J4 : DpK W H0.gh H0.ah.ga 31 H4 A4 N4 b4 w9 := ⟨hE4.gh.trans H8.out.1.gh, hE4.ga.trans H8.out.1.ga, Q4, I4, T.eP.trans H8.out.1.P, T.eN.trans H8.out.1.n, by omega, by omega⟩
            have hxb := T.bd Q4.S.I (by rw [J4.n]; decide)
            have hI : obI A4.a (x : Nat) = some (List.replicate 1 0) := by rw [obI_nat]; exact hob
            have hS6 : S ≤ 6000 := by have h1 := K4.cnt; have h2 := isO_bd A4.a.sp 6000; omega
            have H9 := Lib.hid (And.intro J4 (And.intro K4 hI)); clear J4 K4 T hof hal hE4 Q4 t4 L4 ln4 I4 hob hI hq0 H8
            have kL := s_len H9.out.1.Q.S (x : Nat) (by unfold Wf64; omega)
            rw [H9.out.2.2, H9.out.1.ga] at kL
            have hle : ((((some (List.replicate 1 (0 : Int))).getD []).length : Nat) : Int) = 1 := rfl
            rw [hle] at kL
            clear hle
            go_wp2_with fail
            refine kL.mono ?_
            clear kL
            rintro e4 w10 ⟨rfl, rfl⟩
            go_wp2_with fail
            have k := hdrop_ok W w10 H4 A4 N4 b4 H9.out.1.Q H9.out.1.I (by omega) (by omega)
            rw [H9.out.1.gh] at k
            refine k.mono ?_
            clear k
            rintro e6 w11 ⟨ks, C5, nd, hrise, hks, hdr, rfl, IC, HC5, hEC, QC, tC⟩
            obtain ⟨K5, hnd, hid1, hcnt⟩ := H9.out.2.1.drop H9.out.1.Q.S.I (by omega) hdr hrise hks
            have J5 : DpK W H0.gh H0.ah.ga 31 HC5 C5 N4 b4 w11 := ⟨hEC.gh.trans H9.out.1.gh, hEC.ga.trans H9.out.1.ga, QC, IC, hdr.own.2.1.trans H9.out.1.P, hdr.own.2.2.1.trans H9.out.1.n, H9.out.1.N, H9.out.1.b⟩
            have H10 := Lib.hid (And.intro J5 (And.intro K5 (And.intro hid1 hcnt))); clear J5 K5 hid1 hcnt hEC QC tC hdr hrise hks IC H9
            go_upto_region 22 with fail
            go_cut [118] from 99 to 118 (fun v wc => v = .bool false ∧ DpK W H0.gh H0.ah.ga 31 HC5 C5 N4 b4 wc)
            case first =>
              have k := s_live H10.out.1.Q.S
              rw [H10.out.1.ga, H10.out.2.1.live] at k
              have hS1 : wrap64 ((S : Int) - 1) = (S : Int) - 1 := by unfold wrap64; omega
              have HW := Lib.hid hS1; clear hS1
              go_wp2_with fail
              refine k.mono ?_
              clear k
              rintro e7 w12 ⟨rfl, rfl⟩
              go_wp2_with fail
              have k := s_spans H10.out.1.Q.S (by omega)
              rw [H10.out.1.ga] at k
              refine k.mono ?_
              clear k
              rintro e8 w13 ⟨v13, ks13, rfl, O13, c13, f13, r13, m13⟩
              have hlen13 : ks13.length = 1 := by
                rw [← H10.out.2.2.2]
                exact keys_cnt (fun id s hs => Nat.lt_of_lt_of_le (H10.out.1.Q.S.I.ok.top id s hs) (by omega)) (rise_nodup r13) (fun x => (m13 x).trans spI_iff)
              obtain ⟨A13, cc13, rfl⟩ := O13.slice
              rw [hlen13]
              have H11 := Lib.hid (H10.out.1.chg0 c13); clear O13 c13 f13 r13 m13 hlen13 H10
              rcases hnd with rfl | hnd
              · go_wp2_with fail
                go_meet
                exact ⟨rfl, H11.out⟩
              · have b1 : ((nd : Int) != (S : Int)) = true := by rw [bne_iff_ne]; omega
                have b2 : ((nd : Int) != (S : Int) - 1) = false := by rw [bne_eq_false_iff_eq]; omega
                clear hnd
                go_wp2_with fail
                go_meet
                exact ⟨rfl, H11.out⟩
            case rest =>
              obtain ⟨rfl, J11⟩ := hcut
              have H11 := Lib.hid (And.intro J11 H10.out.2); clear J11 H10
              have hflen := H11.out.1.Q.S.I.ok
              clear hflen
              go_wp2_with fail
              have k := flush_ok W wc HC5 C5 N4 b4 H11.out.1.Q HT.out.1 (H11.out.1.I.B H11.out.1.Q.S.I.ok (by omega)) 0 (by rw [H11.out.1.P]; decide)
              rw [H11.out.1.gh] at k
              refine k.mono ?_
              clear k
              rintro e9 w14 ⟨rfl, v14, r14, hF14, Q14, t14⟩
              have I14 := H11.out.1.I.flush (p := 0) (by rw [H11.out.1.P]; decide) hF14
              have H14 := Lib.hid (And.intro Q14 I14); clear Q14 I14 t14 hF14
              go_wp2_with fail
              refine (told9_ok w14 (HT.out.1.chg H14.out.1.S.c (by simp))).mono ?_
              rintro e10 w15 ⟨rfl, c15⟩
              have H15 := Lib.hid (And.intro (H14.out.1.chg0 c15) H14.out.2); clear c15 H14
              go_wp2_with fail
              have k := hdrop_ok W w15 { HC5 with v := v14 } { C5 with r := r14, own := updV C5.own 0 (flO (C5.own 0) 16) } N4 b4 H15.out.1 H15.out.2 (by omega) (by omega)
              have eg : ({ HC5 with v := v14 } : HpH).gh = H0.gh := H11.out.1.gh
              rw [eg] at k
              refine k.mono ?_
              clear k
              rintro e11 w16 ⟨ks16, C16, nd16, hrise, hks, hdr, rfl, IC, HC16, hEC, QC, tC⟩
              obtain ⟨hn0, eB, eL⟩ := hdr.stays hrise H15.out.1.S.I (fun y hy => by
                obtain ⟨s, hs, -, -, h⟩ := hy
                obtain ⟨t, ht, -, h2⟩ := H11.out.2.1.sp
                have hs' : C5.a.sp y = some s := hs
                have := H11.out.2.2.1 y s hs'
                subst this
                rw [hs'] at ht; injection ht with ht; subst ht
                omega)
              subst hn0
              have hsum : sumR C16.a.l = 254 := by
                have h1 := H11.out.2.1.pg
                obtain ⟨t, ht, h3, -⟩ := H11.out.2.1.sp
                have h4 : smO pgO C5.a.sp 6000 = pgO (some t) := by
                  rw [← ht]
                  refine smO_one (id := id) (fun j hj => ?_) (Nat.lt_of_lt_of_le (H11.out.1.Q.S.I.ok.top id t ht) (by omega))
                  cases e : C5.a.sp j with
                  | none => rfl
                  | some u => exact absurd (H11.out.2.2.1 j u e) hj
                have h5 : pgO (some t) = 1 := by show pgK t.k = 1; rw [h3]; rfl
                have h6 : sumR C16.a.l = sumR C5.a.l := eL
                omega
              have hga16 : HC16.ah.ga = H0.ah.ga := hEC.ga.trans H11.out.1.ga
              have H16 := Lib.hid (And.intro QC hsum); clear hsum hEC tC QC hdr hrise hks IC eB eL H15
              have k := s_left H16.out.1.S (okn_len6 H16.out.1.S.I.ok.ok H16.out.1.S.I.ok.n) (by rw [H16.out.2]; decide)
              rw [hga16, H16.out.2] at k
              go_wp2_with fail
              refine k.mono ?_
              clear k
              rintro e12 w17 ⟨rfl, c17⟩
              have H17 := Lib.hid (H16.out.1.S.c.trans c17); clear c17 H16
              go_wp2_with fail
              refine (rpages_ok w17 0 (by decide)).mono ?_
              rintro e13 w18 ⟨rfl, c18⟩
              have hp0 : (pgK 0 : Nat) = 1 := rfl
              rw [hp0]
              have H18 := Lib.hid (H17.out.trans c18); clear c18 H17 hp0
              go_wp2_with fail
              go_ret
              exact ⟨rfl, H18.out⟩
          · have hx := HJ.out.1.Q.S.I.ok.top x s hs
            have K8 := HJ.out.2.sweep HJ.out.1.I hr hs hput (by omega)
            have e4 : (k * 4 + 2 + f) / 4 = k := by clear hput K8; omega
            have hP4 : PutTo (sweepA A9.a x s (sweptL s).length) (updV A9.r (k * 4 + 2 + f) xs8) ((k * 4 + 2 + f) / 4) x r8 := by rw [e4]; exact hput
            have h416 : (k * 4 + 2 + f) / 4 < 16 := by rw [e4]; exact hk
            have I8 := HpI.swept (j := k * 4 + 2 + f) (n := (sweptL s).length) (r' := r8) HJ.out.1.I hr hs h416 hP4
            have hu := swept_uns (k := k) (f := f) HJ.out.1.I hk hf hr hput
            obtain ⟨Au, nu, cu, rfl⟩ := L8.o.slice'
            have J8 : DpK W H0.gh H0.ah.ga 30 { H with ah := h8, v := v8 } { A9 with a := sweepA A9.a x s (sweptL s).length, r := r8 } N b w8 := ⟨HJ.out.1.gh, hga.trans HJ.out.1.ga, Q8, I8, HJ.out.1.P, HJ.out.1.n, HJ.out.1.N, HJ.out.1.b⟩
            have H8 := Lib.hid (And.intro J8 (And.intro K8 hu)); clear J8 K8 hu I8 hput Q8 t8 L8 hga hr hs
            go_wp2_with fail
            go_roundg (unsN r8 16 + 1)
            case measure => have := H8.out.2.2; omega
            case rel => exact ⟨{ H with ah := h8, v := v8 }, { A9 with a := sweepA A9.a x s (sweptL s).length, r := r8 }, N, b, rfl, H8.out.1, H8.out.2.1⟩
end Go.Proofs.YtmafiagakoglkaaGreatDoor
