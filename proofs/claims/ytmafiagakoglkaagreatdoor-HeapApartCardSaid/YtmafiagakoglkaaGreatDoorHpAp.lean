/- The walk of HeapApart. -/
import Derived.Test.YtmafiagakoglkaaGreatDoorHpZ
import Derived.Test.YtmafiagakoglkaaGreatDoorMOb
import Derived.Test.YtmafiagakoglkaaGreatDoorDrLaw
import Derived.Test.YtmafiagakoglkaaGreatDoorHpSw
namespace Go.Proofs.YtmafiagakoglkaaGreatDoor
open Go.RowKit Go.Maps

structure ApK (W : World) (gh go P i : Nat) (st O : List Int) (H : HpH) (A : HpA) (N b : Nat) (vs : Value) (w : World) : Prop where
  gh : H.gh = gh
  Q : HpS W w H A N b
  I : HpI A none
  P : A.P = P
  N : N ≤ i
  b : b ≤ 7 * i
  K : ApA A i st O
  L : LsP W (HpF H A) w vs st
  U : LsP W (HpF H A) w (.slice (some ⟨go, 0, none⟩) 512 512) O
  d : ∀ k ∈ fpv vs, k ∉ fpv (.slice (some ⟨go, 0, none⟩) 512 512)
def ApRel (W : World) (gh go P n : Nat) (gk : Nat) (vs idx : Value) (w : World) : Prop :=
  ∃ i st O H A N b, gk + i = n + 1 ∧ i ≤ n ∧ idx = .int .i64 (i : Nat) ∧ ApK W gh go P i st O H A N b vs w
theorem ApK.next {W w : World} {gh go P i : Nat} {st O : List Int} {H : HpH} {A : HpA} {N b : Nat} {vs : Value} {id : Nat} {z : Int} (g : H.gh = gh) (Q : HpS W w H A N b) (I : HpI A none) (hP : A.P = P) (hN : N ≤ i) (hb : b ≤ 7 * i) (L : LsP W (HpF H A) w vs st) (U : LsP W (HpF H A) w (.slice (some ⟨go, 0, none⟩) 512 512) O) (d : ∀ k ∈ fpv (.slice (some ⟨go, 0, none⟩) 512 512), k ∉ fpv vs) (hid : id < O.length) (K : ApA A i st (O.set id z)) :
    ApK W gh go P i st (O.set id z) H A N b vs (w.setCell ⟨go, id, none⟩ (.int .i64 z)) := by
  have hm : go ∈ fpv (.slice (some ⟨go, 0, none⟩) 512 512) := by simp [fpv, Value.ownBlock]
  have e : ∀ k, k ∈ [go] → k = go := fun k hk => by simpa using hk
  have c : Chg [go] w (w.setCell ⟨go, id, none⟩ (.int .i64 z)) := (Chg.refl _ w).setCell (.inl (by simp)) _
  exact ⟨g, Q.far c (fun k hk => by rw [e k hk]; exact U.nf go hm) (fun k hk => by rw [e k hk]; exact U.new go hm), I, hP, hN, hb, K,
    ⟨L.o.chg c (fun k hk hk2 => d go hm (by rw [← e k hk2]; exact hk)), L.nf, L.new⟩, ⟨U.o.set_ hid z, U.nf, U.new⟩, fun k hk hk2 => d k hk2 hk⟩
set_option maxHeartbeats 6400000 in
set_option maxRecDepth 100000 in
theorem apart9_any (A : Option Addr) (c : Nat) (xs : List Int) (pz : Int) (W : World) (T0 : Tab W) (hA : IntsAt W W.heap.size A xs) (hm : xs.length ≤ maxLen) : Calls Tryz.prog 4 #[.slice A xs.length c, .int .i64 pz] W (TdPost9 W) := by
  have HT := Lib.hid (And.intro T0 hA); clear T0 hA
  by_cases hl : 100 < xs.length
  · have d2 : (100 : Int) < (xs.length : Int) := by omega
    go_enter Tryz.func4, Tryz.ntmps4
    go_wp2_with fail
    refine (told9_ok W HT.out.1).mono ?_
    rintro e w1 ⟨rfl, c1⟩
    have HC := Lib.hid c1; clear c1
    go_wp2_with fail
    go_ret
    exact ⟨rfl, HC.out⟩
  · have d2 : ¬ (100 : Int) < (xs.length : Int) := by omega
    have hm100 : xs.length ≤ 100 := by omega
    have hmk := make512
    obtain ⟨p0, hp0, ep0⟩ := mod_n pz 4 (by decide) (by decide)
    have ep : wrap64 ((IntKind.u64.wrap pz).tmod 4) = (p0 : Int) := ep0
    have ep2 : wrap64 (1 + (p0 : Int)) = ((p0 + 1 : Nat) : Int) := by unfold wrap64; omega
    have HE := Lib.hid (And.intro ep ep2); clear ep ep2 ep0
    go_enter Tryz.func4, Tryz.ntmps4
    go_upto_region 4 with fail
    rw [HE.out.1, HE.out.2]
    obtain ⟨P, hP⟩ : ∃ P, P = p0 + 1 := ⟨_, rfl⟩
    rw [← hP]
    have hP1 : 1 ≤ P := by omega
    have hP4 : P ≤ 4 := by omega
    clear HE hp0 hP d2 hl hm
    go_wp2_with fail
    refine (hnew_ok W 512 P 32768 (by decide) (by decide) (by decide) hP1 (by omega)).mono ?_
    rintro e w1 ⟨H0, rfl, Q⟩
    have HQ := Lib.hid Q; clear Q
    go_wp2_with fail
    refine (harena_ok HQ.out).mono ?_
    rintro e w2 ⟨rfl, rfl⟩
    go_upto_region 9 with fail
    obtain ⟨go, hgo⟩ : ∃ go, go = w2.heap.size := ⟨_, rfl⟩
    obtain ⟨w3, hw3⟩ : ∃ w3, w3 = w2.alloc (.cells z512 3) := ⟨_, rfl⟩
    have K0 : ApK W H0.gh go P 0 [] (List.replicate 512 0) H0 (hp0 512 P) 0 0 (.slice none 0 0) w3 := by
      have c3 : Chg [] w2 w3 := by rw [hw3]; exact (Chg.refl _ _).alloc _
      have B3 : Blk w3 go 3 ((List.replicate 512 (0 : Int)).map (Value.int .i64)).toArray := by rw [hw3, hgo]; exact Blk.new _ _ _
      refine ⟨rfl, HQ.out.chg0 c3, hp0_inv 512 P (by omega), rfl, Nat.le_refl _, Nat.le_refl _, ApA.new P, LsP.nil _ _ _, ⟨OwnI.ofBlk B3 (List.length_replicate ..) (by decide), fun k hk hF => ?_, fun k hk => ?_⟩, fun k hk => by simp [fpv, Value.ownBlock] at hk⟩
      · have e := fpv_some hk
        have := HQ.out.lt hF
        omega
      · have e := fpv_some hk
        have := HQ.out.S.c.size
        omega
    rw [← hgo, ← hw3]
    have HK := Lib.hid K0; clear K0 hgo hw3 hmk HQ
    go_wp2_with fail
    go_loopg [8, 10] (xs.length + 1) (fun gk vs idx wr => ApRel W H0.gh go P xs.length gk vs idx wr)
    case atStart => exact ⟨0, [], _, H0, _, 0, 0, by omega, by omega, rfl, HK.out⟩
    case round =>
      clear HK
      obtain ⟨i, st, O, H, A9, N, b, hgk, hi, rfl, J⟩ := hrel
      obtain ⟨As, cs, rfl⟩ := J.L.o.slice
      by_cases e : i < xs.length
      · obtain ⟨z, hz⟩ : ∃ z, xs[i]? = some z := ⟨xs[i], List.getElem?_eq_getElem e⟩
        obtain ⟨ba, off, rfl, -, hb1⟩ := ints_keep9 HT.out.2 J.Q.S.c hz
        have hi' : (i : Int) < (xs.length : Int) := by omega
        have hi0 : (0 : Int) ≤ (i : Int) := by omega
        have hu : IntKind.u64.wrap (P : Int) = (P : Int) := by rw [IntKind.wrap_u64]; omega
        have hx0 : ¬ P = 0 := by omega
        have hx1 : ¬ (P : Int) = 0 := by omega
        go_upto_region 13 with fail
        clear hx0 hx1 hu
        obtain ⟨q, hq, eq0⟩ := mod_n (wrap64 (z.tdiv 64)) P hP1 (by omega)
        rw [eq0]
        obtain ⟨n0, hn0, en0⟩ := mod_n z 64 (by decide) (by decide)
        have en : wrap64 ((IntKind.u64.wrap z).tmod 64) = (n0 : Int) := en0
        have en2 : wrap64 (1 + (n0 : Int)) = ((n0 + 1 : Nat) : Int) := by unfold wrap64; omega
        have EN := Lib.hid (And.intro en en2); clear en en2 en0 eq0 hz
        have HJ := Lib.hid J; clear J
        go_wp2_with fail
        rw [EN.out.1, EN.out.2]
        obtain ⟨n, hn⟩ : ∃ n, n = n0 + 1 := ⟨_, rfl⟩
        rw [← hn]
        have hn1 : 1 ≤ n := by omega
        have hn2 : n ≤ 64 := by omega
        clear EN hn0 hn hb1
        have hqP : q < A9.P := by rw [HJ.out.P]; exact hq
        have hNi := HJ.out.N
        have hbi := HJ.out.b
        have k := halloc_ok W wr H A9 N b HJ.out.Q HJ.out.I HT.out.1 (by omega) (by omega) q n hqP hn1 (by omega) false
        rw [HJ.out.gh] at k
        refine k.mono ?_
        clear k
        rintro e2 w4 ⟨cl, x, gone, cc, vg, A4, N4, b4, H4, hof, hal, rfl, hN4, hb4, hE4, Q4, t4, L4, ln4, I4⟩
        obtain ⟨rfl, rfl, hxn, hxb, hP4', id, s, y, hs, hsk, hy, hF, hxa, hid, hO, K4⟩ := HJ.out.K.step HJ.out.I HJ.out.Q.S.I Q4.S.I (by omega) hqP hof.1 hal
        obtain ⟨Ag, ng, cg, rfl⟩ := L4.o.slice
        have M4 := HJ.out.L.st t4
        have U4 := HJ.out.U.st t4
        have hgh4 := hE4.gh.trans HJ.out.gh
        have H4' := Lib.hid (And.intro Q4 (And.intro I4 (And.intro M4 (And.intro U4 (And.intro hxn (And.intro K4 (And.intro hs (And.intro hy (And.intro hF (And.intro hxa (And.intro hO (And.intro HJ.out.d hP4')))))))))))); clear Q4 I4 M4 U4 hxn K4 hs hy hF hxa hO hal hof t4 L4 ln4 hP4'
        go_wp2_with fail
        refine (has_ok w4 _ st (x : Nat) H4'.out.2.2.1.o.rd).mono ?_
        rintro e5 w5 ⟨rfl, rfl⟩
        rw [decide_eq_false H4'.out.2.2.2.2.1]
        go_wp2_with fail
        refine (put_ok w5 _ st (x : Nat) H4'.out.2.2.1.o (fun y hy => by have := HJ.out.K.w y hy; unfold WfI; omega) (by unfold WfI; omega) (by have := HJ.out.K.len; omega)).mono ?_
        rintro e6 w6 ⟨v6, rfl, O6, s6⟩
        have Q6 := H4'.out.1.stp H4'.out.2.2.1 s6
        have L6 := H4'.out.2.2.1.push (fun k hk => H4'.out.1.lt hk) H4'.out.1.S.c.size O6 s6
        have U6 := H4'.out.2.2.2.1.beside s6 (fun k hk hm => H4'.out.2.2.2.2.2.2.2.2.2.2.2.1 k hm hk)
        obtain ⟨A6, c6, rfl⟩ := O6.slice
        have H6 := Lib.hid (And.intro Q6 (And.intro L6 U6)); clear Q6 L6 U6 O6 s6
        go_wp2_with fail
        have k := harena_ok H6.out.1
        rw [hgh4] at k
        refine k.mono ?_
        clear k
        rintro e7 w7 ⟨rfl, rfl⟩
        go_wp2_with fail
        refine (s_find H6.out.1.S (by omega) (x : Nat) (by unfold Wf64; omega)).mono ?_
        rintro e8 w8 ⟨c8, ⟨hn0, -⟩ | ⟨id', i', -, hat, rfl⟩⟩
        · have h1 : (obI A4.a (x : Nat)).isSome = true := (H4'.out.2.2.2.2.2.1.obs _).1 (mem_putL.2 (.inr rfl))
          rw [hn0] at h1; cases h1
        · obtain ⟨s', hs', hi1, hF', hx'⟩ := hat
          have hid' : id' = id := by
            have e1 : s.addr y = s'.addr i' := by rw [← H4'.out.2.2.2.2.2.2.2.2.2.1]; omega
            exact (H4'.out.1.S.I.ok.other H4'.out.2.2.2.2.2.2.1 hs' H4'.out.2.2.2.2.2.2.2.1 hi1 e1).symm
          subst hid'
          clear hs' hi1 hF' hx'
          have H8 := Lib.hid (And.intro (H6.out.1.chg0 c8) (And.intro (H6.out.2.1.chg0 c8) (H6.out.2.2.1.chg0 c8))); clear c8
          go_upto_region 18 with fail
          obtain ⟨w9, hw9⟩ : ∃ w9, w9 = w8.alloc (.cells #[.int .i64 (id' : Nat), .int .i64 (i' : Nat)] 38) := ⟨_, rfl⟩
          obtain ⟨gs, hgs⟩ : ∃ gs, gs = w8.heap.size := ⟨_, rfl⟩
          have B9 : Blk w9 gs 38 #[.int .i64 (id' : Nat), .int .i64 (i' : Nat)] := by rw [hw9, hgs]; exact Blk.new _ _ _
          have C9 : Chg [] w8 w9 := by rw [hw9]; exact (Chg.refl [] w8).alloc _
          rw [← hgs, ← hw9]
          clear hgs hw9
          have U9 := H8.out.2.2.chg0 C9
          have H9 := Lib.hid (And.intro (H8.out.1.chg0 C9) (And.intro (H8.out.2.1.chg0 C9) U9))
          have hol : id' < O.length := by rw [HJ.out.K.ol]; exact hid
          obtain ⟨v, hv⟩ : ∃ v, O[id']? = some v := ⟨_, List.getElem?_eq_getElem hol⟩
          have hvO : v = 0 ∨ v = (q : Int) + 1 := by
            have h1 := H4'.out.2.2.2.2.2.2.2.2.2.2.1
            rw [List.getD_eq_getElem?_getD, hv] at h1
            rcases h1 with h1 | h1
            · exact .inl h1
            · exact .inr (by rw [show ((some v).getD 0 : Int) = v from rfl] at h1; omega)
          obtain ⟨g9, hg9, oc, of, -⟩ := U9.o.cell hv
          injection hg9 with hg9
          injection hg9 with hg9
          subst hg9
          have b9 := B9.cellv 0 (v := .int .i64 (id' : Nat)) rfl
          have d1 : ¬ (id' : Int) < 0 := by omega
          have d2 : ¬ (512 : Int) ≤ (id' : Int) := by omega
          have d2' : ¬ 512 ≤ id' := by omega
          have d3 : (id' : Int) < 512 := by omega
          have d4 : (0 : Int) ≤ (id' : Int) := by omega
          have d6 : decide ((id' : Int) < 0) = false := decide_eq_false d1
          have d7 : decide ((512 : Int) ≤ (id' : Int)) = false := decide_eq_false d2
          have d7' : decide (512 ≤ id') = false := decide_eq_false d2'
          have dq : (((q : Int) + 1) == 0) = false := by rw [beq_eq_false_iff_ne]; clear d6 d7 d7'; omega
          have dq2 : (((q : Int) + 1) != 0) = true := by rw [bne_iff_ne]; clear d6 d7 d7'; omega
          have dq1 : ¬ (q : Int) + 1 = 0 := by clear d6 d7 d7'; omega
          have d8 : IntKind.i64.wrap ((q : Int) + 1) = (q : Int) + 1 := by clear d6 d7 d7'; rw [IntKind.wrap_i64]; omega
          clear U9 C9 hv
          rcases hvO with rfl | rfl
          · clear dq dq1 dq2 d8
            go_big_quiet (fail)
            go_upto_region 20 with fail
            obtain ⟨w10, hw10⟩ : ∃ w10, w10 = w9.drewN nq := ⟨_, rfl⟩
            have C10 : Chg [] w9 w10 := by rw [hw10]; exact (Chg.refl [] w9).drewN _
            rw [← hw10]
            clear hw10 oc of b9
            have Q10 := H9.out.1.chg0 C10
            have L10 := H9.out.2.1.chg0 C10
            have U10 := H9.out.2.2.chg0 C10
            have b10 := (C10.blk B9 (by simp)).cellv 0 (v := .int .i64 (id' : Nat)) rfl
            obtain ⟨g9, hg9, oc, of, -⟩ := U10.o.cell (i := id') (x := O[id']) (List.getElem?_eq_getElem hol)
            injection hg9 with hg9
            injection hg9 with hg9
            subst hg9
            have KN := Lib.hid (ApK.next (gh := H0.gh) (P := P) (i := i + 1) (z := ((q + 1 : Nat) : Int)) hgh4 Q10 H4'.out.2.1 (H4'.out.2.2.2.2.2.2.2.2.2.2.2.2.trans HJ.out.P) (by omega) (by omega) L10 U10 H6.out.2.2.2 hol H4'.out.2.2.2.2.2.1)
            clear Q10 L10 U10
            go_wp2_with fail
            go_roundg (xs.length - i)
            case measure => omega
            case rel => exact ⟨i + 1, _, _, H4, A4, N4, b4, by omega, by omega, by go_num, KN.out⟩
          · skip
            go_big_quiet (fail)
            go_upto_region 20 with fail
            obtain ⟨w10, hw10⟩ : ∃ w10, w10 = w9.drewN nq := ⟨_, rfl⟩
            have C10 : Chg [] w9 w10 := by rw [hw10]; exact (Chg.refl [] w9).drewN _
            rw [← hw10]
            clear hw10 oc of b9
            have Q10 := H9.out.1.chg0 C10
            have L10 := H9.out.2.1.chg0 C10
            have U10 := H9.out.2.2.chg0 C10
            have b10 := (C10.blk B9 (by simp)).cellv 0 (v := .int .i64 (id' : Nat)) rfl
            obtain ⟨g9, hg9, oc, of, -⟩ := U10.o.cell (i := id') (x := O[id']) (List.getElem?_eq_getElem hol)
            injection hg9 with hg9
            injection hg9 with hg9
            subst hg9
            have KN := Lib.hid (ApK.next (gh := H0.gh) (P := P) (i := i + 1) (z := ((q + 1 : Nat) : Int)) hgh4 Q10 H4'.out.2.1 (H4'.out.2.2.2.2.2.2.2.2.2.2.2.2.trans HJ.out.P) (by omega) (by omega) L10 U10 H6.out.2.2.2 hol H4'.out.2.2.2.2.2.1)
            clear Q10 L10 U10
            go_wp2_with fail
            go_roundg (xs.length - i)
            case measure => omega
            case rel => exact ⟨i + 1, _, _, H4, A4, N4, b4, by omega, by omega, by go_num, KN.out⟩
      · obtain rfl : i = xs.length := by omega
        have hi' : ¬ (xs.length : Int) < (xs.length : Int) := by omega
        have HJ := Lib.hid J; clear J e hi
        go_wp2_with fail
        refine (told9_ok wr (HT.out.1.chg HJ.out.Q.S.c (by simp))).mono ?_
        rintro e4 w8 ⟨rfl, c8⟩
        have HC := Lib.hid (And.intro (HJ.out.Q.chg0 c8) (HJ.out.L.chg0 c8)); clear c8
        have hbb := HJ.out.b
        go_wp2_with fail
        have k := harena_ok HC.out.1
        rw [HJ.out.gh] at k
        refine k.mono ?_
        clear k
        rintro e7 w7 ⟨rfl, rfl⟩
        go_wp2_with fail
        refine (s_objects HC.out.1.S (by omega)).mono ?_
        rintro e9 w9 ⟨v9, ks, rfl, O9, c9, f9, r9, m9⟩
        obtain ⟨A0, c0, rfl⟩ := O9.slice
        have HO := Lib.hid (And.intro O9 (And.intro (HC.out.1.chg0 c9) (HC.out.2.chg0 c9))); clear O9 c9 f9
        have eks : ks = st := rise_eq r9 HJ.out.K.rise (fun x => by rw [m9 x, HJ.out.K.obs x])
        have HE := Lib.hid eks
        clear r9 m9 eks
        go_wp2_with fail
        refine (ints_ok w9 _ _ ks st HO.out.1.rd HO.out.2.2.o.rd).mono ?_
        rintro e10 w10 hB
        obtain ⟨rfl, c10⟩ := hB.chg
        rw [decide_eq_true HE.out]
        have HD := Lib.hid (HO.out.2.1.S.c.trans c10); clear hB c10
        go_wp2_with fail
        go_ret
        exact ⟨rfl, HD.out⟩
end Go.Proofs.YtmafiagakoglkaaGreatDoor
