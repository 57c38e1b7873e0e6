/- The walk of HeapSwept. -/
import Derived.Test.YtmafiagakoglkaaGreatDoorMHb
import Derived.Test.YtmafiagakoglkaaGreatDoorHpZ
namespace Go.Proofs.YtmafiagakoglkaaGreatDoor
open Go.RowKit Go.Maps

def TdPost9 (w : World) (e : Ending) (w' : World) : Prop := e = .returned (.bool true) ∧ Chg [] w w'
/-- What both loops keep. -/
structure SwK (W : World) (gh ga i : Nat) (St : HpA → Nat → Prop) (st : List Int) (H : HpH) (A : HpA) (N b : Nat) (vs : Value) (w : World) : Prop where
  gh : H.gh = gh
  ga : H.ah.ga = ga
  Q : HpS W w H A N b
  I : HpI A none
  P : A.P = 2
  n : A.a.n = 256
  N : N ≤ i
  b : b ≤ 7 * i
  B : PgB A 256 3 i
  L : LsP W (HpF H A) w vs st
  s : ∀ x ∈ st, ∃ z : Nat, x = z ∧ z < 16777216 ∧ St A z
  len : st.length ≤ i
def Sw1Rel (W : World) (gh ga n : Nat) (gk : Nat) (vs idx : Value) (w : World) : Prop :=
  ∃ i st H A N b, gk + i = n + 1 ∧ i ≤ n ∧ idx = .int .i64 (i : Nat) ∧ SwK W gh ga i Mkd st H A N b vs w ∧ (∀ j, 2 ≤ j % 4 → A.r j = []) ∧ (0 < i → st ≠ [])
def Sw2Rel (W : World) (gh ga n : Nat) (vs : Value) (st : List Int) (gk : Nat) (idx : Value) (w : World) : Prop :=
  ∃ i H A N b, gk + i = n + 1 ∧ i ≤ n ∧ idx = .int .i64 (i : Nat) ∧ SwK W gh ga (n + i) Sty st H A N b vs w
def Sw3Rel (W : World) (gh ga n : Nat) (vs : Value) (st : List Int) (H : HpH) (A : HpA) (N b : Nat) (gk : Nat) (idx : Value) (w : World) : Prop :=
  ∃ i, gk + i = st.length + 1 ∧ i ≤ st.length ∧ idx = .int .i64 (i : Nat) ∧ SwK W gh ga (n + n) Sty st H A N b vs w
theorem and_one_i (i : Nat) (h : i < 9223372036854775808) : bits BinOp.and IntKind.i64 (i : Int) 1 = ((i % 2 : Nat) : Int) := by
  have h1 : (BitVec.ofInt 64 (i : Int)).toNat = i := by
    rw [BitVec.ofInt_natCast, BitVec.toNat_ofNat]; exact Nat.mod_eq_of_lt (by omega)
  have h2 : (BitVec.ofInt 64 (1 : Int)).toNat = 1 := rfl
  show IntKind.i64.wrap ((BitVec.ofInt 64 (i : Int) &&& BitVec.ofInt 64 (1 : Int)).toNat : Int) = _
  rw [BitVec.toNat_and, h1, h2, Nat.and_one_is_mod, IntKind.wrap_i64]
  omega
theorem AlS.bd {p k n x : Nat} {black : Bool} {A A' : HpA} {g : List Int} {f pp id : Nat} {s0 : Sp} {y : Nat} {D : Nat → Prop} (T : AlS p k n black A x g A' f pp id s0 y D) {N : Nat} (J : ArI N A'.a) (hn : A'.a.n ≤ 262143) : x < 16777216 := by
  obtain ⟨h1, h2, h3, -⟩ := J.ok.pg _ _ T.spid
  have h4 := Sp.addr_page (s := allocS s0 y black) h1 T.ey.2.1
  have h5 : (allocS s0 y black).addr y = x := T.ex.symm
  rw [h5] at h4
  omega
section
variable {W w w4 : World} {gh ga i : Nat} {St : HpA → Nat → Prop} {st : List Int} {H H4 : HpH} {A A4 : HpA} {N b N4 b4 : Nat} {vs : Value} (J : SwK W gh ga i St st H A N b vs w)
include J
theorem SwK.after (hE : HpE H4 H) (Q4 : HpS W w4 H4 A4 N4 b4) (I4 : HpI A4 none) (hN : N4 ≤ N + 1) (hb : b4 ≤ b + 7) (B4 : PgB A4 256 3 (i + 1)) (hP : A4.P = A.P) (hn : A4.a.n = A.a.n) (t4 : StP (HpF H A) (HpF H4 A4) w w4) (hst : ∀ z, St A z → St A4 z) : SwK W gh ga (i + 1) St st H4 A4 N4 b4 vs w4 :=
  ⟨hE.gh.trans J.gh, hE.ga.trans J.ga, Q4, I4, hP.trans J.P, hn.trans J.n, by have := J.N; omega, by have := J.b; omega, B4, J.L.st t4, fun x hx => by
    obtain ⟨z, h1, h2, h3⟩ := J.s x hx
    exact ⟨z, h1, h2, hst z h3⟩, by have := J.len; omega⟩
theorem SwK.mark {id y : Nat} {s : Sp} (hs : A.a.sp id = some s) (S5 : ArS W w4 H.ah.ga H.ah { A.a with sp := updF A.a.sp id (some (markS s y)) } N b) (st5 : StA H.ah A.a H.ah { A.a with sp := updF A.a.sp id (some (markS s y)) } w w4) (hst : ∀ z, St A z → St (mrkA A id s y) z) : SwK W gh ga i St st H (mrkA A id s y) N b vs w4 :=
  ⟨J.gh, J.ga, J.Q.arena S5 st5, J.I.mark hs, J.P, J.n, J.N, J.b, J.B, J.L.st (st_arena st5), fun x hx => by
    obtain ⟨z, h1, h2, h3⟩ := J.s x hx
    exact ⟨z, h1, h2, hst z h3⟩, J.len⟩
theorem SwK.put {v6 : Value} {x : Nat} (O : OwnI 3 w4 v6 (putL st (x : Nat))) (s6 : Stp (fpv vs) (fpv v6) w w4) (hx : St A x) (hb : x < 16777216) (hl : st.length + 1 ≤ i) : SwK W gh ga i St (putL st (x : Nat)) H A N b v6 w4 :=
  ⟨J.gh, J.ga, J.Q.stp J.L s6, J.I, J.P, J.n, J.N, J.b, J.B, J.L.push (fun k hk => J.Q.lt hk) J.Q.S.c.size O s6, fun z hz => by
    rcases mem_putL.1 hz with h | h
    · exact J.s z h
    · exact ⟨x, h, hb, hx⟩, by have := len_putL st ((x : Nat) : Int); omega⟩
theorem SwK.chg0 (c : Chg [] w w4) : SwK W gh ga i St st H A N b vs w4 :=
  ⟨J.gh, J.ga, J.Q.chg0 c, J.I, J.P, J.n, J.N, J.b, J.B, J.L.chg0 c, J.s, J.len⟩
end
set_option maxHeartbeats 6400000 in
set_option maxRecDepth 100000 in
theorem swept9_any (A : Option Addr) (c : Nat) (xs : List Int) (ez : Int) (W : World) (T0 : Tab W) (hA : IntsAt W W.heap.size A xs) (hm : xs.length ≤ maxLen) : Calls Tryz.prog 3 #[.slice A xs.length c, .int .i64 ez] W (TdPost9 W) := by
  have HT := Lib.hid (And.intro T0 hA); clear T0 hA
  by_cases hl : 40 < xs.length
  · have d2 : (40 : Int) < (xs.length : Int) := by omega
    go_enter Tryz.func3, Tryz.ntmps3
    go_wp2_with fail
    refine (told9_ok W HT.out.1).mono ?_
    rintro e w1 ⟨rfl, c1⟩
    have HC := Lib.hid c1; clear c1
    go_wp2_with fail
    go_ret
    exact ⟨rfl, HC.out⟩
  · have d2 : ¬ (40 : Int) < (xs.length : Int) := by omega
    have hm40 : xs.length ≤ 40 := by omega
    obtain ⟨m0, hm0, em0⟩ := mod_n ez 4 (by decide) (by decide)
    have em : wrap64 ((IntKind.u64.wrap ez).tmod 4) = (m0 : Int) := em0
    have em2 : wrap64 (1 + (m0 : Int)) = ((m0 + 1 : Nat) : Int) := by unfold wrap64; omega
    have HE := Lib.hid (And.intro em em2); clear em em2 em0
    go_enter Tryz.func3, Tryz.ntmps3
    go_wp2_with fail
    refine (hnew_ok W 256 2 16384 (by decide) (by decide) (by decide) (by decide) (by decide)).mono ?_
    rintro e w1 ⟨H0, rfl, Q⟩
    have HQ := Lib.hid Q; clear Q
    go_wp2_with fail
    refine (harena_ok HQ.out).mono ?_
    rintro e w2 ⟨rfl, rfl⟩
    go_wp2_with fail
    refine (harena_ok HQ.out).mono ?_
    rintro e w3 ⟨rfl, rfl⟩
    go_upto_region 8 with fail
    rw [HE.out.1, HE.out.2]
    obtain ⟨m, hm'⟩ : ∃ m, m = m0 + 1 := ⟨_, rfl⟩
    rw [← hm']
    have hm1 : 1 ≤ m := by omega
    have hm4 : m ≤ 4 := by omega
    clear HE hm0 hm' d2 hl hm
    have K0 : SwK W H0.gh H0.ah.ga 0 Mkd [] H0 (hp0 256 2) 0 0 (.slice none 0 0) w3 := ⟨rfl, rfl, HQ.out, hp0_inv 256 2 (by decide), rfl, rfl, Nat.le_refl _, Nat.le_refl _, PgB.new 256 2 3 (by decide), LsP.nil _ _ _, by simp, Nat.le_refl _⟩
    have HK := Lib.hid K0; clear K0 HQ
    go_wp2_with fail
    go_loopg [9, 10] (xs.length + 1) (fun gk vs idx wr => Sw1Rel W H0.gh H0.ah.ga xs.length gk vs idx wr)
    case atStart => exact ⟨0, [], H0, _, 0, 0, by omega, by omega, rfl, HK.out, fun j _ => rfl, fun h => absurd h (by omega)⟩
    case round =>
      clear HK
      obtain ⟨i, st, H, A9, N, b, hgk, hi, rfl, J, hun, hne⟩ := hrel
      obtain ⟨As, cs, rfl⟩ := J.L.o.slice
      by_cases e : i < xs.length
      · obtain ⟨z, hz⟩ : ∃ z, xs[i]? = some z := ⟨xs[i], List.getElem?_eq_getElem e⟩
        obtain ⟨ba, off, rfl, -, hb1⟩ := ints_keep9 HT.out.2 J.Q.S.c hz
        have hi' : (i : Int) < (xs.length : Int) := by omega
        have hi0 : (0 : Int) ≤ (i : Int) := by omega
        obtain ⟨n0, hn0, en0⟩ := mod_n z 64 (by decide) (by decide)
        have en : wrap64 ((IntKind.u64.wrap z).tmod 64) = (n0 : Int) := en0
        have en2 : wrap64 (1 + (n0 : Int)) = ((n0 + 1 : Nat) : Int) := by unfold wrap64; omega
        have EN := Lib.hid (And.intro en en2); clear en en2 en0
        have HJ := Lib.hid (And.intro J (And.intro hun hne)); clear J hun hne
        go_wp2_with fail
        rw [and_one_i i (by omega), EN.out.1, EN.out.2]
        obtain ⟨q, hq⟩ : ∃ q, q = i % 2 := ⟨_, rfl⟩
        obtain ⟨n, hn⟩ : ∃ n, n = n0 + 1 := ⟨_, rfl⟩
        rw [← hn, ← hq]
        have hn1 : 1 ≤ n := by omega
        have hn2 : n ≤ 64 := by omega
        have hqP : q < A9.P := by rw [HJ.out.1.P]; omega
        clear EN hn0 hn hb1 hz hq
        have hNi := HJ.out.1.N
        have hbi := HJ.out.1.b
        have k := halloc_ok W wr H A9 N b HJ.out.1.Q HJ.out.1.I HT.out.1 (by omega) (by omega) q n hqP hn1 (by omega) false
        rw [HJ.out.1.gh] at k
        refine k.mono ?_
        clear k
        rintro e2 w4 ⟨cl, x, gone, cc, vg, A4, N4, b4, H4, hof, hal, rfl, hN4, hb4, hE4, Q4, t4, L4, ln4, I4⟩
        obtain ⟨rfl, B4, f, pp, id, s0, y, D, hl, hpp, T⟩ := hal.pgs HJ.out.1.I hqP hof.1 HJ.out.1.Q.S.I HJ.out.1.B (pg3 hof (by omega)) (by omega)
        obtain ⟨Ag, ng, cg, rfl⟩ := L4.o.slice'
        have K4 := HJ.out.1.after hE4 Q4 I4 hN4 hb4 B4 T.eP T.eN t4 (fun z hz => T.mkd HJ.out.2.1 hz)
        have hun4 := (T.unz HJ.out.2.1).1
        have hxb := T.bd Q4.S.I (by rw [K4.n]; decide)
        have H4' := Lib.hid (And.intro K4 (And.intro hun4 (And.intro hxb T))); clear K4 hun4 hxb T hof hal hE4 Q4 t4 L4 ln4 I4 B4 hl hpp
        have hx0 : ¬ m = 0 := by omega
        have hx1 : ¬ (m : Int) = 0 := by omega
        have hem : (i : Int) % (m : Int) = ((i % m : Nat) : Int) := (Int.natCast_emod i m).symm
        by_cases hmod : i % m = 0
        · have dq : ((i : Int) % (m : Int) == 0) = true := by rw [beq_iff_eq, hem, hmod]; rfl
          clear hem hmod
          go_wp2_with fail
          have kM := s_mark H4'.out.1.Q.S (by omega) H4'.out.2.2.2.spid (i := y) H4'.out.2.2.2.ey.2.1 (by show setF s0.F y y = true; unfold setF; simp)
          have ex : (allocS s0 y false).addr y = x := H4'.out.2.2.2.ex.symm
          rw [ex, H4'.out.1.ga] at kM
          refine kM.mono ?_
          clear kM
          rintro e5 w5 ⟨rfl, S5, st5⟩
          have S5' : ArS W w5 H4.ah.ga H4.ah { A4.a with sp := updF A4.a.sp id (some (markS (allocS s0 y false) y)) } N4 b4 := by rw [H4'.out.1.ga]; exact S5
          have K5 := H4'.out.1.mark H4'.out.2.2.2.spid S5' st5 (fun z hz => hz.mark H4'.out.2.2.2.spid)
          have M5 : Mkd (mrkA A4 id (allocS s0 y false) y) x := by rw [← ex]; exact Mkd.new H4'.out.2.2.2.ey.2.1 (by show setF s0.F y y = true; unfold setF; simp)
          have H5 := Lib.hid (And.intro K5 M5); clear K5 M5 S5 S5' st5 ex dq
          have hxb := H4'.out.2.2.1
          go_wp2_with fail
          refine (put_ok w5 _ st (x : Nat) H5.out.1.L.o (fun y hy => by obtain ⟨z, rfl, hz, -⟩ := H5.out.1.s y hy; unfold WfI; omega) (by unfold WfI; omega) (by have := H5.out.1.len; omega)).mono ?_
          rintro e6 w6 ⟨v6, rfl, O6, s6⟩
          have K6 := H5.out.1.put O6 s6 H5.out.2 hxb (by have := HJ.out.1.len; omega)
          obtain ⟨A6, c6, rfl⟩ := O6.slice
          have H6 := Lib.hid K6; clear K6 O6 s6
          go_wp2_with fail
          go_roundg (xs.length - i)
          case measure => omega
          case rel => exact ⟨i + 1, _, H4, _, N4, b4, by omega, by omega, by go_num, H6.out, H4'.out.2.1, fun _ h => by have := mem_putL.2 (.inr rfl : ((x : Nat) : Int) ∈ st ∨ ((x : Nat) : Int) = (x : Nat)); rw [h] at this; cases this⟩
        · have dq : ((i : Int) % (m : Int) == 0) = false := by rw [beq_eq_false_iff_ne, hem]; omega
          have hi1 : 0 < i := by
            rcases Nat.eq_zero_or_pos i with h | h
            · rw [h, Nat.zero_mod] at hmod; exact absurd rfl hmod
            · exact h
          have HI := Lib.hid hi1
          clear hem hmod hi1
          go_wp2_with fail
          go_roundg (xs.length - i)
          case measure => omega
          case rel => exact ⟨i + 1, st, H4, A4, N4, b4, by omega, by omega, by go_num, H4'.out.1, H4'.out.2.1, fun _ => HJ.out.2.2 HI.out⟩
      · obtain rfl : i = xs.length := by omega
        have hi' : ¬ (xs.length : Int) < (xs.length : Int) := by omega
        have HJ := Lib.hid (And.intro J (And.intro hun hne)); clear J hun hne e hi
        have hNi := HJ.out.1.N
        have hbi := HJ.out.1.b
        have huz : unsN A9.r 16 = 0 := unsN_zero.2 fun k _ => ⟨HJ.out.2.1 _ (by omega), HJ.out.2.1 _ (by omega)⟩
        have HU := Lib.hid huz; clear huz
        have hBg : ∀ (w' : World) (e : Ending), HbPost W wr H A9 N b e w' → e = .returned (.int .i64 0) ∧ ∃ H1 A1, SwK W H0.gh H0.ah.ga xs.length Sty st H1 A1 N b (.slice As st.length cs) w' ∧ (0 < xs.length → 0 < unsN A1.r 16) := by
          rintro w' e (⟨h1, -⟩ | ⟨-, he, r1, hF, I1, H1, hE, Q1, t1⟩)
          · have := HU.out; omega
          · refine ⟨he, H1, _, ⟨hE.gh.trans HJ.out.1.gh, hE.ga.trans HJ.out.1.ga, Q1, I1, HJ.out.1.P, HJ.out.1.n, HJ.out.1.N, HJ.out.1.b, HJ.out.1.B, HJ.out.1.L.st t1, fun x hx => ?_, HJ.out.1.len⟩, fun h0 => ?_⟩
            · obtain ⟨z, h1, h2, h3⟩ := HJ.out.1.s x hx
              exact ⟨z, h1, h2, h3.sty rfl⟩
            · obtain ⟨x, hx⟩ : ∃ x, x ∈ st := List.exists_mem_of_ne_nil _ (HJ.out.2.2 h0)
              obtain ⟨z, -, -, id, s, j, hs, -⟩ := HJ.out.1.s x hx
              exact uns_pos I1 (fun p k hp hk => faO_all _ hp hk) (fun j hj => by
                show bgR r1 32 j = []
                have hz : ∀ j, 2 ≤ j % 4 → r1 j = [] := fun j hj => List.eq_nil_iff_forall_not_mem.2 fun z hz => by
                  have := hF.un hj hz
                  rw [HJ.out.2.1 j hj] at this; cases this
                have h64 : ∀ j, 64 ≤ j → r1 j = [] := fun j hj => List.eq_nil_iff_forall_not_mem.2 fun z hz => by
                  have := ((HJ.out.1.I.flushAll (Nat.le_refl _) hF).r j z hz).1
                  omega
                rw [bgR_at hz h64, if_pos hj]) (s := s) hs
        have HB := Lib.hid hBg; clear hBg
        go_upto_region 18 with fail
        go_cut [91] from 79 to 91 (fun v wc => v = .bool false ∧ ∃ H1 A1, SwK W H0.gh H0.ah.ga xs.length Sty st H1 A1 N b (.slice As st.length cs) wc)
        case first =>
          have k := hbegin_ok W wr H A9 N b HJ.out.1.Q HJ.out.1.I HT.out.1 (by omega)
          rw [HJ.out.1.gh] at k
          go_wp2_with fail
          refine k.mono ?_
          clear k
          intro e2 w4 hpost
          obtain ⟨rfl, H1, A1, J1, hpos⟩ := HB.out _ _ hpost
          have HJ1 := Lib.hid (And.intro J1 hpos); clear J1 hpos hpost
          by_cases h0 : 0 < xs.length
          · have h0' : (0 : Int) < (xs.length : Int) := by omega
            go_wp2_with fail
            have k := hbegin_ok W w4 H1 A1 N b HJ1.out.1.Q HJ1.out.1.I HT.out.1 (by omega)
            rw [HJ1.out.1.gh] at k
            refine k.mono ?_
            clear k
            rintro e3 w5 (⟨-, rfl, c5⟩ | ⟨h9, -⟩)
            · have HJ2 := Lib.hid (HJ1.out.1.chg0 c5); clear c5
              go_wp2_with fail
              go_meet
              exact ⟨rfl, H1, A1, HJ2.out⟩
            · have := HJ1.out.2 h0
              omega
          · have h0' : ¬ (0 : Int) < (xs.length : Int) := by omega
            go_wp2_with fail
            go_meet
            exact ⟨rfl, H1, A1, HJ1.out.1⟩
        case rest =>
          clear HB
          obtain ⟨rfl, H1, A1, J1⟩ := hcut
          have HK := Lib.hid J1; clear J1 HJ HU
          go_wp2_with fail
          go_loopg [14] (xs.length + 1) (fun gk idx wr => Sw2Rel W H0.gh H0.ah.ga xs.length (.slice As st.length cs) st gk idx wr)
          case atStart => exact ⟨0, H1, A1, N, b, by omega, by omega, rfl, by rw [Nat.add_zero]; exact HK.out⟩
          case round =>
            clear HK hNi hbi
            obtain ⟨i, H, A9, N, b, hgk, hi, rfl, J⟩ := hrel
            by_cases e : i < xs.length
            · obtain ⟨z, hz⟩ : ∃ z, xs[i]? = some z := ⟨xs[i], List.getElem?_eq_getElem e⟩
              obtain ⟨ba, off, rfl, -, hb1⟩ := ints_keep9 HT.out.2 J.Q.S.c hz
              have hi' : (i : Int) < (xs.length : Int) := by omega
              have hi0 : (0 : Int) ≤ (i : Int) := by omega
              obtain ⟨n0, hn0, en0⟩ := mod_n z 64 (by decide) (by decide)
              have en : wrap64 ((IntKind.u64.wrap z).tmod 64) = (n0 : Int) := en0
              have en2 : wrap64 (1 + (n0 : Int)) = ((n0 + 1 : Nat) : Int) := by unfold wrap64; omega
              have EN := Lib.hid (And.intro en en2); clear en en2 en0
              have HJ := Lib.hid J; clear J
              go_wp2_with fail
              rw [and_one_i i (by omega), EN.out.1, EN.out.2]
              obtain ⟨q, hq⟩ : ∃ q, q = i % 2 := ⟨_, rfl⟩
              obtain ⟨n, hn⟩ : ∃ n, n = n0 + 1 := ⟨_, rfl⟩
              rw [← hn, ← hq]
              have hn1 : 1 ≤ n := by omega
              have hn2 : n ≤ 64 := by omega
              have hqP : q < A9.P := by rw [HJ.out.P]; omega
              clear EN hn0 hn hb1 hz hq
              have hNi := HJ.out.N
              have hbi := HJ.out.b
              have k := halloc_ok W wr H A9 N b HJ.out.Q HJ.out.I HT.out.1 (by omega) (by omega) q n hqP hn1 (by omega) false
              rw [HJ.out.gh] at k
              refine k.mono ?_
              clear k
              rintro e2 w4 ⟨cl, x, gone, cc, vg, A4, N4, b4, H4, hof, hal, rfl, hN4, hb4, hE4, Q4, t4, L4, ln4, I4⟩
              obtain ⟨rfl, B4, f, pp, id, s0, y, D, hl, hpp, T⟩ := hal.pgs HJ.out.I hqP hof.1 HJ.out.Q.S.I HJ.out.B (pg3 hof (by omega)) (by omega)
              obtain ⟨Ag, ng, cg, rfl⟩ := L4.o.slice'
              have K4 := HJ.out.after hE4 Q4 I4 hN4 hb4 B4 T.eP T.eN t4 (fun z hz => (T.sty HJ.out.Q.S.I hof.1 hl hpp hz).1)
              have hxn : ((x : Nat) : Int) ∉ st := fun hx => by
                obtain ⟨z, h1, -, h3⟩ := HJ.out.s _ hx
                have h4 := (T.sty HJ.out.Q.S.I hof.1 hl hpp h3).2
                omega
              have H4' := Lib.hid (And.intro K4 (And.intro hxn T)); clear K4 hxn T hof hal hE4 Q4 t4 L4 ln4 I4 B4 hl hpp
              go_wp2_with fail
              refine (has_ok w4 _ st (x : Nat) H4'.out.1.L.o.rd).mono ?_
              rintro e5 w5 ⟨rfl, rfl⟩
              rw [decide_eq_false H4'.out.2.1]
              go_wp2_with fail
              have kM := s_mark H4'.out.1.Q.S (by omega) H4'.out.2.2.spid (i := y) H4'.out.2.2.ey.2.1 (by show setF s0.F y y = true; unfold setF; simp)
              have ex : (allocS s0 y false).addr y = x := H4'.out.2.2.ex.symm
              rw [ex, H4'.out.1.ga] at kM
              refine kM.mono ?_
              clear kM
              rintro e5 w6 ⟨rfl, S5, st5⟩
              have S5' : ArS W w6 H4.ah.ga H4.ah { A4.a with sp := updF A4.a.sp id (some (markS (allocS s0 y false) y)) } N4 b4 := by rw [H4'.out.1.ga]; exact S5
              have K5 := H4'.out.1.mark H4'.out.2.2.spid S5' st5 (fun z hz => hz.mark H4'.out.2.2.spid)
              have H5 := Lib.hid K5; clear K5 S5 S5' st5 ex
              go_wp2_with fail
              go_roundg (xs.length - i)
              case measure => omega
              case rel => exact ⟨i + 1, H4, _, N4, b4, by omega, by omega, by go_num, H5.out⟩
            · obtain rfl : i = xs.length := by omega
              have hi' : ¬ (xs.length : Int) < (xs.length : Int) := by omega
              have HJ := Lib.hid J; clear J e hi
              have hsl := HJ.out.len
              go_wp2_with fail
              go_loopg [18] (st.length + 1) (fun gk idx wr => Sw3Rel W H0.gh H0.ah.ga xs.length (.slice As st.length cs) st H A9 N b gk idx wr)
              case atStart => exact ⟨0, by omega, by omega, rfl, HJ.out⟩
              case round =>
                clear HJ
                obtain ⟨i, hgk, hi, rfl, J⟩ := hrel
                by_cases e : i < st.length
                · obtain ⟨z, hz⟩ : ∃ z, st[i]? = some z := ⟨st[i], List.getElem?_eq_getElem e⟩
                  obtain ⟨zn, rfl, hzb, hst⟩ := J.s z (List.mem_of_getElem? hz)
                  obtain ⟨gs, rfl, hc1, -, -⟩ := J.L.o.cell hz
                  have hob := hst.ob J.Q.S.I
                  obtain ⟨ys, hys⟩ := Option.isSome_iff_exists.1 hob
                  have hlen := (J.Q.S.I.ok.len _ _ hys).1
                  have hI : obI A9.a (zn : Nat) = some ys := by rw [obI_nat]; exact hys
                  have hi' : (i : Int) < (st.length : Int) := by omega
                  have hi0 : (0 : Int) ≤ (i : Int) := by omega
                  have kL := s_len J.Q.S (zn : Nat) (by unfold Wf64; omega)
                  rw [hI, J.ga] at kL
                  have hle : ((((some ys).getD []).length : Nat) : Int) = (ys.length : Int) := rfl
                  rw [hle] at kL
                  have HJ := Lib.hid J; clear J hys hob hz hst hI hle
                  go_wp2_with fail
                  refine kL.mono ?_
                  clear kL
                  rintro e4 w7 ⟨rfl, rfl⟩
                  have hy0 : ¬ (ys.length : Int) = 0 := by omega
                  have hy1 : ((ys.length : Int) == 0) = false := by rw [beq_eq_false_iff_ne]; exact hy0
                  go_wp2_with fail
                  go_roundg (st.length - i)
                  case measure => omega
                  case rel => exact ⟨i + 1, by omega, by omega, by go_num, HJ.out⟩
                · obtain rfl : i = st.length := by omega
                  have hi' : ¬ (st.length : Int) < (st.length : Int) := by omega
                  have HJ := Lib.hid J; clear J e hi
                  go_wp2_with fail
                  refine (told9_ok wr (HT.out.1.chg HJ.out.Q.S.c (by simp))).mono ?_
                  rintro e4 w8 ⟨rfl, c8⟩
                  have HC := Lib.hid (HJ.out.Q.S.c.trans c8); clear c8
                  go_wp2_with fail
                  go_ret
                  exact ⟨rfl, HC.out⟩
end Go.Proofs.YtmafiagakoglkaaGreatDoor
