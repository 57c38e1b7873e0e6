/- The walk of ArenaComes. -/
import Derived.Test.YtkocikpoagfonaaDoorArC
namespace Go.Proofs.YtkocikpoagfonaaDoor
open Go.RowKit

def CmRel (W : World) (g : Nat) (h : ArH) (k q : Nat) (gk : Nat) (idx : Value) (w : World) : Prop :=
  ∃ i a, gk + i = k + 1 ∧ i ≤ k ∧ idx = .int .i64 (i : Nat) ∧ ArS W w g h a 1 7 ∧ a.sp 0 = some (s2 q) ∧ ∃ xs, a.ob 64 = some xs ∧ xs.length = k
def CnRel (W : World) (g : Nat) (h : ArH) (a : Ar) (k : Nat) (gk : Nat) (idx : Value) (w : World) : Prop :=
  ∃ i, gk + i = k + 1 ∧ i ≤ k ∧ idx = .int .i64 (i : Nat) ∧ ArS W w g h a 1 8
set_option maxHeartbeats 6400000 in
set_option maxRecDepth 100000 in
theorem comes_any (n v m : Int) (W : World) (T0 : Tab W) : Calls Tryd.prog 3 #[.int .i64 n, .int .i64 v, .int .i64 m] W (TdPost W) := by
  obtain ⟨k0, hk0, ek0⟩ := mod_n n 256 (by decide) (by decide)
  have ek : wrap64 ((IntKind.u64.wrap n).tmod 256) = (k0 : Int) := ek0
  have ek2 : wrap64 (1 + (k0 : Int)) = ((k0 + 1 : Nat) : Int) := by unfold wrap64; omega
  obtain ⟨m0, hm0, em0⟩ := mod_n m (k0 + 1) (by omega) (by omega)
  have em2 : wrap64 (1 + (m0 : Int)) = ((m0 + 1 : Nat) : Int) := by unfold wrap64; omega
  have HE := Lib.hid (And.intro (And.intro ek ek2) (And.intro em0 em2)); clear ek0 ek ek2 em0 em2
  have HT := Lib.hid T0; clear T0
  go_enter Tryd.func3, Tryd.ntmps3
  go_upto_region 2 with fail
  rw [HE.out.1.1, HE.out.1.2]
  obtain ⟨k, hk⟩ : ∃ k, k = k0 + 1 := ⟨_, rfl⟩
  rw [← hk] at HE hm0 ⊢
  have hk1 : 1 ≤ k := by omega
  have hk2 : k ≤ 256 := by omega
  clear hk hk0
  go_wp2_with fail
  refine (s_new W 64 4096 (by decide) (by decide) (by decide)).mono ?_
  rintro e w1 ⟨g, h1, rfl, S⟩
  have S1 := Lib.hid S; clear S
  go_wp2_with fail
  refine (rof_ok w1 k hk1 hk2).mono ?_
  rintro e w2 ⟨q, hq, rfl, c⟩
  have S2 := Lib.hid (And.intro hq (S1.out.chg0 c)); clear c hq
  have hq16 : q < 16 := S2.out.1.1
  have hkq : k ≤ szK q := S2.out.1.2.1
  have hpg := (kF hq16).2.2.2.2.2.1
  go_wp2_with fail
  refine (s_span_next S2.out.2 (by decide) (by decide) (q := q) (f := 1) (p := 63) hq16 (by decide) (by omega) (by intro j hj; omega)).mono ?_
  rintro e w3 ⟨h3, rfl, S, hn, -⟩
  obtain ⟨a3, ha3⟩ : ∃ a3, a3 = spanA (newA 64) [⟨1 + pgK q, 63 - pgK q⟩] 0 q 1 := ⟨_, rfl⟩
  rw [← ha3] at S
  have hs3 : a3.sp 0 = some (spn 1 q) := by rw [ha3]; rfl
  have S3 := Lib.hid (And.intro S hs3); clear S ha3 hn hs3
  go_wp2_with fail
  have hA := s_alloc_first S3.out.1 HT.out (by decide) (by decide) (id := 0) (n := k) (s := spn 1 q) S3.out.2 rfl rfl hk1 hkq true
  rw [spn_addr] at hA
  refine hA.mono ?_
  clear hA
  rintro e w4 ⟨h4, rfl, S, -⟩
  obtain ⟨a4, ha4⟩ : ∃ a4, a4 = allocA a3 0 (spn 1 q) 0 k true := ⟨_, rfl⟩
  have S0 : ArS W w4 g h4 a4 1 7 := by rw [ha4]; exact S
  clear S
  have S := S0
  clear S0
  have hs4 : a4.sp 0 = some (s2 q) := by rw [ha4]; show updF a3.sp 0 (some (s2 q)) 0 = _; exact updF_same _ _ _
  have ho4 : a4.ob 64 = some (List.replicate k 0) := by rw [ha4]; show updF a3.ob ((spn 1 q).addr 0) _ 64 = _; rw [spn_addr]; exact updF_same _ _ _
  have S4 := Lib.hid (And.intro S (And.intro hs4 ho4)); clear S ha4 hs4 ho4
  have e64 : (((1 * 64 : Nat) : Int)) = 64 := rfl
  rw [e64]; clear e64
  go_wp2_with fail
  have hsl : 0 < slK q := (kF hq16).2.2.2.2.2.2.2.1
  have hMk := s_marked S4.out.1 (by decide) S4.out.2.1 (i := 0) hsl (by rw [s2_F]; rfl)
  rw [addr64 (s := s2 q) rfl, s2_M] at hMk
  refine hMk.mono ?_
  clear hMk
  rintro e w5 ⟨rfl, c⟩
  have S5 := Lib.hid (S4.out.1.chg0 c); clear c
  go_wp2_with fail
  go_loopg [14] (k + 1) (fun gk idx wr => CmRel W g h4 k q gk idx wr)
  case atStart => exact ⟨0, a4, by omega, by omega, rfl, S5.out, S4.out.2.1, _, S4.out.2.2, List.length_replicate ..⟩
  case round =>
    obtain ⟨i, a, hgk, hi, rfl, S, hs, xs, ho, hl⟩ := hrel
    by_cases e : i < k
    · have hi' : (i : Int) < (k : Int) := by omega
      have HS := Lib.hid (And.intro S (And.intro hs (And.intro ho hl))); clear S hs ho hl
      go_wp2_with fail
      refine (s_store HS.out.1 64 (i : Nat) v (by unfold Wf64; decide)).mono ?_
      rintro e w6 ⟨rfl, S, -⟩
      have ho2 := putA_ob (a := a) (x := 64) (i := i) v HS.out.2.2.1 (by rw [HS.out.2.2.2]; exact e)
      have HS2 := Lib.hid (And.intro S ho2); clear S ho2
      go_wp2_with fail
      go_roundg (k - i)
      case measure => omega
      case rel =>
        exact ⟨i + 1, _, by omega, by omega, by go_num, HS2.out.1, by rw [putA_sp]; exact HS.out.2.1, _, by rw [show ((64 : Nat) : Int) = 64 from rfl] at HS2; rw [HS2.out.2]; exact updF_same _ _ _, by rw [List.length_set]; exact HS.out.2.2.2⟩
    · obtain rfl : i = k := by omega
      have hi' : ¬ (i : Int) < (i : Int) := by omega
      have HS := Lib.hid (And.intro S (And.intro hs (And.intro ho hl))); clear S hs ho hl e
      have hN0 := (kF hq16).2.2.2.2.2.2.2.1
      have hu : IntKind.u64.wrap (i : Int) = (i : Int) := by rw [IntKind.wrap_u64]; omega
      go_wp2_with fail
      refine (s_sweep HS.out.1 HT.out (by decide) (id := 0) (s := s2 q) HS.out.2.1).mono ?_
      rintro e w7 ⟨v1, h7, rfl, O, -, -, S, -⟩
      rw [s2_swept] at O S
      obtain ⟨A1, c1, rfl⟩ : ∃ A1 c1, v1 = .slice A1 0 c1 := O.slice
      obtain ⟨a7, ha7⟩ : ∃ a7, a7 = sweepA a 0 (s2 q) 0 := ⟨_, rfl⟩
      have S0 : ArS W w7 g h7 a7 1 7 := by rw [ha7]; exact S
      clear S
      have S := S0
      clear S0
      have hs7 : a7.sp 0 = some (s3 q) := by rw [ha7]; show updF a.sp 0 (some (s3 q)) 0 = _; exact updF_same _ _ _
      have S7 := Lib.hid (And.intro S hs7); clear S O hs7 ha7
      go_wp2_with fail
      refine (s_sweep S7.out.1 HT.out (by decide) (id := 0) (s := s3 q) S7.out.2).mono ?_
      rintro e w8 ⟨v2, h8, rfl, O, -, nf, S, -⟩
      rw [s3_swept hq16] at O nf S
      have O2 : OwnI 3 w8 v2 [64] := by
        have e1 : intsN (List.map (s3 q).addr [0]) = [64] := by
          show [((s3 q).addr 0 : Int)] = [64]
          rw [addr64 (s := s3 q) rfl]; rfl
        rw [e1] at O; exact O
      obtain ⟨a8, ha8⟩ : ∃ a8, a8 = sweepA a7 0 (s3 q) 1 := ⟨_, rfl⟩
      have S0 : ArS W w8 g h8 a8 1 7 := by rw [ha8]; exact S
      clear S
      have S := S0
      clear S0
      have nf : ∀ k ∈ fpv v2, ¬ ArF h8 a8 k := by rw [ha8]; exact nf
      have hs8 : a8.sp 0 = some (s4 q) := by rw [ha8]; show updF a7.sp 0 (some (s4 q)) 0 = _; exact updF_same _ _ _
      have ho8 : a8.ob 64 = none := by
        rw [ha8]
        show obT a7 (s3 q) 1 64 = none
        unfold obT addrT
        rw [s3_swept hq16]
        rw [if_pos]
        show 64 ∈ [(s3 q).addr 0]
        rw [addr64 (s := s3 q) rfl]; decide
      obtain ⟨A2, c2, rfl⟩ : ∃ A2 c2, v2 = .slice A2 1 c2 := O2.slice
      have S8 := Lib.hid (And.intro S (And.intro hs8 (And.intro ho8 (And.intro O2 nf)))); clear S O hs8 ha8 ho8 O2 nf
      go_wp2_with fail
      have hL := s_load S8.out.1 64 0 (by unfold Wf64; decide)
      rw [slotC_none (a := a8) (x := 64) (i := 0) S8.out.2.2.1, loadV_none (a := a8) (x := 64) (i := 0) S8.out.2.2.1] at hL
      refine hL.mono ?_
      clear hL
      rintro e w9 ⟨rfl, c⟩
      have S9 := Lib.hid (And.intro (S8.out.1.chg0 c) (S8.out.2.2.2.1.chg0 c)); clear c
      have hi0 : ¬ (i : Int) = 0 := by omega
      have hi00 : ¬ i = 0 := by omega
      go_upto_region 17 with fail
      rw [HE.out.2.1, HE.out.2.2]
      obtain ⟨m1, hm1⟩ : ∃ m1, m1 = m0 + 1 := ⟨_, rfl⟩
      rw [← hm1]
      have hm2 : 1 ≤ m1 := by omega
      have hm3 : m1 ≤ i := by omega
      clear hm1 hm0 HE hu hi0 hi00
      go_wp2_with fail
      have hA := s_alloc_first S9.out.1 HT.out (by decide) (by decide) (id := 0) (n := m1) (s := s4 q) S8.out.2.1 rfl rfl hm2 (show m1 ≤ szK q by omega) false
      rw [addr64 (s := s4 q) rfl] at hA
      refine hA.mono ?_
      clear hA
      rintro e w10 ⟨h10, rfl, S, st⟩
      obtain ⟨b, hb⟩ : ∃ b, b = allocA a8 0 (s4 q) 0 m1 false := ⟨_, rfl⟩
      have S0 : ArS W w10 g h10 b 1 8 := by rw [hb]; exact S
      clear S
      have S := S0
      clear S0
      have hs10 : b.sp 0 = some (s5 q) := by rw [hb]; show updF a8.sp 0 (some (s5 q)) 0 = _; exact updF_same _ _ _
      have ho10 : b.ob 64 = some (List.replicate m1 0) := by rw [hb]; show updF a8.ob ((s4 q).addr 0) _ 64 = _; rw [addr64 (s := s4 q) rfl]; exact updF_same _ _ _
      have O := S9.out.2.sta st S8.out.2.2.2.2
      have S10 := Lib.hid (And.intro S (And.intro hs10 (And.intro ho10 O))); clear S hs10 ho10 O hb st
      have e64 : (((64 : Nat) : Int)) = 64 := rfl
      rw [e64]
      go_wp2_with fail
      refine (ints_ok _ _ _ [64] [64] (S10.out.2.2.2.alloc _).rd (RdI.blk (Blk.new _ _ _) (by decide))).mono ?_
      rintro e w11 hB
      obtain ⟨rfl, c⟩ := hB.chg
      rw [show decide (([64] : List Int) = [64]) = true from rfl]
      have S11 := Lib.hid (S10.out.1.chg0 (((Chg.refl [] w10).alloc _).trans c)); clear c hB
      go_wp2_with fail
      have hMk := s_marked S11.out (by decide) S10.out.2.1 (i := 0) hN0 (s5_F q)
      rw [addr64 (s := s5 q) rfl, s5_M] at hMk
      refine hMk.mono ?_
      clear hMk
      rintro e w12 ⟨rfl, c⟩
      have S12 := Lib.hid (S11.out.chg0 c); clear c
      go_wp2_with fail
      have hLn := s_len S12.out 64 (by unfold Wf64; decide)
      have e2 : ((obI b 64).getD []).length = m1 := by
        have := S10.out.2.2.1
        show ((b.ob 64).getD []).length = m1
        rw [this]; simp
      rw [e2] at hLn
      refine hLn.mono ?_
      clear hLn
      rintro e w13 ⟨rfl, rfl⟩
      clear e2
      go_wp2_with fail
      go_loopg [24] (m1 + 1) (fun gk idx wr => CnRel W g h10 b m1 gk idx wr)
      case atStart => exact ⟨0, by omega, by omega, rfl, S12.out⟩
      case round =>
        obtain ⟨j, hgj, hj, rfl, S⟩ := hrel
        by_cases e : j < m1
        · have hj' : (j : Int) < (m1 : Int) := by omega
          have HS2 := Lib.hid S; clear S
          go_wp2_with fail
          have hL := s_load HS2.out 64 (j : Nat) (by unfold Wf64; decide)
          rw [slotC_in (a := b) (x := 64) (i := (j : Nat)) S10.out.2.2.1 (by omega) (by rw [List.length_replicate]; omega), loadV_in (a := b) (x := 64) (i := (j : Nat)) S10.out.2.2.1 (by omega) (by rw [List.length_replicate]; omega)] at hL
          rw [show (List.replicate m1 (0 : Int)).getD (Int.toNat (j : Nat)) 0 = 0 by rw [List.getD_eq_getElem?_getD, Int.toNat_natCast, List.getElem?_replicate]; split <;> rfl] at hL
          refine hL.mono ?_
          clear hL
          rintro e w14 ⟨rfl, c⟩
          have HS3 := Lib.hid (HS2.out.chg0 c); clear c
          go_wp2_with fail
          go_roundg (m1 - j)
          case measure => omega
          case rel => exact ⟨j + 1, by omega, by omega, by go_num, HS3.out⟩
        · obtain rfl : j = m1 := by omega
          have hj' : ¬ (j : Int) < (j : Int) := by omega
          have HS2 := Lib.hid S; clear S e
          go_wp2_with fail
          have hL := s_load HS2.out 64 (j : Nat) (by unfold Wf64; decide)
          rw [slotC_out (a := b) (x := 64) (i := (j : Nat)) S10.out.2.2.1 (by rw [List.length_replicate]; omega), loadV_out (a := b) (x := 64) (i := (j : Nat)) S10.out.2.2.1 (by rw [List.length_replicate]; omega)] at hL
          refine hL.mono ?_
          clear hL
          rintro e w14 ⟨rfl, c⟩
          have HS3 := Lib.hid (HS2.out.chg0 c); clear c
          go_wp2_with fail
          refine (told_ok w14 (HT.out.chg HS3.out.c (by simp))).mono ?_
          rintro e w15 ⟨rfl, c⟩
          have HS4 := Lib.hid (HS3.out.chg0 c); clear c
          go_wp2_with fail
          refine (s_drop_no HS4.out (id := 0) (s := s5 q) S10.out.2.1 (by decide) (cnt_pos hN0 (s5_F q))).mono ?_
          rintro e w16 ⟨rfl, c⟩
          have HS5 := Lib.hid (HS4.out.chg0 c); clear c
          go_wp2_with fail
          go_ret
          exact ⟨rfl, HS5.out.c⟩
end Go.Proofs.YtkocikpoagfonaaDoor
