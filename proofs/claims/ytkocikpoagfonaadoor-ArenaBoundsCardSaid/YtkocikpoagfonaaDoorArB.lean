/- The walk of ArenaBounds. -/
import Derived.Test.YtkocikpoagfonaaDoorSer
import Derived.Test.YtkocikpoagfonaaDoorObj
namespace Go.Proofs.YtkocikpoagfonaaDoor
open Go.RowKit

section
variable {w0 w : World} {g N b : Nat} {h : ArH} {a : Ar} (S : ArS w0 w g h a N b)
include S
/-- Alloc of a size that may not be. -/
theorem s_alloc_arg (T0 : Tab w0) (hb : b ≤ 1000000) (hN : N ≤ 6000) {id : Nat} {s : Sp} (hs : a.sp id = some s) (n : Int) (hn : n < 1 ∨ (szK s.k : Int) < n) (black : Bool) :
    Calls Tryd.prog 11 #[.pointer (some ⟨g, 0, none⟩), .int .i64 (id : Nat), .int .i64 n, .bool black] w (NwPost (.tuple #[.int .i64 0, .int .i64 1]) w) := by
  have hlt := S.I.ok.top id s hs
  have e0 : spI a (id : Nat) = some s := by unfold spI; rw [if_pos (by omega), Int.toNat_natCast]; exact hs
  refine (s_alloc S T0 hb hN id n (by unfold Wf64; omega) black).mono ?_
  rintro e w' (⟨c, he, -, c1, hc⟩ | ⟨s', y, h', h0, hs', hn1, hn2, -⟩)
  · rw [e0] at hc
    rcases hc with ⟨hc, -⟩ | ⟨s', hs', ⟨-, rfl⟩ | ⟨h1, h2, -⟩⟩
    · cases hc
    · exact ⟨he, c1⟩
    · injection hs' with hs'; subst hs'
      omega
  · rw [Int.toNat_natCast, hs] at hs'
    injection hs' with hs'; subst hs'
    omega
theorem s_alloc_nobody (T0 : Tab w0) (hb : b ≤ 1000000) (hN : N ≤ 6000) (id n : Int) (hid : Wf64 id) (hs : spI a id = none) (black : Bool) :
    Calls Tryd.prog 11 #[.pointer (some ⟨g, 0, none⟩), .int .i64 id, .int .i64 n, .bool black] w (NwPost (.tuple #[.int .i64 0, .int .i64 4]) w) := by
  refine (s_alloc S T0 hb hN id n hid black).mono ?_
  rintro e w' (⟨c, he, -, c1, hc⟩ | ⟨s', y, h', h0, hs', -⟩)
  · rcases hc with ⟨-, rfl⟩ | ⟨s', hs', -⟩
    · exact ⟨he, c1⟩
    · rw [hs] at hs'; cases hs'
  · unfold spI at hs
    rw [if_pos h0, hs'] at hs; cases hs
/-- Store where there is nothing. -/
theorem s_store_none (x i v : Int) (hx : Wf64 x) (ho : obI a x = none) : Calls Tryd.prog 13 #[.pointer (some ⟨g, 0, none⟩), .int .i64 x, .int .i64 i, .int .i64 v] w fun e w' => e = .returned (.int .i64 4) ∧ ArS w0 w' g h a N b ∧ StA h a h a w w' := by
  have hc := slotC_none (a := a) (x := x) (i := i) ho
  refine (s_store S x i v hx).mono ?_
  rintro e w' ⟨rfl, S', st⟩
  rw [putA_no v (by rw [hc]; decide)] at S' st
  exact ⟨by rw [hc], S', st⟩
end
theorem none_of {o : Option (List Int)} (h : o.isSome = false) : o = none := by cases o with | none => rfl | some _ => cases h
theorem ser_new64 : (newA 64).sp = fun _ => none := rfl
set_option maxHeartbeats 6400000 in
set_option maxRecDepth 100000 in
theorem bounds_any (n sl v : Int) (W : World) (T0 : Tab W) : Calls Tryd.prog 4 #[.int .i64 n, .int .i64 sl, .int .i64 v] W (TdPost W) := by
  obtain ⟨k0, hk0, ek0⟩ := mod_n n 256 (by decide) (by decide)
  have ek : wrap64 ((IntKind.u64.wrap n).tmod 256) = (k0 : Int) := ek0
  have ek2 : wrap64 (1 + (k0 : Int)) = ((k0 + 1 : Nat) : Int) := by unfold wrap64; omega
  obtain ⟨p0, hp0, ep0⟩ := mod_n sl 300 (by decide) (by decide)
  have ep : wrap64 ((IntKind.u64.wrap sl).tmod 300) = (p0 : Int) := ep0
  obtain ⟨i, hi⟩ : ∃ i : Int, i = (p0 : Int) - 20 := ⟨_, rfl⟩
  have ep2 : wrap64 ((p0 : Int) - 20) = i := by rw [hi]; unfold wrap64; omega
  have hi1 : -20 ≤ i := by omega
  have hi2 : i < 280 := by omega
  have HE := Lib.hid (And.intro (And.intro ek ek2) (And.intro ep ep2)); clear ek0 ek ek2 ep0 ep ep2 hi hp0
  have HT := Lib.hid T0; clear T0
  go_enter Tryd.func4, Tryd.ntmps4
  go_upto_region 2 with fail
  rw [HE.out.1.1, HE.out.1.2]
  obtain ⟨k, hk⟩ : ∃ k, k = k0 + 1 := ⟨_, rfl⟩
  rw [← hk] at HE ⊢
  have hk1 : 1 ≤ k := by omega
  have hk2 : k ≤ 256 := by omega
  clear hk hk0
  go_wp2_with fail
  refine (s_new W 64 4096 (by decide) (by decide) (by decide)).mono ?_
  rintro e w1 ⟨g, h1, rfl, S⟩
  have S1 := Lib.hid S; clear S
  go_wp2_with fail
  refine (rof_ok w1 k hk1 hk2).mono ?_
  rintro e w2 ⟨q, hq, rfl, c⟩
  have S2 := Lib.hid (And.intro hq (S1.out.chg0 c)); clear c hq
  have hq16 : q < 16 := S2.out.1.1
  have hkq : k ≤ szK q := S2.out.1.2.1
  have hpg := (kF hq16).2.2.2.2.2.1
  have hsz := (kF hq16).2.2.2.1
  go_wp2_with fail
  refine (s_span_next S2.out.2 (by decide) (by decide) (q := q) (f := 1) (p := 63) hq16 (by decide) (by omega) (by intro j hj; omega)).mono ?_
  rintro e w3 ⟨h3, rfl, S, hn, -⟩
  obtain ⟨a3, ha3⟩ : ∃ a3, a3 = spanA (newA 64) [⟨1 + pgK q, 63 - pgK q⟩] 0 q 1 := ⟨_, rfl⟩
  rw [← ha3] at S
  have hs3 : a3.sp 0 = some (spn 1 q) := by rw [ha3]; rfl
  have hs3' : a3.sp 1 = none := by rw [ha3]; rfl
  have ho3 : a3.ob = fun _ => none := by rw [ha3]; rfl
  have S3 := Lib.hid (And.intro S (And.intro hs3 (And.intro hs3' ho3))); clear S ha3 hn hs3 hs3' ho3
  go_wp2_with fail
  have hA := s_alloc_first S3.out.1 HT.out (by decide) (by decide) (id := 0) (n := k) (s := spn 1 q) S3.out.2.1 rfl rfl hk1 hkq false
  rw [spn_addr] at hA
  refine hA.mono ?_
  clear hA
  rintro e w4 ⟨h4, rfl, S, -⟩
  obtain ⟨a4, ha4⟩ : ∃ a4, a4 = allocA a3 0 (spn 1 q) 0 k false := ⟨_, rfl⟩
  have S0 : ArS W w4 g h4 a4 1 7 := by rw [ha4]; exact S
  clear S
  have S := S0
  clear S0
  have hs4 : a4.sp 0 = some (allocS (spn 1 q) 0 false) := by rw [ha4]; show updF a3.sp 0 (some (allocS (spn 1 q) 0 false)) 0 = _; exact updF_same _ _ _
  have hs4' : a4.sp 1 = none := by rw [ha4]; show updF a3.sp 0 (some (allocS (spn 1 q) 0 false)) 1 = none; rw [updF_other _ _ (by decide : (1 : Nat) ≠ 0)]; exact S3.out.2.2.1
  have ho4 : a4.ob = updF (fun _ => none) 64 (some (List.replicate k 0)) := by rw [ha4]; show updF a3.ob ((spn 1 q).addr 0) _ = _; rw [spn_addr, S3.out.2.2.2]
  have S4 := Lib.hid (And.intro S (And.intro hs4 (And.intro hs4' ho4))); clear S ha4 hs4 hs4' ho4
  have e64 : (((1 * 64 : Nat) : Int)) = 64 := rfl
  rw [e64]; clear e64
  have hob : obI a4 64 = some (List.replicate k 0) := by show a4.ob 64 = _; rw [S4.out.2.2.2]; exact updF_same _ _ _
  obtain ⟨c, hc⟩ : ∃ c, c = slotC a4 64 i := ⟨_, rfl⟩
  obtain ⟨a5, ha5⟩ : ∃ a5, a5 = putA a4 64 i v := ⟨_, rfl⟩
  obtain ⟨u, hu⟩ : ∃ u, u = loadV a5 64 i := ⟨_, rfl⟩
  obtain ⟨c', hc'⟩ : ∃ c', c' = slotC a5 64 i := ⟨_, rfl⟩
  have hcase : ((0 ≤ i ∧ i < k) ∧ c = 0 ∧ c' = 0 ∧ u = v) ∨ ((0 ≤ i ∧ ¬ i < k) ∧ c = 2 ∧ c' = 2 ∧ u = 0) ∨ (¬ 0 ≤ i ∧ c = 2 ∧ c' = 2 ∧ u = 0) := by
    by_cases hin : 0 ≤ i ∧ i < k
    · obtain ⟨j, rfl⟩ : ∃ j : Nat, i = (j : Int) := ⟨i.toNat, by omega⟩
      have hj : j < k := by omega
      have e1 : a5.ob = updF a4.ob 64 (some ((List.replicate k 0).set j v)) := by rw [ha5]; exact putA_ob (x := 64) v hob (by rw [List.length_replicate]; exact hj)
      have e2 : obI a5 64 = some ((List.replicate k 0).set j v) := by show a5.ob 64 = _; rw [e1]; exact updF_same _ _ _
      have hl : ((List.replicate k (0 : Int)).set j v).length = k := by rw [List.length_set, List.length_replicate]
      refine .inl ⟨hin, by rw [hc]; exact slotC_in hob (by omega) (by rw [List.length_replicate]; omega), by rw [hc']; exact slotC_in e2 (by omega) (by rw [hl]; omega), ?_⟩
      rw [hu, loadV_in e2 (by omega) (by rw [hl]; omega), Int.toNat_natCast, List.getD_eq_getElem?_getD, List.getElem?_set_self (by rw [List.length_replicate]; exact hj)]
      rfl
    · have h2 : ¬ (0 ≤ i ∧ i < (List.replicate k (0 : Int)).length) := by rw [List.length_replicate]; exact hin
      have e0 : slotC a4 64 i = 2 := slotC_out hob h2
      have e1 : a5 = a4 := by rw [ha5]; exact putA_no v (by rw [e0]; decide)
      rw [e1] at hc' hu
      have e3 := loadV_out hob h2
      by_cases h0 : 0 ≤ i
      · exact .inr (.inl ⟨⟨h0, fun h => hin ⟨h0, h⟩⟩, by rw [hc, e0], by rw [hc', e0], by rw [hu, e3]⟩)
      · exact .inr (.inr ⟨h0, by rw [hc, e0], by rw [hc', e0], by rw [hu, e3]⟩)
  have hs5 : a5.sp 0 = some (allocS (spn 1 q) 0 false) := by rw [ha5, putA_sp]; exact S4.out.2.1
  have hs5' : a5.sp 1 = none := by rw [ha5, putA_sp]; exact S4.out.2.2.1
  have ho5 : ∀ x, (a5.ob x).isSome = decide (x = 64) := fun x => by
    rw [ha5, putA_some, S4.out.2.2.2]
    unfold updF
    by_cases e : x = 64
    · rw [if_pos e, decide_eq_true e]; rfl
    · rw [if_neg e, decide_eq_false e]; rfl
  have HA := Lib.hid (And.intro (And.intro hc hc') (And.intro hu (And.intro ha5 (And.intro hs5 (And.intro hs5' ho5))))); clear hc hc' hu ha5 hs5 hs5' ho5 hob
  rcases hcase with ⟨⟨hx0, hx1⟩, rfl, rfl, rfl⟩ | ⟨⟨hx0, hx1⟩, rfl, rfl, rfl⟩ | ⟨hx0, rfl, rfl, rfl⟩
  all_goals
    go_upto_region 10 with fail
    rw [HE.out.2.1, HE.out.2.2]
    go_wp2_with fail
    refine (s_store S4.out.1 64 i _ (by unfold Wf64; decide)).mono ?_
    rintro e w5 ⟨rfl, S, -⟩
    rw [← HA.out.1.1]
    rw [← HA.out.2.2.1] at S
    have S5 := Lib.hid S; clear S
    go_wp2_with fail
    refine (s_load S5.out 64 i (by unfold Wf64; decide)).mono ?_
    rintro e w6 ⟨rfl, c⟩
    rw [← HA.out.1.2, ← HA.out.2.1]
    have S6 := Lib.hid (S5.out.chg0 c); clear c
    go_wp2_with fail
    have hn65 : obI a5 65 = none := none_of (by show (a5.ob 65).isSome = false; rw [HA.out.2.2.2.2.2]; rfl)
    have hn0 : obI a5 0 = none := none_of (by show (a5.ob 0).isSome = false; rw [HA.out.2.2.2.2.2]; rfl)
    have hL := s_load S6.out 65 0 (by unfold Wf64; decide)
    rw [slotC_none hn65, loadV_none hn65] at hL
    refine hL.mono ?_
    clear hL
    rintro e w7 ⟨rfl, c⟩
    have S7 := Lib.hid (S6.out.chg0 c); clear c hn65
    have HN0 := Lib.hid hn0; clear hn0
    go_wp2_with fail
    refine (rof_ok w7 k hk1 hk2).mono ?_
    rintro e w8 ⟨q', hq, rfl, c⟩
    have hqq : q' = q := hq.uniq S2.out.1
    rw [hqq]
    have S8 := Lib.hid (S7.out.chg0 c); clear c hqq hq
    go_wp2_with fail
    refine (rsize_ok w8 (q : Nat)).mono ?_
    rintro e w9 ⟨rfl, c⟩
    rw [szI_nat hq16]
    have S9 := Lib.hid (S8.out.chg0 c); clear c
    obtain ⟨z, hz⟩ : ∃ z, z = szK q := ⟨_, rfl⟩
    rw [← hz]
    have hz2 : z ≤ 256 := by omega
    have HZ := Lib.hid hz; clear hz
    go_wp2_with fail
    have ew : wrap64 ((z : Int) + 1) = ((z + 1 : Nat) : Int) := by unfold wrap64; omega
    first | rw [ew] | skip
    refine (s_alloc_arg S9.out HT.out (by decide) (by decide) (id := 0) HA.out.2.2.2.1 _ (.inr (show (szK q : Int) < _ by rw [← HZ.out]; omega)) false).mono ?_
    rintro e w10 ⟨rfl, c⟩
    have S10 := Lib.hid (S9.out.chg0 c); clear c ew
    go_wp2_with fail
    refine (s_alloc_arg S10.out HT.out (by decide) (by decide) (id := 0) HA.out.2.2.2.1 0 (.inl (by decide)) false).mono ?_
    rintro e w11 ⟨rfl, c⟩
    have S11 := Lib.hid (S10.out.chg0 c); clear c
    go_wp2_with fail
    refine (s_alloc_nobody S11.out HT.out (by decide) (by decide) 1 1 (by unfold Wf64; decide) (show a5.sp 1 = none from HA.out.2.2.2.2.1) false).mono ?_
    rintro e w12 ⟨rfl, c⟩
    have S12 := Lib.hid (S11.out.chg0 c); clear c
    go_wp2_with fail
    refine (told_ok w12 (HT.out.chg S12.out.c (by simp))).mono ?_
    rintro e w13 ⟨rfl, c⟩
    have S13 := Lib.hid (S12.out.chg0 c); clear c
    go_wp2_with fail
    refine (s_store_none S13.out 0 0 5 (by unfold Wf64; decide) HN0.out).mono ?_
    rintro e w14 ⟨rfl, S, -⟩
    have S14 := Lib.hid S; clear S
    go_wp2_with fail
    refine (s_objects S14.out (by decide)).mono ?_
    rintro e w15 ⟨vo, ks, rfl, O, c, -, hr, hm⟩
    have hks : ks = [64] := rise_eq hr (by simp [Rise]) fun x => by
      rw [hm x]
      have h1 := HA.out.2.2.2.2.2
      show (obI a5 x).isSome = true ↔ _
      unfold obI
      by_cases e : 0 ≤ x
      · rw [if_pos e, h1, decide_eq_true_iff]; simp; omega
      · rw [if_neg e]; simp; omega
    rw [hks] at O
    obtain ⟨A, cc, rfl⟩ : ∃ A cc, vo = .slice A 1 cc := O.slice
    have S15 := Lib.hid (S14.out.chg0 c); clear c hks hr hm O
    go_wp2_with fail
    go_ret
    exact ⟨rfl, S15.out.c⟩
end Go.Proofs.YtkocikpoagfonaaDoor
