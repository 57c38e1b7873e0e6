/- HeapPlays: law 9's both. -/
/- HeapPlays: both forms at the start. -/
import Derived.Test.YtcnchgbngcnijaaGreatDoorMRu
import Derived.Test.YtcnchgbngcnijaaGreatDoorMRo
import Derived.Test.YtcnchgbngcnijaaGreatDoorMOw
import Derived.Test.YtcnchgbngcnijaaGreatDoorMSer
import Derived.Test.YtcnchgbngcnijaaGreatDoorMRb
namespace Go.Proofs.YtcnchgbngcnijaaGreatDoor
open Go.RowKit Go.Maps

theorem kind9 (k : Int) (hk : Wf64 k) : ∃ j : Nat, j < 10 ∧ ((k.tmod 10 + 10).tmod 10) = j ∧ IntKind.i64.wrap (k.tmod 10 + 10) = k.tmod 10 + 10 := by
  have h1 : -10 < k.tmod 10 ∧ k.tmod 10 < 10 := by
    rcases Int.le_total 0 k with h | h
    · rw [Int.tmod_eq_emod_of_nonneg h]; omega
    · obtain ⟨m, rfl⟩ : ∃ m : Int, k = -m := ⟨-k, by omega⟩
      rw [Int.neg_tmod, Int.tmod_eq_emod_of_nonneg (by omega)]; omega
  have h2 : (k.tmod 10 + 10).tmod 10 = (k.tmod 10 + 10) % 10 := Int.tmod_eq_emod_of_nonneg (by omega)
  refine ⟨((k.tmod 10 + 10) % 10).toNat, by omega, by rw [h2]; omega, by rw [IntKind.wrap_i64]; omega⟩
set_option maxHeartbeats 6400000 in
set_option maxRecDepth 100000 in
theorem both9_ok {W w : World} {gh ga rg rc P n i : Nat} (S : HyS W gh ga rg rc P n i w) (hi : i ≤ 1000) (T0 : Tab W) (o : Op9) (hwf : o.wf) :
    Calls Tryz.prog 40 #[.pointer (some ⟨gh, 0, none⟩), .pointer (some ⟨rg, 0, none⟩), .agg #[.int .i64 o.k, .int .i64 o.p, .int .i64 o.n, .bool o.bl]] w fun e w' => e = .returned (.bool true) ∧ HyS W gh ga rg rc P n (i + 1) w' := by
  obtain ⟨H, h, A, N, b, M, m, hN, hb, hM, hm, hP, hn, T⟩ := S
  have nA0 : ¬ HpF H A w.heap.size := fun hf => by have := T.Q.lt hf; omega
  have T1 := T.chg0 ((Chg.refl [] w).alloc (.cells #[.int .i64 o.k, .int .i64 o.p, .int .i64 o.n, .bool o.bl] 68))
  have B1 := Blk.new w 68 #[.int .i64 o.k, .int .i64 o.p, .int .i64 o.n, .bool o.bl]
  obtain ⟨wf1, wf2, wf3⟩ := hwf
  obtain ⟨j, hj, hjk, hjw⟩ := kind9 o.k wf1
  clear T
  go_enter Tryz.func40, Tryz.ntmps40
  go_upto_region 1 with fail
  generalize (w.alloc (.cells #[.int .i64 o.k, .int .i64 o.p, .int .i64 o.n, .bool o.bl] 68)) = w1 at T1 B1 ⊢
  generalize w.heap.size = bx at B1 nA0 ⊢
  have j0 : w1.cell? ⟨bx, 0, none⟩ = some (.int .i64 o.k) := B1.cellv 0 rfl
  have HT := Lib.hid (And.intro T1 (And.intro B1 (And.intro nA0 T0)))
  have HW := Lib.hid (And.intro wf2 wf3)
  clear T1 B1 nA0 T0 wf1 wf2 wf3
  go_cut [23] from 19 to 23 (fun v wd => v = .int .i64 (j : Nat) ∧ wd = w1)
  case first =>
    go_wp2_with fail
    go_meet
    exact ⟨by rw [← hjk], rfl⟩
  case rest =>
    obtain ⟨rfl, hw⟩ := hcut
    obtain rfl := hw.symm
    have i1 : w1.cell? ⟨bx, 1, none⟩ = some (.int .i64 o.p) := HT.out.2.1.cellv 1 rfl
    have i2 : w1.cell? ⟨bx, 2, none⟩ = some (.int .i64 o.n) := HT.out.2.1.cellv 2 rfl
    have i3 : w1.cell? ⟨bx, 3, none⟩ = some (.bool o.bl) := HT.out.2.1.cellv 3 rfl
    clear hjk hjw j0
    have h10 : j = 0 ∨ j = 1 ∨ j = 2 ∨ j = 3 ∨ j = 4 ∨ j = 5 ∨ j = 6 ∨ j = 7 ∨ j = 8 ∨ j = 9 := by omega
    rcases h10 with h0 | h1 | h2 | h3 | h4 | h5 | h6 | h7 | h8 | h9
    · subst h0
      clear hj
      have K := hy_alloc HT.out.1 hN hb hM hm hP hn hi HT.out.2.2.2 o.p o.n o.bl
      go_wp2_with fail
      refine K.mono ?_
      rintro e w2 ⟨x, c, v, g, rfl, O, hbox, hgl, KR⟩
      clear K
      have B2 := hbox _ _ _ HT.out.2.1 HT.out.2.2.1
      have i1 : w2.cell? ⟨bx, 1, none⟩ = some (.int .i64 o.p) := B2.cellv 1 rfl
      have i2 : w2.cell? ⟨bx, 2, none⟩ = some (.int .i64 o.n) := B2.cellv 2 rfl
      have i3 : w2.cell? ⟨bx, 3, none⟩ = some (.bool o.bl) := B2.cellv 3 rfl
      obtain ⟨A1, n1, c1, rfl⟩ := O.slice'
      have KR2 := KR w2 (Chg.refl _ _)
      clear KR hbox B2 O
      go_wp2_with fail
      refine KR2.mono ?_
      rintro e w3 ⟨u, rfl, O3, O4, S3⟩
      clear KR2
      obtain ⟨A2, n2, c2, rfl⟩ := O3.slice'
      have KI := ints_ok w3 _ _ g g O4.rd O3.rd
      rw [decide_eq_true rfl] at KI
      have HS := Lib.hid S3; clear S3 O3 O4
      go_wp2_with fail
      refine KI.mono ?_
      rintro e w4 hbd
      obtain ⟨rfl, c4⟩ := hbd.chg
      clear KI hbd
      have HC := Lib.hid c4; clear c4
      go_wp2_with fail
      go_ret
      exact ⟨rfl, HS.out.chg0 HC.out⟩
    · subst h1
      clear hj
      have K := hy_alloc HT.out.1 hN hb hM hm hP hn hi HT.out.2.2.2 o.p o.n o.bl
      go_wp2_with fail
      refine K.mono ?_
      rintro e w2 ⟨x, c, v, g, rfl, O, hbox, hgl, KR⟩
      clear K
      have B2 := hbox _ _ _ HT.out.2.1 HT.out.2.2.1
      have i1 : w2.cell? ⟨bx, 1, none⟩ = some (.int .i64 o.p) := B2.cellv 1 rfl
      have i2 : w2.cell? ⟨bx, 2, none⟩ = some (.int .i64 o.n) := B2.cellv 2 rfl
      have i3 : w2.cell? ⟨bx, 3, none⟩ = some (.bool o.bl) := B2.cellv 3 rfl
      obtain ⟨A1, n1, c1, rfl⟩ := O.slice'
      have KR2 := KR w2 (Chg.refl _ _)
      clear KR hbox B2 O
      go_wp2_with fail
      refine KR2.mono ?_
      rintro e w3 ⟨u, rfl, O3, O4, S3⟩
      clear KR2
      obtain ⟨A2, n2, c2, rfl⟩ := O3.slice'
      have KI := ints_ok w3 _ _ g g O4.rd O3.rd
      rw [decide_eq_true rfl] at KI
      have HS := Lib.hid S3; clear S3 O3 O4
      go_wp2_with fail
      refine KI.mono ?_
      rintro e w4 hbd
      obtain ⟨rfl, c4⟩ := hbd.chg
      clear KI hbd
      have HC := Lib.hid c4; clear c4
      go_wp2_with fail
      go_ret
      exact ⟨rfl, HS.out.chg0 HC.out⟩
    · subst h2
      clear hj
      have K := hy_alloc HT.out.1 hN hb hM hm hP hn hi HT.out.2.2.2 o.p o.n o.bl
      go_wp2_with fail
      refine K.mono ?_
      rintro e w2 ⟨x, c, v, g, rfl, O, hbox, hgl, KR⟩
      clear K
      have B2 := hbox _ _ _ HT.out.2.1 HT.out.2.2.1
      have i1 : w2.cell? ⟨bx, 1, none⟩ = some (.int .i64 o.p) := B2.cellv 1 rfl
      have i2 : w2.cell? ⟨bx, 2, none⟩ = some (.int .i64 o.n) := B2.cellv 2 rfl
      have i3 : w2.cell? ⟨bx, 3, none⟩ = some (.bool o.bl) := B2.cellv 3 rfl
      obtain ⟨A1, n1, c1, rfl⟩ := O.slice'
      have KR2 := KR w2 (Chg.refl _ _)
      clear KR hbox B2 O
      go_wp2_with fail
      refine KR2.mono ?_
      rintro e w3 ⟨u, rfl, O3, O4, S3⟩
      clear KR2
      obtain ⟨A2, n2, c2, rfl⟩ := O3.slice'
      have KI := ints_ok w3 _ _ g g O4.rd O3.rd
      rw [decide_eq_true rfl] at KI
      have HS := Lib.hid S3; clear S3 O3 O4
      go_wp2_with fail
      refine KI.mono ?_
      rintro e w4 hbd
      obtain ⟨rfl, c4⟩ := hbd.chg
      clear KI hbd
      have HC := Lib.hid c4; clear c4
      go_wp2_with fail
      go_ret
      exact ⟨rfl, HS.out.chg0 HC.out⟩
    · subst h3
      clear hj
      have K := hy_alloc HT.out.1 hN hb hM hm hP hn hi HT.out.2.2.2 o.p o.n o.bl
      go_wp2_with fail
      refine K.mono ?_
      rintro e w2 ⟨x, c, v, g, rfl, O, hbox, hgl, KR⟩
      clear K
      have B2 := hbox _ _ _ HT.out.2.1 HT.out.2.2.1
      have i1 : w2.cell? ⟨bx, 1, none⟩ = some (.int .i64 o.p) := B2.cellv 1 rfl
      have i2 : w2.cell? ⟨bx, 2, none⟩ = some (.int .i64 o.n) := B2.cellv 2 rfl
      have i3 : w2.cell? ⟨bx, 3, none⟩ = some (.bool o.bl) := B2.cellv 3 rfl
      obtain ⟨A1, n1, c1, rfl⟩ := O.slice'
      have KR2 := KR w2 (Chg.refl _ _)
      clear KR hbox B2 O
      go_wp2_with fail
      refine KR2.mono ?_
      rintro e w3 ⟨u, rfl, O3, O4, S3⟩
      clear KR2
      obtain ⟨A2, n2, c2, rfl⟩ := O3.slice'
      have KI := ints_ok w3 _ _ g g O4.rd O3.rd
      rw [decide_eq_true rfl] at KI
      have HS := Lib.hid S3; clear S3 O3 O4
      go_wp2_with fail
      refine KI.mono ?_
      rintro e w4 hbd
      obtain ⟨rfl, c4⟩ := hbd.chg
      clear KI hbd
      have HC := Lib.hid c4; clear c4
      go_wp2_with fail
      go_ret
      exact ⟨rfl, HS.out.chg0 HC.out⟩
    · subst h4
      clear hj
      have K := hy_begin HT.out.1 hN hb hM hm hP hn hi HT.out.2.2.2
      go_wp2_with fail
      refine K.mono ?_
      rintro e w2 ⟨v, ⟨c, rfl⟩, rfl, hbox, KR⟩
      clear K
      have KR2 := KR w2 (Chg.refl _ _)
      clear KR hbox
      go_wp2_with fail
      refine KR2.mono ?_
      rintro e w3 ⟨rfl, S3⟩
      clear KR2
      have HS := Lib.hid S3; clear S3
      have hcc : (c == c) = true := by simp
      go_wp2_with fail
      go_ret
      exact ⟨rfl, HS.out⟩
    · subst h5
      clear hj
      have K := hy_flush HT.out.1 hN hb hM hm hP hn hi HT.out.2.2.2 o.p
      go_wp2_with fail
      refine K.mono ?_
      rintro e w2 ⟨v, rfl, rfl, hbox, KR⟩
      clear K
      have B2 := hbox _ _ _ HT.out.2.1 HT.out.2.2.1
      have i1 : w2.cell? ⟨bx, 1, none⟩ = some (.int .i64 o.p) := B2.cellv 1 rfl
      have KR2 := KR w2 (Chg.refl _ _)
      clear KR hbox B2
      go_wp2_with fail
      refine KR2.mono ?_
      rintro e w3 ⟨rfl, S3⟩
      clear KR2
      have HS := Lib.hid S3; clear S3
      go_wp2_with fail
      go_ret
      exact ⟨rfl, HS.out⟩
    · subst h6
      clear hj
      have K := hy_sweep HT.out.1 hN hb hM hm hP hn hi HT.out.2.2.2
      go_wp2_with fail
      refine K.mono ?_
      rintro e w2 ⟨bo, v, g, rfl, O, hbox, hgl, KR⟩
      clear K
      obtain ⟨A1, n1, c1, rfl⟩ := O.slice'
      have KR2 := KR w2 (Chg.refl _ _)
      clear KR hbox O
      go_wp2_with fail
      refine KR2.mono ?_
      rintro e w3 ⟨u, rfl, O3, O4, S3⟩
      clear KR2
      obtain ⟨A2, n2, c2, rfl⟩ := O3.slice'
      have KI := ints_ok w3 _ _ g g O4.rd O3.rd
      rw [decide_eq_true rfl] at KI
      have HS := Lib.hid S3; clear S3 O3 O4
      go_wp2_with fail
      refine KI.mono ?_
      rintro e w4 hbd
      obtain ⟨rfl, c4⟩ := hbd.chg
      clear KI hbd
      have HC := Lib.hid c4; clear c4
      have hbb : (bo == bo) = true := by cases bo <;> rfl
      go_wp2_with fail
      go_ret
      exact ⟨rfl, HS.out.chg0 HC.out⟩
    · subst h7
      clear hj
      have K := hy_sweep HT.out.1 hN hb hM hm hP hn hi HT.out.2.2.2
      go_wp2_with fail
      refine K.mono ?_
      rintro e w2 ⟨bo, v, g, rfl, O, hbox, hgl, KR⟩
      clear K
      obtain ⟨A1, n1, c1, rfl⟩ := O.slice'
      have KR2 := KR w2 (Chg.refl _ _)
      clear KR hbox O
      go_wp2_with fail
      refine KR2.mono ?_
      rintro e w3 ⟨u, rfl, O3, O4, S3⟩
      clear KR2
      obtain ⟨A2, n2, c2, rfl⟩ := O3.slice'
      have KI := ints_ok w3 _ _ g g O4.rd O3.rd
      rw [decide_eq_true rfl] at KI
      have HS := Lib.hid S3; clear S3 O3 O4
      go_wp2_with fail
      refine KI.mono ?_
      rintro e w4 hbd
      obtain ⟨rfl, c4⟩ := hbd.chg
      clear KI hbd
      have HC := Lib.hid c4; clear c4
      have hbb : (bo == bo) = true := by cases bo <;> rfl
      go_wp2_with fail
      go_ret
      exact ⟨rfl, HS.out.chg0 HC.out⟩
    · subst h8
      clear hj
      have K := hy_drop HT.out.1 hN hb hM hm hP hn hi
      go_wp2_with fail
      refine K.mono ?_
      rintro e w2 ⟨v, ⟨c, rfl⟩, rfl, hbox, KR⟩
      clear K
      have KR2 := KR w2 (Chg.refl _ _)
      clear KR hbox
      go_wp2_with fail
      refine KR2.mono ?_
      rintro e w3 ⟨rfl, S3⟩
      clear KR2
      have HS := Lib.hid S3; clear S3
      have hcc : (c == c) = true := by simp
      go_wp2_with fail
      go_ret
      exact ⟨rfl, HS.out⟩
    · subst h9
      clear hj
      obtain ⟨ids, MM⟩ := HT.out.1.R.M
      have hil := MM.len_le HT.out.1.R.J.ok
      have b0 : w1.cell? ⟨rg, 0, none⟩ = some (.pointer (some ⟨h.ra.g, 0, none⟩)) := by rw [← HT.out.1.rg]; exact HT.out.1.R.b0
      have KO := raobjects_ok w1 h.ra A.a ids MM (by omega)
      clear MM
      go_wp2_with fail
      refine KO.mono ?_
      rintro e w2 ⟨v, xs, rfl, O, OX, Fv, c2⟩
      clear KO Fv
      have hxl := OX.l
      have hxm : xs.length ≤ 1000000 := by omega
      obtain ⟨Ao, co, rfl⟩ := O.slice
      obtain ⟨nn, hnn⟩ : ∃ nn, nn = xs.length := ⟨_, rfl⟩
      rw [← hnn] at O hxm ⊢
      have B2 := c2.blk HT.out.2.1 (by simp)
      have i2 : w2.cell? ⟨bx, 2, none⟩ = some (.int .i64 o.n) := B2.cellv 2 rfl
      clear B2 hxl
      by_cases h0 : nn = 0
      · subst h0
        have HC := Lib.hid c2; clear c2 O OX hnn hxm
        go_wp2_with fail
        go_ret
        exact ⟨rfl, HyS.next ⟨H, h, A, N, b, M, m, hN, hb, hM, hm, hP, hn, HT.out.1⟩ HC.out⟩
      · obtain ⟨q, hq, eq⟩ := mod_n o.n nn (by omega) hxm
        obtain ⟨y, hy⟩ : ∃ y, xs[q]? = some y := ⟨_, List.getElem?_eq_getElem (by rw [← hnn]; exact hq)⟩
        obtain ⟨go, rfl, q1, -, -⟩ := O.cell hy
        have hyw := OX.b y (List.mem_of_getElem? hy)
        have en : IntKind.u64.wrap (nn : Int) = (nn : Int) := by rw [IntKind.wrap_u64]; omega
        have hz : ¬ nn = 0 := by omega
        have hz2 : ¬ (nn : Int) = 0 := by omega
        have hz3 : ((nn : Int) == 0) = false := by rw [beq_eq_false_iff_ne]; omega
        have hq2 : (q : Int) < (nn : Int) := by omega
        have hq0 : (0 : Int) ≤ (q : Int) := by omega
        have T2 := HT.out.1.chg0 c2
        have b2 : w2.cell? ⟨rg, 0, none⟩ = some (.pointer (some ⟨h.ra.g, 0, none⟩)) := by rw [← T2.rg]; exact T2.R.b0
        have hrl : rg < w2.heap.size := lt_of_cell b2
        have BR := T2.R.b
        rw [T2.rg] at BR
        have nr : ¬ HpF H A rg := by rw [← T2.rg]; exact T2.apart _ (.inr (.inr (.inl rfl)))
        have KA : ∀ W9, Chg [] w2 W9 → Calls Tryz.prog 24 #[.pointer (some ⟨gh, 0, none⟩)] W9 (QuPost (.pointer (some ⟨ga, 0, none⟩)) W9) := fun W9 c => by
          have K := harena_ok (T2.Q.chg0 c)
          rw [T2.gh, T2.ga] at K
          exact K
        have HA := Lib.hid KA
        have HT2 := Lib.hid (And.intro T2 (And.intro BR nr))
        have HY := Lib.hid (And.intro hy hyw); clear hy hyw h0 KA T2 BR nr O OX hnn b0 c2
        go_upto_region 26 with fail
        refine wp_region_takes (fuel := 5) 9 (fun w' => w'.cell? ⟨rg, 0, none⟩ = some (.pointer (some ⟨h.ra.g, 0, none⟩))) [0, 2, 4, 5, 6, 7, 8] (by kernel_rfl) (by kernel_rfl) (fun _ _ _ _ _ h => h) (b2) ?_
        simp only [List.filterMap_cons, List.filterMap_nil, List.getElem?_cons_zero, List.getElem?_cons_succ]
        iterate 7
          refine wpTake_step (fun K hK => ?_)
          rw [if_pos (by rfl)]
          refine ⟨?_, fun w' hS' => ?_, ?_⟩
          rotate_left 1
          focus
            have z0 := hS'
            go_simp
            try with_reducible rfl
            done
          simp only [Act.put, List.setIfInBounds_toArray, List.set_cons_zero, List.set_cons_succ]
          refine hK _ ?_
          clear hK K
        refine wpTake_nil ?_
        generalize hx0 : w2.drew = x0
        have D0 : Chg [] w2 x0 := by rw [← hx0]; exact (Chg.refl [] w2).drew
        clear hx0
        refine wpAnyS_ready (rs := [1]) (by kernel_rfl) (by simp) ?_
        refine AllReadyS.one (by simp only [List.getElem?_toArray, List.getElem?_cons_zero, List.getElem?_cons_succ]; rfl) (fun K hK => ?_)
        rw [if_pos (by rfl)]
        go_simp
        go_at_call 24
        refine (HA.out _ D0).mono ?_
        rintro e w' ⟨rfl, ew⟩
        have ew' := ew.symm
        clear ew
        subst ew'
        dsimp only
        have z0 : x0.cell? ⟨rg, 0, none⟩ = some (.pointer (some ⟨h.ra.g, 0, none⟩)) := D0.cellv hrl (by simp) b2
        refine hK _ _ (z0) ?_
        clear hK K
        try simp only [Act.put, List.setIfInBounds_toArray, List.set_cons_zero, List.set_cons_succ]
        refine wpAnyS_ready (rs := [3]) (by kernel_rfl) (by simp) ?_
        refine AllReadyS.one (by simp only [List.getElem?_toArray, List.getElem?_cons_zero, List.getElem?_cons_succ]; rfl) (fun K hK => ?_)
        rw [if_pos (by rfl)]
        go_simp
        go_at_call 26
        refine (hy_mark (HT2.out.1.chg0 D0) hN hb hM hm hP hn hi y HY.out.2).mono ?_
        rintro e w' ⟨v, ⟨bo, rfl⟩, rfl, hbox, KR⟩
        dsimp only
        have z1 : w'.cell? ⟨rg, 0, none⟩ = some (.pointer (some ⟨h.ra.g, 0, none⟩)) := (hbox _ _ _ (D0.blk HT2.out.2.1 (by simp)) HT2.out.2.2).cellv 0 rfl
        refine hK _ _ (z1) ?_
        clear hK K
        try simp only [Act.put, List.setIfInBounds_toArray, List.set_cons_zero, List.set_cons_succ]
        refine wpAnyS_tail 9 3 (by kernel_rfl) rfl ?_
        simp only [List.drop_succ_cons, List.drop_zero]
        have KR2 := KR w' (Chg.refl _ _)
        clear KR hbox z1
        have hbb : (bo == bo) = true := by cases bo <;> rfl
        go_wp2_with fail
        refine KR2.mono ?_
        rintro e w3 ⟨rfl, S3⟩
        clear KR2
        have HS := Lib.hid S3; clear S3
        go_wp2_with fail
        go_ret
        exact ⟨rfl, HS.out⟩
end Go.Proofs.YtcnchgbngcnijaaGreatDoor
namespace Go.Proofs.YtcnchgbngcnijaaGreatDoor
open Go.RowKit Go.Maps

theorem HyS.start {W w1 w2 : World} {H : HpH} {h : RhH} {n P : Nat} (Q : HpS W w1 H (hp0 n P) 0 0) (c : Chg [] w1 w2) (R : RhS w2 h (hp0 n P) 0 0) (F : ∀ k, RhF h (hp0 n P) k → w1.heap.size ≤ k) (hP : P ≤ 64) : HyS W H.gh H.ah.ga h.g h.gc P n 0 w2 :=
  ⟨H, h, hp0 n P, 0, 0, 0, 0, by omega, by omega, by omega, by omega, rfl, rfl, Q.chg0 c, R, hp0_inv n P hP, fun k hk => Nat.le_trans Q.S.c.size (F k hk), fun k hk hF => by
    have h1 := Q.lt hF
    have h2 := F k hk
    omega, rfl, rfl, rfl, rfl⟩
/-- The cells that the walk reads. -/
theorem HyS.cells {W w : World} {gh ga rg rc P n i : Nat} (S : HyS W gh ga rg rc P n i w) : w.cell? ⟨rg, 1, none⟩ = some (.pointer (some ⟨rc, 0, none⟩)) ∧ rg < w.heap.size ∧ Chg [] W w := by
  obtain ⟨H, h, A, N, b, M, m, h1, h2, h3, h4, h5, h6, T⟩ := S
  rw [← T.rg, ← T.rc]
  exact ⟨T.R.b1, T.R.b.lt, T.Q.S.c⟩
theorem HyS.uns {W w : World} {gh ga rg rc P n i : Nat} (S : HyS W gh ga rg rc P n i w) (hi : i ≤ 6000) : ∃ u : Nat, (∀ w', Chg [] w w' → Calls Tryz.prog 41 #[.pointer (some ⟨gh, 0, none⟩)] w' (NwPost (.int .i64 (u : Nat)) w')) ∧ ∀ w', Chg [] w w' → Calls Tryz.prog 42 #[.pointer (some ⟨rc, 0, none⟩)] w' (NwPost (.int .i64 (u : Nat)) w') := by
  obtain ⟨H, h, A, N, b, M, m, h1, h2, h3, h4, h5, h6, T⟩ := S
  exact ⟨_, T.uns (by omega)⟩
end Go.Proofs.YtcnchgbngcnijaaGreatDoor
