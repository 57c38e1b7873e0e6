/- ArenaPlays: an op, done to both: they tell the same. Printed by wip/genap6.py. -/
import Derived.Test.YtmafiagakoglkaaGreatDoorAp5
import Derived.Test.YtmafiagakoglkaaGreatDoorAp3
import Derived.Test.YtmafiagakoglkaaGreatDoorRegV
import Derived.Test.YtmafiagakoglkaaGreatDoorMSer
import Derived.Test.YtmafiagakoglkaaGreatDoorZInts
namespace Go.Proofs.YtmafiagakoglkaaGreatDoor
open Go.RowKit Go.Maps

theorem NxPost.chg {W w w' : World} {g rg n N b m : Nat} {v : Value} {e : Ending} (h : NxPost W g rg n N b m v e w) (c : Chg [] w w') (u : Value) : NxPost W g rg n N b m u (.returned u) w' := by
  obtain ⟨_, h', hr', a', ids', N', b', m', h1, h2, h3, h4, T⟩ := h
  exact ⟨rfl, h', hr', a', ids', N', b', m', h1, h2, h3, h4, T.chg0 c⟩
set_option maxHeartbeats 6400000 in
set_option maxRecDepth 100000 in
theorem both7_ok {W w : World} {g rg N b m : Nat} {h : ArH} {hr : RaH} {a : Ar} {ids : List Nat} (T : ApT W g rg h hr a ids N b m w) (T0 : Tab W) (hb : b ≤ 1000000) (hm : m ≤ 1000000) (hN : N ≤ 6000) (han : a.n ≤ 200) (o : Op7) (hwf : o.wf) :
    Calls Tryz.prog 42 #[.pointer (some ⟨g, 0, none⟩), .pointer (some ⟨rg, 0, none⟩), .agg #[.int .i64 o.k, .int .i64 o.cl, .int .i64 o.id, .int .i64 o.n, .int .i64 o.ad, .int .i64 o.i, .int .i64 o.v, .bool o.bl, .bool o.rw]] w (NxPost W g rg a.n N b m (.bool true)) := by
  have nA0 : ¬ ArF h a w.heap.size := fun hf => by have := T.S.M.lt _ hf; omega
  have T1 := T.chg0 ((Chg.refl [] w).alloc (.cells #[.int .i64 o.k, .int .i64 o.cl, .int .i64 o.id, .int .i64 o.n, .int .i64 o.ad, .int .i64 o.i, .int .i64 o.v, .bool o.bl, .bool o.rw] 72))
  have B1 := Blk.new w 72 #[.int .i64 o.k, .int .i64 o.cl, .int .i64 o.id, .int .i64 o.n, .int .i64 o.ad, .int .i64 o.i, .int .i64 o.v, .bool o.bl, .bool o.rw]
  obtain ⟨wf1, wf2, wf3, wf4, wf5, wf6⟩ := hwf
  clear T
  go_enter Tryz.func42, Tryz.ntmps42
  go_upto_region 1 with fail
  generalize (w.alloc (.cells #[.int .i64 o.k, .int .i64 o.cl, .int .i64 o.id, .int .i64 o.n, .int .i64 o.ad, .int .i64 o.i, .int .i64 o.v, .bool o.bl, .bool o.rw] 72)) = w1 at T1 B1 ⊢
  generalize w.heap.size = bx at B1 nA0 ⊢
  have j4 : w1.cell? ⟨bx, 4, none⟩ = some (.int .i64 o.ad) := B1.cellv 4 rfl
  have HT := Lib.hid (And.intro T1 (And.intro B1 (And.intro nA0 T0)))
  have HW := Lib.hid (And.intro wf1 (And.intro wf2 (And.intro wf3 (And.intro wf4 (And.intro wf5 wf6)))))
  clear T1 B1 nA0 T0 wf1 wf2 wf3 wf4 wf5 wf6
  go_wp2_with fail
  refine (HT.out.1.objs (by omega)).mono ?_
  rintro e w2 ⟨v, xs, rfl, O, OX, Fv, c2⟩
  obtain ⟨Ao, co, rfl⟩ := O.slice
  have hxl := OX.l
  have hil := HT.out.1.len
  have hxm : xs.length ≤ 1000000 := by omega
  have j4 : w2.cell? ⟨bx, 4, none⟩ = some (.int .i64 o.ad) := (c2.blk HT.out.2.1 (by simp)).cellv 4 rfl
  have j8 : w2.cell? ⟨bx, 8, none⟩ = some (.bool o.rw) := (c2.blk HT.out.2.1 (by simp)).cellv 8 rfl
  obtain ⟨n, hn⟩ : ∃ n, n = xs.length := ⟨_, rfl⟩
  rw [← hn] at O hxm ⊢
  have HO := Lib.hid (And.intro O (And.intro OX (And.intro c2 hn))); clear O OX c2 Fv hxl hil hn
  go_upto_region 3 with fail
  go_cut [40] from 33 to 40 (fun v wd => ∃ bo : Bool, v = .bool bo ∧ (bo = true → 0 < n) ∧ wd = w2)
  case first =>
    obtain ⟨ow, how⟩ : ∃ ow, ow = o.rw := ⟨_, rfl⟩
    rw [← how] at j8
    clear how
    cases ow with
    | true =>
      go_wp2_with fail
      go_meet
      exact ⟨false, rfl, fun h => (by cases h), rfl⟩
    | false =>
      rcases Nat.eq_zero_or_pos n with h0 | h0
      · have d0 : decide ((0 : Int) < (n : Int)) = false := decide_eq_false (by omega)
        have d1 : decide (0 < n) = false := decide_eq_false (by omega)
        clear h0
        go_wp2_with fail
        go_meet
        exact ⟨false, rfl, fun h => (by cases h), rfl⟩
      · have d0 : decide ((0 : Int) < (n : Int)) = true := decide_eq_true (by omega)
        have d1 : decide (0 < n) = true := decide_eq_true (by omega)
        have HX := Lib.hid h0; clear h0
        go_wp2_with fail
        go_meet
        exact ⟨true, rfl, fun _ => HX.out, rfl⟩
  case rest =>
   obtain ⟨bo, rfl, hbo, rfl⟩ := hcut
   obtain ⟨w2, rfl⟩ : ∃ V : World, V = wc := ⟨_, rfl⟩
   have HB := Lib.hid hbo; clear hbo
   go_upto_if 40 with fail
   go_cut [7] from 33 to 51 (fun v wd => ∃ ad : Int, v = .int .i64 ad ∧ Wf64 ad ∧ Chg [] w2 wd)
   case first =>
    cases bo with
    | false =>
      go_wp2_with fail
      go_meet
      exact ⟨_, rfl, HW.out.2.2.2.1, Chg.refl _ _⟩
    | true =>
      have h0 := HB.out rfl
      obtain ⟨q, hq, eq⟩ := mod_n o.ad n h0 hxm
      obtain ⟨y, hy⟩ : ∃ y, xs[q]? = some y := ⟨_, List.getElem?_eq_getElem (by rw [← HO.out.2.2.2]; exact hq)⟩
      obtain ⟨go, rfl, q1, -, -⟩ := HO.out.1.cell hy
      have hyw := HO.out.2.1.b y (List.mem_of_getElem? hy)
      have en : IntKind.u64.wrap (n : Int) = (n : Int) := by rw [IntKind.wrap_u64]; omega
      have hz : ¬ n = 0 := by omega
      have hz2 : ¬ (n : Int) = 0 := by omega
      have hq2 : (q : Int) < (n : Int) := by omega
      have hq0 : (0 : Int) ≤ (q : Int) := by omega
      have HY := Lib.hid (And.intro hy hyw); clear hy hyw h0
      go_wp2_with fail
      go_meet
      exact ⟨y, rfl, HY.out.2, Chg.refl _ _⟩
   case rest =>
    obtain ⟨ad, rfl, hadw, cd⟩ := hcut
    obtain ⟨w3, rfl⟩ : ∃ V : World, V = wc := ⟨_, rfl⟩
    have c3 := HO.out.2.2.1.trans cd
    have T3 := HT.out.1.chg0 c3
    have B3 := c3.blk HT.out.2.1 (by simp)
    have j0 : w3.cell? ⟨bx, 0, none⟩ = some (.int .i64 o.k) := B3.cellv 0 rfl
    have j1 : w3.cell? ⟨bx, 1, none⟩ = some (.int .i64 o.cl) := B3.cellv 1 rfl
    have j2 : w3.cell? ⟨bx, 2, none⟩ = some (.int .i64 o.id) := B3.cellv 2 rfl
    have j3 : w3.cell? ⟨bx, 3, none⟩ = some (.int .i64 o.n) := B3.cellv 3 rfl
    have j5 : w3.cell? ⟨bx, 5, none⟩ = some (.int .i64 o.i) := B3.cellv 5 rfl
    have j7 : w3.cell? ⟨bx, 7, none⟩ = some (.bool o.bl) := B3.cellv 7 rfl
    have H3 := Lib.hid (And.intro T3 (And.intro B3 hadw)); clear c3 T3 B3 cd HO hadw j4 j8
    go_upto_region 5 with fail
    go_cut [56] from 52 to 55 (fun v wd => ∃ k : Int, v = .int .i64 k ∧ wd = w3)
    case first =>
      go_wp2_with fail
      go_meet
      exact ⟨_, rfl, rfl⟩
    case rest =>
      obtain ⟨k, rfl, rfl⟩ := hcut
      obtain ⟨w3, rfl⟩ : ∃ V : World, V = wc := ⟨_, rfl⟩
      clear j0
      by_cases k0 : k = 0
      · subst k0
        go_wp2_with fail
        refine (ap_span H3.out.1 hb (by omega) han o.cl).mono ?_
        rintro e w4 ⟨_, ⟨p, c, rfl⟩, rfl, hB, hR⟩
        have y1 : w4.cell? ⟨bx, 1, none⟩ = some (.int .i64 o.cl) := (hB bx _ _ H3.out.2.1 HT.out.2.2.1).cellv 1 rfl
        have HR := Lib.hid hR; clear hB hR
        go_wp2_with fail
        refine (HR.out w4 (Chg.refl _ _)).mono ?_
        rintro e w5 ⟨rfl, hh⟩
        have HH := Lib.hid hh; clear hh
        go_wp2_with fail
        go_ret
        exact ⟨rfl, HH.out⟩
      have e0 : (k == 0) = false := by rw [beq_eq_false_iff_ne]; exact k0
      by_cases k1 : k = 1
      · subst k1
        clear k0 e0
        go_upto_region 11 with fail
        refine wp_region_takes (fuel := 4) 7 (fun w' => Blk w' bx 72 #[.int .i64 o.k, .int .i64 o.cl, .int .i64 o.id, .int .i64 o.n, .int .i64 o.ad, .int .i64 o.i, .int .i64 o.v, .bool o.bl, .bool o.rw]) [0, 1, 2, 4, 5, 6] (by kernel_rfl) (by kernel_rfl) (fun _ _ _ _ _ h => h) (H3.out.2.1.drew) ?_
        simp only [List.filterMap_cons, List.filterMap_nil, List.getElem?_cons_zero, List.getElem?_cons_succ]
        refine wpTake_step (fun K hK => ?_)
        rw [if_pos (by rfl)]
        refine ⟨?_, fun w' hS' => ?_, ?_⟩
        rotate_left 1
        focus
          have z2 := hS'.cellv 2 rfl
          have z5 := hS'.cellv 5 rfl
          have z6 := hS'.cellv 6 rfl
          go_simp
          try with_reducible rfl
          done
        simp only [Act.put, List.setIfInBounds_toArray, List.set_cons_zero, List.set_cons_succ]
        refine hK _ ?_
        clear hK K
        refine wpTake_step (fun K hK => ?_)
        rw [if_pos (by rfl)]
        refine ⟨?_, fun w' hS' => ?_, ?_⟩
        rotate_left 1
        focus
          have z2 := hS'.cellv 2 rfl
          have z5 := hS'.cellv 5 rfl
          have z6 := hS'.cellv 6 rfl
          go_simp
          try with_reducible rfl
          done
        simp only [Act.put, List.setIfInBounds_toArray, List.set_cons_zero, List.set_cons_succ]
        refine hK _ ?_
        clear hK K
        refine wpTake_step (fun K hK => ?_)
        rw [if_pos (by rfl)]
        refine ⟨?_, fun w' hS' => ?_, ?_⟩
        rotate_left 1
        focus
          have z2 := hS'.cellv 2 rfl
          have z5 := hS'.cellv 5 rfl
          have z6 := hS'.cellv 6 rfl
          go_simp
          try with_reducible rfl
          done
        simp only [Act.put, List.setIfInBounds_toArray, List.set_cons_zero, List.set_cons_succ]
        refine hK _ ?_
        clear hK K
        refine wpTake_step (fun K hK => ?_)
        rw [if_pos (by rfl)]
        refine ⟨?_, fun w' hS' => ?_, ?_⟩
        rotate_left 1
        focus
          have z2 := hS'.cellv 2 rfl
          have z5 := hS'.cellv 5 rfl
          have z6 := hS'.cellv 6 rfl
          go_simp
          try with_reducible rfl
          done
        simp only [Act.put, List.setIfInBounds_toArray, List.set_cons_zero, List.set_cons_succ]
        refine hK _ ?_
        clear hK K
        refine wpTake_step (fun K hK => ?_)
        rw [if_pos (by rfl)]
        refine ⟨?_, fun w' hS' => ?_, ?_⟩
        rotate_left 1
        focus
          have z2 := hS'.cellv 2 rfl
          have z5 := hS'.cellv 5 rfl
          have z6 := hS'.cellv 6 rfl
          go_simp
          try with_reducible rfl
          done
        simp only [Act.put, List.setIfInBounds_toArray, List.set_cons_zero, List.set_cons_succ]
        refine hK _ ?_
        clear hK K
        refine wpTake_step (fun K hK => ?_)
        rw [if_pos (by rfl)]
        refine ⟨?_, fun w' hS' => ?_, ?_⟩
        rotate_left 1
        focus
          have z2 := hS'.cellv 2 rfl
          have z5 := hS'.cellv 5 rfl
          have z6 := hS'.cellv 6 rfl
          go_simp
          try with_reducible rfl
          done
        simp only [Act.put, List.setIfInBounds_toArray, List.set_cons_zero, List.set_cons_succ]
        refine hK _ ?_
        clear hK K
        refine wpTake_nil ?_
        have T4 := H3.out.1.chg0 (Chg.refl [] w3).drew
        have B4 := H3.out.2.1.drew
        generalize w3.drew = x0 at T4 B4 ⊢
        have HT4 := Lib.hid T4; clear T4
        refine wpAnyS_ready (rs := [3]) (by kernel_rfl) (by simp) ?_
        refine AllReadyS.cons (by simp only [List.getElem?_toArray, List.getElem?_cons_zero, List.getElem?_cons_succ]; rfl) (fun K hK => ?_) ?_
        · rw [if_pos (by rfl)]
          go_simp
          go_at_call 58
          refine (ap_drop HT4.out (by omega) han o.id HW.out.2.1).mono ?_
          rintro e x1 ⟨_, ⟨c, rfl⟩, rfl, hB, hR⟩
          dsimp only
          have B5 := hB bx _ _ B4 HT.out.2.2.1
          have HR := Lib.hid hR; clear hB hR
          refine hK _ _ (B5) ?_
          clear hK K
          try simp only [Act.put, List.setIfInBounds_toArray, List.set_cons_zero, List.set_cons_succ]
          refine wpAnyS_tail 7 3 (by kernel_rfl) rfl ?_
          simp only [List.drop_succ_cons, List.drop_zero]
          go_wp2_with fail
          refine (HR.out x1 (Chg.refl _ _)).mono ?_
          rintro e x2 ⟨rfl, hh⟩
          have HH := Lib.hid hh; clear hh
          go_wp2_with fail
          go_ret
          exact ⟨by simp, HH.out⟩
        exact AllReadyS.nil
      by_cases k2 : k = 2 ∨ k = 3 ∨ k = 4
      · have e1 : (k == 1) = false := by rw [beq_eq_false_iff_ne]; exact k1
        clear k0 k1
        rcases k2 with rfl | rfl | rfl
        · go_wp2_with fail
          refine (ap_alloc H3.out.1 HT.out.2.2.2 hb hm hN o.id o.n HW.out.2.1 o.bl).mono ?_
          rintro e w4 ⟨_, ⟨p, c, rfl⟩, rfl, hB, hR⟩
          have B4 := hB bx _ _ H3.out.2.1 HT.out.2.2.1
          have y2 : w4.cell? ⟨bx, 2, none⟩ = some (.int .i64 o.id) := B4.cellv 2 rfl
          have y3 : w4.cell? ⟨bx, 3, none⟩ = some (.int .i64 o.n) := B4.cellv 3 rfl
          have y7 : w4.cell? ⟨bx, 7, none⟩ = some (.bool o.bl) := B4.cellv 7 rfl
          have HR := Lib.hid hR; clear hB hR B4
          go_wp2_with fail
          refine (HR.out w4 (Chg.refl _ _)).mono ?_
          rintro e w5 ⟨rfl, hh⟩
          have HH := Lib.hid hh; clear hh
          go_wp2_with fail
          go_ret
          exact ⟨rfl, HH.out⟩
        · go_wp2_with fail
          refine (ap_alloc H3.out.1 HT.out.2.2.2 hb hm hN o.id o.n HW.out.2.1 o.bl).mono ?_
          rintro e w4 ⟨_, ⟨p, c, rfl⟩, rfl, hB, hR⟩
          have B4 := hB bx _ _ H3.out.2.1 HT.out.2.2.1
          have y2 : w4.cell? ⟨bx, 2, none⟩ = some (.int .i64 o.id) := B4.cellv 2 rfl
          have y3 : w4.cell? ⟨bx, 3, none⟩ = some (.int .i64 o.n) := B4.cellv 3 rfl
          have y7 : w4.cell? ⟨bx, 7, none⟩ = some (.bool o.bl) := B4.cellv 7 rfl
          have HR := Lib.hid hR; clear hB hR B4
          go_wp2_with fail
          refine (HR.out w4 (Chg.refl _ _)).mono ?_
          rintro e w5 ⟨rfl, hh⟩
          have HH := Lib.hid hh; clear hh
          go_wp2_with fail
          go_ret
          exact ⟨rfl, HH.out⟩
        · go_wp2_with fail
          refine (ap_alloc H3.out.1 HT.out.2.2.2 hb hm hN o.id o.n HW.out.2.1 o.bl).mono ?_
          rintro e w4 ⟨_, ⟨p, c, rfl⟩, rfl, hB, hR⟩
          have B4 := hB bx _ _ H3.out.2.1 HT.out.2.2.1
          have y2 : w4.cell? ⟨bx, 2, none⟩ = some (.int .i64 o.id) := B4.cellv 2 rfl
          have y3 : w4.cell? ⟨bx, 3, none⟩ = some (.int .i64 o.n) := B4.cellv 3 rfl
          have y7 : w4.cell? ⟨bx, 7, none⟩ = some (.bool o.bl) := B4.cellv 7 rfl
          have HR := Lib.hid hR; clear hB hR B4
          go_wp2_with fail
          refine (HR.out w4 (Chg.refl _ _)).mono ?_
          rintro e w5 ⟨rfl, hh⟩
          have HH := Lib.hid hh; clear hh
          go_wp2_with fail
          go_ret
          exact ⟨rfl, HH.out⟩
      by_cases k6 : k = 6
      · subst k6
        clear k0 k1 k2 e0
        go_upto_region 19 with fail
        refine wp_region_takes (fuel := 4) 13 (fun w' => Blk w' bx 72 #[.int .i64 o.k, .int .i64 o.cl, .int .i64 o.id, .int .i64 o.n, .int .i64 o.ad, .int .i64 o.i, .int .i64 o.v, .bool o.bl, .bool o.rw]) [0, 1, 2, 3, 4, 5, 7, 8, 9, 10, 11, 12] (by kernel_rfl) (by kernel_rfl) (fun _ _ _ _ _ h => h) (H3.out.2.1.drew) ?_
        simp only [List.filterMap_cons, List.filterMap_nil, List.getElem?_cons_zero, List.getElem?_cons_succ]
        refine wpTake_step (fun K hK => ?_)
        rw [if_pos (by rfl)]
        refine ⟨?_, fun w' hS' => ?_, ?_⟩
        rotate_left 1
        focus
          have z2 := hS'.cellv 2 rfl
          have z5 := hS'.cellv 5 rfl
          have z6 := hS'.cellv 6 rfl
          go_simp
          try with_reducible rfl
          done
        simp only [Act.put, List.setIfInBounds_toArray, List.set_cons_zero, List.set_cons_succ]
        refine hK _ ?_
        clear hK K
        refine wpTake_step (fun K hK => ?_)
        rw [if_pos (by rfl)]
        refine ⟨?_, fun w' hS' => ?_, ?_⟩
        rotate_left 1
        focus
          have z2 := hS'.cellv 2 rfl
          have z5 := hS'.cellv 5 rfl
          have z6 := hS'.cellv 6 rfl
          go_simp
          try with_reducible rfl
          done
        simp only [Act.put, List.setIfInBounds_toArray, List.set_cons_zero, List.set_cons_succ]
        refine hK _ ?_
        clear hK K
        refine wpTake_step (fun K hK => ?_)
        rw [if_pos (by rfl)]
        refine ⟨?_, fun w' hS' => ?_, ?_⟩
        rotate_left 1
        focus
          have z2 := hS'.cellv 2 rfl
          have z5 := hS'.cellv 5 rfl
          have z6 := hS'.cellv 6 rfl
          go_simp
          try with_reducible rfl
          done
        simp only [Act.put, List.setIfInBounds_toArray, List.set_cons_zero, List.set_cons_succ]
        refine hK _ ?_
        clear hK K
        refine wpTake_step (fun K hK => ?_)
        rw [if_pos (by rfl)]
        refine ⟨?_, fun w' hS' => ?_, ?_⟩
        rotate_left 1
        focus
          have z2 := hS'.cellv 2 rfl
          have z5 := hS'.cellv 5 rfl
          have z6 := hS'.cellv 6 rfl
          go_simp
          try with_reducible rfl
          done
        simp only [Act.put, List.setIfInBounds_toArray, List.set_cons_zero, List.set_cons_succ]
        refine hK _ ?_
        clear hK K
        refine wpTake_step (fun K hK => ?_)
        rw [if_pos (by rfl)]
        refine ⟨?_, fun w' hS' => ?_, ?_⟩
        rotate_left 1
        focus
          have z2 := hS'.cellv 2 rfl
          have z5 := hS'.cellv 5 rfl
          have z6 := hS'.cellv 6 rfl
          go_simp
          try with_reducible rfl
          done
        simp only [Act.put, List.setIfInBounds_toArray, List.set_cons_zero, List.set_cons_succ]
        refine hK _ ?_
        clear hK K
        refine wpTake_step (fun K hK => ?_)
        rw [if_pos (by rfl)]
        refine ⟨?_, fun w' hS' => ?_, ?_⟩
        rotate_left 1
        focus
          have z2 := hS'.cellv 2 rfl
          have z5 := hS'.cellv 5 rfl
          have z6 := hS'.cellv 6 rfl
          go_simp
          try with_reducible rfl
          done
        simp only [Act.put, List.setIfInBounds_toArray, List.set_cons_zero, List.set_cons_succ]
        refine hK _ ?_
        clear hK K
        refine wpTake_step (fun K hK => ?_)
        rw [if_pos (by rfl)]
        refine ⟨?_, fun w' hS' => ?_, ?_⟩
        rotate_left 1
        focus
          have z2 := hS'.cellv 2 rfl
          have z5 := hS'.cellv 5 rfl
          have z6 := hS'.cellv 6 rfl
          go_simp
          try with_reducible rfl
          done
        simp only [Act.put, List.setIfInBounds_toArray, List.set_cons_zero, List.set_cons_succ]
        refine hK _ ?_
        clear hK K
        refine wpTake_step (fun K hK => ?_)
        rw [if_pos (by rfl)]
        refine ⟨?_, fun w' hS' => ?_, ?_⟩
        rotate_left 1
        focus
          have z2 := hS'.cellv 2 rfl
          have z5 := hS'.cellv 5 rfl
          have z6 := hS'.cellv 6 rfl
          go_simp
          try with_reducible rfl
          done
        simp only [Act.put, List.setIfInBounds_toArray, List.set_cons_zero, List.set_cons_succ]
        refine hK _ ?_
        clear hK K
        refine wpTake_step (fun K hK => ?_)
        rw [if_pos (by rfl)]
        refine ⟨?_, fun w' hS' => ?_, ?_⟩
        rotate_left 1
        focus
          have z2 := hS'.cellv 2 rfl
          have z5 := hS'.cellv 5 rfl
          have z6 := hS'.cellv 6 rfl
          go_simp
          try with_reducible rfl
          done
        simp only [Act.put, List.setIfInBounds_toArray, List.set_cons_zero, List.set_cons_succ]
        refine hK _ ?_
        clear hK K
        refine wpTake_step (fun K hK => ?_)
        rw [if_pos (by rfl)]
        refine ⟨?_, fun w' hS' => ?_, ?_⟩
        rotate_left 1
        focus
          have z2 := hS'.cellv 2 rfl
          have z5 := hS'.cellv 5 rfl
          have z6 := hS'.cellv 6 rfl
          go_simp
          try with_reducible rfl
          done
        simp only [Act.put, List.setIfInBounds_toArray, List.set_cons_zero, List.set_cons_succ]
        refine hK _ ?_
        clear hK K
        refine wpTake_step (fun K hK => ?_)
        rw [if_pos (by rfl)]
        refine ⟨?_, fun w' hS' => ?_, ?_⟩
        rotate_left 1
        focus
          have z2 := hS'.cellv 2 rfl
          have z5 := hS'.cellv 5 rfl
          have z6 := hS'.cellv 6 rfl
          go_simp
          try with_reducible rfl
          done
        simp only [Act.put, List.setIfInBounds_toArray, List.set_cons_zero, List.set_cons_succ]
        refine hK _ ?_
        clear hK K
        refine wpTake_step (fun K hK => ?_)
        rw [if_pos (by rfl)]
        refine ⟨?_, fun w' hS' => ?_, ?_⟩
        rotate_left 1
        focus
          have z2 := hS'.cellv 2 rfl
          have z5 := hS'.cellv 5 rfl
          have z6 := hS'.cellv 6 rfl
          go_simp
          try with_reducible rfl
          done
        simp only [Act.put, List.setIfInBounds_toArray, List.set_cons_zero, List.set_cons_succ]
        refine hK _ ?_
        clear hK K
        refine wpTake_nil ?_
        have T4 := H3.out.1.chg0 (Chg.refl [] w3).drew
        have B4 := H3.out.2.1.drew
        generalize w3.drew = x0 at T4 B4 ⊢
        have HT4 := Lib.hid T4; clear T4
        refine wpAnyS_ready (rs := [6]) (by kernel_rfl) (by simp) ?_
        refine AllReadyS.cons (by simp only [List.getElem?_toArray, List.getElem?_cons_zero, List.getElem?_cons_succ]; rfl) (fun K hK => ?_) ?_
        · rw [if_pos (by rfl)]
          go_simp
          go_at_call 76
          refine (ap_store HT4.out hm (by omega) ad o.i o.v H3.out.2.2).mono ?_
          rintro e x1 ⟨_, ⟨c, rfl⟩, rfl, hB, hR⟩
          dsimp only
          have B5 := hB bx _ _ B4 HT.out.2.2.1
          have HR := Lib.hid hR; clear hB hR
          refine hK _ _ (B5) ?_
          clear hK K
          try simp only [Act.put, List.setIfInBounds_toArray, List.set_cons_zero, List.set_cons_succ]
          refine wpAnyS_tail 13 3 (by kernel_rfl) rfl ?_
          simp only [List.drop_succ_cons, List.drop_zero]
          go_wp2_with fail
          refine (HR.out x1 (Chg.refl _ _)).mono ?_
          rintro e x2 ⟨rfl, hh⟩
          have HH := Lib.hid hh; clear hh
          go_wp2_with fail
          go_ret
          exact ⟨by simp, HH.out⟩
        exact AllReadyS.nil
      by_cases k7 : k = 7
      · subst k7
        clear k0 k1 k2 k6 e0
        go_wp2_with fail
        refine (ap_mark H3.out.1 (by omega) ad H3.out.2.2).mono ?_
        rintro e w4 ⟨_, ⟨c, rfl⟩, rfl, hB, hR⟩
        have HR := Lib.hid hR; clear hB hR
        go_wp2_with fail
        refine (HR.out w4 (Chg.refl _ _)).mono ?_
        rintro e w5 ⟨rfl, hh⟩
        have HH := Lib.hid hh; clear hh
        go_wp2_with fail
        go_ret
        exact ⟨by simp, HH.out⟩
      by_cases k8 : k = 8
      · subst k8
        clear k0 k1 k2 k6 k7 e0
        go_wp2_with fail
        refine (ap_sweep H3.out.1 HT.out.2.2.2 hN o.id HW.out.2.1).mono ?_
        rintro e w4 ⟨v, c, ys, rfl, O4, hB, hR⟩
        have y2 : w4.cell? ⟨bx, 2, none⟩ = some (.int .i64 o.id) := (hB bx _ _ H3.out.2.1 HT.out.2.2.1).cellv 2 rfl
        obtain ⟨Av, cv, rfl⟩ := O4.slice
        obtain ⟨nv, hnv⟩ : ∃ nv, nv = ys.length := ⟨_, rfl⟩
        rw [← hnv] at hR O4 ⊢
        have HR := Lib.hid (And.intro hR hnv); clear hB hR O4 hnv
        go_wp2_with fail
        refine (HR.out.1 w4 (Chg.refl _ _)).mono ?_
        rintro e w5 ⟨u, O5, O6, hh⟩
        obtain rfl := hh.1
        obtain ⟨Au, cu, rfl⟩ := O5.slice
        rw [← HR.out.2] at O5 hh ⊢
        have HH := Lib.hid (And.intro hh (And.intro O5 O6)); clear hh O5 O6
        go_wp2_with fail
        refine (ints_ok w5 _ _ ys ys HH.out.2.2.rd HH.out.2.1.rd).mono ?_
        intro e w6 hbd
        obtain ⟨rfl, c6⟩ := hbd.chg
        rw [decide_eq_true rfl]
        have H6 := Lib.hid c6; clear c6 hbd
        go_wp2_with fail
        go_ret
        exact (HH.out.1.chg H6.out _)
      have e1 : (k == 1) = false := by rw [beq_eq_false_iff_ne]; exact k1
      have e2 : (k == 2) = false := by rw [beq_eq_false_iff_ne]; omega
      have e3 : (k == 3) = false := by rw [beq_eq_false_iff_ne]; omega
      have e4 : (k == 4) = false := by rw [beq_eq_false_iff_ne]; omega
      have e6 : (k == 6) = false := by rw [beq_eq_false_iff_ne]; exact k6
      have e7 : (k == 7) = false := by rw [beq_eq_false_iff_ne]; exact k7
      have e8 : (k == 8) = false := by rw [beq_eq_false_iff_ne]; exact k8
      clear k0 k1 k2 k6 k7 k8
      obtain ⟨p1, c1, La, Lb⟩ := ask_load H3.out.1 (by omega) ad o.i H3.out.2.2
      obtain ⟨p2, q2, b2, Fa, Fb⟩ := ask_find H3.out.1 (by omega) ad H3.out.2.2
      obtain ⟨p3, Na, Nb⟩ := ask_len H3.out.1 (by omega) ad H3.out.2.2
      obtain ⟨b4, Ma, Mb⟩ := ask_marked H3.out.1 (by omega) ad H3.out.2.2
      obtain ⟨b5, Ua, Ub⟩ := ask_full H3.out.1 HT.out.2.2.2 (by omega) o.id HW.out.2.1
      obtain ⟨p6, Ca, Cb⟩ := ask_class H3.out.1 (by omega) o.id HW.out.2.1
      have HL := Lib.hid (And.intro La Lb)
      have HF := Lib.hid (And.intro Fa Fb)
      have HN := Lib.hid (And.intro Na Nb)
      have HM := Lib.hid (And.intro Ma Mb)
      have HU := Lib.hid (And.intro Ua Ub)
      have HC := Lib.hid (And.intro Ca Cb)
      clear La Lb Fa Fb Na Nb Ma Mb Ua Ub Ca Cb
      go_wp2_with fail
      refine (HL.out.1 w3 (Chg.refl _ _)).mono ?_
      rintro e w4 ⟨rfl, d4⟩
      have y5 : w4.cell? ⟨bx, 5, none⟩ = some (.int .i64 o.i) := (d4.blk H3.out.2.1 (by simp)).cellv 5 rfl
      have D4 := Lib.hid d4; clear d4
      go_wp2_with fail
      refine (HL.out.2 w4 D4.out).mono ?_
      rintro e w5 ⟨rfl, d5⟩
      have D5 := Lib.hid (D4.out.trans d5); clear d5 D4
      go_wp2_with fail
      refine (HF.out.1 w5 D5.out).mono ?_
      rintro e w6 ⟨rfl, d6⟩
      have D6 := Lib.hid (D5.out.trans d6); clear d6 D5 y5
      go_upto_region 29 with fail
      have D7 := D6.out.trans ((Chg.refl [] w6).alloc (.cells #[.int .i64 p2, .int .i64 q2] 38))
      have BF := Blk.new w6 38 #[.int .i64 p2, .int .i64 q2]
      clear D6
      generalize (w6.alloc (.cells #[.int .i64 p2, .int .i64 q2] 38)) = w7 at D7 BF ⊢
      generalize w6.heap.size = bf at BF ⊢
      have H7 := Lib.hid (And.intro D7 BF); clear D7 BF
      go_wp2_with fail
      refine (HF.out.2 w7 H7.out.1).mono ?_
      rintro e w8 ⟨rfl, d8⟩
      have H8 := Lib.hid (And.intro (H7.out.1.trans d8) (d8.blk H7.out.2 (by simp))); clear d8 H7
      go_upto_region 30 with fail
      have c9 := (Chg.refl [] w8).alloc (.cells #[.int .i64 p2, .int .i64 q2] 38)
      have D9 := H8.out.1.trans c9
      have BF := c9.blk H8.out.2 (by simp)
      have BG := Blk.new w8 38 #[.int .i64 p2, .int .i64 q2]
      clear H8 c9
      generalize (w8.alloc (.cells #[.int .i64 p2, .int .i64 q2] 38)) = w9 at D9 BF BG ⊢
      generalize w8.heap.size = bg at BG ⊢
      have hbf := BF.lt
      have hbg := BG.lt
      have f0 : w9.cell? ⟨bf, 0, none⟩ = some (.int .i64 p2) := BF.cellv 0 rfl
      have f1 : w9.cell? ⟨bf, 1, none⟩ = some (.int .i64 q2) := BF.cellv 1 rfl
      have g0 : w9.cell? ⟨bg, 0, none⟩ = some (.int .i64 p2) := BG.cellv 0 rfl
      have g1 : w9.cell? ⟨bg, 1, none⟩ = some (.int .i64 q2) := BG.cellv 1 rfl
      have B9 := D9.blk H3.out.2.1 (by simp)
      have hbx := B9.lt
      have y2 : w9.cell? ⟨bx, 2, none⟩ = some (.int .i64 o.id) := B9.cellv 2 rfl
      have HD := Lib.hid D9; clear D9 BF BG B9
      refine wp_region_takes (fuel := 36) 58 (fun w' => Chg [] w9 w') [0, 1, 2, 3, 4, 5, 6, 7, 8, 9, 10, 11, 12, 13, 14, 15, 16, 17, 18, 19, 20, 22, 23] (by kernel_rfl) (by kernel_rfl) (fun _ _ _ _ _ h => h) ((Chg.refl [] w9).drew) ?_
      simp only [List.filterMap_cons, List.filterMap_nil, List.getElem?_cons_zero, List.getElem?_cons_succ]
      refine wpTake_step (fun K hK => ?_)
      rw [if_pos (by rfl)]
      refine ⟨?_, fun w' hS' => ?_, ?_⟩
      rotate_left 1
      focus
        have yf0 := hS'.cellv hbf (by simp) f0
        have yf1 := hS'.cellv hbf (by simp) f1
        have yg0 := hS'.cellv hbg (by simp) g0
        have yg1 := hS'.cellv hbg (by simp) g1
        have yb2 := hS'.cellv hbx (by simp) y2
        go_simp
        try with_reducible rfl
        done
      simp only [Act.put, List.setIfInBounds_toArray, List.set_cons_zero, List.set_cons_succ]
      refine hK _ ?_
      clear hK K
      refine wpTake_step (fun K hK => ?_)
      rw [if_pos (by rfl)]
      refine ⟨?_, fun w' hS' => ?_, ?_⟩
      rotate_left 1
      focus
        have yf0 := hS'.cellv hbf (by simp) f0
        have yf1 := hS'.cellv hbf (by simp) f1
        have yg0 := hS'.cellv hbg (by simp) g0
        have yg1 := hS'.cellv hbg (by simp) g1
        have yb2 := hS'.cellv hbx (by simp) y2
        go_simp
        try with_reducible rfl
        done
      simp only [Act.put, List.setIfInBounds_toArray, List.set_cons_zero, List.set_cons_succ]
      refine hK _ ?_
      clear hK K
      refine wpTake_step (fun K hK => ?_)
      rw [if_pos (by rfl)]
      refine ⟨?_, fun w' hS' => ?_, ?_⟩
      rotate_left 1
      focus
        have yf0 := hS'.cellv hbf (by simp) f0
        have yf1 := hS'.cellv hbf (by simp) f1
        have yg0 := hS'.cellv hbg (by simp) g0
        have yg1 := hS'.cellv hbg (by simp) g1
        have yb2 := hS'.cellv hbx (by simp) y2
        go_simp
        try with_reducible rfl
        done
      simp only [Act.put, List.setIfInBounds_toArray, List.set_cons_zero, List.set_cons_succ]
      refine hK _ ?_
      clear hK K
      refine wpTake_step (fun K hK => ?_)
      rw [if_pos (by rfl)]
      refine ⟨?_, fun w' hS' => ?_, ?_⟩
      rotate_left 1
      focus
        have yf0 := hS'.cellv hbf (by simp) f0
        have yf1 := hS'.cellv hbf (by simp) f1
        have yg0 := hS'.cellv hbg (by simp) g0
        have yg1 := hS'.cellv hbg (by simp) g1
        have yb2 := hS'.cellv hbx (by simp) y2
        go_simp
        try with_reducible rfl
        done
      simp only [Act.put, List.setIfInBounds_toArray, List.set_cons_zero, List.set_cons_succ]
      refine hK _ ?_
      clear hK K
      refine wpTake_step (fun K hK => ?_)
      rw [if_pos (by rfl)]
      refine ⟨?_, fun w' hS' => ?_, ?_⟩
      rotate_left 1
      focus
        have yf0 := hS'.cellv hbf (by simp) f0
        have yf1 := hS'.cellv hbf (by simp) f1
        have yg0 := hS'.cellv hbg (by simp) g0
        have yg1 := hS'.cellv hbg (by simp) g1
        have yb2 := hS'.cellv hbx (by simp) y2
        go_simp
        try with_reducible rfl
        done
      simp only [Act.put, List.setIfInBounds_toArray, List.set_cons_zero, List.set_cons_succ]
      refine hK _ ?_
      clear hK K
      refine wpTake_step (fun K hK => ?_)
      rw [if_pos (by rfl)]
      refine ⟨?_, fun w' hS' => ?_, ?_⟩
      rotate_left 1
      focus
        have yf0 := hS'.cellv hbf (by simp) f0
        have yf1 := hS'.cellv hbf (by simp) f1
        have yg0 := hS'.cellv hbg (by simp) g0
        have yg1 := hS'.cellv hbg (by simp) g1
        have yb2 := hS'.cellv hbx (by simp) y2
        go_simp
        try with_reducible rfl
        done
      simp only [Act.put, List.setIfInBounds_toArray, List.set_cons_zero, List.set_cons_succ]
      refine hK _ ?_
      clear hK K
      refine wpTake_step (fun K hK => ?_)
      rw [if_pos (by rfl)]
      refine ⟨?_, fun w' hS' => ?_, ?_⟩
      rotate_left 1
      focus
        have yf0 := hS'.cellv hbf (by simp) f0
        have yf1 := hS'.cellv hbf (by simp) f1
        have yg0 := hS'.cellv hbg (by simp) g0
        have yg1 := hS'.cellv hbg (by simp) g1
        have yb2 := hS'.cellv hbx (by simp) y2
        go_simp
        try with_reducible rfl
        done
      simp only [Act.put, List.setIfInBounds_toArray, List.set_cons_zero, List.set_cons_succ]
      refine hK _ ?_
      clear hK K
      refine wpTake_step (fun K hK => ?_)
      rw [if_pos (by rfl)]
      refine ⟨?_, fun w' hS' => ?_, ?_⟩
      rotate_left 1
      focus
        have yf0 := hS'.cellv hbf (by simp) f0
        have yf1 := hS'.cellv hbf (by simp) f1
        have yg0 := hS'.cellv hbg (by simp) g0
        have yg1 := hS'.cellv hbg (by simp) g1
        have yb2 := hS'.cellv hbx (by simp) y2
        go_simp
        try with_reducible rfl
        done
      simp only [Act.put, List.setIfInBounds_toArray, List.set_cons_zero, List.set_cons_succ]
      refine hK _ ?_
      clear hK K
      refine wpTake_step (fun K hK => ?_)
      rw [if_pos (by rfl)]
      refine ⟨?_, fun w' hS' => ?_, ?_⟩
      rotate_left 1
      focus
        have yf0 := hS'.cellv hbf (by simp) f0
        have yf1 := hS'.cellv hbf (by simp) f1
        have yg0 := hS'.cellv hbg (by simp) g0
        have yg1 := hS'.cellv hbg (by simp) g1
        have yb2 := hS'.cellv hbx (by simp) y2
        go_simp
        try with_reducible rfl
        done
      simp only [Act.put, List.setIfInBounds_toArray, List.set_cons_zero, List.set_cons_succ]
      refine hK _ ?_
      clear hK K
      refine wpTake_step (fun K hK => ?_)
      rw [if_pos (by rfl)]
      refine ⟨?_, fun w' hS' => ?_, ?_⟩
      rotate_left 1
      focus
        have yf0 := hS'.cellv hbf (by simp) f0
        have yf1 := hS'.cellv hbf (by simp) f1
        have yg0 := hS'.cellv hbg (by simp) g0
        have yg1 := hS'.cellv hbg (by simp) g1
        have yb2 := hS'.cellv hbx (by simp) y2
        go_simp
        try with_reducible rfl
        done
      simp only [Act.put, List.setIfInBounds_toArray, List.set_cons_zero, List.set_cons_succ]
      refine hK _ ?_
      clear hK K
      refine wpTake_step (fun K hK => ?_)
      rw [if_pos (by rfl)]
      refine ⟨?_, fun w' hS' => ?_, ?_⟩
      rotate_left 1
      focus
        have yf0 := hS'.cellv hbf (by simp) f0
        have yf1 := hS'.cellv hbf (by simp) f1
        have yg0 := hS'.cellv hbg (by simp) g0
        have yg1 := hS'.cellv hbg (by simp) g1
        have yb2 := hS'.cellv hbx (by simp) y2
        go_simp
        try with_reducible rfl
        done
      simp only [Act.put, List.setIfInBounds_toArray, List.set_cons_zero, List.set_cons_succ]
      refine hK _ ?_
      clear hK K
      refine wpTake_step (fun K hK => ?_)
      rw [if_pos (by rfl)]
      refine ⟨?_, fun w' hS' => ?_, ?_⟩
      rotate_left 1
      focus
        have yf0 := hS'.cellv hbf (by simp) f0
        have yf1 := hS'.cellv hbf (by simp) f1
        have yg0 := hS'.cellv hbg (by simp) g0
        have yg1 := hS'.cellv hbg (by simp) g1
        have yb2 := hS'.cellv hbx (by simp) y2
        go_simp
        try with_reducible rfl
        done
      simp only [Act.put, List.setIfInBounds_toArray, List.set_cons_zero, List.set_cons_succ]
      refine hK _ ?_
      clear hK K
      refine wpTake_step (fun K hK => ?_)
      rw [if_pos (by rfl)]
      refine ⟨?_, fun w' hS' => ?_, ?_⟩
      rotate_left 1
      focus
        have yf0 := hS'.cellv hbf (by simp) f0
        have yf1 := hS'.cellv hbf (by simp) f1
        have yg0 := hS'.cellv hbg (by simp) g0
        have yg1 := hS'.cellv hbg (by simp) g1
        have yb2 := hS'.cellv hbx (by simp) y2
        go_simp
        try with_reducible rfl
        done
      simp only [Act.put, List.setIfInBounds_toArray, List.set_cons_zero, List.set_cons_succ]
      refine hK _ ?_
      clear hK K
      refine wpTake_step (fun K hK => ?_)
      rw [if_pos (by rfl)]
      refine ⟨?_, fun w' hS' => ?_, ?_⟩
      rotate_left 1
      focus
        have yf0 := hS'.cellv hbf (by simp) f0
        have yf1 := hS'.cellv hbf (by simp) f1
        have yg0 := hS'.cellv hbg (by simp) g0
        have yg1 := hS'.cellv hbg (by simp) g1
        have yb2 := hS'.cellv hbx (by simp) y2
        go_simp
        try with_reducible rfl
        done
      simp only [Act.put, List.setIfInBounds_toArray, List.set_cons_zero, List.set_cons_succ]
      refine hK _ ?_
      clear hK K
      refine wpTake_step (fun K hK => ?_)
      rw [if_pos (by rfl)]
      refine ⟨?_, fun w' hS' => ?_, ?_⟩
      rotate_left 1
      focus
        have yf0 := hS'.cellv hbf (by simp) f0
        have yf1 := hS'.cellv hbf (by simp) f1
        have yg0 := hS'.cellv hbg (by simp) g0
        have yg1 := hS'.cellv hbg (by simp) g1
        have yb2 := hS'.cellv hbx (by simp) y2
        go_simp
        try with_reducible rfl
        done
      simp only [Act.put, List.setIfInBounds_toArray, List.set_cons_zero, List.set_cons_succ]
      refine hK _ ?_
      clear hK K
      refine wpTake_step (fun K hK => ?_)
      rw [if_pos (by rfl)]
      refine ⟨?_, fun w' hS' => ?_, ?_⟩
      rotate_left 1
      focus
        have yf0 := hS'.cellv hbf (by simp) f0
        have yf1 := hS'.cellv hbf (by simp) f1
        have yg0 := hS'.cellv hbg (by simp) g0
        have yg1 := hS'.cellv hbg (by simp) g1
        have yb2 := hS'.cellv hbx (by simp) y2
        go_simp
        try with_reducible rfl
        done
      simp only [Act.put, List.setIfInBounds_toArray, List.set_cons_zero, List.set_cons_succ]
      refine hK _ ?_
      clear hK K
      refine wpTake_step (fun K hK => ?_)
      rw [if_pos (by rfl)]
      refine ⟨?_, fun w' hS' => ?_, ?_⟩
      rotate_left 1
      focus
        have yf0 := hS'.cellv hbf (by simp) f0
        have yf1 := hS'.cellv hbf (by simp) f1
        have yg0 := hS'.cellv hbg (by simp) g0
        have yg1 := hS'.cellv hbg (by simp) g1
        have yb2 := hS'.cellv hbx (by simp) y2
        go_simp
        try with_reducible rfl
        done
      simp only [Act.put, List.setIfInBounds_toArray, List.set_cons_zero, List.set_cons_succ]
      refine hK _ ?_
      clear hK K
      refine wpTake_step (fun K hK => ?_)
      rw [if_pos (by rfl)]
      refine ⟨?_, fun w' hS' => ?_, ?_⟩
      rotate_left 1
      focus
        have yf0 := hS'.cellv hbf (by simp) f0
        have yf1 := hS'.cellv hbf (by simp) f1
        have yg0 := hS'.cellv hbg (by simp) g0
        have yg1 := hS'.cellv hbg (by simp) g1
        have yb2 := hS'.cellv hbx (by simp) y2
        go_simp
        try with_reducible rfl
        done
      simp only [Act.put, List.setIfInBounds_toArray, List.set_cons_zero, List.set_cons_succ]
      refine hK _ ?_
      clear hK K
      refine wpTake_step (fun K hK => ?_)
      rw [if_pos (by rfl)]
      refine ⟨?_, fun w' hS' => ?_, ?_⟩
      rotate_left 1
      focus
        have yf0 := hS'.cellv hbf (by simp) f0
        have yf1 := hS'.cellv hbf (by simp) f1
        have yg0 := hS'.cellv hbg (by simp) g0
        have yg1 := hS'.cellv hbg (by simp) g1
        have yb2 := hS'.cellv hbx (by simp) y2
        go_simp
        try with_reducible rfl
        done
      simp only [Act.put, List.setIfInBounds_toArray, List.set_cons_zero, List.set_cons_succ]
      refine hK _ ?_
      clear hK K
      refine wpTake_step (fun K hK => ?_)
      rw [if_pos (by rfl)]
      refine ⟨?_, fun w' hS' => ?_, ?_⟩
      rotate_left 1
      focus
        have yf0 := hS'.cellv hbf (by simp) f0
        have yf1 := hS'.cellv hbf (by simp) f1
        have yg0 := hS'.cellv hbg (by simp) g0
        have yg1 := hS'.cellv hbg (by simp) g1
        have yb2 := hS'.cellv hbx (by simp) y2
        go_simp
        try with_reducible rfl
        done
      simp only [Act.put, List.setIfInBounds_toArray, List.set_cons_zero, List.set_cons_succ]
      refine hK _ ?_
      clear hK K
      refine wpTake_step (fun K hK => ?_)
      rw [if_pos (by rfl)]
      refine ⟨?_, fun w' hS' => ?_, ?_⟩
      rotate_left 1
      focus
        have yf0 := hS'.cellv hbf (by simp) f0
        have yf1 := hS'.cellv hbf (by simp) f1
        have yg0 := hS'.cellv hbg (by simp) g0
        have yg1 := hS'.cellv hbg (by simp) g1
        have yb2 := hS'.cellv hbx (by simp) y2
        go_simp
        try with_reducible rfl
        done
      simp only [Act.put, List.setIfInBounds_toArray, List.set_cons_zero, List.set_cons_succ]
      refine hK _ ?_
      clear hK K
      refine wpTake_step (fun K hK => ?_)
      rw [if_pos (by rfl)]
      refine ⟨?_, fun w' hS' => ?_, ?_⟩
      rotate_left 1
      focus
        have yf0 := hS'.cellv hbf (by simp) f0
        have yf1 := hS'.cellv hbf (by simp) f1
        have yg0 := hS'.cellv hbg (by simp) g0
        have yg1 := hS'.cellv hbg (by simp) g1
        have yb2 := hS'.cellv hbx (by simp) y2
        go_simp
        try with_reducible rfl
        done
      simp only [Act.put, List.setIfInBounds_toArray, List.set_cons_zero, List.set_cons_succ]
      refine hK _ ?_
      clear hK K
      refine wpTake_step (fun K hK => ?_)
      rw [if_pos (by rfl)]
      refine ⟨?_, fun w' hS' => ?_, ?_⟩
      rotate_left 1
      focus
        have yf0 := hS'.cellv hbf (by simp) f0
        have yf1 := hS'.cellv hbf (by simp) f1
        have yg0 := hS'.cellv hbg (by simp) g0
        have yg1 := hS'.cellv hbg (by simp) g1
        have yb2 := hS'.cellv hbx (by simp) y2
        go_simp
        try with_reducible rfl
        done
      simp only [Act.put, List.setIfInBounds_toArray, List.set_cons_zero, List.set_cons_succ]
      refine hK _ ?_
      clear hK K
      refine wpTake_nil ?_
      generalize hx0 : w9.drew = x0
      have D0 : Chg [] w9 x0 := by rw [← hx0]; exact (Chg.refl [] w9).drew
      clear hx0
      refine wpAnyS_ready (rs := [21]) (by kernel_rfl) (by simp) ?_
      refine AllReadyS.cons (by simp only [List.getElem?_toArray, List.getElem?_cons_zero, List.getElem?_cons_succ]; rfl) (fun K hK => ?_) ?_
      · rw [if_pos (by rfl)]
        go_simp
        go_at_call 18
        refine (HN.out.1 _ (HD.out.trans D0)).mono ?_
        rintro e x1 ⟨rfl, c1⟩
        dsimp only
        have D1 := D0.trans c1
        refine hK _ _ (D1) ?_
        clear hK K
        try simp only [Act.put, List.setIfInBounds_toArray, List.set_cons_zero, List.set_cons_succ]
        refine wpAnyS_ready (rs := [24]) (by kernel_rfl) (by simp) ?_
        refine AllReadyS.cons (by simp only [List.getElem?_toArray, List.getElem?_cons_zero, List.getElem?_cons_succ]; rfl) (fun K hK => ?_) ?_
        · rw [if_pos (by rfl)]
          go_simp
          go_at_call 86
          refine (HN.out.2 _ (HD.out.trans D1)).mono ?_
          rintro e x2 ⟨rfl, c2⟩
          dsimp only
          have D2 := D1.trans c2
          refine hK _ _ (D2) ?_
          clear hK K
          try simp only [Act.put, List.setIfInBounds_toArray, List.set_cons_zero, List.set_cons_succ]
          refine wpAnyS_more (fuel := 27) [25, 26, 27, 28, 29, 31, 32] (by kernel_rfl) (fun _ _ _ _ _ h => h) D2 ?_
          simp only [List.filterMap_cons, List.filterMap_nil, List.getElem?_cons_zero, List.getElem?_cons_succ]
          refine wpTake_step (fun K hK => ?_)
          rw [if_pos (by rfl)]
          refine ⟨?_, fun w' hS' => ?_, ?_⟩
          rotate_left 1
          focus
            have yf0 := hS'.cellv hbf (by simp) f0
            have yf1 := hS'.cellv hbf (by simp) f1
            have yg0 := hS'.cellv hbg (by simp) g0
            have yg1 := hS'.cellv hbg (by simp) g1
            have yb2 := hS'.cellv hbx (by simp) y2
            go_simp
            try with_reducible rfl
            done
          simp only [Act.put, List.setIfInBounds_toArray, List.set_cons_zero, List.set_cons_succ]
          refine hK _ ?_
          clear hK K
          refine wpTake_step (fun K hK => ?_)
          rw [if_pos (by rfl)]
          refine ⟨?_, fun w' hS' => ?_, ?_⟩
          rotate_left 1
          focus
            have yf0 := hS'.cellv hbf (by simp) f0
            have yf1 := hS'.cellv hbf (by simp) f1
            have yg0 := hS'.cellv hbg (by simp) g0
            have yg1 := hS'.cellv hbg (by simp) g1
            have yb2 := hS'.cellv hbx (by simp) y2
            go_simp
            try with_reducible rfl
            done
          simp only [Act.put, List.setIfInBounds_toArray, List.set_cons_zero, List.set_cons_succ]
          refine hK _ ?_
          clear hK K
          refine wpTake_step (fun K hK => ?_)
          rw [if_pos (by rfl)]
          refine ⟨?_, fun w' hS' => ?_, ?_⟩
          rotate_left 1
          focus
            have yf0 := hS'.cellv hbf (by simp) f0
            have yf1 := hS'.cellv hbf (by simp) f1
            have yg0 := hS'.cellv hbg (by simp) g0
            have yg1 := hS'.cellv hbg (by simp) g1
            have yb2 := hS'.cellv hbx (by simp) y2
            go_simp
            try with_reducible rfl
            done
          simp only [Act.put, List.setIfInBounds_toArray, List.set_cons_zero, List.set_cons_succ]
          refine hK _ ?_
          clear hK K
          refine wpTake_step (fun K hK => ?_)
          rw [if_pos (by rfl)]
          refine ⟨?_, fun w' hS' => ?_, ?_⟩
          rotate_left 1
          focus
            have yf0 := hS'.cellv hbf (by simp) f0
            have yf1 := hS'.cellv hbf (by simp) f1
            have yg0 := hS'.cellv hbg (by simp) g0
            have yg1 := hS'.cellv hbg (by simp) g1
            have yb2 := hS'.cellv hbx (by simp) y2
            go_simp
            try with_reducible rfl
            done
          simp only [Act.put, List.setIfInBounds_toArray, List.set_cons_zero, List.set_cons_succ]
          refine hK _ ?_
          clear hK K
          refine wpTake_step (fun K hK => ?_)
          rw [if_pos (by rfl)]
          refine ⟨?_, fun w' hS' => ?_, ?_⟩
          rotate_left 1
          focus
            have yf0 := hS'.cellv hbf (by simp) f0
            have yf1 := hS'.cellv hbf (by simp) f1
            have yg0 := hS'.cellv hbg (by simp) g0
            have yg1 := hS'.cellv hbg (by simp) g1
            have yb2 := hS'.cellv hbx (by simp) y2
            go_simp
            try with_reducible rfl
            done
          simp only [Act.put, List.setIfInBounds_toArray, List.set_cons_zero, List.set_cons_succ]
          refine hK _ ?_
          clear hK K
          refine wpTake_step (fun K hK => ?_)
          rw [if_pos (by rfl)]
          refine ⟨?_, fun w' hS' => ?_, ?_⟩
          rotate_left 1
          focus
            have yf0 := hS'.cellv hbf (by simp) f0
            have yf1 := hS'.cellv hbf (by simp) f1
            have yg0 := hS'.cellv hbg (by simp) g0
            have yg1 := hS'.cellv hbg (by simp) g1
            have yb2 := hS'.cellv hbx (by simp) y2
            go_simp
            try with_reducible rfl
            done
          simp only [Act.put, List.setIfInBounds_toArray, List.set_cons_zero, List.set_cons_succ]
          refine hK _ ?_
          clear hK K
          refine wpTake_step (fun K hK => ?_)
          rw [if_pos (by rfl)]
          refine ⟨?_, fun w' hS' => ?_, ?_⟩
          rotate_left 1
          focus
            have yf0 := hS'.cellv hbf (by simp) f0
            have yf1 := hS'.cellv hbf (by simp) f1
            have yg0 := hS'.cellv hbg (by simp) g0
            have yg1 := hS'.cellv hbg (by simp) g1
            have yb2 := hS'.cellv hbx (by simp) y2
            go_simp
            try with_reducible rfl
            done
          simp only [Act.put, List.setIfInBounds_toArray, List.set_cons_zero, List.set_cons_succ]
          refine hK _ ?_
          clear hK K
          refine wpTake_nil ?_
          refine wpAnyS_ready (rs := [30]) (by kernel_rfl) (by simp) ?_
          refine AllReadyS.cons (by simp only [List.getElem?_toArray, List.getElem?_cons_zero, List.getElem?_cons_succ]; rfl) (fun K hK => ?_) ?_
          · rw [if_pos (by rfl)]
            go_simp
            go_at_call 78
            refine (HM.out.1 _ (HD.out.trans D2)).mono ?_
            rintro e x3 ⟨rfl, c3⟩
            dsimp only
            have D3 := D2.trans c3
            refine hK _ _ (D3) ?_
            clear hK K
            try simp only [Act.put, List.setIfInBounds_toArray, List.set_cons_zero, List.set_cons_succ]
            refine wpAnyS_ready (rs := [33]) (by kernel_rfl) (by simp) ?_
            refine AllReadyS.cons (by simp only [List.getElem?_toArray, List.getElem?_cons_zero, List.getElem?_cons_succ]; rfl) (fun K hK => ?_) ?_
            · rw [if_pos (by rfl)]
              go_simp
              go_at_call 87
              refine (HM.out.2 _ (HD.out.trans D3)).mono ?_
              rintro e x4 ⟨rfl, c4⟩
              dsimp only
              have D4 := D3.trans c4
              refine hK _ _ (D4) ?_
              clear hK K
              try simp only [Act.put, List.setIfInBounds_toArray, List.set_cons_zero, List.set_cons_succ]
              refine wpAnyS_more (fuel := 16) [34, 35, 36, 37, 38, 39, 41, 42, 43] (by kernel_rfl) (fun _ _ _ _ _ h => h) D4 ?_
              simp only [List.filterMap_cons, List.filterMap_nil, List.getElem?_cons_zero, List.getElem?_cons_succ]
              refine wpTake_step (fun K hK => ?_)
              rw [if_pos (by rfl)]
              refine ⟨?_, fun w' hS' => ?_, ?_⟩
              rotate_left 1
              focus
                have yf0 := hS'.cellv hbf (by simp) f0
                have yf1 := hS'.cellv hbf (by simp) f1
                have yg0 := hS'.cellv hbg (by simp) g0
                have yg1 := hS'.cellv hbg (by simp) g1
                have yb2 := hS'.cellv hbx (by simp) y2
                go_simp
                try with_reducible rfl
                done
              simp only [Act.put, List.setIfInBounds_toArray, List.set_cons_zero, List.set_cons_succ]
              refine hK _ ?_
              clear hK K
              refine wpTake_step (fun K hK => ?_)
              rw [if_pos (by rfl)]
              refine ⟨?_, fun w' hS' => ?_, ?_⟩
              rotate_left 1
              focus
                have yf0 := hS'.cellv hbf (by simp) f0
                have yf1 := hS'.cellv hbf (by simp) f1
                have yg0 := hS'.cellv hbg (by simp) g0
                have yg1 := hS'.cellv hbg (by simp) g1
                have yb2 := hS'.cellv hbx (by simp) y2
                go_simp
                try with_reducible rfl
                done
              simp only [Act.put, List.setIfInBounds_toArray, List.set_cons_zero, List.set_cons_succ]
              refine hK _ ?_
              clear hK K
              refine wpTake_step (fun K hK => ?_)
              rw [if_pos (by rfl)]
              refine ⟨?_, fun w' hS' => ?_, ?_⟩
              rotate_left 1
              focus
                have yf0 := hS'.cellv hbf (by simp) f0
                have yf1 := hS'.cellv hbf (by simp) f1
                have yg0 := hS'.cellv hbg (by simp) g0
                have yg1 := hS'.cellv hbg (by simp) g1
                have yb2 := hS'.cellv hbx (by simp) y2
                go_simp
                try with_reducible rfl
                done
              simp only [Act.put, List.setIfInBounds_toArray, List.set_cons_zero, List.set_cons_succ]
              refine hK _ ?_
              clear hK K
              refine wpTake_step (fun K hK => ?_)
              rw [if_pos (by rfl)]
              refine ⟨?_, fun w' hS' => ?_, ?_⟩
              rotate_left 1
              focus
                have yf0 := hS'.cellv hbf (by simp) f0
                have yf1 := hS'.cellv hbf (by simp) f1
                have yg0 := hS'.cellv hbg (by simp) g0
                have yg1 := hS'.cellv hbg (by simp) g1
                have yb2 := hS'.cellv hbx (by simp) y2
                go_simp
                try with_reducible rfl
                done
              simp only [Act.put, List.setIfInBounds_toArray, List.set_cons_zero, List.set_cons_succ]
              refine hK _ ?_
              clear hK K
              refine wpTake_step (fun K hK => ?_)
              rw [if_pos (by rfl)]
              refine ⟨?_, fun w' hS' => ?_, ?_⟩
              rotate_left 1
              focus
                have yf0 := hS'.cellv hbf (by simp) f0
                have yf1 := hS'.cellv hbf (by simp) f1
                have yg0 := hS'.cellv hbg (by simp) g0
                have yg1 := hS'.cellv hbg (by simp) g1
                have yb2 := hS'.cellv hbx (by simp) y2
                go_simp
                try with_reducible rfl
                done
              simp only [Act.put, List.setIfInBounds_toArray, List.set_cons_zero, List.set_cons_succ]
              refine hK _ ?_
              clear hK K
              refine wpTake_step (fun K hK => ?_)
              rw [if_pos (by rfl)]
              refine ⟨?_, fun w' hS' => ?_, ?_⟩
              rotate_left 1
              focus
                have yf0 := hS'.cellv hbf (by simp) f0
                have yf1 := hS'.cellv hbf (by simp) f1
                have yg0 := hS'.cellv hbg (by simp) g0
                have yg1 := hS'.cellv hbg (by simp) g1
                have yb2 := hS'.cellv hbx (by simp) y2
                go_simp
                try with_reducible rfl
                done
              simp only [Act.put, List.setIfInBounds_toArray, List.set_cons_zero, List.set_cons_succ]
              refine hK _ ?_
              clear hK K
              refine wpTake_step (fun K hK => ?_)
              rw [if_pos (by rfl)]
              refine ⟨?_, fun w' hS' => ?_, ?_⟩
              rotate_left 1
              focus
                have yf0 := hS'.cellv hbf (by simp) f0
                have yf1 := hS'.cellv hbf (by simp) f1
                have yg0 := hS'.cellv hbg (by simp) g0
                have yg1 := hS'.cellv hbg (by simp) g1
                have yb2 := hS'.cellv hbx (by simp) y2
                go_simp
                try with_reducible rfl
                done
              simp only [Act.put, List.setIfInBounds_toArray, List.set_cons_zero, List.set_cons_succ]
              refine hK _ ?_
              clear hK K
              refine wpTake_step (fun K hK => ?_)
              rw [if_pos (by rfl)]
              refine ⟨?_, fun w' hS' => ?_, ?_⟩
              rotate_left 1
              focus
                have yf0 := hS'.cellv hbf (by simp) f0
                have yf1 := hS'.cellv hbf (by simp) f1
                have yg0 := hS'.cellv hbg (by simp) g0
                have yg1 := hS'.cellv hbg (by simp) g1
                have yb2 := hS'.cellv hbx (by simp) y2
                go_simp
                try with_reducible rfl
                done
              simp only [Act.put, List.setIfInBounds_toArray, List.set_cons_zero, List.set_cons_succ]
              refine hK _ ?_
              clear hK K
              refine wpTake_step (fun K hK => ?_)
              rw [if_pos (by rfl)]
              refine ⟨?_, fun w' hS' => ?_, ?_⟩
              rotate_left 1
              focus
                have yf0 := hS'.cellv hbf (by simp) f0
                have yf1 := hS'.cellv hbf (by simp) f1
                have yg0 := hS'.cellv hbg (by simp) g0
                have yg1 := hS'.cellv hbg (by simp) g1
                have yb2 := hS'.cellv hbx (by simp) y2
                go_simp
                try with_reducible rfl
                done
              simp only [Act.put, List.setIfInBounds_toArray, List.set_cons_zero, List.set_cons_succ]
              refine hK _ ?_
              clear hK K
              refine wpTake_nil ?_
              refine wpAnyS_ready (rs := [40]) (by kernel_rfl) (by simp) ?_
              refine AllReadyS.cons (by simp only [List.getElem?_toArray, List.getElem?_cons_zero, List.getElem?_cons_succ]; rfl) (fun K hK => ?_) ?_
              · rw [if_pos (by rfl)]
                go_simp
                go_at_call 20
                refine (HU.out.1 _ (HD.out.trans D4)).mono ?_
                rintro e x5 ⟨rfl, c5⟩
                dsimp only
                have D5 := D4.trans c5
                refine hK _ _ (D5) ?_
                clear hK K
                try simp only [Act.put, List.setIfInBounds_toArray, List.set_cons_zero, List.set_cons_succ]
                refine wpAnyS_ready (rs := [44]) (by kernel_rfl) (by simp) ?_
                refine AllReadyS.cons (by simp only [List.getElem?_toArray, List.getElem?_cons_zero, List.getElem?_cons_succ]; rfl) (fun K hK => ?_) ?_
                · rw [if_pos (by rfl)]
                  go_simp
                  go_at_call 88
                  refine (HU.out.2 _ (HD.out.trans D5)).mono ?_
                  rintro e x6 ⟨rfl, c6⟩
                  dsimp only
                  have D6 := D5.trans c6
                  refine hK _ _ (D6) ?_
                  clear hK K
                  try simp only [Act.put, List.setIfInBounds_toArray, List.set_cons_zero, List.set_cons_succ]
                  refine wpAnyS_more (fuel := 5) [45, 46, 47, 48, 49, 50, 52, 53, 54] (by kernel_rfl) (fun _ _ _ _ _ h => h) D6 ?_
                  simp only [List.filterMap_cons, List.filterMap_nil, List.getElem?_cons_zero, List.getElem?_cons_succ]
                  refine wpTake_step (fun K hK => ?_)
                  rw [if_pos (by rfl)]
                  refine ⟨?_, fun w' hS' => ?_, ?_⟩
                  rotate_left 1
                  focus
                    have yf0 := hS'.cellv hbf (by simp) f0
                    have yf1 := hS'.cellv hbf (by simp) f1
                    have yg0 := hS'.cellv hbg (by simp) g0
                    have yg1 := hS'.cellv hbg (by simp) g1
                    have yb2 := hS'.cellv hbx (by simp) y2
                    go_simp
                    try with_reducible rfl
                    done
                  simp only [Act.put, List.setIfInBounds_toArray, List.set_cons_zero, List.set_cons_succ]
                  refine hK _ ?_
                  clear hK K
                  refine wpTake_step (fun K hK => ?_)
                  rw [if_pos (by rfl)]
                  refine ⟨?_, fun w' hS' => ?_, ?_⟩
                  rotate_left 1
                  focus
                    have yf0 := hS'.cellv hbf (by simp) f0
                    have yf1 := hS'.cellv hbf (by simp) f1
                    have yg0 := hS'.cellv hbg (by simp) g0
                    have yg1 := hS'.cellv hbg (by simp) g1
                    have yb2 := hS'.cellv hbx (by simp) y2
                    go_simp
                    try with_reducible rfl
                    done
                  simp only [Act.put, List.setIfInBounds_toArray, List.set_cons_zero, List.set_cons_succ]
                  refine hK _ ?_
                  clear hK K
                  refine wpTake_step (fun K hK => ?_)
                  rw [if_pos (by rfl)]
                  refine ⟨?_, fun w' hS' => ?_, ?_⟩
                  rotate_left 1
                  focus
                    have yf0 := hS'.cellv hbf (by simp) f0
                    have yf1 := hS'.cellv hbf (by simp) f1
                    have yg0 := hS'.cellv hbg (by simp) g0
                    have yg1 := hS'.cellv hbg (by simp) g1
                    have yb2 := hS'.cellv hbx (by simp) y2
                    go_simp
                    try with_reducible rfl
                    done
                  simp only [Act.put, List.setIfInBounds_toArray, List.set_cons_zero, List.set_cons_succ]
                  refine hK _ ?_
                  clear hK K
                  refine wpTake_step (fun K hK => ?_)
                  rw [if_pos (by rfl)]
                  refine ⟨?_, fun w' hS' => ?_, ?_⟩
                  rotate_left 1
                  focus
                    have yf0 := hS'.cellv hbf (by simp) f0
                    have yf1 := hS'.cellv hbf (by simp) f1
                    have yg0 := hS'.cellv hbg (by simp) g0
                    have yg1 := hS'.cellv hbg (by simp) g1
                    have yb2 := hS'.cellv hbx (by simp) y2
                    go_simp
                    try with_reducible rfl
                    done
                  simp only [Act.put, List.setIfInBounds_toArray, List.set_cons_zero, List.set_cons_succ]
                  refine hK _ ?_
                  clear hK K
                  refine wpTake_step (fun K hK => ?_)
                  rw [if_pos (by rfl)]
                  refine ⟨?_, fun w' hS' => ?_, ?_⟩
                  rotate_left 1
                  focus
                    have yf0 := hS'.cellv hbf (by simp) f0
                    have yf1 := hS'.cellv hbf (by simp) f1
                    have yg0 := hS'.cellv hbg (by simp) g0
                    have yg1 := hS'.cellv hbg (by simp) g1
                    have yb2 := hS'.cellv hbx (by simp) y2
                    go_simp
                    try with_reducible rfl
                    done
                  simp only [Act.put, List.setIfInBounds_toArray, List.set_cons_zero, List.set_cons_succ]
                  refine hK _ ?_
                  clear hK K
                  refine wpTake_step (fun K hK => ?_)
                  rw [if_pos (by rfl)]
                  refine ⟨?_, fun w' hS' => ?_, ?_⟩
                  rotate_left 1
                  focus
                    have yf0 := hS'.cellv hbf (by simp) f0
                    have yf1 := hS'.cellv hbf (by simp) f1
                    have yg0 := hS'.cellv hbg (by simp) g0
                    have yg1 := hS'.cellv hbg (by simp) g1
                    have yb2 := hS'.cellv hbx (by simp) y2
                    go_simp
                    try with_reducible rfl
                    done
                  simp only [Act.put, List.setIfInBounds_toArray, List.set_cons_zero, List.set_cons_succ]
                  refine hK _ ?_
                  clear hK K
                  refine wpTake_step (fun K hK => ?_)
                  rw [if_pos (by rfl)]
                  refine ⟨?_, fun w' hS' => ?_, ?_⟩
                  rotate_left 1
                  focus
                    have yf0 := hS'.cellv hbf (by simp) f0
                    have yf1 := hS'.cellv hbf (by simp) f1
                    have yg0 := hS'.cellv hbg (by simp) g0
                    have yg1 := hS'.cellv hbg (by simp) g1
                    have yb2 := hS'.cellv hbx (by simp) y2
                    go_simp
                    try with_reducible rfl
                    done
                  simp only [Act.put, List.setIfInBounds_toArray, List.set_cons_zero, List.set_cons_succ]
                  refine hK _ ?_
                  clear hK K
                  refine wpTake_step (fun K hK => ?_)
                  rw [if_pos (by rfl)]
                  refine ⟨?_, fun w' hS' => ?_, ?_⟩
                  rotate_left 1
                  focus
                    have yf0 := hS'.cellv hbf (by simp) f0
                    have yf1 := hS'.cellv hbf (by simp) f1
                    have yg0 := hS'.cellv hbg (by simp) g0
                    have yg1 := hS'.cellv hbg (by simp) g1
                    have yb2 := hS'.cellv hbx (by simp) y2
                    go_simp
                    try with_reducible rfl
                    done
                  simp only [Act.put, List.setIfInBounds_toArray, List.set_cons_zero, List.set_cons_succ]
                  refine hK _ ?_
                  clear hK K
                  refine wpTake_step (fun K hK => ?_)
                  rw [if_pos (by rfl)]
                  refine ⟨?_, fun w' hS' => ?_, ?_⟩
                  rotate_left 1
                  focus
                    have yf0 := hS'.cellv hbf (by simp) f0
                    have yf1 := hS'.cellv hbf (by simp) f1
                    have yg0 := hS'.cellv hbg (by simp) g0
                    have yg1 := hS'.cellv hbg (by simp) g1
                    have yb2 := hS'.cellv hbx (by simp) y2
                    go_simp
                    try with_reducible rfl
                    done
                  simp only [Act.put, List.setIfInBounds_toArray, List.set_cons_zero, List.set_cons_succ]
                  refine hK _ ?_
                  clear hK K
                  refine wpTake_nil ?_
                  refine wpAnyS_ready (rs := [51]) (by kernel_rfl) (by simp) ?_
                  refine AllReadyS.cons (by simp only [List.getElem?_toArray, List.getElem?_cons_zero, List.getElem?_cons_succ]; rfl) (fun K hK => ?_) ?_
                  · rw [if_pos (by rfl)]
                    go_simp
                    go_at_call 89
                    refine (HC.out.1 _ (HD.out.trans D6)).mono ?_
                    rintro e x7 ⟨rfl, c7⟩
                    dsimp only
                    have D7 := D6.trans c7
                    refine hK _ _ (D7) ?_
                    clear hK K
                    try simp only [Act.put, List.setIfInBounds_toArray, List.set_cons_zero, List.set_cons_succ]
                    refine wpAnyS_ready (rs := [55]) (by kernel_rfl) (by simp) ?_
                    refine AllReadyS.cons (by simp only [List.getElem?_toArray, List.getElem?_cons_zero, List.getElem?_cons_succ]; rfl) (fun K hK => ?_) ?_
                    · rw [if_pos (by rfl)]
                      go_simp
                      go_at_call 90
                      refine (HC.out.2 _ (HD.out.trans D7)).mono ?_
                      rintro e x8 ⟨rfl, c8⟩
                      dsimp only
                      have D8 := D7.trans c8
                      refine hK _ _ (D8) ?_
                      clear hK K
                      try simp only [Act.put, List.setIfInBounds_toArray, List.set_cons_zero, List.set_cons_succ]
                      refine wpAnyS_more (fuel := 1) [56, 57] (by kernel_rfl) (fun _ _ _ _ _ h => h) D8 ?_
                      simp only [List.filterMap_cons, List.filterMap_nil, List.getElem?_cons_zero, List.getElem?_cons_succ]
                      refine wpTake_step (fun K hK => ?_)
                      rw [if_pos (by rfl)]
                      refine ⟨?_, fun w' hS' => ?_, ?_⟩
                      rotate_left 1
                      focus
                        have yf0 := hS'.cellv hbf (by simp) f0
                        have yf1 := hS'.cellv hbf (by simp) f1
                        have yg0 := hS'.cellv hbg (by simp) g0
                        have yg1 := hS'.cellv hbg (by simp) g1
                        have yb2 := hS'.cellv hbx (by simp) y2
                        go_simp
                        try with_reducible rfl
                        done
                      simp only [Act.put, List.setIfInBounds_toArray, List.set_cons_zero, List.set_cons_succ]
                      refine hK _ ?_
                      clear hK K
                      refine wpTake_step (fun K hK => ?_)
                      rw [if_pos (by rfl)]
                      refine ⟨?_, fun w' hS' => ?_, ?_⟩
                      rotate_left 1
                      focus
                        have yf0 := hS'.cellv hbf (by simp) f0
                        have yf1 := hS'.cellv hbf (by simp) f1
                        have yg0 := hS'.cellv hbg (by simp) g0
                        have yg1 := hS'.cellv hbg (by simp) g1
                        have yb2 := hS'.cellv hbx (by simp) y2
                        go_simp
                        try with_reducible rfl
                        done
                      simp only [Act.put, List.setIfInBounds_toArray, List.set_cons_zero, List.set_cons_succ]
                      refine hK _ ?_
                      clear hK K
                      refine wpTake_nil ?_
                      refine wpAnyS_tail 58 1 (by kernel_rfl) rfl ?_
                      simp only [List.drop_succ_cons, List.drop_zero]
                      have HX := Lib.hid D8
                      go_wp2_with fail
                      go_ret
                      exact H3.out.1.nx0 (HD.out.trans HX.out) _
                    exact AllReadyS.nil
                  exact AllReadyS.nil
                exact AllReadyS.nil
              exact AllReadyS.nil
            exact AllReadyS.nil
          exact AllReadyS.nil
        exact AllReadyS.nil
      exact AllReadyS.nil
end Go.Proofs.YtmafiagakoglkaaGreatDoor
