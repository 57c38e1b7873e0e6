/- The document's central (treadmillref5): Begin, Unswept, Any. Printed by wip/gencr4.py. -/
import Derived.Test.YtcnchgbngcnijaaGreatDoorMCr
import Derived.Test.YtcnchgbngcnijaaGreatDoorMCc
import Derived.BigQuiet
namespace Go.Proofs.YtcnchgbngcnijaaGreatDoor
open Go.RowKit Go.Maps

theorem IsCr.row {w : World} {gc : Nat} {v : Nat → Value} {r : Nat → List Nat} (I : IsCr w gc v r) {j : Nat} (hj : j < 64) : ∃ A c, v j = .slice A (r j).length c ∧ (r j).length ≤ c := by
  obtain ⟨A, c, h, h2⟩ := (I.o j hj).slice
  have e : (intsN (r j)).length = (r j).length := by unfold intsN; rw [List.length_map]
  rw [e] at h h2
  exact ⟨A, c, h, h2⟩
set_option maxHeartbeats 3200000 in
set_option maxRecDepth 100000 in
theorem crunswept_ok (w : World) (gc : Nat) (v : Nat → Value) (r : Nat → List Nat) (I : IsCr w gc v r) (hl : ∀ j, (r j).length ≤ 100000) : Calls Tryz.prog 42 #[.pointer (some ⟨gc, 0, none⟩)] w (NwPost (.int .i64 (unsN r 16 : Nat)) w) := by
  have HI := Lib.hid (And.intro I hl)
  clear I hl
  go_enter Tryz.func42, Tryz.ntmps42
  go_wp2_with fail
  go_loopg [3, 4] 17 (fun gk n idx wr => UsRel w r gk n idx wr)
  case atStart => exact ⟨0, by omega, by omega, rfl, rfl, Chg.refl _ _⟩
  case round =>
    obtain ⟨k, hgk, hk, rfl, rfl, C⟩ := hrel
    by_cases e : k < 16
    · have hk' : (k : Int) < 16 := by omega
      have hk0 : (0 : Int) ≤ (k : Int) := by omega
      have I2 := HI.out.1.chg0 C
      obtain ⟨A2, d2, v2, -⟩ := I2.row (j := k * 4 + 2) (by omega)
      obtain ⟨A3, d3, v3, -⟩ := I2.row (j := k * 4 + 3) (by omega)
      have c2 := I2.cell (j := k * 4 + 2) (by omega)
      have c3 := I2.cell (j := k * 4 + 3) (by omega)
      rw [v2] at c2
      rw [v3] at c3
      have l2 := HI.out.2 (k * 4 + 2)
      have l3 := HI.out.2 (k * 4 + 3)
      have hu := unsN_le HI.out.2 k
      have hu2 : unsN r k ≤ 100000000 := by omega
      have HC := Lib.hid (And.intro C (And.intro v2 v3)); clear C I2 v2 v3 hu
      obtain ⟨m, hm⟩ : ∃ m, m = unsN r k := ⟨_, rfl⟩
      rw [← hm] at hu2 ⊢
      obtain ⟨x2, hx2⟩ : ∃ x, x = (r (k * 4 + 2)).length := ⟨_, rfl⟩
      obtain ⟨x3, hx3⟩ : ∃ x, x = (r (k * 4 + 3)).length := ⟨_, rfl⟩
      rw [← hx2] at c2 l2
      rw [← hx3] at c3 l3
      have HM := Lib.hid (And.intro hm (And.intro hx2 hx3)); clear hm hx2 hx3
      go_wp2_with fail
      go_quiet (fail)
      go_wp2_with fail
      go_roundg (16 - k)
      case measure => omega
      case rel => exact ⟨k + 1, by omega, by omega, by go_num, by
        have e : ((unsN r (k + 1) : Nat) : Int) = (m : Int) + (x2 : Int) + (x3 : Int) := by
          rw [unsN, ← HM.out.1, ← HM.out.2.1, ← HM.out.2.2]; omega
        rw [e], HC.out.1.drewN _⟩
    · obtain rfl : k = 16 := by omega
      have HC := Lib.hid C; clear C e
      go_wp2_with fail
      go_ret
      exact ⟨rfl, HC.out⟩
/-- The first unswept row that is not empty gives its first one. -/
def AyCr (gc : Nat) (v : Nat → Value) (r : Nat → List Nat) (w : World) (e : Ending) (w' : World) : Prop :=
  ((∀ k, k < 16 → r (k * 4 + 2) = [] ∧ r (k * 4 + 3) = []) ∧ e = .returned (.tuple #[.int .i64 0, .int .i64 0, .bool false]) ∧ Chg [] w w') ∨
  ∃ k f x xs, k < 16 ∧ f < 2 ∧ (∀ i, i < k → r (i * 4 + 2) = [] ∧ r (i * 4 + 3) = []) ∧ (∀ i, i < f → r (k * 4 + 2 + i) = []) ∧ r (k * 4 + 2 + f) = x :: xs ∧ e = .returned (.tuple #[.int .i64 (k : Nat), .int .i64 (x : Nat), .bool true]) ∧ CrTo gc v (updV r (k * 4 + 2 + f) xs) w w'
def AzCr (w0 : World) (r : Nat → List Nat) (k gk : Nat) (idx : Value) (w : World) : Prop :=
  ∃ f, gk + f = 3 ∧ f ≤ 2 ∧ idx = .int .i64 ((f + 2 : Nat) : Int) ∧ (∀ i, i < f → r (k * 4 + 2 + i) = []) ∧ w = w0
set_option maxHeartbeats 3200000 in
set_option maxRecDepth 100000 in
theorem crany_ok (w : World) (gc : Nat) (v : Nat → Value) (r : Nat → List Nat) (I : IsCr w gc v r) (hl : ∀ j, (r j).length ≤ 100000) : Calls Tryz.prog 137 #[.pointer (some ⟨gc, 0, none⟩)] w (AyCr gc v r w) := by
  have HI := Lib.hid (And.intro I hl)
  clear I hl
  go_enter Tryz.func137, Tryz.ntmps137
  go_wp2_with fail
  go_loopg [5] 17 (fun gk idx wr => AyRel w r gk idx wr)
  case atStart => exact ⟨0, by omega, by omega, rfl, fun j hj => by omega, rfl⟩
  case round =>
    obtain ⟨k, hgk, hk, rfl, hno, hw⟩ := hrel
    subst hw
    by_cases ek : k < 16
    · have hk' : (k : Int) < 16 := by omega
      have hk0 : (0 : Int) ≤ (k : Int) := by omega
      have HN := Lib.hid hno; clear hno
      go_wp2_with fail
      go_loopg [6] 3 (fun gk idx wr' => AzCr wr r k gk idx wr')
      case atStart => exact ⟨0, by omega, by omega, rfl, fun j hj => by omega, rfl⟩
      case round =>
        obtain ⟨f, hgf, hf, rfl, hno, hw⟩ := hrel
        subst hw
        obtain ⟨f2, hf2⟩ : ∃ f2, f2 = f + 2 := ⟨_, rfl⟩
        rw [← hf2]
        by_cases ef : f < 2
        · have hf' : (f2 : Int) < 4 := by omega
          have hf0 : (0 : Int) ≤ (f2 : Int) := by omega
          have hj : k * 4 + f2 < 64 := by omega
          have ej : k * 4 + 2 + f = k * 4 + f2 := by omega
          have hcell := HI.out.1.cell hj
          have hfz := HI.out.1.b.frozen (k * 4 + f2)
          have hgl := HI.out.1.b.lt
          have R := HI.out.1.o _ hj
          obtain ⟨A, c, hv, hcap⟩ := HI.out.1.row hj
          have hll := HI.out.2 (k * 4 + f2)
          have HF := Lib.hid (And.intro hno (And.intro ej hf2)); clear hno ej hf2
          cases hr : r (k * 4 + f2) with
          | nil =>
            rw [hv, hr] at hcell
            have HR := Lib.hid hr; clear hr R hv
            go_wp2_with fail
            go_roundg (2 - f)
            case measure => omega
            case rel => exact ⟨f + 1, by omega, by omega, by rw [HF.out.2.2]; go_num, fun i hi => by
              rcases Nat.lt_or_ge i f with g1 | g1
              · exact HF.out.1 i g1
              · have : i = f := by omega
                rw [this, HF.out.2.1]; exact HR.out, rfl⟩
          | cons x xs =>
            rw [hr] at R hv hcap hll
            rw [hv] at hcell R
            obtain ⟨n, hn⟩ : ∃ n, n = xs.length := ⟨_, rfl⟩
            have hln : (x :: xs).length = n + 1 := by rw [hn]; rfl
            rw [hln] at hv hcap hll hcell R
            have hx0 : (intsN (x :: xs))[0]? = some ((x : Nat) : Int) := rfl
            obtain ⟨b, off, rfl, hb, cx⟩ := R.cell hx0
            rw [Nat.add_zero] at cx
            have Rt := R.drop (i := 1) (by unfold intsN; rw [List.length_map]; simp)
            obtain ⟨u1, hu1⟩ : ∃ u, u = sliced (some ⟨b, off, none⟩) 1 (n + 1) c 1 := ⟨_, rfl⟩
            rw [← hu1] at Rt
            have e1 : (intsN (x :: xs)).drop 1 = intsN xs := rfl
            rw [e1] at Rt
            have hbg : gc ≠ b := fun e => by
              have h1 := HI.out.1.g _ hj
              rw [hv, fpa_slice, e] at h1
              exact h1 (by simp)
            have hn1 : 1 ≤ n + 1 := by omega
            have Hu1 := Lib.hid hu1
            have HX := Lib.hid (And.intro hr (And.intro Rt (And.intro hbg (And.intro R hv)))); clear hr Rt e1 hx0 hu1 hbg R hv hn hln
            go_upto_region 9 with fail
            refine wp_region_takes (fuel := 2) 8 (fun w' => Chg [] wr w') [0, 1, 2, 3, 4, 5, 6, 7] (by kernel_rfl) (by kernel_rfl) (fun _ _ _ _ _ h => h) ((Chg.refl [] wr).drew) ?_
            simp only [List.filterMap_cons, List.filterMap_nil, List.getElem?_cons_zero, List.getElem?_cons_succ]
            iterate 4
              refine wpTake_step (fun K hK => ?_)
              rw [if_pos (by rfl)]
              refine ⟨?_, fun w' hS' => ?_, ?_⟩
              rotate_left 1
              focus
                go_simp
                try with_reducible rfl
                done
              simp only [Act.put, List.setIfInBounds_toArray, List.set_cons_zero, List.set_cons_succ]
              refine hK _ ?_
              clear hK K
            refine wpTake_step (fun K hK => ?_)
            rw [if_pos (by rfl)]
            refine ⟨u1, fun w' _ => ?_, ?_⟩
            focus (rw [Hu1.out]; exact run_drop_v slvZ _ _ (by rfl) (by rfl) (by rfl) hn1)
            simp only [Act.put, List.setIfInBounds_toArray, List.set_cons_zero, List.set_cons_succ]
            refine hK _ ?_
            clear hK K
            iterate 3
              refine wpTake_step (fun K hK => ?_)
              rw [if_pos (by rfl)]
              refine ⟨?_, fun w' hS' => ?_, ?_⟩
              rotate_left 1
              focus
                go_simp
                try with_reducible rfl
                done
              simp only [Act.put, List.setIfInBounds_toArray, List.set_cons_zero, List.set_cons_succ]
              refine hK _ ?_
              clear hK K
            refine wpTake_nil ?_
            generalize hx0 : wr.drew = x0
            have D0 : Chg [] wr x0 := by rw [← hx0]; exact (Chg.refl [] wr).drew
            clear hx0
            refine wpAnyS_tail 8 2 (by kernel_rfl) rfl ?_
            simp only [List.drop_succ_cons, List.drop_zero]
            have yc : x0.cell? ⟨gc, k * 4 + f2, none⟩ = some (.slice (some ⟨b, off, none⟩) (n + 1) c) := D0.cellv hgl (by simp) hcell
            have yf : x0.frozen? ⟨gc, k * 4 + f2, none⟩ = false := (D0.blk HI.out.1.b (by simp)).frozen _
            have yx : x0.cell? ⟨b, off, none⟩ = some (.int .i64 (x : Nat)) := D0.cellv hb (by simp) cx
            have yn : b ≠ gc := Ne.symm HX.out.2.2.1
            have T := CrTo.set HI.out.1 hj (u := u1) (xs := xs) D0 (HX.out.2.1.chg0 D0) (fun q hq => by
              have h1 := HX.out.2.2.2.1.fpa_sliced (by rw [← Hu1.out]; exact hq)
              rw [fpa_slice] at h1
              have h2 : q = b := by simpa using h1
              rw [h2]
              exact ⟨Ne.symm HX.out.2.2.1, .inl (.inr ⟨_, hj, by rw [HX.out.2.2.2.2, fpa_slice]; simp⟩)⟩)
            obtain ⟨Au, cu, eu, -⟩ := (HX.out.2.1).slice
            obtain ⟨nu, eu⟩ : ∃ nu, u1 = .slice Au nu cu := ⟨_, eu⟩
            rw [eu] at T ⊢
            obtain ⟨w5, hw5⟩ : ∃ W : World, W = x0.setCell ⟨gc, k * 4 + f2, none⟩ (.slice Au nu cu) := ⟨_, rfl⟩
            have y5 : w5.cell? ⟨b, off, none⟩ = some (.int .i64 (x : Nat)) := by
              rw [hw5]
              exact (World.cell?_setCell_far x0 ⟨gc, k * 4 + f2, none⟩ ⟨b, off, none⟩ (.slice Au nu cu) HX.out.2.2.1).trans yx
            have HT := Lib.hid (And.intro T hw5); clear T hw5
            go_wp2_with fail
            rw [← HT.out.2]
            go_quiet (fail)
            go_wp2_with fail
            go_ret3
            refine .inr ⟨k, f, x, xs, ek, ef, HN.out, HF.out.1, by rw [HF.out.2.1]; exact HX.out.1, rfl, ?_⟩
            rw [HF.out.2.1]
            have := HT.out.1
            rw [← HT.out.2] at this
            exact this.chg0 ((Chg.refl _ _).drewN _)
        · obtain rfl : f = 2 := by omega
          subst hf2
          have HM := Lib.hid hno; clear hno ef
          go_wp2_with fail
          go_roundg (16 - k)
          case measure => omega
          case rel => exact ⟨k + 1, by omega, by omega, by go_num, fun i hi => by
            rcases Nat.lt_or_ge i k with g1 | g1
            · exact HN.out i g1
            · have : i = k := by omega
              rw [this]; exact ⟨HM.out 0 (by omega), HM.out 1 (by omega)⟩, rfl⟩
    · obtain rfl : k = 16 := by omega
      have HM := Lib.hid hno; clear hno ek
      go_wp2_with fail
      go_ret3
      exact .inl ⟨HM.out, rfl, Chg.refl _ _⟩
def BgCr (w0 : World) (gc : Nat) (v : Nat → Value) (r : Nat → List Nat) (d n base gk : Nat) (idx : Value) (w : World) : Prop :=
  ∃ i v', gk + i = n + 1 ∧ i ≤ n ∧ idx = .int .i64 (i : Nat) ∧ IsCr w gc v' (bgR r (base + i * d)) ∧ StP (CrF gc v) (CrF gc v') w0 w
theorem bgR_step {r : Nat → List Nat} {k f : Nat} (ek : k < 16) (ef : f < 2) : updV (updV (bgR r (k * 2 + f * 1)) (k * 4 + 2 + f) (r (k * 4 + 2 + f) ++ r (k * 4 + f))) (k * 4 + f) [] = bgR r (k * 2 + (f + 1) * 1) := by
  funext j
  unfold updV bgR
  by_cases e1 : j = k * 4 + f
  · rw [if_pos e1, if_pos (by omega), if_pos (by omega)]
  · rw [if_neg e1]
    by_cases e2 : j = k * 4 + 2 + f
    · rw [if_pos e2, if_pos (by omega), if_neg (by omega), e2]
      have : k * 4 + 2 + f - 2 = k * 4 + f := by omega
      rw [this]
    · rw [if_neg e2]
      by_cases e3 : j / 4 * 2 + j % 2 < k * 2 + f * 1
      · rw [if_pos e3, if_pos (show j / 4 * 2 + j % 2 < k * 2 + (f + 1) * 1 by omega)]
      · rw [if_neg e3, if_neg (fun e4 => by
          have h0 : j % 2 < 2 := Nat.mod_lt _ (by omega)
          have h1 : j / 4 * 2 + j % 2 = k * 2 + f := by omega
          have h2 : j / 4 = k := by omega
          have h3 : j % 2 = f := by omega
          have h5 : j = j / 4 * 4 + j % 4 := by omega
          have h6 : j % 4 < 4 := Nat.mod_lt _ (by omega)
          have h7 : j % 4 % 2 = f := by omega
          have h8 : j % 4 = f ∨ j % 4 = 2 + f := by omega
          omega)]
set_option maxHeartbeats 3200000 in
set_option maxRecDepth 100000 in
theorem crbegin_ok (w : World) (gc : Nat) (v : Nat → Value) (r : Nat → List Nat) (I : IsCr w gc v r) (hl : ∀ j, (r j).length ≤ 10000) : Calls Tryz.prog 136 #[.pointer (some ⟨gc, 0, none⟩)] w fun e w' => e = .returned (.tuple #[]) ∧ CrTo gc v (bgR r 32) w w' := by
  have HI := Lib.hid (And.intro I hl)
  clear I hl
  have e0 : bgR r 0 = r := by funext j; unfold bgR; rw [if_neg (by omega)]
  go_enter Tryz.func136, Tryz.ntmps136
  go_wp2_with fail
  go_loopg [2] 17 (fun gk idx wr => BgCr w gc v r 2 16 0 gk idx wr)
  case atStart => exact ⟨0, v, by omega, by omega, rfl, by rw [show 0 + 0 * 2 = 0 from rfl, e0]; exact HI.out.1, StP.refl _ _⟩
  case round =>
    clear e0
    obtain ⟨k, v1, hgk, hk, rfl, I1, s1⟩ := hrel
    by_cases ek : k < 16
    · have hk' : (k : Int) < 16 := by omega
      have hk0 : (0 : Int) ≤ (k : Int) := by omega
      have H1 := Lib.hid (And.intro I1 s1); clear I1 s1
      go_wp2_with fail
      go_loopg [3] 3 (fun gk idx wr' => BgCr w gc v r 1 2 (k * 2) gk idx wr')
      case atStart => exact ⟨0, v1, by omega, by omega, rfl, by rw [show k * 2 + 0 * 1 = 0 + k * 2 by omega]; exact H1.out.1, H1.out.2⟩
      case round =>
        clear H1
        obtain ⟨f, v2, hgf, hf, rfl, I2, s2⟩ := hrel
        by_cases ef : f < 2
        · have hf' : (f : Int) < 2 := by omega
          have hf0 : (0 : Int) ≤ (f : Int) := by omega
          have hf4 : (f : Int) < 4 := by omega
          obtain ⟨f2, hf2⟩ : ∃ f2, f2 = f + 2 := ⟨_, rfl⟩
          have hg4 : (f2 : Int) < 4 := by omega
          have hg0 : (0 : Int) ≤ (f2 : Int) := by omega
          have ew : IntKind.i64.wrap ((f : Int) + 2) = (f2 : Int) := by rw [IntKind.wrap_i64]; omega
          have hja : k * 4 + f < 64 := by omega
          have hjb : k * 4 + f2 < 64 := by omega
          have ejb : k * 4 + 2 + f = k * 4 + f2 := by omega
          have ca := I2.cell hja
          have cb := I2.cell hjb
          obtain ⟨Aa, da, va, hca⟩ := I2.row hja
          obtain ⟨Ab, db, vb, hcb⟩ := I2.row hjb
          have ra : bgR r (k * 2 + f * 1) (k * 4 + f) = r (k * 4 + f) := by unfold bgR; rw [if_neg (by omega)]
          have rb : bgR r (k * 2 + f * 1) (k * 4 + f2) = r (k * 4 + f2) := by rw [← ejb]; unfold bgR; rw [if_neg (by omega)]
          have Ua := (I2.o _ hja).rdv
          have Ub := (I2.o _ hjb).rdv
          rw [ra] at Ua va hca
          rw [rb] at Ub vb hcb
          rw [va] at ca Ua
          rw [vb] at cb Ub
          obtain ⟨na, hna⟩ : ∃ n, n = (r (k * 4 + f)).length := ⟨_, rfl⟩
          obtain ⟨nb, hnb⟩ : ∃ n, n = (r (k * 4 + f2)).length := ⟨_, rfl⟩
          have la := HI.out.2 (k * 4 + f)
          have lb := HI.out.2 (k * 4 + f2)
          rw [← hna] at ca Ua hca la
          rw [← hnb] at cb Ub hcb lb
          have hgl := I2.b.lt
          have fb := I2.b.frozen (k * 4 + f2)
          have UA := Lib.hid Ua
          have UB := Lib.hid Ub
          have HL := Lib.hid (And.intro hna hnb)
          have H2 := Lib.hid (And.intro I2 (And.intro s2 (And.intro ejb hf2))); clear I2 s2 va vb Ua Ub ra rb hna hnb ejb hf2
          go_upto_region 6 with fail
          go_cut [] from 12 to 39 (fun wd => CrTo gc v2 (updV (bgR r (k * 2 + f * 1)) (k * 4 + f2) (r (k * 4 + f2) ++ r (k * 4 + f))) wr wd)
          case first =>
            refine wp_region_takes (fuel := 5) 27 (fun w' => Chg [] wr w') [0, 1, 2, 3, 5, 6, 7, 8, 9, 10, 11, 12, 13, 15, 16, 17, 18, 19, 20, 21, 22, 24, 25, 26] (by kernel_rfl) (by kernel_rfl) (fun _ _ _ _ _ h => h) ((Chg.refl [] wr).drew) ?_
            simp only [List.filterMap_cons, List.filterMap_nil, List.getElem?_cons_zero, List.getElem?_cons_succ]
            iterate 24
              refine wpTake_step (fun K hK => ?_)
              rw [if_pos (by rfl)]
              refine ⟨?_, fun w' hS' => ?_, ?_⟩
              rotate_left 1
              focus
                have ya := hS'.cellv hgl (by simp) ca
                have yb := hS'.cellv hgl (by simp) cb
                go_simp
                try with_reducible rfl
                done
              simp only [Act.put, List.setIfInBounds_toArray, List.set_cons_zero, List.set_cons_succ]
              refine hK _ ?_
              clear hK K
            refine wpTake_nil ?_
            generalize hx0 : wr.drew = x0
            have D0 : Chg [] wr x0 := by rw [← hx0]; exact (Chg.refl [] wr).drew
            clear hx0
            refine wpAnyS_ready (rs := [4]) (by kernel_rfl) (by simp) ?_
            refine AllReadyS.one (by simp only [List.getElem?_toArray, List.getElem?_cons_zero, List.getElem?_cons_succ]; rfl) (fun K hK => ?_)
            refine step_lit0 slvZ (by rfl) (by rfl) ?_
            intro v1 x1 O1 c1 G1
            have D1 := D0.trans c1
            have F1 : ∀ j ∈ fpv v1, wr.heap.size ≤ j := fun j hj => Nat.le_trans D0.size (G1 j hj)
            have Ol := O1
            have Fl := F1
            clear O1 F1 G1
            refine hK _ _ (D1) ?_
            clear hK K
            try simp only [Act.put, List.setIfInBounds_toArray, List.set_cons_zero, List.set_cons_succ]
            refine wpAnyS_ready (rs := [14]) (by kernel_rfl) (by simp) ?_
            refine AllReadyS.one (by simp only [List.getElem?_toArray, List.getElem?_cons_zero, List.getElem?_cons_succ]; rfl) (fun K hK => ?_)
            have q1 := HL.out.1
            have q2 := HL.out.2
            refine step_cat_f (W := wr) nb (by simp only [List.length_append, List.length_nil, List.length_take, List.length_drop, List.length_map, List.length_singleton, List.length_cons, intsN]; omega) (by rfl) _ _ (by rfl) slvZ (by rfl) Ol D1 Fl (by rfl) (UB.out.chg D1 (Nat.le_refl _) (by simp)) (by omega) ?_
            intro v2 x2 O2 c2 D2 P2 F2
            clear Ol Fl
            have Ol := O2
            have Fl := F2
            clear O2 F2
            refine hK _ _ (D2) ?_
            clear hK K
            try simp only [Act.put, List.setIfInBounds_toArray, List.set_cons_zero, List.set_cons_succ]
            refine wpAnyS_ready (rs := [23]) (by kernel_rfl) (by simp) ?_
            refine AllReadyS.one (by simp only [List.getElem?_toArray, List.getElem?_cons_zero, List.getElem?_cons_succ]; rfl) (fun K hK => ?_)
            have q1 := HL.out.1
            have q2 := HL.out.2
            refine step_cat_f (W := wr) (nb + na) (by simp only [List.length_append, List.length_nil, List.length_take, List.length_drop, List.length_map, List.length_singleton, List.length_cons, intsN]; omega) (by rfl) _ _ (by rfl) slvZ (by rfl) Ol D2 Fl (by rfl) (UA.out.chg D2 (Nat.le_refl _) (by simp)) (by omega) ?_
            intro v3 x3 O3 c3 D3 P3 F3
            clear Ol Fl
            have Ol := O3
            have Fl := F3
            clear O3 F3
            refine hK _ _ (D3) ?_
            clear hK K
            try simp only [Act.put, List.setIfInBounds_toArray, List.set_cons_zero, List.set_cons_succ]
            refine wpAnyS_tail 27 2 (by kernel_rfl) rfl ?_
            simp only [List.drop_succ_cons, List.drop_zero]
            have O9 := Ol
            have F9 := Fl
            have e9 : [] ++ (intsN (r (k * 4 + f2))).map (Value.int .i64) ++ (intsN (r (k * 4 + f))).map (Value.int .i64) = (intsN (r (k * 4 + f2) ++ r (k * 4 + f))).map (Value.int .i64) := by unfold intsN; simp
            rw [e9] at O9
            have T := CrTo.set H2.out.1 hjb D3 O9.i.row (fun q hq => by
              have h1 := F9 q (O9.i.fpa hq)
              exact ⟨fun e => by rw [e] at h1; exact absurd hgl (Nat.not_lt.2 h1), .inr h1⟩)
            obtain ⟨A9, c9, e8⟩ := O9.slice
            obtain ⟨N9, e8⟩ : ∃ N9, v3 = .slice A9 N9 c9 := ⟨_, e8⟩
            have yc := D3.cellv hgl (by simp) cb
            have yf := (D3.blk H2.out.1.b (by simp)).frozen (k * 4 + f2)
            rw [e8] at T ⊢
            have HT := Lib.hid T
            clear T O9 F9 Ol Fl e9 e8
            go_wp2_with fail
            go_meet
            exact HT.out
          case rest =>
            clear ca cb fb
            obtain ⟨v3, I3, s3⟩ := hcut
            obtain ⟨w3, rfl⟩ : ∃ W : World, W = wc := ⟨_, rfl⟩
            have ca := I3.cell hja
            have fa := I3.b.frozen (k * 4 + f)
            obtain ⟨Aa, da, va, -⟩ := I3.row hja
            obtain ⟨na, hna⟩ : ∃ n, n = (updV (bgR r (k * 2 + f * 1)) (k * 4 + f2) (r (k * 4 + f2) ++ r (k * 4 + f)) (k * 4 + f)).length := ⟨_, rfl⟩
            rw [va, ← hna] at ca
            have T := CrTo.set (u := .slice none 0 0) (xs := []) I3 hja (Chg.refl _ _) (RowI.nil _) (fun k hk => by simp [fpa] at hk)
            have T2 := CrTo.after (s3) T
            have HT := Lib.hid (And.intro H2.out.2.1 T2); clear T T2 I3 s3 va hna
            go_wp2_with fail
            go_roundg (2 - f)
            case measure => omega
            case rel =>
              obtain ⟨v4, I4, s4⟩ := HT.out.2
              have er := bgR_step (r := r) ek ef
              rw [H2.out.2.2.1] at er
              rw [er] at I4
              exact ⟨f + 1, v4, by omega, by omega, by go_num, I4, HT.out.1.trans s4⟩
        · obtain rfl : f = 2 := by omega
          have HM := Lib.hid (And.intro I2 s2); clear I2 s2 ef
          go_wp2_with fail
          go_roundg (16 - k)
          case measure => omega
          case rel => exact ⟨k + 1, v2, by omega, by omega, by go_num, by rw [show 0 + (k + 1) * 2 = k * 2 + 2 * 1 by omega]; exact HM.out.1, HM.out.2⟩
    · obtain rfl : k = 16 := by omega
      have HM := Lib.hid (And.intro I1 s1); clear I1 s1 ek
      go_wp2_with fail
      go_end0
      exact ⟨rfl, v1, HM.out.1, HM.out.2⟩
end Go.Proofs.YtcnchgbngcnijaaGreatDoor
