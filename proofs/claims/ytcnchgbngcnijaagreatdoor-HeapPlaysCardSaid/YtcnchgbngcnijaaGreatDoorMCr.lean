/- treadmillref1.Out; the document's central (treadmillref5): last, Take, TakeFull. Printed by wip/gencr2.py. -/
/- The document's central (treadmillref5): Del, Put. Printed by wip/gencr3.py. -/
import Derived.Test.YtcnchgbngcnijaaGreatDoorMCa
import Derived.Test.YtcnchgbngcnijaaGreatDoorMCb
namespace Go.Proofs.YtcnchgbngcnijaaGreatDoor
open Go.RowKit Go.Maps

theorem slvZ : SlV Tryz.prog 33 3 (.int .i64 0) 8 := ⟨Tryz.underlying33, by kernel_rfl, rfl, by decide⟩
theorem erase_at {x : Int} : ∀ {xs : List Int} {i : Nat}, (∀ j, j < i → xs[j]? ≠ some x) → xs[i]? = some x → xs.erase x = xs.take i ++ xs.drop (i + 1)
  | [], i, _, h => by simp at h
  | y :: ys, 0, _, h => by
    have e : y = x := by simpa using h
    subst e
    simp
  | y :: ys, i + 1, h1, h => by
    have e : y ≠ x := fun e => h1 0 (by omega) (by rw [e]; rfl)
    have h2 := erase_at (xs := ys) (i := i) (fun j hj => by have := h1 (j + 1) (by omega); simpa using this) (by simpa using h)
    rw [List.erase_cons_tail (by simpa using e), h2]
    simp
def OutPost (u : Value) (xs : List Int) (x : Int) (w : World) (e : Ending) (w' : World) : Prop :=
  (x ∉ xs ∧ e = .returned (.tuple #[u, .bool false]) ∧ Chg [] w w') ∨ (x ∈ xs ∧ ∃ v, e = .returned (.tuple #[v, .bool true]) ∧ OwnI 3 w' v (xs.erase x) ∧ (∀ k ∈ fpv v, w.heap.size ≤ k) ∧ Chg [] w w')
def OutRel (w0 : World) (xs : List Int) (x : Int) (n gk : Nat) (idx : Value) (w : World) : Prop := ∃ i, gk + i = n + 1 ∧ i ≤ n ∧ idx = .int .i64 (i : Nat) ∧ (∀ j, j < i → xs[j]? ≠ some x) ∧ w = w0
set_option maxHeartbeats 3200000 in
set_option maxRecDepth 100000 in
theorem out_ok (w : World) (u : Value) (xs : List Int) (x : Int) (R : RowI w u xs) (hl : xs.length ≤ 100000) : Calls Tryz.prog 166 #[u, .int .i64 x] w (OutPost u xs x w) := by
  obtain ⟨A, c, rfl, hcap⟩ := R.slice
  obtain ⟨n, hn⟩ : ∃ n, n = xs.length := ⟨_, rfl⟩
  rw [← hn] at R hcap hl ⊢
  have HR := Lib.hid (And.intro R hn); clear R hn
  go_enter Tryz.func166, Tryz.ntmps166
  go_wp2_with fail
  go_loopg [6] (n + 1) (fun gk idx wr => OutRel w xs x n gk idx wr)
  case atStart => exact ⟨0, by omega, by omega, rfl, fun j hj => by omega, rfl⟩
  case round =>
    obtain ⟨i, hgk, hin, rfl, hall, rfl⟩ := hrel
    by_cases ei : i < n
    · obtain ⟨y, hy⟩ : ∃ y, xs[i]? = some y := ⟨_, List.getElem?_eq_getElem (by rw [← HR.out.2]; exact ei)⟩
      obtain ⟨b, off, rfl, hb, c1⟩ := HR.out.1.cell hy
      have hi' : (i : Int) < (n : Int) := by omega
      have hi0 : (0 : Int) ≤ (i : Int) := by omega
      have HX := Lib.hid (And.intro hall hy); clear hall hy
      by_cases e : y = x
      · subst e
        have hq : (y == y) = true := by simp
        have hi1 : i + 1 ≤ n := by omega
        have hic : i ≤ c := by omega
        have ek1 : IntKind.i64.wrap ((i : Int) + 1) = ((i + 1 : Nat) : Int) := by rw [IntKind.wrap_i64]; omega
        have hle : i ≤ xs.length := by rw [← HR.out.2]; omega
        have hle1 : i + 1 ≤ xs.length := by rw [← HR.out.2]; omega
        have hxl : xs.length = n := HR.out.2.symm
        have U1 := (HR.out.1.take hle).rdv
        have U3 := (HR.out.1.drop hle1).rdv
        obtain ⟨u1, hu1⟩ : ∃ u, u = sliced (some ⟨b, off, none⟩) 0 i c 1 := ⟨_, rfl⟩
        obtain ⟨u3, hu3⟩ : ∃ u, u = sliced (some ⟨b, off, none⟩) (i + 1) n c 1 := ⟨_, rfl⟩
        rw [← hu1] at U1
        rw [← hu3] at U3
        have U1 := Lib.hid U1
        have U3 := Lib.hid U3
        have Hu1 := Lib.hid hu1
        have Hu3 := Lib.hid hu3
        have HL := Lib.hid (And.intro hle (And.intro hle1 hxl))
        clear hu1 hu3 hle hle1 hxl
        go_upto_region 5 with fail
        refine wp_region_takes (fuel := 5) 10 (fun w' => Chg [] wr w') [1, 2, 3, 5, 6, 7, 8] (by kernel_rfl) (by kernel_rfl) (fun _ _ _ _ _ h => h) ((Chg.refl [] wr).drew) ?_
        simp only [List.filterMap_cons, List.filterMap_nil, List.getElem?_cons_zero, List.getElem?_cons_succ]
        iterate 2
          refine wpTake_step (fun K hK => ?_)
          rw [if_pos (by rfl)]
          refine ⟨?_, fun w' hS' => ?_, ?_⟩
          rotate_left 1
          focus
            go_simp
            try with_reducible rfl
            done
          simp only [Act.put, List.setIfInBounds_toArray, List.set_cons_zero, List.set_cons_succ]
          refine hK _ ?_
          clear hK K
        refine wpTake_step (fun K hK => ?_)
        rw [if_pos (by rfl)]
        refine ⟨u1, fun w' _ => ?_, ?_⟩
        focus (rw [Hu1.out]; exact run_take_v slvZ _ _ (by rfl) (by rfl) (by rfl) hic)
        simp only [Act.put, List.setIfInBounds_toArray, List.set_cons_zero, List.set_cons_succ]
        refine hK _ ?_
        clear hK K
        iterate 3
          refine wpTake_step (fun K hK => ?_)
          rw [if_pos (by rfl)]
          refine ⟨?_, fun w' hS' => ?_, ?_⟩
          rotate_left 1
          focus
            go_simp
            try with_reducible rfl
            done
          simp only [Act.put, List.setIfInBounds_toArray, List.set_cons_zero, List.set_cons_succ]
          refine hK _ ?_
          clear hK K
        refine wpTake_step (fun K hK => ?_)
        rw [if_pos (by rfl)]
        refine ⟨u3, fun w' _ => ?_, ?_⟩
        focus (rw [Hu3.out]; exact run_drop_v slvZ _ _ (by rfl) (by rfl) (by rfl) hi1)
        simp only [Act.put, List.setIfInBounds_toArray, List.set_cons_zero, List.set_cons_succ]
        refine hK _ ?_
        clear hK K
        refine wpTake_nil ?_
        generalize hx0 : wr.drew = x0
        have D0 : Chg [] wr x0 := by rw [← hx0]; exact (Chg.refl [] wr).drew
        clear hx0
        refine wpAnyS_ready (rs := [0]) (by kernel_rfl) (by simp) ?_
        refine AllReadyS.one (by simp only [List.getElem?_toArray, List.getElem?_cons_zero, List.getElem?_cons_succ]; rfl) (fun K hK => ?_)
        refine step_lit0 slvZ (by rfl) (by rfl) ?_
        intro v1 x1 O1 c1 G1
        have D1 := D0.trans c1
        have F1 : ∀ j ∈ fpv v1, wr.heap.size ≤ j := fun j hj => Nat.le_trans D0.size (G1 j hj)
        have Ol := O1
        have Fl := F1
        clear O1 F1 G1
        refine hK _ _ (D1) ?_
        clear hK K
        try simp only [Act.put, List.setIfInBounds_toArray, List.set_cons_zero, List.set_cons_succ]
        refine wpAnyS_ready (rs := [4]) (by kernel_rfl) (by simp) ?_
        refine AllReadyS.one (by simp only [List.getElem?_toArray, List.getElem?_cons_zero, List.getElem?_cons_succ]; rfl) (fun K hK => ?_)
        have q1 := HL.out.1
        have q2 := HL.out.2.1
        have q3 := HL.out.2.2
        refine step_cat_f (W := wr) i (by simp only [List.length_append, List.length_nil, List.length_take, List.length_drop, List.length_map, List.length_singleton, List.length_cons, intsN]; omega) (by rfl) _ _ (by rfl) slvZ (by rfl) Ol D1 Fl (by rfl) (U1.out.chg D1 (Nat.le_refl _) (by simp)) (by omega) ?_
        intro v2 x2 O2 c2 D2 P2 F2
        clear Ol Fl
        have Ol := O2
        have Fl := F2
        clear O2 F2
        refine hK _ _ (D2) ?_
        clear hK K
        try simp only [Act.put, List.setIfInBounds_toArray, List.set_cons_zero, List.set_cons_succ]
        refine wpAnyS_ready (rs := [9]) (by kernel_rfl) (by simp) ?_
        refine AllReadyS.one (by simp only [List.getElem?_toArray, List.getElem?_cons_zero, List.getElem?_cons_succ]; rfl) (fun K hK => ?_)
        refine step_cat_f (W := wr) (n - 1) (by simp only [List.length_append, List.length_nil, List.length_take, List.length_drop, List.length_map, List.length_singleton, List.length_cons, intsN]; omega) (by rfl) _ _ (by rfl) slvZ (by rfl) Ol D2 Fl (by rfl) (U3.out.chg D2 (Nat.le_refl _) (by simp)) (by omega) ?_
        intro v3 x3 O3 c3 D3 P3 F3
        clear Ol Fl
        have Ol := O3
        have Fl := F3
        clear O3 F3
        refine hK _ _ (D3) ?_
        clear hK K
        try simp only [Act.put, List.setIfInBounds_toArray, List.set_cons_zero, List.set_cons_succ]
        refine wpAnyS_tail 10 2 (by kernel_rfl) rfl ?_
        simp only [List.drop_succ_cons, List.drop_zero]
        have HZ := Lib.hid (And.intro Ol (And.intro Fl D3))
        clear Ol Fl
        go_wp2_with fail
        go_ret2
        refine .inr ⟨List.mem_of_getElem? HX.out.2, _, rfl, ?_, HZ.out.2.1, HZ.out.2.2⟩
        have O9 := HZ.out.1
        rw [List.nil_append, ← List.map_append, ← erase_at HX.out.1 HX.out.2] at O9
        exact O9.i
      · have hq : (y == x) = false := by simpa using e
        have HE := Lib.hid e; clear e
        go_wp2_with fail
        go_roundg (n - i)
        case measure => omega
        case rel => exact ⟨i + 1, by omega, by omega, by go_num, fun j hj hj2 => by
          by_cases e : j = i
          · subst e
            rw [HX.out.2] at hj2
            exact HE.out (Option.some.inj hj2)
          · exact HX.out.1 j (by omega) hj2, rfl⟩
    · obtain rfl : i = n := by omega
      have hi' : ¬ (i : Int) < (i : Int) := by omega
      have HX := Lib.hid hall; clear hall
      go_wp2_with fail
      go_ret2
      exact .inl ⟨fun hm => by
        obtain ⟨j, hj, e⟩ := List.getElem_of_mem hm
        exact HX.out j (by rw [HR.out.2]; exact hj) (by rw [List.getElem?_eq_getElem hj, e]), rfl, Chg.refl _ _⟩
def ClaPost (gc : Nat) (v : Nat → Value) (r : Nat → List Nat) (j : Nat) (w : World) (e : Ending) (w' : World) : Prop :=
  (r j = [] ∧ e = .returned (.tuple #[.int .i64 0, .bool false]) ∧ w' = w) ∨ ∃ xs x, r j = xs ++ [x] ∧ e = .returned (.tuple #[.int .i64 (x : Nat), .bool true]) ∧ CrTo gc v (updV r j xs) w w'
set_option maxHeartbeats 3200000 in
set_option maxRecDepth 100000 in
theorem crlast_ok (w : World) (gc : Nat) (v : Nat → Value) (r : Nat → List Nat) (I : IsCr w gc v r) (k j : Nat) (hk : k < 16) (hj : j < 4) (hl : ∀ i, (r i).length ≤ 100000) : Calls Tryz.prog 182 #[.pointer (some ⟨gc, 0, none⟩), .int .i64 (k : Nat), .int .i64 (j : Nat)] w (ClaPost gc v r (k * 4 + j) w) := by
  have hJ : k * 4 + j < 64 := by omega
  have hcell := I.cell hJ
  have R := I.o _ hJ
  obtain ⟨A, c, hv, hcap⟩ := R.slice
  obtain ⟨n, hn⟩ : ∃ n, n = (intsN (r (k * 4 + j))).length := ⟨_, rfl⟩
  have hnl : n ≤ 100000 := by rw [hn]; unfold intsN; rw [List.length_map]; exact hl _
  rw [← hn] at hv hcap
  rw [hv] at hcell R
  have HI := Lib.hid (And.intro I (And.intro R (And.intro hn hv))); clear I R hn hv hl
  have d1 : decide ((k : Int) < 0) = false := decide_eq_false (by omega)
  have d2 : decide ((15 : Int) < (k : Int)) = false := decide_eq_false (by omega)
  have d3 : decide (15 < k) = false := decide_eq_false (by omega)
  have k0 : (0 : Int) ≤ (k : Int) := by omega
  have k1 : (k : Int) < 16 := by omega
  have j0 : (0 : Int) ≤ (j : Int) := by omega
  have j1 : (j : Int) < 4 := by omega
  go_enter Tryz.func182, Tryz.ntmps182
  rcases Nat.eq_zero_or_pos n with h0 | h0
  · subst h0
    have e0 : r (k * 4 + j) = [] := by
      have := HI.out.2.2.1
      unfold intsN at this
      rw [List.length_map] at this
      exact List.eq_nil_of_length_eq_zero this.symm
    have HE := Lib.hid e0; clear e0
    go_wp2_with fail
    go_ret2
    exact .inl ⟨HE.out, rfl, rfl⟩
  · have z1 : ((n : Int) == 0) = false := by rw [beq_eq_false_iff_ne]; omega
    have z2 : (n == 0) = false := by rw [beq_eq_false_iff_ne]; omega
    have z3 : ¬ n = 0 := by omega
    obtain ⟨m, hm⟩ : ∃ m, n = m + 1 := ⟨n - 1, by omega⟩
    obtain ⟨xs, x, hx⟩ : ∃ xs x, r (k * 4 + j) = xs ++ [x] := by
      have hne : r (k * 4 + j) ≠ [] := fun e => by
        have := HI.out.2.2.1
        rw [e] at this
        simp [intsN] at this
        omega
      exact ⟨_, _, (List.dropLast_concat_getLast hne).symm⟩
    have hml : m = xs.length := by
      have := HI.out.2.2.1
      rw [hx] at this
      unfold intsN at this
      rw [List.length_map, List.length_append] at this
      simp at this
      omega
    subst hm
    have ew : IntKind.i64.wrap (((m + 1 : Nat) : Int) - 1) = (m : Int) := by rw [IntKind.wrap_i64]; omega
    have ew2 : IntKind.i64.wrap (m : Int) = (m : Int) := by rw [IntKind.wrap_i64]; omega
    have z4 : ((m : Int) + 1 == 0) = false := by rw [beq_eq_false_iff_ne]; omega
    have ew1 : IntKind.i64.wrap ((m : Int) + 1 - 1) = (m : Int) := by rw [IntKind.wrap_i64]; omega
    have hy : (intsN (r (k * 4 + j)))[m]? = some (x : Int) := by rw [hx, hml]; unfold intsN; simp
    obtain ⟨b, off, rfl, hb, cx⟩ := HI.out.2.1.cell hy
    have hmc : m ≤ c := by omega
    have hm0 : (0 : Int) ≤ (m : Int) := by omega
    have hm1 : (m : Int) < ((m + 1 : Nat) : Int) := by omega
    have hm2 : (m : Int) < (m : Int) + 1 := by omega
    have hgl := HI.out.1.b.lt
    have hfz := HI.out.1.b.frozen (k * 4 + j)
    have Rt := HI.out.2.1.take (i := m) (by rw [← HI.out.2.2.1]; omega)
    obtain ⟨u1, hu1⟩ : ∃ u, u = sliced (some ⟨b, off, none⟩) 0 m c 1 := ⟨_, rfl⟩
    rw [← hu1] at Rt
    have e1 : (intsN (r (k * 4 + j))).take m = intsN xs := by
      rw [hx]
      unfold intsN
      rw [List.map_append, hml]
      have : xs.length = (xs.map fun x : Nat => (x : Int)).length := by rw [List.length_map]
      rw [this]
      exact List.take_left
    rw [e1] at Rt
    have hbg : gc ≠ b := fun e => by
      have h1 := HI.out.1.g _ hJ
      rw [HI.out.2.2.2, fpa_slice, e] at h1
      exact h1 (by simp)
    have Hu1 := Lib.hid hu1
    have HX := Lib.hid (And.intro hx (And.intro Rt hbg)); clear hx Rt e1 hml hy hu1 hbg
    go_upto_region 4 with fail
    refine wp_region_takes (fuel := 2) 11 (fun w' => Chg [] w w') [0, 1, 2, 3, 4, 5, 6, 7, 8, 9, 10] (by kernel_rfl) (by kernel_rfl) (fun _ _ _ _ _ h => h) ((Chg.refl [] w).drew) ?_
    simp only [List.filterMap_cons, List.filterMap_nil, List.getElem?_cons_zero, List.getElem?_cons_succ]
    iterate 7
      refine wpTake_step (fun K hK => ?_)
      rw [if_pos (by rfl)]
      refine ⟨?_, fun w' hS' => ?_, ?_⟩
      rotate_left 1
      focus
        go_simp
        try with_reducible rfl
        done
      simp only [Act.put, List.setIfInBounds_toArray, List.set_cons_zero, List.set_cons_succ]
      refine hK _ ?_
      clear hK K
    refine wpTake_step (fun K hK => ?_)
    rw [if_pos (by rfl)]
    refine ⟨u1, fun w' _ => ?_, ?_⟩
    focus (rw [Hu1.out]; exact run_take_v slvZ _ _ (by rfl) (by rfl) (by rfl) hmc)
    simp only [Act.put, List.setIfInBounds_toArray, List.set_cons_zero, List.set_cons_succ]
    refine hK _ ?_
    clear hK K
    iterate 3
      refine wpTake_step (fun K hK => ?_)
      rw [if_pos (by rfl)]
      refine ⟨?_, fun w' hS' => ?_, ?_⟩
      rotate_left 1
      focus
        go_simp
        try with_reducible rfl
        done
      simp only [Act.put, List.setIfInBounds_toArray, List.set_cons_zero, List.set_cons_succ]
      refine hK _ ?_
      clear hK K
    refine wpTake_nil ?_
    generalize hx0 : w.drew = x0
    have D0 : Chg [] w x0 := by rw [← hx0]; exact (Chg.refl [] w).drew
    clear hx0
    refine wpAnyS_tail 11 2 (by kernel_rfl) rfl ?_
    simp only [List.drop_succ_cons, List.drop_zero]
    have yc : x0.cell? ⟨gc, k * 4 + j, none⟩ = some (.slice (some ⟨b, off, none⟩) (m + 1) c) := D0.cellv hgl (by simp) hcell
    have yf : x0.frozen? ⟨gc, k * 4 + j, none⟩ = false := (D0.blk HI.out.1.b (by simp)).frozen _
    have yx : x0.cell? ⟨b, off + m, none⟩ = some (.int .i64 (x : Nat)) := D0.cellv hb (by simp) cx
    have yn : b ≠ gc := Ne.symm HX.out.2.2
    have T := CrTo.set HI.out.1 hJ (u := u1) (xs := xs) D0 (HX.out.2.1.chg0 D0) (fun q hq => by
      have h1 := HI.out.2.1.fpa_sliced (by rw [← Hu1.out]; exact hq)
      rw [fpa_slice] at h1
      have h2 : q = b := by simpa using h1
      rw [h2]
      exact ⟨Ne.symm HX.out.2.2, .inl (.inr ⟨_, hJ, by rw [HI.out.2.2.2, fpa_slice]; simp⟩)⟩)
    have HT := Lib.hid T; clear T
    obtain ⟨Au, cu, eu, -⟩ := (HX.out.2.1).slice
    obtain ⟨nu, eu⟩ : ∃ nu, u1 = .slice Au nu cu := ⟨_, eu⟩
    rw [eu] at HT ⊢
    go_wp2_with fail
    go_ret2
    exact .inr ⟨xs, x, HX.out.1, rfl, HT.out⟩
def CtkPost (gc : Nat) (v : Nat → Value) (r : Nat → List Nat) (k : Nat) (w : World) (e : Ending) (w' : World) : Prop :=
  (r (k * 4) = [] ∧ r (k * 4 + 2) = [] ∧ e = .returned (.tuple #[.int .i64 0, .bool false, .bool false]) ∧ w' = w) ∨
  (∃ xs x, r (k * 4) = xs ++ [x] ∧ e = .returned (.tuple #[.int .i64 (x : Nat), .bool false, .bool true]) ∧ CrTo gc v (updV r (k * 4) xs) w w') ∨
  ∃ xs x, r (k * 4) = [] ∧ r (k * 4 + 2) = xs ++ [x] ∧ e = .returned (.tuple #[.int .i64 (x : Nat), .bool true, .bool true]) ∧ CrTo gc v (updV r (k * 4 + 2) xs) w w'
set_option maxHeartbeats 3200000 in
set_option maxRecDepth 100000 in
theorem crtake_ok (w : World) (gc : Nat) (v : Nat → Value) (r : Nat → List Nat) (I : IsCr w gc v r) (k : Nat) (hk : k < 16) (hl : ∀ i, (r i).length ≤ 100000) : Calls Tryz.prog 163 #[.pointer (some ⟨gc, 0, none⟩), .int .i64 (k : Nat)] w (CtkPost gc v r k w) := by
  have H0 := crlast_ok w gc v r I k 0 hk (by omega) hl
  have H2 := crlast_ok w gc v r I k 2 hk (by omega) hl
  have HI := Lib.hid (And.intro H0 H2); clear H0 H2 I
  go_enter Tryz.func163, Tryz.ntmps163
  go_wp2_with fail
  refine HI.out.1.mono ?_
  rintro e w1 (⟨h0, rfl, rfl⟩ | ⟨xs, x, h0, rfl, T⟩)
  · have HX := Lib.hid h0; clear h0
    go_wp2_with fail
    refine HI.out.2.mono ?_
    rintro e w2 (⟨h2, rfl, rfl⟩ | ⟨xs, x, h2, rfl, T⟩)
    · have HY := Lib.hid h2; clear h2
      go_wp2_with fail
      go_ret3
      exact .inl ⟨HX.out, HY.out, rfl, rfl⟩
    · have HY := Lib.hid (And.intro h2 T); clear h2 T
      go_wp2_with fail
      go_ret3
      exact .inr (.inr ⟨xs, x, HX.out, HY.out.1, rfl, HY.out.2⟩)
  · have HX := Lib.hid (And.intro h0 T); clear h0 T
    go_wp2_with fail
    go_ret3
    exact .inr (.inl ⟨xs, x, HX.out.1, rfl, HX.out.2⟩)
set_option maxHeartbeats 3200000 in
set_option maxRecDepth 100000 in
theorem crtakefull_ok (w : World) (gc : Nat) (v : Nat → Value) (r : Nat → List Nat) (I : IsCr w gc v r) (k : Nat) (hk : k < 16) (hl : ∀ i, (r i).length ≤ 100000) : Calls Tryz.prog 164 #[.pointer (some ⟨gc, 0, none⟩), .int .i64 (k : Nat)] w (ClaPost gc v r (k * 4 + 3) w) := by
  have H3 := crlast_ok w gc v r I k 3 hk (by omega) hl
  have HI := Lib.hid H3; clear H3 I
  go_enter Tryz.func164, Tryz.ntmps164
  go_wp2_with fail
  refine HI.out.mono ?_
  rintro e w1 (⟨h0, rfl, rfl⟩ | ⟨xs, x, h0, rfl, T⟩)
  · have HX := Lib.hid h0; clear h0
    go_wp2_with fail
    go_ret2
    exact .inl ⟨HX.out, rfl, rfl⟩
  · have HX := Lib.hid (And.intro h0 T); clear h0 T
    go_wp2_with fail
    go_ret2
    exact .inr ⟨xs, x, HX.out.1, rfl, HX.out.2⟩
end Go.Proofs.YtcnchgbngcnijaaGreatDoor
namespace Go.Proofs.YtcnchgbngcnijaaGreatDoor
open Go.RowKit Go.Maps

theorem mem_intsN {l : List Nat} {x : Nat} : ((x : Nat) : Int) ∈ intsN l ↔ x ∈ l := by
  unfold intsN
  rw [List.mem_map]
  exact ⟨fun ⟨y, hy, e⟩ => by have : y = x := by omega
                              exact this ▸ hy, fun h => ⟨x, h, rfl⟩⟩
theorem erase_intsN (l : List Nat) (x : Nat) : (intsN l).erase ((x : Nat) : Int) = intsN (l.erase x) := by
  unfold intsN
  induction l with
  | nil => rfl
  | cons y ys ih =>
    by_cases e : y = x
    · subst e; simp
    · rw [List.map_cons, List.erase_cons_tail (by simp; omega), List.erase_cons_tail (by simpa using e), List.map_cons, ih]
def CdlPost (gc : Nat) (v : Nat → Value) (r : Nat → List Nat) (id : Nat) (w : World) (e : Ending) (w' : World) : Prop :=
  ((∀ j, j < 64 → id ∉ r j) ∧ e = .returned (.bool false) ∧ Chg [] w w') ∨ ∃ j, j < 64 ∧ id ∈ r j ∧ (∀ i, i < j → id ∉ r i) ∧ e = .returned (.bool true) ∧ CrTo gc v (delR r id j) w w'
def CdlRel (w0 : World) (r : Nat → List Nat) (id d n base gk : Nat) (idx : Value) (w : World) : Prop :=
  ∃ i, gk + i = n + 1 ∧ i ≤ n ∧ idx = .int .i64 (i : Nat) ∧ (∀ j, j < base + i * d → id ∉ r j) ∧ Chg [] w0 w
set_option maxHeartbeats 6400000 in
set_option maxRecDepth 100000 in
theorem crdel_ok (w : World) (gc : Nat) (v : Nat → Value) (r : Nat → List Nat) (I : IsCr w gc v r) (id : Nat) (hl : ∀ i, (r i).length ≤ 100000) : Calls Tryz.prog 139 #[.pointer (some ⟨gc, 0, none⟩), .int .i64 (id : Nat)] w (CdlPost gc v r id w) := by
  have HI := Lib.hid (And.intro I hl); clear I hl
  go_enter Tryz.func139, Tryz.ntmps139
  go_wp2_with fail
  go_loopg [5] 17 (fun gk idx wr => CdlRel w r id 4 16 0 gk idx wr)
  case atStart => exact ⟨0, by omega, by omega, rfl, fun j hj => by omega, Chg.refl _ _⟩
  case round =>
    obtain ⟨k, hgk, hk, rfl, hno, c1⟩ := hrel
    by_cases ek : k < 16
    · have hk' : (k : Int) < 16 := by omega
      have hk0 : (0 : Int) ≤ (k : Int) := by omega
      have H1 := Lib.hid (And.intro hno c1); clear hno c1
      go_wp2_with fail
      go_loopg [6] 5 (fun gk idx wr' => CdlRel w r id 1 4 (k * 4) gk idx wr')
      case atStart => exact ⟨0, by omega, by omega, rfl, fun j hj => H1.out.1 j (by omega), H1.out.2⟩
      case round =>
        clear H1
        obtain ⟨j, hgj, hj, rfl, hno, c2⟩ := hrel
        by_cases ej : j < 4
        · have hj' : (j : Int) < 4 := by omega
          have hj0 : (0 : Int) ≤ (j : Int) := by omega
          have hJ : k * 4 + j < 64 := by omega
          have I2 := HI.out.1.chg0 c2
          have hcell := I2.cell hJ
          have hf := I2.b.frozen (k * 4 + j)
          have hgl := I2.b.lt
          have R := I2.o _ hJ
          obtain ⟨A, c, hv, hcap⟩ := R.slice
          obtain ⟨n, hn⟩ : ∃ n, n = (intsN (r (k * 4 + j))).length := ⟨_, rfl⟩
          have hnl : n ≤ 100000 := by rw [hn]; unfold intsN; rw [List.length_map]; exact HI.out.2 _
          have KO := fun (W : World) (D : Chg [] wr W) => out_ok W (v (k * 4 + j)) (intsN (r (k * 4 + j))) (id : Nat) (R.chg0 D) (by rw [← hn]; exact hnl)
          rw [← hn] at hv
          rw [hv] at hcell KO
          have H2 := Lib.hid (And.intro hno (And.intro c2 (And.intro I2 KO)))
          have HV := Lib.hid hv
          clear hno c2 I2 R hn hv KO hcap
          go_wp2_with fail
          refine (H2.out.2.2.2 _ (Chg.refl [] wr)).mono ?_
          rintro e w3 (⟨hn2, rfl, c3⟩ | ⟨hm, u, rfl, O3, F3, c3⟩)
          · have H3 := Lib.hid (And.intro hn2 c3); clear hn2 c3
            go_wp2_with fail
            go_roundg (4 - j)
            case measure => omega
            case rel => exact ⟨j + 1, by omega, by omega, by go_num, fun i hi => by
              by_cases e : i = k * 4 + j
              · subst e; exact fun h => H3.out.1 (mem_intsN.2 h)
              · exact H2.out.1 i (by omega), H2.out.2.1.trans H3.out.2⟩
          · obtain ⟨Au, cu, hu⟩ := O3.slice
            rw [erase_intsN] at O3 hu
            obtain ⟨nu, hu⟩ : ∃ nu, u = .slice Au nu cu := ⟨_, hu⟩
            have T := CrTo.set H2.out.2.2.1 hJ (u := u) c3 O3.row (fun q hq => by
              have h1 := F3 q (O3.fpa hq)
              exact ⟨fun e => by rw [e] at h1; exact absurd hgl (Nat.not_lt.2 h1), .inr h1⟩)
            rw [hu] at T ⊢
            have y1 : w3.cell? ⟨gc, k * 4 + j, none⟩ = some (.slice A n c) := c3.cellv hgl (by simp) hcell
            have y2 : w3.frozen? ⟨gc, k * 4 + j, none⟩ = false := (c3.blk H2.out.2.2.1.b (by simp)).frozen _
            have H3 := Lib.hid (And.intro (mem_intsN.1 hm) T); clear hm T O3 F3 hu c3
            go_wp2_with fail
            go_ret
            refine .inr ⟨k * 4 + j, hJ, H3.out.1, fun i hi => H2.out.1 i (by omega), rfl, ?_⟩
            obtain ⟨v', I', s'⟩ := H3.out.2
            exact ⟨v', I', (StP.of_chg H2.out.2.1 (by simp) (fun _ h => .inl h)).trans s'⟩
        · obtain rfl : j = 4 := by omega
          have H2 := Lib.hid (And.intro hno c2); clear hno c2
          go_wp2_with fail
          go_roundg (16 - k)
          case measure => omega
          case rel => exact ⟨k + 1, by omega, by omega, by go_num, fun i hi => H2.out.1 i (by omega), H2.out.2⟩
    · obtain rfl : k = 16 := by omega
      have H1 := Lib.hid (And.intro hno c1); clear hno c1
      go_wp2_with fail
      go_ret
      exact .inl ⟨fun i hi => H1.out.1 i (by omega), rfl, H1.out.2⟩
def CcpPost (gc : Nat) (v : Nat → Value) (r : Nat → List Nat) (k id : Nat) (full : Bool) (w : World) (e : Ending) (w' : World) : Prop :=
  e = .returned (.tuple #[]) ∧ ∃ r1, DelTo r id r1 ∧ CrTo gc v (updV r1 (k * 4 + sd full) (r1 (k * 4 + sd full) ++ [id])) w w'
set_option maxHeartbeats 6400000 in
set_option maxRecDepth 100000 in
theorem crput_ok (w : World) (gc : Nat) (v : Nat → Value) (r : Nat → List Nat) (I : IsCr w gc v r) (k id : Nat) (hk : k < 16) (full : Bool) (hl : ∀ i, (r i).length ≤ 100000) : Calls Tryz.prog 138 #[.pointer (some ⟨gc, 0, none⟩), .int .i64 (k : Nat), .int .i64 (id : Nat), .bool full] w (CcpPost gc v r k id full w) := by
  have KD := crdel_ok w gc v r I id hl
  have HI := Lib.hid (And.intro I (And.intro KD hl)); clear I KD hl
  have d1 : decide ((k : Int) < 0) = false := decide_eq_false (by omega)
  have d2 : decide ((15 : Int) < (k : Int)) = false := decide_eq_false (by omega)
  have d3 : decide (15 < k) = false := decide_eq_false (by omega)
  have k0 : (0 : Int) ≤ (k : Int) := by omega
  have k1 : (k : Int) < 16 := by omega
  go_enter Tryz.func138, Tryz.ntmps138
  go_wp2_with fail
  have KD2 : Calls Tryz.prog 139 #[.pointer (some ⟨gc, 0, none⟩), .int .i64 (id : Nat)] w fun e w' => (∃ bo, e = .returned (.bool bo)) ∧ ∃ r1 v1, DelTo r id r1 ∧ IsCr w' gc v1 r1 ∧ StP (CrF gc v) (CrF gc v1) w w' ∧ ∀ i, (r1 i).length ≤ 100000 := HI.out.2.1.mono fun e w' h => by
    rcases h with ⟨h1, he, c⟩ | ⟨j, hj, h1, h2, he, v1, I1, s1⟩
    · exact ⟨⟨_, he⟩, r, v, .inl ⟨rfl, h1⟩, HI.out.1.chg0 c, (StP.refl _ _).then0 c, HI.out.2.2⟩
    · refine ⟨⟨_, he⟩, _, v1, .inr ⟨j, hj, h1, h2, rfl⟩, I1, s1, fun i => ?_⟩
      unfold delR updV
      split
      · exact Nat.le_trans (List.length_erase_le ..) (HI.out.2.2 j)
      · exact HI.out.2.2 i
  refine KD2.mono ?_
  rintro e w1 ⟨⟨bo, rfl⟩, r1, v1, hd, I1, s1, hl1⟩
  obtain ⟨j, hj⟩ : ∃ j, j = sd full := ⟨_, rfl⟩
  have hj1 : j ≤ 1 := by rw [hj]; cases full <;> decide
  have hJ : k * 4 + j < 64 := by omega
  have hcell := I1.cell hJ
  have hf := I1.b.frozen (k * 4 + j)
  have hgl := I1.b.lt
  have R := I1.o _ hJ
  obtain ⟨A, c, hv, hcap⟩ := R.slice
  obtain ⟨n, hn⟩ : ∃ n, n = (intsN (r1 (k * 4 + j))).length := ⟨_, rfl⟩
  have hnl : n ≤ 100000 := by rw [hn]; unfold intsN; rw [List.length_map]; exact hl1 _
  have U1 := R.rdv
  rw [← hn] at hv
  rw [hv] at hcell U1
  have hxl : ((intsN (r1 (k * 4 + j))).map (Value.int .i64)).length = n := by rw [List.length_map, hn]
  have H1 := Lib.hid (And.intro hd (And.intro I1 (And.intro s1 hj)))
  have U1 := Lib.hid U1
  have HN := Lib.hid hxl
  clear hd I1 s1 R hn hv hl1 KD2 hxl hcap hj
  have hj0 : (0 : Int) ≤ (j : Int) := by omega
  have hj4 : (j : Int) < 4 := by omega
  go_upto_if 18 with fail
  go_cut [8] from 19 to 19 (fun v wd => v = .int .i64 (j : Nat) ∧ wd = w1)
  case first =>
    have hj9 := H1.out.2.2.2
    cases full with
    | true =>
      obtain rfl : j = 1 := hj9
      go_wp2_with fail
      go_meet
      exact ⟨rfl, rfl⟩
    | false =>
      obtain rfl : j = 0 := hj9
      go_wp2_with fail
      go_meet
      exact ⟨rfl, rfl⟩
  case rest =>
    obtain ⟨rfl, rfl⟩ := hcut
    obtain ⟨w1, rfl⟩ : ∃ V : World, V = wc := ⟨_, rfl⟩
    go_upto_region 5 with fail
    refine wp_region_takes (fuel := 6) 19 (fun w' => Chg [] w1 w') [0, 1, 2, 4, 5, 6, 7, 8, 9, 10, 11, 13, 16, 17, 18] (by kernel_rfl) (by kernel_rfl) (fun _ _ _ _ _ h => h) ((Chg.refl [] w1).drew) ?_
    simp only [List.filterMap_cons, List.filterMap_nil, List.getElem?_cons_zero, List.getElem?_cons_succ]
    iterate 15
      refine wpTake_step (fun K hK => ?_)
      rw [if_pos (by rfl)]
      refine ⟨?_, fun w' hS' => ?_, ?_⟩
      rotate_left 1
      focus
        have yc := hS'.cellv hgl (by simp) hcell
        go_simp
        try with_reducible rfl
        done
      simp only [Act.put, List.setIfInBounds_toArray, List.set_cons_zero, List.set_cons_succ]
      refine hK _ ?_
      clear hK K
    refine wpTake_nil ?_
    generalize hx0 : w1.drew = x0
    have D0 : Chg [] w1 x0 := by rw [← hx0]; exact (Chg.refl [] w1).drew
    clear hx0
    refine wpAnyS_ready (rs := [3, 14]) (by kernel_rfl) (by simp) ?_
    refine AllReadyS.cons (by simp only [List.getElem?_toArray, List.getElem?_cons_zero, List.getElem?_cons_succ]; rfl) (fun K hK => ?_) ?_
    · refine step_lit0 slvZ (by rfl) (by rfl) ?_
      intro v1 x1 O1 c1 G1
      have D1 := D0.trans c1
      have F1 : ∀ q ∈ fpv v1, w1.heap.size ≤ q := fun q hq => Nat.le_trans D0.size (G1 q hq)
      refine hK _ _ (D1) ?_
      clear hK K
      try simp only [Act.put, List.setIfInBounds_toArray, List.set_cons_zero, List.set_cons_succ]
      refine wpAnyS_ready (rs := [12, 14]) (by kernel_rfl) (by simp) ?_
      refine AllReadyS.cons (by simp only [List.getElem?_toArray, List.getElem?_cons_zero, List.getElem?_cons_succ]; rfl) (fun K hK => ?_) ?_
      · have hxl := HN.out
        refine step_cat_f (W := w1) n (by simp only [List.length_append, List.length_nil, List.length_singleton, List.length_cons, hxl]; omega) (by rfl) _ _ (by rfl) slvZ (by rfl) O1 D1 F1 (by rfl) (U1.out.chg D1 (Nat.le_refl _) (by simp)) (by omega) ?_
        clear hxl
        intro v2 x2 O2 c2 D2 P2 F2
        refine hK _ _ (D2) ?_
        clear hK K
        try simp only [Act.put, List.setIfInBounds_toArray, List.set_cons_zero, List.set_cons_succ]
        refine wpAnyS_ready (rs := [14]) (by kernel_rfl) (by simp) ?_
        refine AllReadyS.one (by simp only [List.getElem?_toArray, List.getElem?_cons_zero, List.getElem?_cons_succ]; rfl) (fun K hK => ?_)
        refine step_lit1 (x := .int .i64 (id : Nat)) slvZ (by rfl) (by rfl) (by rfl) (by rfl) ?_
        intro b1 x3 X3 c3 hb1
        have D3 := D2.trans c3
        have N3 : b1 ∉ fpv v2 := fun hm => by have h1 := O2.lt hm; omega
        have O3 := O2.chg0 c3
        have F3 := F2
        refine hK _ _ (D3) ?_
        clear hK K
        try simp only [Act.put, List.setIfInBounds_toArray, List.set_cons_zero, List.set_cons_succ]
        refine wpAnyS_ready (rs := [15]) (by kernel_rfl) (by simp) ?_
        refine AllReadyS.one (by simp only [List.getElem?_toArray, List.getElem?_cons_zero, List.getElem?_cons_succ]; rfl) (fun K hK => ?_)
        have hxl := HN.out
        refine step_cat_f (W := w1) (n + 1) (by simp only [List.length_append, List.length_nil, List.length_singleton, List.length_cons, hxl]; omega) (by rfl) _ _ (by rfl) slvZ (by rfl) O3 D3 F3 (by rfl) (RdV.one_ X3 rfl) (by omega) ?_
        clear hxl
        intro v4 x4 O4 c4 D4 P4 F4
        refine hK _ _ (D4) ?_
        clear hK K
        try simp only [Act.put, List.setIfInBounds_toArray, List.set_cons_zero, List.set_cons_succ]
        refine wpAnyS_tail 19 2 (by kernel_rfl) rfl ?_
        simp only [List.drop_succ_cons, List.drop_zero]
        have O9 := O4
        have F9 := F4
        have e9 : [] ++ (intsN (r1 (k * 4 + j))).map (Value.int .i64) ++ [Value.int .i64 (id : Nat)] = (intsN (r1 (k * 4 + j) ++ [id])).map (Value.int .i64) := by unfold intsN; simp
        rw [e9] at O9
        have T := CrTo.set H1.out.2.1 hJ (u := v4) D4 O9.i.row (fun q hq => by
          have h1 := F9 q (O9.i.fpa hq)
          exact ⟨fun e => by rw [e] at h1; exact absurd hgl (Nat.not_lt.2 h1), .inr h1⟩)
        obtain ⟨A9, c9, e8⟩ := O9.slice
        obtain ⟨N9, e8⟩ : ∃ N9, v4 = .slice A9 N9 c9 := ⟨_, e8⟩
        have yc := D4.cellv hgl (by simp) hcell
        have yf := (D4.blk H1.out.2.1.b (by simp)).frozen (k * 4 + j)
        rw [e8] at T ⊢
        have HT := Lib.hid T
        clear T O9 F9 e9 e8 D0 D1 D2 D3 D4
        go_wp2_with fail
        go_end0
        refine ⟨rfl, r1, H1.out.1, ?_⟩
        rw [← H1.out.2.2.2]
        exact CrTo.after H1.out.2.2.1 HT.out
      refine AllReadyS.one (by simp only [List.getElem?_toArray, List.getElem?_cons_zero, List.getElem?_cons_succ]; rfl) (fun K hK => ?_)
      refine step_lit1 (x := .int .i64 (id : Nat)) slvZ (by rfl) (by rfl) (by rfl) (by rfl) ?_
      intro b1 x2 X2 c2 hb1
      have D2 := D1.trans c2
      have N2 : b1 ∉ fpv v1 := fun hm => by have h1 := O1.lt hm; omega
      have O2 := O1.chg0 c2
      have F2 := F1
      refine hK _ _ (D2) ?_
      clear hK K
      try simp only [Act.put, List.setIfInBounds_toArray, List.set_cons_zero, List.set_cons_succ]
      refine wpAnyS_ready (rs := [12]) (by kernel_rfl) (by simp) ?_
      refine AllReadyS.one (by simp only [List.getElem?_toArray, List.getElem?_cons_zero, List.getElem?_cons_succ]; rfl) (fun K hK => ?_)
      have hxl := HN.out
      refine step_cat_f (W := w1) n (by simp only [List.length_append, List.length_nil, List.length_singleton, List.length_cons, hxl]; omega) (by rfl) _ _ (by rfl) slvZ (by rfl) O2 D2 F2 (by rfl) (U1.out.chg D2 (Nat.le_refl _) (by simp)) (by omega) ?_
      clear hxl
      intro v3 x3 O3 c3 D3 P3 F3
      have N3 : b1 ∉ fpv v3 := fun hm => (P3 _ hm).elim N2 (fun h1 => by have h2 := X2.lt; omega)
      have X3 := c3.blk X2 N2
      refine hK _ _ (D3) ?_
      clear hK K
      try simp only [Act.put, List.setIfInBounds_toArray, List.set_cons_zero, List.set_cons_succ]
      refine wpAnyS_ready (rs := [15]) (by kernel_rfl) (by simp) ?_
      refine AllReadyS.one (by simp only [List.getElem?_toArray, List.getElem?_cons_zero, List.getElem?_cons_succ]; rfl) (fun K hK => ?_)
      have hxl := HN.out
      refine step_cat_f (W := w1) (n + 1) (by simp only [List.length_append, List.length_nil, List.length_singleton, List.length_cons, hxl]; omega) (by rfl) _ _ (by rfl) slvZ (by rfl) O3 D3 F3 (by rfl) (RdV.one_ X3 rfl) (by omega) ?_
      clear hxl
      intro v4 x4 O4 c4 D4 P4 F4
      refine hK _ _ (D4) ?_
      clear hK K
      try simp only [Act.put, List.setIfInBounds_toArray, List.set_cons_zero, List.set_cons_succ]
      refine wpAnyS_tail 19 2 (by kernel_rfl) rfl ?_
      simp only [List.drop_succ_cons, List.drop_zero]
      have O9 := O4
      have F9 := F4
      have e9 : [] ++ (intsN (r1 (k * 4 + j))).map (Value.int .i64) ++ [Value.int .i64 (id : Nat)] = (intsN (r1 (k * 4 + j) ++ [id])).map (Value.int .i64) := by unfold intsN; simp
      rw [e9] at O9
      have T := CrTo.set H1.out.2.1 hJ (u := v4) D4 O9.i.row (fun q hq => by
        have h1 := F9 q (O9.i.fpa hq)
        exact ⟨fun e => by rw [e] at h1; exact absurd hgl (Nat.not_lt.2 h1), .inr h1⟩)
      obtain ⟨A9, c9, e8⟩ := O9.slice
      obtain ⟨N9, e8⟩ : ∃ N9, v4 = .slice A9 N9 c9 := ⟨_, e8⟩
      have yc := D4.cellv hgl (by simp) hcell
      have yf := (D4.blk H1.out.2.1.b (by simp)).frozen (k * 4 + j)
      rw [e8] at T ⊢
      have HT := Lib.hid T
      clear T O9 F9 e9 e8 D0 D1 D2 D3 D4
      go_wp2_with fail
      go_end0
      refine ⟨rfl, r1, H1.out.1, ?_⟩
      rw [← H1.out.2.2.2]
      exact CrTo.after H1.out.2.2.1 HT.out
    refine AllReadyS.one (by simp only [List.getElem?_toArray, List.getElem?_cons_zero, List.getElem?_cons_succ]; rfl) (fun K hK => ?_)
    refine step_lit1 (x := .int .i64 (id : Nat)) slvZ (by rfl) (by rfl) (by rfl) (by rfl) ?_
    intro b1 x1 X1 c1 hb1
    have D1 := D0.trans c1
    refine hK _ _ (D1) ?_
    clear hK K
    try simp only [Act.put, List.setIfInBounds_toArray, List.set_cons_zero, List.set_cons_succ]
    refine wpAnyS_ready (rs := [3]) (by kernel_rfl) (by simp) ?_
    refine AllReadyS.one (by simp only [List.getElem?_toArray, List.getElem?_cons_zero, List.getElem?_cons_succ]; rfl) (fun K hK => ?_)
    refine step_lit0 slvZ (by rfl) (by rfl) ?_
    intro v2 x2 O2 c2 G2
    have D2 := D1.trans c2
    have F2 : ∀ q ∈ fpv v2, w1.heap.size ≤ q := fun q hq => Nat.le_trans D1.size (G2 q hq)
    have N2 : b1 ∉ fpv v2 := fun hm => by have h1 := G2 _ hm; have h2 := X1.lt; omega
    have X2 := c2.blk X1 (by simp)
    refine hK _ _ (D2) ?_
    clear hK K
    try simp only [Act.put, List.setIfInBounds_toArray, List.set_cons_zero, List.set_cons_succ]
    refine wpAnyS_ready (rs := [12]) (by kernel_rfl) (by simp) ?_
    refine AllReadyS.one (by simp only [List.getElem?_toArray, List.getElem?_cons_zero, List.getElem?_cons_succ]; rfl) (fun K hK => ?_)
    have hxl := HN.out
    refine step_cat_f (W := w1) n (by simp only [List.length_append, List.length_nil, List.length_singleton, List.length_cons, hxl]; omega) (by rfl) _ _ (by rfl) slvZ (by rfl) O2 D2 F2 (by rfl) (U1.out.chg D2 (Nat.le_refl _) (by simp)) (by omega) ?_
    clear hxl
    intro v3 x3 O3 c3 D3 P3 F3
    have N3 : b1 ∉ fpv v3 := fun hm => (P3 _ hm).elim N2 (fun h1 => by have h2 := X2.lt; omega)
    have X3 := c3.blk X2 N2
    refine hK _ _ (D3) ?_
    clear hK K
    try simp only [Act.put, List.setIfInBounds_toArray, List.set_cons_zero, List.set_cons_succ]
    refine wpAnyS_ready (rs := [15]) (by kernel_rfl) (by simp) ?_
    refine AllReadyS.one (by simp only [List.getElem?_toArray, List.getElem?_cons_zero, List.getElem?_cons_succ]; rfl) (fun K hK => ?_)
    have hxl := HN.out
    refine step_cat_f (W := w1) (n + 1) (by simp only [List.length_append, List.length_nil, List.length_singleton, List.length_cons, hxl]; omega) (by rfl) _ _ (by rfl) slvZ (by rfl) O3 D3 F3 (by rfl) (RdV.one_ X3 rfl) (by omega) ?_
    clear hxl
    intro v4 x4 O4 c4 D4 P4 F4
    refine hK _ _ (D4) ?_
    clear hK K
    try simp only [Act.put, List.setIfInBounds_toArray, List.set_cons_zero, List.set_cons_succ]
    refine wpAnyS_tail 19 2 (by kernel_rfl) rfl ?_
    simp only [List.drop_succ_cons, List.drop_zero]
    have O9 := O4
    have F9 := F4
    have e9 : [] ++ (intsN (r1 (k * 4 + j))).map (Value.int .i64) ++ [Value.int .i64 (id : Nat)] = (intsN (r1 (k * 4 + j) ++ [id])).map (Value.int .i64) := by unfold intsN; simp
    rw [e9] at O9
    have T := CrTo.set H1.out.2.1 hJ (u := v4) D4 O9.i.row (fun q hq => by
      have h1 := F9 q (O9.i.fpa hq)
      exact ⟨fun e => by rw [e] at h1; exact absurd hgl (Nat.not_lt.2 h1), .inr h1⟩)
    obtain ⟨A9, c9, e8⟩ := O9.slice
    obtain ⟨N9, e8⟩ : ∃ N9, v4 = .slice A9 N9 c9 := ⟨_, e8⟩
    have yc := D4.cellv hgl (by simp) hcell
    have yf := (D4.blk H1.out.2.1.b (by simp)).frozen (k * 4 + j)
    rw [e8] at T ⊢
    have HT := Lib.hid T
    clear T O9 F9 e9 e8 D0 D1 D2 D3 D4
    go_wp2_with fail
    go_end0
    refine ⟨rfl, r1, H1.out.1, ?_⟩
    rw [← H1.out.2.2.2]
    exact CrTo.after H1.out.2.2.1 HT.out
end Go.Proofs.YtcnchgbngcnijaaGreatDoor
