/- Package wait: Wait, of lists that are owned and lie apart. (Printed by wip/genml2.py.) -/
/- Package wait: Wake. (Printed by wip/genml3.py.) -/
import Derived.Test.YtepnlcemlnkpdaaGreatDoorMm2J
namespace Go.Proofs.YtepnlcemlnkpdaaGreatDoor
set_option maxHeartbeats 16000000
set_option maxRecDepth 100000
open Go.RowKit Go.Maps
theorem step_push_i {P : Program} {T E : TypeId} {w : World} {v : Value} {xs : List Int} {ops : Array Oper} {o : Oper} {a : Act} {K : Act → World → Prop} {Q : Exit → Act → World → Prop} {E' : Prop} {z : Int} (hgd : o.guard = none) (s y : Operand)
    (ho : o.op = .call { callee := .builtin .append, args := #[s, y], argTypes := #[T, T] }) (t : SlTy P T E) (hs : a.eval s = v) (h : OwnI E w v xs) (hy : a.eval y = .slice (some ⟨w.heap.size, 0, none⟩) 1 1) (hl : xs.length + 1 ≤ 1000000000000)
    (hK : ∀ A' c' w', OwnI E w' (.slice A' (xs.length + 1) c') (xs ++ [z]) → Stp (fpv v) (fpv (.slice A' (xs.length + 1) c')) w w' → K (a.put o.dst (.slice A' (xs.length + 1) c')) w') : if Region.wanted o (yielded ops a.tmps) = true then Oper.wp P o a (w.alloc (.cells #[.int .i64 z] E)) K Q else E' := by
  have hw : Region.wanted o (yielded ops a.tmps) = true := by simp [Region.wanted, hgd]
  rw [if_pos hw]
  obtain ⟨v', w', hr, h2, h3⟩ := run_push_int t o.type h z hl
  obtain ⟨A', c', e⟩ := h2.slice
  rw [List.length_append, List.length_singleton] at e
  subst e
  unfold Oper.wp execOp
  simp only [ho, resolve, invoke, builtin, Sem.run_bind, Sem.run_pure, Result.andThen_ok, List.map_toArray, List.map_cons, List.map_nil, hs, hy, hr]
  exact hK _ _ _ h2 h3
structure IsWt (w : World) (gw : Nat) (vw : Nat → Value) (wt : Nat → List Int) : Prop where
  b : Blk w gw 192 (wtC vw)
  o : ∀ i, i < 32 → OwnI 3 w (vw i) (wt i)
  d : ∀ i j, i < 32 → j < 32 → i ≠ j → ∀ k ∈ fpv (vw i), k ∉ fpv (vw j)
theorem wtC_set (vw : Nat → Value) {a : Nat} (ha : a < 32) (v : Value) : (wtC vw).setIfInBounds a v = wtC (updV vw a v) := by
  apply Array.ext_getElem?
  intro i
  rw [Array.getElem?_setIfInBounds]
  by_cases hi : i < 32
  · rw [wtC_at _ hi]
    by_cases e : a = i
    · subst e; rw [if_pos rfl, if_pos (by unfold wtC; simpa using hi), wtC_at _ hi, updV_same]
    · rw [if_neg e, wtC_at _ hi, updV_other _ _ (fun h => e h.symm)]
  · have : (wtC (updV vw a v)).size ≤ i := by unfold wtC; simpa using hi
    rw [Array.getElem?_eq_none this]
    by_cases e : a = i
    · omega
    · rw [if_neg e, Array.getElem?_eq_none (by unfold wtC; simpa using hi)]
theorem IsWt.turn {w w' : World} {gw : Nat} {vw : Nat → Value} {wt : Nat → List Int} (h : IsWt w gw vw wt) {a : Nat} (ha : a < 32) {v' : Value} {l : List Int} {S : List Nat} (c : Chg S w w') (hS : ∀ k ∈ S, k = gw ∨ k ∈ fpv (vw a) ∨ w.heap.size ≤ k) (B : Blk w' gw 192 (wtC (updV vw a v'))) (O : OwnI 3 w' v' l) (hv : ∀ k ∈ fpv v', k ∈ fpv (vw a) ∨ w.heap.size ≤ k) : IsWt w' gw (updV vw a v') (updV wt a l) := by
  refine ⟨B, fun i hi => ?_, fun i j hi hj hij k hk => ?_⟩
  · by_cases e : i = a
    · subst e; rw [updV_same, updV_same]; exact O
    · rw [updV_other _ _ e, updV_other _ _ e]
      refine (h.o i hi).chg c (fun k hk hm => ?_)
      rcases hS k hm with e2 | e2 | e2
      · subst e2; exact own_ne (h.o i hi).o h.b (by decide) (mem_fpv.1 hk)
      · exact h.d i a hi ha e k hk e2
      · have := (h.o i hi).lt hk; omega
  · by_cases e : i = a
    · subst e
      rw [updV_same] at hk
      rw [updV_other _ _ (fun e => hij e.symm)]
      rcases hv k hk with e2 | e2
      · exact h.d i j hi hj hij k e2
      · intro hm; have := (h.o j hj).lt hm; omega
    · rw [updV_other _ _ e] at hk
      by_cases e2 : j = a
      · subst e2
        rw [updV_same]
        intro hm
        rcases hv k hm with e3 | e3
        · exact h.d i j hi hj hij k hk e3
        · have := (h.o i hi).lt hk; omega
      · rw [updV_other _ _ e2]; exact h.d i j hi hj hij k hk
def WtPost (gw : Nat) (vw : Nat → Value) (a : Nat) (wt' : Nat → List Int) (r : Value) (w : World) (e : Ending) (w' : World) : Prop :=
  ∃ v', e = .returned r ∧ IsWt w' gw (updV vw a v') wt' ∧ Chg (gw :: fpv (vw a)) w w' ∧ ∀ k ∈ fpv v', k ∈ fpv (vw a) ∨ w.heap.size ≤ k
theorem wt_wait (w : World) (gw : Nat) (vw : Nat → Value) (wt : Nat → List Int) (I : IsWt w gw vw wt) (a : Nat) (ha : a < 32) (g : Int) (hg : ∀ i, i < 32 → g ∉ wt i) (hl : ∀ i, i < 32 → (wt i).length ≤ 1000000) :
    Calls Tryz.prog 227 #[.pointer (some ⟨gw, 0, none⟩), .int .i64 (a : Nat), .int .i64 g] w (WtPost gw vw a (updV wt a (wt a ++ [g])) (.int .i64 0) w) := by
  have K1 := wt_place w a ha
  have K2 := wt_find_no w gw vw wt g I.b I.o hg hl
  obtain ⟨Aa, ca, hv⟩ := (I.o a ha).slice
  have c0 : w.cell? ⟨gw, a, none⟩ = some (vw a) := I.b.cellv a (wtC_at _ ha)
  rw [hv] at c0
  have Oa := I.o a ha
  rw [hv] at Oa
  have hla := hl a ha
  obtain ⟨n, hn⟩ : ∃ n, n = (wt a).length := ⟨_, rfl⟩
  rw [← hn] at c0 hv hla Oa
  have lw := I.b.lt
  have ng : gw ∉ fpv (.slice Aa n ca) := fun hm => own_ne Oa.o I.b (by decide) (mem_fpv.1 hm)
  have d0 : (0 : Int) ≤ (a : Int) := by omega
  have d1 : (a : Int) < 32 := by omega
  have HK := Lib.hid (And.intro K1 (And.intro K2 (And.intro I (And.intro Oa (And.intro hv hn))))); clear K1 K2 I Oa hv hg hl hn
  go_enter Tryz.func227, Tryz.ntmps227
  go_wp2_with fail
  refine HK.out.1.mono ?_
  rintro e w1 ⟨rfl, rfl⟩
  go_wp2_with fail
  refine HK.out.2.1.mono ?_
  rintro e w2 ⟨rfl, rfl⟩
  go_upto_region 7 with fail
  refine wp_region_takes (fuel := 4) 13 (fun w' => Chg (fpv (.slice Aa n ca)) w2 w') [0, 1, 2, 3, 4, 5, 6, 7, 8, 11, 12] (by kernel_rfl) (by kernel_rfl) (fun _ _ _ _ _ h => h) (((Chg.refl [] w2).drew.mono (by simp))) ?_
  simp only [List.filterMap_cons, List.filterMap_nil, qGa, qGb]
  iterate 11
    refine wpTake_step (fun K hK => ?_)
    rw [if_pos (by rfl)]
    refine ⟨?_, fun w' hS' => ?_, ?_⟩
    rotate_left 1
    focus
      have y0 := hS'.cellv lw ng c0
      go_simp
      try with_reducible rfl
      done
    simp only [Act.put, qSa, qSb, qSc]
    refine hK _ ?_
    clear hK K
  refine wpTake_nil ?_
  generalize hx0 : w2.drew = x0
  have D0 : Chg [] w2 x0 := by rw [← hx0]; exact (Chg.refl [] w2).drew
  clear hx0
  refine wpAnyS_ready (rs := [9]) (by kernel_rfl) (by simp) ?_
  refine AllReadyS.o (fun K hK => ?_)
  rw [if_pos (by rfl)]
  go_simp
  have OA := HK.out.2.2.2.1.chg0 D0
  refine hK _ _ (((D0.alloc _).mono (by simp))) ?_
  clear hK K
  try simp only [Act.put, qSa, qSb, qSc]
  refine wpAnyS_ready (rs := [10]) (by kernel_rfl) (by simp) ?_
  refine AllReadyS.o (fun K hK => ?_)
  refine step_push_i rfl _ _ (by rfl) slZ (by rfl) OA (by rfl) (by rw [← HK.out.2.2.2.2.2]; omega) ?_
  rw [← HK.out.2.2.2.2.2]
  intro A2 c2 x2 O2 S2
  have D2 : Chg (fpv (.slice Aa n ca)) w2 x2 := (D0.mono (by simp)).trans S2.c
  dsimp only
  refine hK _ _ (D2) ?_
  clear hK K
  try simp only [Act.put, qSa, qSb, qSc]
  refine wpAnyS_tail 13 2 (by kernel_rfl) rfl ?_
  simp only [qDa, qDb]
  have B2 := D2.blk HK.out.2.2.1.b ng
  have k0 : x2.cell? ⟨gw, a, none⟩ = some (vw a) := B2.cellv a (wtC_at _ ha)
  rw [HK.out.2.2.2.2.1] at k0
  have k1 := B2.frozen a
  have HS := Lib.hid (And.intro O2 (And.intro S2.f (And.intro D2 (And.intro B2 D0.size)))); clear O2 S2 D2 B2 OA D0 c0
  go_wp2_with fail
  go_ret
  have cS : Chg [gw] x2 (x2.setCell ⟨gw, a, none⟩ (.slice A2 (n + 1) c2)) := (Chg.refl [gw] x2).setCell (.inl (by simp)) _
  have BZ : Blk (x2.setCell ⟨gw, a, none⟩ (.slice A2 (n + 1) c2)) gw 192 (wtC (updV vw a (.slice A2 (n + 1) c2))) := HS.out.2.2.2.1.setv a _ (wtC_set vw ha _)
  have OZ := HS.out.1.chg cS (fun k hk hm => own_ne HS.out.1.o HS.out.2.2.2.1 (by decide) (mem_fpv.1 (by have e : k = gw := (by simpa using hm); rw [← e]; exact hk)))
  have cT : Chg (gw :: fpv (vw a)) w2 (x2.setCell ⟨gw, a, none⟩ (.slice A2 (n + 1) c2)) := by
    rw [HK.out.2.2.2.2.1]
    exact (HS.out.2.2.1.mono (fun k hk => .inl (List.mem_cons_of_mem _ hk))).trans (cS.mono (fun k hk => .inl (by rw [List.mem_singleton.1 hk]; exact List.mem_cons_self ..)))
  have hf : ∀ k ∈ fpv (.slice A2 (n + 1) c2), k ∈ fpv (vw a) ∨ w2.heap.size ≤ k := fun k hk => by
    rw [HK.out.2.2.2.2.1]
    rcases HS.out.2.1 k hk with h | h
    · exact .inl h
    · exact .inr (Nat.le_trans HS.out.2.2.2.2 h)
  exact ⟨_, rfl, HK.out.2.2.1.turn ha cT (fun k hk => by
    rcases List.mem_cons.1 hk with e | e
    · exact .inl e
    · exact .inr (.inl e)) BZ OZ hf, cT, hf⟩
theorem lclone_sl (w : World) (g i n c B : Nat) (ys : List Int) (hu : SlI w B (.slice (some ⟨g, i, none⟩) n c) ys) (hB : B ≤ w.heap.size) (hl : ys.length ≤ 1000000) : Calls Tryz.prog 53 #[.slice (some ⟨g, i, none⟩) n c] w fun e w' => ∃ v', e = .returned v' ∧ OwnI 3 w' v' ys ∧ Chg [] w w' ∧ ∀ k ∈ fpv v', w.heap.size ≤ k := by
  have hnil : ∀ w : World, (binOp BinOp.eql 37 (.slice (some ⟨g, i, none⟩) n c) (.slice none 0 0)).run Tryz.prog w = .ok (.bool false) w := fun _ => by kernel_rfl
  have HU := Lib.hid (And.intro hu (And.intro hB hl)); clear hu hB hl
  go_enter Tryz.func53, Tryz.ntmps53
  go_wp2_with (at_builtin; refine wpList_cat_sl rfl _ _ rfl slZ rfl (OwnI.empty _ w) rfl (HU.out.1.chg ((Chg.refl [] w).alloc _) HU.out.2.1 (by simp)) (by have := HU.out.2.2; simp; omega) ?_; intro A' c' w2 O2 S2)
  go_ret
  rw [List.nil_append, List.length_nil, Nat.zero_add] at O2
  rw [List.length_nil, Nat.zero_add] at S2
  have one : ∀ k ∈ fpv (.slice (some ⟨w.heap.size, 0, none⟩) 0 0), k = w.heap.size := fun k hk => by simpa [fpv, Value.ownBlock, eq_comm] using hk
  refine ⟨_, rfl, O2, ((Chg.refl [] w).alloc (.cells #[] 3)).newS S2.c (fun k hk => by rw [one k hk]; exact Nat.le_refl _), fun k hk => ?_⟩
  rcases S2.f k hk with h | h
  · rw [one k h]; exact Nat.le_refl _
  · rw [World.size_alloc] at h; omega
theorem wt_wake_no (w : World) (gw : Nat) (vw : Nat → Value) (wt : Nat → List Int) (I : IsWt w gw vw wt) (a : Nat) (ha : a < 32) (h0 : wt a = []) :
    Calls Tryz.prog 288 #[.pointer (some ⟨gw, 0, none⟩), .int .i64 (a : Nat)] w (QuPost (.tuple #[.int .i64 0, .bool false]) w) := by
  have K1 := wt_place w a ha
  obtain ⟨Aa, ca, hv⟩ := (I.o a ha).slice
  have c0 : w.cell? ⟨gw, a, none⟩ = some (vw a) := I.b.cellv a (wtC_at _ ha)
  rw [hv, h0] at c0
  have c0 : w.cell? ⟨gw, a, none⟩ = some (.slice Aa 0 ca) := c0
  have d0 : (0 : Int) ≤ (a : Int) := by omega
  have d1 : (a : Int) < 32 := by omega
  have HK := Lib.hid K1; clear K1 I hv h0
  go_enter Tryz.func288, Tryz.ntmps288
  go_wp2_with fail
  refine HK.out.mono ?_
  rintro e w1 ⟨rfl, rfl⟩
  go_wp2_with fail
  go_ret2
  exact ⟨rfl, rfl⟩
theorem wt_wake (w : World) (gw : Nat) (vw : Nat → Value) (wt : Nat → List Int) (I : IsWt w gw vw wt) (a : Nat) (ha : a < 32) (x : Int) (r : List Int) (h0 : wt a = x :: r) (hl : r.length ≤ 1000) (hw : ∀ y ∈ wt a, WfI y) :
    Calls Tryz.prog 288 #[.pointer (some ⟨gw, 0, none⟩), .int .i64 (a : Nat)] w (WtPost gw vw a (updV wt a r) (.tuple #[.int .i64 x, .bool true]) w) := by
  have K1 := wt_place w a ha
  obtain ⟨Aa, ca, hv⟩ := (I.o a ha).slice
  have c0 : w.cell? ⟨gw, a, none⟩ = some (vw a) := I.b.cellv a (wtC_at _ ha)
  rw [hv] at c0
  have Oa := I.o a ha
  rw [hv] at Oa
  obtain ⟨n, hn⟩ : ∃ n, n = (wt a).length := ⟨_, rfl⟩
  obtain ⟨m, hm⟩ : ∃ m, m = r.length := ⟨_, rfl⟩
  have hnm : n = m + 1 := by rw [hn, h0, List.length_cons, hm]
  rw [← hn, hnm] at c0 hv Oa
  obtain ⟨b, hA, hx, -, -⟩ := Oa.cell (i := 0) (x := x) (by rw [h0]; rfl)
  subst hA
  have lb := lt_of_cellM hx
  have lw := I.b.lt
  have nb : b ∉ [gw] := fun hm => own_ne Oa.o I.b (by decide) (mem_fpv.1 (by rw [← List.mem_singleton.1 hm]; simp [fpv, Value.ownBlock]))
  have hcap : m + 1 ≤ ca := by have := Oa.cap.1; omega
  have SL := Oa.sl hw (by unfold maxLen; omega)
  have ST := SL.drop (i := 1) (c' := ca - 1) (m := m) (by omega) (by omega)
  rw [h0, List.drop_one, List.tail_cons] at ST
  have d0 : (0 : Int) ≤ (a : Int) := by omega
  have d1 : (a : Int) < 32 := by omega
  have d2 : ((((m + 1 : Nat) : Int)) == 0) = false := by rw [beq_eq_false_iff_ne]; omega
  have d3 : ¬ m + 1 = 0 := by omega
  have d4 : (0 : Int) < ((m + 1 : Nat) : Int) := by omega
  have d5 : (1 : Int) ≤ ((m + 1 : Nat) : Int) := by omega
  have d6 : (1 : Int) ≤ (m : Int) + 1 := by omega
  obtain ⟨o, ho, ST⟩ : ∃ o, (if ca = 1 then some (⟨b, 0, none⟩ : Addr) else some ⟨b, 1, none⟩) = some ⟨b, o, none⟩ ∧ SlI w w.heap.size (.slice (some ⟨b, o, none⟩) m (ca - 1)) r := by
    by_cases e : ca = 1
    · rw [if_pos e]
      have e1 : r = [] := by cases r with | nil => rfl | cons y r => rw [List.length_cons] at hm; omega
      have e2 : m = 0 := by rw [hm, e1]; rfl
      rw [e1, e2]
      exact ⟨0, rfl, SlI.none_ _ _ _ _⟩
    · rw [if_neg e]; exact ⟨1, rfl, ST⟩
  have HK := Lib.hid (And.intro K1 (And.intro I (And.intro hv ST))); clear K1 I Oa hv SL ST hw h0 hn hnm
  have Hm := Lib.hid hm; clear hm
  go_enter Tryz.func288, Tryz.ntmps288
  go_wp2_with fail
  refine HK.out.1.mono ?_
  rintro e w1 ⟨rfl, rfl⟩
  go_upto_region 4 with fail
  refine wp_region_takes (fuel := 3) 12 (fun w' => Chg [] w1 w') [0, 1, 2, 3, 4, 5, 6, 7, 8, 10, 11] (by kernel_rfl) (by kernel_rfl) (fun _ _ _ _ _ h => h) ((Chg.refl [] w1).drew) ?_
  simp only [List.filterMap_cons, List.filterMap_nil, qGa, qGb]
  iterate 11
    refine wpTake_step (fun K hK => ?_)
    rw [if_pos (by rfl)]
    refine ⟨?_, fun w' hS' => ?_, ?_⟩
    rotate_left 1
    focus
      have y0 := hS'.cellv lw (by simp) c0
      go_simp
      try with_reducible rfl
      done
    simp only [Act.put, qSa, qSb, qSc]
    refine hK _ ?_
    clear hK K
  refine wpTake_nil ?_
  generalize hx0 : w1.drew = x0
  have D0 : Chg [] w1 x0 := by rw [← hx0]; exact (Chg.refl [] w1).drew
  clear hx0
  refine wpAnyS_ready (rs := [9]) (by kernel_rfl) (by simp) ?_
  refine AllReadyS.o (fun K hK => ?_)
  rw [if_pos (by rfl)]
  go_simp
  go_at_call 53
  refine (lclone_sl x0 b o m (ca - 1) _ r (HK.out.2.2.2.chg D0 (Nat.le_refl _) (by simp)) D0.size (by omega)).mono ?_
  rintro e x1 ⟨v1, rfl, O1, c1, n1⟩
  obtain ⟨A1, k1, rfl⟩ := O1.slice
  dsimp only
  have D1 := D0.trans c1
  refine hK _ _ (D1) ?_
  clear hK K
  try simp only [Act.put, qSa, qSb, qSc]
  refine wpAnyS_tail 12 2 (by kernel_rfl) rfl ?_
  simp only [qDa, qDb]
  have B2 := D1.blk HK.out.2.1.b (by simp)
  have k0 : x1.cell? ⟨gw, a, none⟩ = some (vw a) := B2.cellv a (wtC_at _ ha)
  rw [HK.out.2.2.1] at k0
  have k2 := B2.frozen a
  have HS := Lib.hid (And.intro O1 (And.intro n1 (And.intro D1 (And.intro B2 D0.size)))); clear O1 n1 D1 B2 D0 c0 c1 hx
  rw [← Hm.out] at HS
  try rw [← Hm.out]
  go_wp2_with fail
  go_ret2
  have cS : Chg [gw] x1 (x1.setCell ⟨gw, a, none⟩ (.slice A1 m k1)) := (Chg.refl [gw] x1).setCell (.inl (by simp)) _
  have BZ : Blk (x1.setCell ⟨gw, a, none⟩ (.slice A1 m k1)) gw 192 (wtC (updV vw a (.slice A1 m k1))) := HS.out.2.2.2.1.setv a _ (wtC_set vw ha _)
  have OZ := HS.out.1.chg cS (fun k hk hm => own_ne HS.out.1.o HS.out.2.2.2.1 (by decide) (mem_fpv.1 (by have e : k = gw := (by simpa using hm); rw [← e]; exact hk)))
  have cT : Chg (gw :: fpv (vw a)) w1 (x1.setCell ⟨gw, a, none⟩ (.slice A1 m k1)) := (HS.out.2.2.1.mono (by simp)).trans (cS.mono (fun k hk => .inl (by rw [List.mem_singleton.1 hk]; exact List.mem_cons_self ..)))
  have hf : ∀ k ∈ fpv (.slice A1 m k1), k ∈ fpv (vw a) ∨ w1.heap.size ≤ k := fun k hk => .inr (Nat.le_trans HS.out.2.2.2.2 (HS.out.2.1 k hk))
  exact ⟨_, rfl, HK.out.2.1.turn ha cT (fun k hk => by
    rcases List.mem_cons.1 hk with e | e
    · exact .inl e
    · exact .inr (.inl e)) BZ OZ hf, cT, hf⟩
end Go.Proofs.YtepnlcemlnkpdaaGreatDoor
