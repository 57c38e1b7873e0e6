/- MachineFaults: who does what can't be done is dead at that instruction, and the others go on to their ends. (Printed by wip/genmn6.py.) -/
import Derived.Test.YtepnlcemlnkpdaaGreatDoorMn4J
namespace Go.Proofs.YtepnlcemlnkpdaaGreatDoor
set_option maxHeartbeats 16000000
set_option maxRecDepth 100000
open Go.RowKit Go.Maps
theorem run_catB {α : Type} {f : α → List Value} {sz by_ : Nat} {P : Program} {T E : TypeId} {w : World} {v : Value} {xs ys : List α} (hf : ∀ x, (f x).length = sz) (h1 : ∀ x, ∀ u ∈ f x, u.oneCell' = true) (t : TyS P T E sz by_) (ty : TypeId) (h : OwnG f sz E w v xs) {gE c : Nat} (B : Blk w gE E (ys.flatMap f).toArray) (hl : xs.length + ys.length ≤ 100000000) :
    ∃ v' w', (Builtin.append_ #[T, T] ty #[v, .slice (some ⟨gE, 0, none⟩) ys.length c]).run P w = .ok v' w' ∧ OwnG f sz E w' v' (xs ++ ys) ∧ Stp (fpv v) (fpv v') w w' := by
  obtain ⟨z, hz0, hzc⟩ := t.i
  obtain ⟨i, hi, hz, hsz, hb⟩ := info_parts hz0
  have hb2 := t.b
  have hm : (xs.length + ys.length) * by_ ≤ 140737488355328 := by
    have := Nat.mul_le_mul hl hb2
    omega
  obtain ⟨v', w', hrun, g1, g2, g3, g4⟩ := run_append_own_at (P := P) w 0 T ty E i z sz by_ t.s hi hz hsz hb hzc t.p v xs.length (xs.flatMap f) h.o ⟨gE, 0, none⟩ ys.length c (ys.flatMap f) (by rw [flat_len hf])
    (fun j u hu => by rw [WideShapes.add_plain, Nat.zero_add, B.cell]; simpa using hu)
    (fun u hu => by obtain ⟨x, -, hx⟩ := List.mem_flatMap.1 hu; exact h1 x u hx) (by unfold maxLen; omega) hm (Nat.zero_le _)
  refine ⟨v', w', hrun, ⟨?_⟩, ⟨(Chg.refl (fpv v) w).grown g2 fun k hk => .inl (mem_fpv.2 hk), fun k hk => ?_⟩⟩
  · rw [List.flatMap_append, List.length_append]; exact g1
  · rcases g4 with h4 | h4
    · rw [mem_fpv, h4] at hk; exact .inl (mem_fpv.2 hk)
    · rw [mem_fpv, h4] at hk
      injection hk with hk
      exact .inr (by omega)
theorem wpList_catB {α : Type} {f : α → List Value} {sz by_ : Nat} {P : Program} {T E : TypeId} {w : World} {v : Value} {xs : List α} {ops : Array Oper} {rest : List Oper} {op : Oper} {a : Act} {Q : Exit → Act → World → Prop} {cs : Array Value} (hf : ∀ x, (f x).length = sz) (h1 : ∀ x, ∀ u ∈ f x, u.oneCell' = true) (t : TyS P T E sz by_) (ys : List α) (n m : Nat) {gE c : Nat} (hn : xs.length + ys.length = n) (hm : ys.length = m) (hcs : cs = (ys.flatMap f).toArray) (hgd : op.guard = none) (s y : Operand)
    (hop : op.op = .call { callee := .builtin .append, args := #[s, y], argTypes := #[T, T] }) (hs : a.eval s = v) (h : OwnG f sz E w v xs) (hx : a.eval y = .slice (some ⟨gE, 0, none⟩) m c) (B : Blk w gE E cs) (hl : n ≤ 100000000)
    (hK : ∀ A' c' w', OwnG f sz E w' (.slice A' n c') (xs ++ ys) → Stp (fpv v) (fpv (.slice A' n c')) w w' → wpList P ops Q rest (a.put op.dst (.slice A' n c')) w') : wpList P ops Q (op :: rest) a w := by
  subst hcs hm
  obtain ⟨v', w', hr, h2, h3⟩ := run_catB hf h1 t op.type h (c := c) B (by omega)
  obtain ⟨A', c', e⟩ := h2.slice
  rw [List.length_append, hn] at e
  subst e
  refine wpList_plain hgd fun K' hK' => ?_
  unfold Oper.wp execOp
  simp only [hop, resolve, invoke, builtin, Sem.run_bind, Sem.run_pure, Result.andThen_ok, List.map_toArray, List.map_cons, List.map_nil, hs, hx, hr]
  exact hK' _ _ (hK A' c' w' h2 h3)
theorem step_catB {α : Type} {f : α → List Value} {sz by_ : Nat} {P : Program} {T E : TypeId} {w : World} {v : Value} {xs : List α} {ops : Array Oper} {op : Oper} {a : Act} {K : Act → World → Prop} {Q : Exit → Act → World → Prop} {E' : Prop} {cs : Array Value} (hf : ∀ x, (f x).length = sz) (h1 : ∀ x, ∀ u ∈ f x, u.oneCell' = true) (t : TyS P T E sz by_) (ys : List α) (n m : Nat) {gE c : Nat} (hn : xs.length + ys.length = n) (hm : ys.length = m) (hcs : cs = (ys.flatMap f).toArray) (hgd : op.guard = none) (s y : Operand)
    (hop : op.op = .call { callee := .builtin .append, args := #[s, y], argTypes := #[T, T] }) (hs : a.eval s = v) (h : OwnG f sz E w v xs) (hx : a.eval y = .slice (some ⟨gE, 0, none⟩) m c) (B : Blk w gE E cs) (hl : n ≤ 100000000)
    (hK : ∀ A' c' w', OwnG f sz E w' (.slice A' n c') (xs ++ ys) → Stp (fpv v) (fpv (.slice A' n c')) w w' → K (a.put op.dst (.slice A' n c')) w') : if Region.wanted op (yielded ops a.tmps) = true then Oper.wp P op a w K Q else E' := by
  subst hcs hm
  have hw : Region.wanted op (yielded ops a.tmps) = true := by simp [Region.wanted, hgd]
  rw [if_pos hw]
  obtain ⟨v', w', hr, h2, h3⟩ := run_catB hf h1 t op.type h (c := c) B (by omega)
  obtain ⟨A', c', e⟩ := h2.slice
  rw [List.length_append, hn] at e
  subst e
  unfold Oper.wp execOp
  simp only [hop, resolve, invoke, builtin, Sem.run_bind, Sem.run_pure, Result.andThen_ok, List.map_toArray, List.map_cons, List.map_nil, hs, hx, hr]
  exact hK A' c' w' h2 h3
def fPre (i : Nat) : List Ins := (List.range i).map (fun i => ⟨8, 1 + i % 2, 0, 0⟩)
theorem fPre_len (i : Nat) : (fPre i).length = i := by simp [fPre]
theorem fPre_succ (i : Nat) : fPre i ++ [⟨8, 1 + i % 2, 0, 0⟩] = fPre (i + 1) := by unfold fPre; rw [List.range_succ, List.map_append]; rfl
def AgRel (f : Nat → List Ins) (w1 : World) (k : Nat) (gk : Nat) (v idx : Value) (w : World) : Prop := ∃ (i : Nat) (A : Option Addr) (c : Nat), gk + i = k + 1 ∧ i ≤ k ∧ idx = .int .i64 (i : Nat) ∧ v = .slice A i c ∧ OwnG insC 4 27 w (.slice A i c) (f i) ∧ (∀ b ∈ fpv (.slice A i c), w1.heap.size ≤ b) ∧ Chg [] w1 w
def FcRel (w7 : World) (cms : List ComA) (gk : Nat) (fv ev idx : Value) (w : World) : Prop := ∃ j n1 n2 : Nat, gk + j = cms.length + 1 ∧ j ≤ cms.length ∧ idx = .int .i64 (j : Nat) ∧ fv = .int .i64 (n1 : Nat) ∧ ev = .int .i64 (n2 : Nat) ∧ n1 ≤ j ∧ n2 ≤ j ∧ n1 = (cms.take j).countP (fun c => c.flt) ∧ n2 = (cms.take j).countP (fun c => decide (c.op = 0)) ∧ Chg [] w7 w
theorem cnt_take {p : ComA → Bool} {cms : List ComA} {j : Nat} {c : ComA} (h : cms[j]? = some c) : (cms.take (j + 1)).countP p = (cms.take j).countP p + if p c = true then 1 else 0 := by
  rw [List.take_add_one, h, List.countP_append]
  simp
theorem faults_any (ps wo : Int) (b1 b2 : Nat) (a1 a2 : Int) (w : World) : Calls Tryz.prog 4 #[.agg #[.int .i64 ps, .int .i64 wo, .float .f64 b1, .float .f64 b2], .int .i64 a1, .int .i64 a2] w (NwPost (.bool true) w) := by
  obtain ⟨n1, hn1, en1⟩ := mod28 a1 10 (by omega) (by omega)
  have en1 : wrap64 ((IntKind.u64.wrap a1).tmod 10) = n1 := en1
  obtain ⟨a, ha, en2⟩ := mod28 a2 41 (by omega) (by omega)
  have en2 : wrap64 ((IntKind.u64.wrap a2).tmod 41) = a := en2
  go_enter Tryz.func4, Tryz.ntmps4
  go_upto_region 1 with fail
  obtain ⟨w1, hw1⟩ : ∃ w1, w1 = w.alloc (.cells #[.int .i64 ps, .int .i64 wo, .float .f64 b1, .float .f64 b2] 24) := ⟨_, rfl⟩
  obtain ⟨gC, hgC⟩ : ∃ g, g = w.heap.size := ⟨_, rfl⟩
  rw [← hw1, ← hgC]
  have BC : Blk w1 gC 24 #[.int .i64 ps, .int .i64 wo, .float .f64 b1, .float .f64 b2] := by rw [hw1, hgC]; exact Blk.new w _ _
  have c01 : Chg [] w w1 := by rw [hw1]; exact (Chg.refl [] w).alloc _
  have H1 := Lib.hid (And.intro BC c01); clear c01 BC hw1 hgC
  go_upto_region 2 with fail
  rw [en2]
  clear en1 en2
  obtain ⟨k, hk⟩ : ∃ k, k = n1 + 1 := ⟨_, rfl⟩
  have hs1 : (1 : Int) + (n1 : Nat) = (k : Int) := by omega
  rw [hs1]
  have bk : 1 ≤ k ∧ k ≤ 10 := by omega
  have ba : a ≤ 40 := by omega
  clear hs1 hk hn1 ha
  go_wp2_with fail
  go_loopg [9, 10] (a + 1) (fun gk v idx wr => AgRel (fun i => List.replicate i ⟨4, 2, 3, 0⟩) w1 a gk v idx wr)
  case atStart => exact ⟨0, none, 0, by omega, by omega, rfl, rfl, OwnG.nil _ _, fun b hb => by simp [fpv, Value.ownBlock] at hb, Chg.refl [] w1⟩
  case round =>
    obtain ⟨i, A, c, hgk, hi, rfl, rfl, O, hF, cW⟩ := hrel
    by_cases hlt : i < a
    · have d1 : (i : Int) < (a : Int) := by omega
      have HO := Lib.hid (And.intro hF cW); clear hF cW
      have hlen : (List.replicate i (⟨4, 2, 3, 0⟩ : Ins)).length = i := List.length_replicate
      go_wp2_with (at_builtin; refine wpList_push_g insC_len insC_one tyI ⟨4, 2, 3, 0⟩ rfl rfl _ _ rfl rfl O rfl (by rw [hlen]; omega) ?_; rw [hlen]; intro A' c' w9 O9 S9)
      have D9 := HO.out.2.newS S9.c HO.out.1
      have F9 : ∀ b ∈ fpv (.slice A' (i + 1) c'), w1.heap.size ≤ b := fun b hb => by
        rcases S9.f b hb with h | h
        · exact HO.out.1 b h
        · exact Nat.le_trans HO.out.2.size h
      have e9 : List.replicate i (⟨4, 2, 3, 0⟩ : Ins) ++ [⟨4, 2, 3, 0⟩] = List.replicate (i + 1) ⟨4, 2, 3, 0⟩ := by rw [List.replicate_succ']
      rw [e9] at O9
      have H9 := Lib.hid (And.intro O9 (And.intro F9 D9)); clear O9 F9 D9 S9 e9 O hlen
      go_roundg (a - i)
      case measure => omega
      case rel => exact ⟨i + 1, A', c', by omega, by omega, by go_num, by go_num, H9.out.1, H9.out.2.1, H9.out.2.2⟩
    · have d1 : ¬ (i : Int) < (a : Int) := by omega
      have ei : a = i := by omega
      subst ei
      have HO := Lib.hid (And.intro hF cW); clear hF cW
      have hlen : (List.replicate a (⟨4, 2, 3, 0⟩ : Ins)).length = a := List.length_replicate
      have O1 := O.chg0 ((Chg.refl [] wr).alloc (.cells #[.int .i64 2, .int .i64 1, .int .i64 9, .int .i64 0, .int .i64 7, .int .i64 0, .int .i64 0, .int .i64 0] 27))
      go_wp2_with (at_builtin; refine wpList_catB insC_len insC_one tyI [⟨2, 1, 9, 0⟩, ⟨7, 0, 0, 0⟩] (a + 2) 2 (by rw [hlen]; rfl) rfl rfl rfl _ _ rfl rfl O1 rfl (Blk.new _ _ _) (by omega) ?_; intro AB cB w9 O9 S9)
      have D9 : Chg [] w w9 := (H1.out.2.trans (HO.out.2.trans ((Chg.refl [] wr).alloc _))).newS S9.c (fun b hb => Nat.le_trans H1.out.2.size (HO.out.1 b hb))
      have D19 : Chg [] w1 w9 := (HO.out.2.trans ((Chg.refl [] wr).alloc _)).newS S9.c HO.out.1
      have O9 : OwnG insC 4 27 w9 (.slice AB (a + 2) cB) (fBad a) := O9
      have H9 := Lib.hid (And.intro O9 (And.intro D9 (D19.blk H1.out.1 (by simp)))); clear O9 D9 D19 S9 O O1 hlen
      go_loopg [11, 12] (k + 1) (fun gk v idx wr => AgRel fPre w9 k gk v idx wr)
      case atStart => exact ⟨0, none, 0, by omega, by omega, rfl, rfl, OwnG.nil _ _, fun b hb => by simp [fpv, Value.ownBlock] at hb, Chg.refl [] w9⟩
      case round =>
      obtain ⟨i, A, c, hgk, hi, rfl, rfl, O, hF, cW⟩ := hrel
      by_cases hlt : i < k
      · have d2 : (i : Int) < (k : Int) := by omega
        have HO2 := Lib.hid (And.intro hF cW); clear hF cW
        have hlen := fPre_len i
        obtain ⟨r, hr⟩ : ∃ r, r = i % 2 := ⟨_, rfl⟩
        obtain ⟨s, hs⟩ : ∃ s, s = 1 + r := ⟨_, rfl⟩
        have em : (i : Int).tmod 2 = (r : Int) := by rw [hr, Int.tmod_eq_emod_of_nonneg (by omega)]; omega
        have es : (1 : Int) + (r : Int) = (s : Int) := by omega
        have bs : s ≤ 2 := by omega
        have hs2 := Lib.hid (show s = 1 + i % 2 by omega)
        clear hr hs
        go_wp2_with (at_builtin; refine wpList_push_g insC_len insC_one tyI ⟨8, s, 0, 0⟩ rfl rfl _ _ rfl rfl O rfl (by rw [hlen]; omega) ?_; rw [hlen]; intro A' c' w9 O9 S9)
        have D9 := HO2.out.2.newS S9.c HO2.out.1
        have F9 : ∀ b ∈ fpv (.slice A' (i + 1) c'), _ ≤ b := fun b hb => by
          rcases S9.f b hb with h | h
          · exact HO2.out.1 b h
          · exact Nat.le_trans HO2.out.2.size h
        rw [hs2.out, fPre_succ] at O9
        have H9 := Lib.hid (And.intro O9 (And.intro F9 D9)); clear O9 F9 D9 S9 O hlen em es
        go_roundg (k - i)
        case measure => omega
        case rel => exact ⟨i + 1, A', c', by omega, by omega, by go_num, by go_num, H9.out.1, H9.out.2.1, H9.out.2.2⟩
      · have d2 : ¬ (i : Int) < (k : Int) := by omega
        have ei : i = k := by omega
        subst ei
        have HO2 := Lib.hid (And.intro O (And.intro hF cW)); clear O hF cW
        go_upto_region 13 with fail
        obtain ⟨w8, hw8⟩ : ∃ x, x = wr := ⟨_, rfl⟩
        subst hw8
        have O := HO2.out.1
        have OB := H9.out.1.chg0 HO2.out.2.2
        have BC8 := HO2.out.2.2.blk H9.out.2.2 (by simp)
        have hFv : ∀ b ∈ fpv (.slice A i c), b < w8.heap.size := fun b hb => O.lt hb
        have hAp : ∀ k ∈ fpv (.slice AB (a + 2) cB), k ∉ fpv (.slice A i c) := fun k hk hm => by have := H9.out.1.lt hk; have := HO2.out.2.1 k hm; omega
        have cw8 : Chg [] w w8 := H9.out.2.1.trans HO2.out.2.2
        have hF0 : ∀ b ∈ fpv (.slice A i c), w.heap.size ≤ b := fun b hb => Nat.le_trans H9.out.2.1.size (HO2.out.2.1 b hb)
        have t0 : w8.cell? ⟨gC, 0, none⟩ = some (.int .i64 ps) := BC8.cellv 0 rfl
        have t1 : w8.cell? ⟨gC, 1, none⟩ = some (.int .i64 wo) := BC8.cellv 1 rfl
        have t2 : w8.cell? ⟨gC, 2, none⟩ = some (.float .f64 b1) := BC8.cellv 2 rfl
        have t3 : w8.cell? ⟨gC, 3, none⟩ = some (.float .f64 b2) := BC8.cellv 3 rfl
        have l0 := BC8.lt
        have nC : gC ∉ fpv (.slice A i c) := O.ne_blk BC8 (by decide)
        have hlen := fPre_len i
        have H8 := Lib.hid (And.intro hF0 cw8); clear hF0 cw8 BC8
        refine wp_region_takes (fuel := 7) 11 (fun w' => Chg (fpv (.slice A i c)) w8 w') [0, 1, 2, 5, 6, 7] (by kernel_rfl) (by kernel_rfl) (fun _ _ _ _ _ h => h) (((Chg.refl [] w8).drew.mono (by simp))) ?_
        simp only [List.filterMap_cons, List.filterMap_nil, qGa, qGb]
        iterate 6
          refine wpTake_step (fun K hK => ?_)
          rw [if_pos (by rfl)]
          refine ⟨?_, fun w' hS' => ?_, ?_⟩
          rotate_left 1
          focus
            have j0 := hS'.cellv l0 nC t0
            have j1 := hS'.cellv l0 nC t1
            have j2 := hS'.cellv l0 nC t2
            have j3 := hS'.cellv l0 nC t3
            go_simp
            try with_reducible rfl
            done
          simp only [Act.put, qSa, qSb, qSc]
          refine hK _ ?_
          clear hK K
        refine wpTake_nil ?_
        generalize hx0 : w8.drew = x0
        have D0 : Chg [] w8 x0 := by rw [← hx0]; exact (Chg.refl [] w8).drew
        clear hx0
        refine wpAnyS_ready (rs := [3, 8]) (by kernel_rfl) (by simp) ?_
        refine AllReadyS.cons (by simp only [qGc, qGa, qGb]; rfl) (fun K hK => ?_) ?_
        · have O := O.chg0 D0
          have OB := OB.chg0 D0
          rw [if_pos (by rfl)]
          go_simp
          obtain ⟨gE, hgE⟩ : ∃ g, g = x0.heap.size := ⟨_, rfl⟩
          obtain ⟨x1, hx1⟩ : ∃ x, x = x0.alloc (.cells #[.int .i64 0, .int .i64 0, .int .i64 0, .int .i64 0] 27) := ⟨_, rfl⟩
          rw [← hx1, ← hgE]
          have BE : Blk x1 gE 27 #[.int .i64 0, .int .i64 0, .int .i64 0, .int .i64 0] := by rw [hx1, hgE]; exact Blk.new _ _ _
          have cN : Chg [] x0 x1 := by rw [hx1]; exact (Chg.refl [] x0).alloc _
          have nE : w8.heap.size ≤ gE := by have := D0.size; omega
          clear hx1 hgE
          have D1 : Chg (fpv (.slice A i c)) w8 x1 := (D0.mono (fun k hk => by first | exact .inl hk | simp at hk) : Chg (fpv (.slice A i c)) w8 x0).trans (cN.mono (by simp))
          have O := O.chg0 cN
          have OB := OB.chg0 cN
          try have BY := cN.blk BY (by simp)
          try have BF := cN.blk BF (by simp)
          clear cN
          refine hK _ _ (D1) ?_
          clear hK K
          try simp only [Act.put, qSa, qSb, qSc]
          refine wpAnyS_ready (rs := [4, 8]) (by kernel_rfl) (by simp) ?_
          refine AllReadyS.cons (by simp only [qGc, qGa, qGb]; rfl) (fun K hK => ?_) ?_
          · refine step_catB insC_len insC_one tyI [⟨0, 0, 0, 0⟩] (i + 1) 1 (by rw [hlen]; rfl) rfl (by rfl) (by rfl) _ _ (by rfl) (by rfl) O (by rfl) BE (by omega) ?_
            intro A2 c2 x2 O2 S2
            have D2 : Chg (fpv (.slice A i c)) w8 x2 := (D1.mono (fun k hk => by first | exact .inl hk | simp at hk) : Chg (fpv (.slice A i c)) w8 x1).trans S2.c
            have OB := OB.chg S2.c hAp
            have BE := S2.c.blk BE (fun hm => by have := hFv _ hm; omega)
            try have BY := S2.c.blk BY (fun hm => by have := hFv _ hm; omega)
            clear O
            have O := O2
            clear O2 S2
            refine hK _ _ (D2) ?_
            clear hK K
            try simp only [Act.put, qSa, qSb, qSc]
            refine wpAnyS_ready (rs := [8]) (by kernel_rfl) (by simp) ?_
            refine AllReadyS.o (fun K hK => ?_)
            rw [if_pos (by rfl)]
            go_simp
            obtain ⟨gY, hgY⟩ : ∃ g, g = x2.heap.size := ⟨_, rfl⟩
            obtain ⟨x3, hx3⟩ : ∃ x, x = x2.alloc (.cells #[.int .i64 9, .int .i64 0, .int .i64 0, .int .i64 0, .int .i64 9, .int .i64 0, .int .i64 0, .int .i64 0] 27) := ⟨_, rfl⟩
            rw [← hx3, ← hgY]
            have BY : Blk x3 gY 27 #[.int .i64 9, .int .i64 0, .int .i64 0, .int .i64 0, .int .i64 9, .int .i64 0, .int .i64 0, .int .i64 0] := by rw [hx3, hgY]; exact Blk.new _ _ _
            have cN : Chg [] x2 x3 := by rw [hx3]; exact (Chg.refl [] x2).alloc _
            have nY : w8.heap.size ≤ gY := by have := D2.size; omega
            clear hx3 hgY
            have D3 : Chg (fpv (.slice A i c)) w8 x3 := (D2.mono (fun k hk => by first | exact .inl hk | simp at hk) : Chg (fpv (.slice A i c)) w8 x2).trans (cN.mono (by simp))
            have O := O.chg0 cN
            have OB := OB.chg0 cN
            try have BE := cN.blk BE (by simp)
            try have BF := cN.blk BF (by simp)
            clear cN
            refine hK _ _ (D3) ?_
            clear hK K
            try simp only [Act.put, qSa, qSb, qSc]
            refine wpAnyS_ready (rs := [9]) (by kernel_rfl) (by simp) ?_
            refine AllReadyS.o (fun K hK => ?_)
            rw [if_pos (by rfl)]
            go_simp
            obtain ⟨gF, hgF⟩ : ∃ g, g = x3.heap.size := ⟨_, rfl⟩
            obtain ⟨x4, hx4⟩ : ∃ x, x = x3.alloc (.cells #[.slice A2 (i + 1) c2, .slice AB (a + 2) cB, .slice (some ⟨gY, 0, none⟩) 2 2] 28) := ⟨_, rfl⟩
            rw [← hx4, ← hgF]
            have BF : Blk x4 gF 28 #[.slice A2 (i + 1) c2, .slice AB (a + 2) cB, .slice (some ⟨gY, 0, none⟩) 2 2] := by rw [hx4, hgF]; exact Blk.new _ _ _
            have cN : Chg [] x3 x4 := by rw [hx4]; exact (Chg.refl [] x3).alloc _
            have nF : w8.heap.size ≤ gF := by have := D3.size; omega
            clear hx4 hgF
            have D4 : Chg (fpv (.slice A i c)) w8 x4 := (D3.mono (fun k hk => by first | exact .inl hk | simp at hk) : Chg (fpv (.slice A i c)) w8 x3).trans (cN.mono (by simp))
            have O := O.chg0 cN
            have OB := OB.chg0 cN
            try have BE := cN.blk BE (by simp)
            try have BY := cN.blk BY (by simp)
            clear cN
            refine hK _ _ (D4) ?_
            clear hK K
            try simp only [Act.put, qSa, qSb, qSc]
            refine wpAnyS_ready (rs := [10]) (by kernel_rfl) (by simp) ?_
            refine AllReadyS.o (fun K hK => ?_)
            rw [if_pos (by rfl)]
            go_simp
            go_at_call 7
            refine (one_ok x4 1 _ _ _ _ rfl).mono ?_
            rintro e x5 ⟨rfl, cN⟩
            dsimp only
            have D5 : Chg (fpv (.slice A i c)) w8 x5 := (D4.mono (fun k hk => by first | exact .inl hk | simp at hk) : Chg (fpv (.slice A i c)) w8 x4).trans (cN.mono (by simp))
            have O := O.chg0 cN
            have OB := OB.chg0 cN
            have BE := cN.blk BE (by simp)
            have BY := cN.blk BY (by simp)
            have BF := cN.blk BF (by simp)
            clear cN
            refine hK _ _ (D5) ?_
            clear hK K
            try simp only [Act.put, qSa, qSb, qSc]
            refine wpAnyS_tail 11 2 (by kernel_rfl) rfl ?_
            simp only [qDa, qDb]
            obtain ⟨x4, hx4⟩ : ∃ x, x = x5 := ⟨_, rfl⟩
            rw [← hx4] at O OB BE BY BF D5 ⊢
            clear hx4
            have PR : PrR x4 x4.heap.size (.slice (some ⟨gF, 0, none⟩) 3 3) [.slice A2 (i + 1) c2, .slice AB (a + 2) cB, .slice (some ⟨gY, 0, none⟩) 2 2] (fFs i a) := PrR.three BF (O.rd insC_len) (OB.rd insC_len) (rdG_blk (xs := fThird) insC_len BY rfl rfl)
            have cw4 : Chg [] w x4 := H8.out.2.newS D5 (fun b hb => H8.out.1 b hb)
            clear D0
            have KZ : Calls Tryz.prog 6 #[.agg #[.int .i64 ps, .int .i64 wo, .float .f64 b1, .float .f64 b2], .agg #[.int .i64 1, .slice (some ⟨gF, 0, none⟩) 3 3]] x4 (BothPost ps 1 b1 b2 (fFs i a) (.slice (some ⟨gF, 0, none⟩) 3 3) x4) := both_ok x4 ps wo 1 b1 b2 (some ⟨gF, 0, none⟩) 3 _ (fFs i a) PR (okFaults bk.2 ba) (by unfold sumL; simp [fFs, fFirst, fBad, fThird]; omega)
            have HZ := Lib.hid (And.intro cw4 (And.intro PR KZ))
            clear cw4 KZ PR BE BY BF O OB t0 t1 t2 t3 l0 nC hlen H8 hFv hAp nE nY nF
            go_wp2_with fail
            refine (HZ.out.2.2).mono ?_
            intro e x5 hZ
            obtain ⟨P, nn, -, hPl, hPh, hn4, hn19, gW, gA, gX, gg, gs, gl, vg, p, m, rfl, FS⟩ := hZ
            obtain ⟨s0, J0⟩ := GJ.start (J := FJ i a) FS hPl (by omega) (fun X h1 h2 h3 h4 h5 h6 h7 h8 => FJ.start h1 h2 h3 h4 h5 h6 h7 h8)
            have RJ := FJ.run (k := i) (a := a) (gW := gW) (wo := ((nn * 64 : Nat) : Int)) (b1 := b1) (b2 := b2) (va := .slice (some ⟨gA, 0, none⟩) 1 1) bk.2 ba HZ.out.2.1 hPl (by omega) (5000 * P) (by omega)
            obtain ⟨gm, f0, f2, l0, -⟩ := RJ.cells 0 s0 x5 J0
            have KR : Calls Tryz.prog 8 #[.pointer (some ⟨gW, 0, none⟩), .int .i64 5000] x5 (RunQ (5000 * P) _) := run_ok x5 gW P 5000 _ s0 RJ hPl (by omega) (by omega) J0
            have HR := Lib.hid KR
            clear KR RJ J0 FS hPl hPh hn4 hn19
            go_wp2_with fail
            refine (HR.out).mono ?_
            rintro e x6 ⟨i2, s, rfl, ⟨p6, m6, a6, X6, loc6, cP6, cV6, B6, R6, L6, C6, -, -, -, hJ, -, -, -, -, -⟩, -⟩
            have KS := fun (w' : World) (c : Chg [] x6 w') => m_status (B6.M.chg0 c) (by rw [C6.sl]; exact C6.ng) (by rw [C6.tm]; simp)
            have hst := hJ.stV R6 L6 C6
            have hcf := hJ.cf
            have hc7 := hJ.c7
            have hdn := fun h => hJ.done bk.2 h
            have C6l := C6.cl
            have cx6 : Chg [] x4 x6 := B6.M.c
            have m0 : x6.cell? ⟨gW, 0, none⟩ = some (.pointer (some ⟨p6.gm, 0, none⟩)) := B6.W.cellv 0 rfl
            have lW := B6.W.lt
            clear f0 f2 l0 HR R6 L6 hJ C6
            rcases hst with e0 | ⟨e3, hall⟩
            · rw [e0] at KS
              have H6 := Lib.hid (And.intro KS cx6); clear KS cx6 B6 e0 hcf hc7 hdn
              go_wp2_with fail
              refine (H6.out.1 _ (Chg.refl [] x6)).mono ?_
              rintro e x7 ⟨rfl, k7, hx7⟩
              have c67 : Chg [] x6 x7 := by rw [hx7]; exact (Chg.refl [] x6).drewN _
              have H7 := Lib.hid c67; clear c67 hx7
              go_wp2_with fail
              refine (told28_yes x7).mono ?_
              rintro e x8 ⟨rfl, c78⟩
              have H8 := Lib.hid c78; clear c78
              go_wp2_with fail
              go_ret
              exact ⟨rfl, ((HZ.out.1.trans H6.out.2).trans H7.out).trans H8.out⟩
            · rw [e3] at KS
              obtain ⟨dn1, dn2⟩ := hdn hall
              obtain ⟨L, hL⟩ : ∃ L, L = m6.cms.length := ⟨_, rfl⟩
              have bL : L ≤ 100000000 := by rw [hL]; exact C6l
              have H6 := Lib.hid (And.intro B6 (And.intro KS (And.intro cx6 (And.intro (And.intro hcf hc7) (And.intro (And.intro dn1 dn2) hL))))); clear KS cx6 B6 e3 hcf hc7 dn1 dn2 hdn hall hL C6l
              go_wp2_with fail
              refine (H6.out.2.1 _ (Chg.refl [] x6)).mono ?_
              rintro e x7 ⟨rfl, k7, hx7⟩
              have c67 : Chg [] x6 x7 := by rw [hx7]; exact (Chg.refl [] x6).drewN _
              have m0 := c67.cellv lW (by simp) m0
              have KS := H6.out.2.1 x7 c67
              have H7 := Lib.hid (And.intro c67 KS); clear hx7 c67 KS
              go_wp2_with fail
              refine (H7.out.2).mono ?_
              rintro e x8 ⟨rfl, k8, hx8⟩
              have c78 : Chg [] x7 x8 := by rw [hx8]; exact (Chg.refl [] x7).drewN _
              have c68 := Lib.hid (H7.out.1.trans c78)
              clear hx8 c78 m0
              go_wp2_with fail
              go_loopg [14, 15, 16] (L + 1) (fun gk fv ev idx wr => FcRel x8 m6.cms gk fv ev idx wr)
              case atStart => exact ⟨0, 0, 0, by have := H6.out.2.2.2.2.2; omega, by omega, rfl, rfl, rfl, by omega, by omega, rfl, rfl, Chg.refl [] x8⟩
              case round =>
                obtain ⟨j, q1, q2, hgk, hj, rfl, rfl, rfl, bq1, bq2, hq1, hq2, cW⟩ := hrel
                have c6r := c68.out.trans cW
                have Br := H6.out.1.chg0 c6r
                have m0 : wr.cell? ⟨gW, 0, none⟩ = some (.pointer (some ⟨p6.gm, 0, none⟩)) := Br.W.cellv 0 rfl
                have KC := m_commits Br.M
                rw [← H6.out.2.2.2.2.2] at KC hgk hj
                by_cases hlt : j < L
                · obtain ⟨cc, hcc⟩ : ∃ cc, m6.cms[j]? = some cc := ⟨_, List.getElem?_eq_getElem (by rw [← H6.out.2.2.2.2.2]; exact hlt)⟩
                  have u1 := cnt_take (p := fun c => c.flt) hcc
                  have u2 := cnt_take (p := fun c => decide (c.op = 0)) hcc
                  rw [← hq1] at u1
                  rw [← hq2] at u2
                  have f1 := H6.out.2.2.2.1.1 cc (List.mem_of_getElem? hcc)
                  have f7 := H6.out.2.2.2.1.2 cc (List.mem_of_getElem? hcc)
                  have KX := m_commit_at Br.M j _ hcc
                  obtain ⟨cg, cf, cpc, cop, cv, cfl⟩ := cc
                  have HC := Lib.hid (And.intro KC (And.intro KX (And.intro u1 (And.intro u2 (And.intro cW (And.intro f1 f7)))))); clear KC KX u1 u2 cW hcc Br c6r f1 f7 hq1 hq2
                  have d2 : (j : Int) < (L : Int) := by omega
                  go_wp2_with fail
                  refine (HC.out.1).mono ?_
                  rintro e w1 ⟨rfl, rfl⟩
                  go_wp2_with fail
                  refine (HC.out.2.1).mono ?_
                  rintro e w2 ⟨rfl, cx⟩
                  dsimp only [comC]
                  have Hx := Lib.hid cx; clear cx m0
                  go_upto_region 25 with fail
                  obtain ⟨gc, hgc⟩ : ∃ g', g' = w2.heap.size := ⟨_, rfl⟩
                  obtain ⟨w3, hw3⟩ : ∃ w3, w3 = w2.alloc (.cells #[.int .i64 cg, .int .i64 cf, .int .i64 cpc, .int .i64 cop, .int .i64 cv, .bool cfl] 50) := ⟨_, rfl⟩
                  rw [← hw3, ← hgc]
                  have BC : Blk w3 gc 50 #[.int .i64 cg, .int .i64 cf, .int .i64 cpc, .int .i64 cop, .int .i64 cv, .bool cfl] := by rw [hw3, hgc]; exact Blk.new _ _ _
                  have c13 : Chg [] w1 w3 := by rw [hw3]; exact Hx.out.alloc _
                  have c83 := Lib.hid (HC.out.2.2.2.2.1.trans c13)
                  clear hw3 hgc c13
                  have k1 : w3.cell? ⟨gc, 1, none⟩ = some (.int .i64 cf) := BC.cellv 1 rfl
                  have k2 : w3.cell? ⟨gc, 2, none⟩ = some (.int .i64 cpc) := BC.cellv 2 rfl
                  have k3 : w3.cell? ⟨gc, 3, none⟩ = some (.int .i64 cop) := BC.cellv 3 rfl
                  have k4 : w3.cell? ⟨gc, 4, none⟩ = some (.int .i64 cv) := BC.cellv 4 rfl
                  have k5 : w3.cell? ⟨gc, 5, none⟩ = some (.bool cfl) := BC.cellv 5 rfl
                  clear BC
                  cases cfl with
                  | true =>
                    obtain ⟨h1, h2, h3, h4⟩ := HC.out.2.2.2.2.2.1 rfl
                    have h1 : cf = 1 := h1
                    have h2 : cpc = (a : Nat) := h2
                    have h3 : cop = 2 := h3
                    have h4 : cv = 0 := h4
                    subst h1 h2 h3 h4
                    go_wp2_with fail
                    go_roundg (L - j)
                    case measure => omega
                    case rel => exact ⟨j + 1, q1 + 1, q2, by have := H6.out.2.2.2.2.2; omega, by have := H6.out.2.2.2.2.2; omega, by go_num, by go_num, rfl, by omega, by omega, by rw [HC.out.2.2.1]; rfl, by rw [HC.out.2.2.2.1]; rfl, c83.out⟩
                  | false =>
                    by_cases h0 : cop = 0
                    · subst h0
                      go_wp2_with fail
                      go_roundg (L - j)
                      case measure => omega
                      case rel => exact ⟨j + 1, q1, q2 + 1, by have := H6.out.2.2.2.2.2; omega, by have := H6.out.2.2.2.2.2; omega, by go_num, rfl, by go_num, by omega, by omega, by rw [HC.out.2.2.1]; rfl, by rw [HC.out.2.2.2.1]; rfl, c83.out⟩
                    · have d0 : (cop == 0) = false := by rw [beq_eq_false_iff_ne]; exact h0
                      have d7 : (cop == 7) = false := by rw [beq_eq_false_iff_ne]; exact HC.out.2.2.2.2.2.2
                      have hz := Lib.hid h0; clear h0
                      go_wp2_with fail
                      go_roundg (L - j)
                      case measure => omega
                      case rel => exact ⟨j + 1, q1, q2, by have := H6.out.2.2.2.2.2; omega, by have := H6.out.2.2.2.2.2; omega, by go_num, rfl, rfl, by omega, by omega, by rw [HC.out.2.2.1]; rfl, by rw [HC.out.2.2.2.1, if_neg (by simpa using hz.out), Nat.add_zero], c83.out⟩
                · have d2 : ¬ (j : Int) < (L : Int) := by omega
                  have ej : j = m6.cms.length := by have := H6.out.2.2.2.2.2; omega
                  rw [ej, List.take_length] at hq1 hq2
                  rw [H6.out.2.2.2.2.1.1] at hq1
                  rw [H6.out.2.2.2.2.1.2] at hq2
                  have z1 : ((i : Int) + 1).tdiv 2 = (q1 : Int) := by rw [hq1, Int.tdiv_eq_ediv_of_nonneg (by omega)]; omega
                  obtain ⟨q3, hq3⟩ : ∃ q3, q3 = i / 2 := ⟨_, rfl⟩
                  have z2 : (i : Int).tdiv 2 = (q3 : Int) := by rw [hq3, Int.tdiv_eq_ediv_of_nonneg (by omega)]; omega
                  have z3 : (1 : Int) + (q3 : Int) = (q2 : Int) := by rw [hq2, hq3]; omega
                  have bq3 : q3 ≤ 5 := by omega
                  have HC := Lib.hid (And.intro KC (And.intro cW (And.intro hq1 hq2))); clear KC cW Br c6r hq1 hq2 hq3 ej
                  go_wp2_with fail
                  refine (HC.out.1).mono ?_
                  rintro e w1 ⟨rfl, rfl⟩
                  clear m0
                  go_wp2_with fail
                  refine (told28_yes w1).mono ?_
                  rintro e x10 ⟨rfl, c10⟩
                  have H10 := Lib.hid c10; clear c10
                  go_wp2_with fail
                  go_ret
                  exact ⟨by first | rfl | simp, (((HZ.out.1.trans H6.out.2.2.1).trans c68.out).trans HC.out.2.1).trans H10.out⟩
          refine AllReadyS.o (fun K hK => ?_)
          rw [if_pos (by rfl)]
          go_simp
          obtain ⟨gY, hgY⟩ : ∃ g, g = x1.heap.size := ⟨_, rfl⟩
          obtain ⟨x6, hx6⟩ : ∃ x, x = x1.alloc (.cells #[.int .i64 9, .int .i64 0, .int .i64 0, .int .i64 0, .int .i64 9, .int .i64 0, .int .i64 0, .int .i64 0] 27) := ⟨_, rfl⟩
          rw [← hx6, ← hgY]
          have BY : Blk x6 gY 27 #[.int .i64 9, .int .i64 0, .int .i64 0, .int .i64 0, .int .i64 9, .int .i64 0, .int .i64 0, .int .i64 0] := by rw [hx6, hgY]; exact Blk.new _ _ _
          have cN : Chg [] x1 x6 := by rw [hx6]; exact (Chg.refl [] x1).alloc _
          have nY : w8.heap.size ≤ gY := by have := D1.size; omega
          clear hx6 hgY
          have D6 : Chg (fpv (.slice A i c)) w8 x6 := (D1.mono (fun k hk => by first | exact .inl hk | simp at hk) : Chg (fpv (.slice A i c)) w8 x1).trans (cN.mono (by simp))
          have O := O.chg0 cN
          have OB := OB.chg0 cN
          try have BE := cN.blk BE (by simp)
          try have BF := cN.blk BF (by simp)
          clear cN
          refine hK _ _ (D6) ?_
          clear hK K
          try simp only [Act.put, qSa, qSb, qSc]
          refine wpAnyS_ready (rs := [4]) (by kernel_rfl) (by simp) ?_
          refine AllReadyS.o (fun K hK => ?_)
          refine step_catB insC_len insC_one tyI [⟨0, 0, 0, 0⟩] (i + 1) 1 (by rw [hlen]; rfl) rfl (by rfl) (by rfl) _ _ (by rfl) (by rfl) O (by rfl) BE (by omega) ?_
          intro A2 c2 x7 O2 S2
          have D7 : Chg (fpv (.slice A i c)) w8 x7 := (D6.mono (fun k hk => by first | exact .inl hk | simp at hk) : Chg (fpv (.slice A i c)) w8 x6).trans S2.c
          have OB := OB.chg S2.c hAp
          have BE := S2.c.blk BE (fun hm => by have := hFv _ hm; omega)
          try have BY := S2.c.blk BY (fun hm => by have := hFv _ hm; omega)
          clear O
          have O := O2
          clear O2 S2
          refine hK _ _ (D7) ?_
          clear hK K
          try simp only [Act.put, qSa, qSb, qSc]
          refine wpAnyS_ready (rs := [9]) (by kernel_rfl) (by simp) ?_
          refine AllReadyS.o (fun K hK => ?_)
          rw [if_pos (by rfl)]
          go_simp
          obtain ⟨gF, hgF⟩ : ∃ g, g = x7.heap.size := ⟨_, rfl⟩
          obtain ⟨x8, hx8⟩ : ∃ x, x = x7.alloc (.cells #[.slice A2 (i + 1) c2, .slice AB (a + 2) cB, .slice (some ⟨gY, 0, none⟩) 2 2] 28) := ⟨_, rfl⟩
          rw [← hx8, ← hgF]
          have BF : Blk x8 gF 28 #[.slice A2 (i + 1) c2, .slice AB (a + 2) cB, .slice (some ⟨gY, 0, none⟩) 2 2] := by rw [hx8, hgF]; exact Blk.new _ _ _
          have cN : Chg [] x7 x8 := by rw [hx8]; exact (Chg.refl [] x7).alloc _
          have nF : w8.heap.size ≤ gF := by have := D7.size; omega
          clear hx8 hgF
          have D8 : Chg (fpv (.slice A i c)) w8 x8 := (D7.mono (fun k hk => by first | exact .inl hk | simp at hk) : Chg (fpv (.slice A i c)) w8 x7).trans (cN.mono (by simp))
          have O := O.chg0 cN
          have OB := OB.chg0 cN
          try have BE := cN.blk BE (by simp)
          try have BY := cN.blk BY (by simp)
          clear cN
          refine hK _ _ (D8) ?_
          clear hK K
          try simp only [Act.put, qSa, qSb, qSc]
          refine wpAnyS_ready (rs := [10]) (by kernel_rfl) (by simp) ?_
          refine AllReadyS.o (fun K hK => ?_)
          rw [if_pos (by rfl)]
          go_simp
          go_at_call 7
          refine (one_ok x8 1 _ _ _ _ rfl).mono ?_
          rintro e x9 ⟨rfl, cN⟩
          dsimp only
          have D9 : Chg (fpv (.slice A i c)) w8 x9 := (D8.mono (fun k hk => by first | exact .inl hk | simp at hk) : Chg (fpv (.slice A i c)) w8 x8).trans (cN.mono (by simp))
          have O := O.chg0 cN
          have OB := OB.chg0 cN
          have BE := cN.blk BE (by simp)
          have BY := cN.blk BY (by simp)
          have BF := cN.blk BF (by simp)
          clear cN
          refine hK _ _ (D9) ?_
          clear hK K
          try simp only [Act.put, qSa, qSb, qSc]
          refine wpAnyS_tail 11 2 (by kernel_rfl) rfl ?_
          simp only [qDa, qDb]
          obtain ⟨x4, hx4⟩ : ∃ x, x = x9 := ⟨_, rfl⟩
          rw [← hx4] at O OB BE BY BF D9 ⊢
          clear hx4
          have PR : PrR x4 x4.heap.size (.slice (some ⟨gF, 0, none⟩) 3 3) [.slice A2 (i + 1) c2, .slice AB (a + 2) cB, .slice (some ⟨gY, 0, none⟩) 2 2] (fFs i a) := PrR.three BF (O.rd insC_len) (OB.rd insC_len) (rdG_blk (xs := fThird) insC_len BY rfl rfl)
          have cw4 : Chg [] w x4 := H8.out.2.newS D9 (fun b hb => H8.out.1 b hb)
          clear D0
          have KZ : Calls Tryz.prog 6 #[.agg #[.int .i64 ps, .int .i64 wo, .float .f64 b1, .float .f64 b2], .agg #[.int .i64 1, .slice (some ⟨gF, 0, none⟩) 3 3]] x4 (BothPost ps 1 b1 b2 (fFs i a) (.slice (some ⟨gF, 0, none⟩) 3 3) x4) := both_ok x4 ps wo 1 b1 b2 (some ⟨gF, 0, none⟩) 3 _ (fFs i a) PR (okFaults bk.2 ba) (by unfold sumL; simp [fFs, fFirst, fBad, fThird]; omega)
          have HZ := Lib.hid (And.intro cw4 (And.intro PR KZ))
          clear cw4 KZ PR BE BY BF O OB t0 t1 t2 t3 l0 nC hlen H8 hFv hAp nE nY nF
          go_wp2_with fail
          refine (HZ.out.2.2).mono ?_
          intro e x5 hZ
          obtain ⟨P, nn, -, hPl, hPh, hn4, hn19, gW, gA, gX, gg, gs, gl, vg, p, m, rfl, FS⟩ := hZ
          obtain ⟨s0, J0⟩ := GJ.start (J := FJ i a) FS hPl (by omega) (fun X h1 h2 h3 h4 h5 h6 h7 h8 => FJ.start h1 h2 h3 h4 h5 h6 h7 h8)
          have RJ := FJ.run (k := i) (a := a) (gW := gW) (wo := ((nn * 64 : Nat) : Int)) (b1 := b1) (b2 := b2) (va := .slice (some ⟨gA, 0, none⟩) 1 1) bk.2 ba HZ.out.2.1 hPl (by omega) (5000 * P) (by omega)
          obtain ⟨gm, f0, f2, l0, -⟩ := RJ.cells 0 s0 x5 J0
          have KR : Calls Tryz.prog 8 #[.pointer (some ⟨gW, 0, none⟩), .int .i64 5000] x5 (RunQ (5000 * P) _) := run_ok x5 gW P 5000 _ s0 RJ hPl (by omega) (by omega) J0
          have HR := Lib.hid KR
          clear KR RJ J0 FS hPl hPh hn4 hn19
          go_wp2_with fail
          refine (HR.out).mono ?_
          rintro e x6 ⟨i2, s, rfl, ⟨p6, m6, a6, X6, loc6, cP6, cV6, B6, R6, L6, C6, -, -, -, hJ, -, -, -, -, -⟩, -⟩
          have KS := fun (w' : World) (c : Chg [] x6 w') => m_status (B6.M.chg0 c) (by rw [C6.sl]; exact C6.ng) (by rw [C6.tm]; simp)
          have hst := hJ.stV R6 L6 C6
          have hcf := hJ.cf
          have hc7 := hJ.c7
          have hdn := fun h => hJ.done bk.2 h
          have C6l := C6.cl
          have cx6 : Chg [] x4 x6 := B6.M.c
          have m0 : x6.cell? ⟨gW, 0, none⟩ = some (.pointer (some ⟨p6.gm, 0, none⟩)) := B6.W.cellv 0 rfl
          have lW := B6.W.lt
          clear f0 f2 l0 HR R6 L6 hJ C6
          rcases hst with e0 | ⟨e3, hall⟩
          · rw [e0] at KS
            have H6 := Lib.hid (And.intro KS cx6); clear KS cx6 B6 e0 hcf hc7 hdn
            go_wp2_with fail
            refine (H6.out.1 _ (Chg.refl [] x6)).mono ?_
            rintro e x7 ⟨rfl, k7, hx7⟩
            have c67 : Chg [] x6 x7 := by rw [hx7]; exact (Chg.refl [] x6).drewN _
            have H7 := Lib.hid c67; clear c67 hx7
            go_wp2_with fail
            refine (told28_yes x7).mono ?_
            rintro e x8 ⟨rfl, c78⟩
            have H8 := Lib.hid c78; clear c78
            go_wp2_with fail
            go_ret
            exact ⟨rfl, ((HZ.out.1.trans H6.out.2).trans H7.out).trans H8.out⟩
          · rw [e3] at KS
            obtain ⟨dn1, dn2⟩ := hdn hall
            obtain ⟨L, hL⟩ : ∃ L, L = m6.cms.length := ⟨_, rfl⟩
            have bL : L ≤ 100000000 := by rw [hL]; exact C6l
            have H6 := Lib.hid (And.intro B6 (And.intro KS (And.intro cx6 (And.intro (And.intro hcf hc7) (And.intro (And.intro dn1 dn2) hL))))); clear KS cx6 B6 e3 hcf hc7 dn1 dn2 hdn hall hL C6l
            go_wp2_with fail
            refine (H6.out.2.1 _ (Chg.refl [] x6)).mono ?_
            rintro e x7 ⟨rfl, k7, hx7⟩
            have c67 : Chg [] x6 x7 := by rw [hx7]; exact (Chg.refl [] x6).drewN _
            have m0 := c67.cellv lW (by simp) m0
            have KS := H6.out.2.1 x7 c67
            have H7 := Lib.hid (And.intro c67 KS); clear hx7 c67 KS
            go_wp2_with fail
            refine (H7.out.2).mono ?_
            rintro e x8 ⟨rfl, k8, hx8⟩
            have c78 : Chg [] x7 x8 := by rw [hx8]; exact (Chg.refl [] x7).drewN _
            have c68 := Lib.hid (H7.out.1.trans c78)
            clear hx8 c78 m0
            go_wp2_with fail
            go_loopg [14, 15, 16] (L + 1) (fun gk fv ev idx wr => FcRel x8 m6.cms gk fv ev idx wr)
            case atStart => exact ⟨0, 0, 0, by have := H6.out.2.2.2.2.2; omega, by omega, rfl, rfl, rfl, by omega, by omega, rfl, rfl, Chg.refl [] x8⟩
            case round =>
              obtain ⟨j, q1, q2, hgk, hj, rfl, rfl, rfl, bq1, bq2, hq1, hq2, cW⟩ := hrel
              have c6r := c68.out.trans cW
              have Br := H6.out.1.chg0 c6r
              have m0 : wr.cell? ⟨gW, 0, none⟩ = some (.pointer (some ⟨p6.gm, 0, none⟩)) := Br.W.cellv 0 rfl
              have KC := m_commits Br.M
              rw [← H6.out.2.2.2.2.2] at KC hgk hj
              by_cases hlt : j < L
              · obtain ⟨cc, hcc⟩ : ∃ cc, m6.cms[j]? = some cc := ⟨_, List.getElem?_eq_getElem (by rw [← H6.out.2.2.2.2.2]; exact hlt)⟩
                have u1 := cnt_take (p := fun c => c.flt) hcc
                have u2 := cnt_take (p := fun c => decide (c.op = 0)) hcc
                rw [← hq1] at u1
                rw [← hq2] at u2
                have f1 := H6.out.2.2.2.1.1 cc (List.mem_of_getElem? hcc)
                have f7 := H6.out.2.2.2.1.2 cc (List.mem_of_getElem? hcc)
                have KX := m_commit_at Br.M j _ hcc
                obtain ⟨cg, cf, cpc, cop, cv, cfl⟩ := cc
                have HC := Lib.hid (And.intro KC (And.intro KX (And.intro u1 (And.intro u2 (And.intro cW (And.intro f1 f7)))))); clear KC KX u1 u2 cW hcc Br c6r f1 f7 hq1 hq2
                have d2 : (j : Int) < (L : Int) := by omega
                go_wp2_with fail
                refine (HC.out.1).mono ?_
                rintro e w1 ⟨rfl, rfl⟩
                go_wp2_with fail
                refine (HC.out.2.1).mono ?_
                rintro e w2 ⟨rfl, cx⟩
                dsimp only [comC]
                have Hx := Lib.hid cx; clear cx m0
                go_upto_region 25 with fail
                obtain ⟨gc, hgc⟩ : ∃ g', g' = w2.heap.size := ⟨_, rfl⟩
                obtain ⟨w3, hw3⟩ : ∃ w3, w3 = w2.alloc (.cells #[.int .i64 cg, .int .i64 cf, .int .i64 cpc, .int .i64 cop, .int .i64 cv, .bool cfl] 50) := ⟨_, rfl⟩
                rw [← hw3, ← hgc]
                have BC : Blk w3 gc 50 #[.int .i64 cg, .int .i64 cf, .int .i64 cpc, .int .i64 cop, .int .i64 cv, .bool cfl] := by rw [hw3, hgc]; exact Blk.new _ _ _
                have c13 : Chg [] w1 w3 := by rw [hw3]; exact Hx.out.alloc _
                have c83 := Lib.hid (HC.out.2.2.2.2.1.trans c13)
                clear hw3 hgc c13
                have k1 : w3.cell? ⟨gc, 1, none⟩ = some (.int .i64 cf) := BC.cellv 1 rfl
                have k2 : w3.cell? ⟨gc, 2, none⟩ = some (.int .i64 cpc) := BC.cellv 2 rfl
                have k3 : w3.cell? ⟨gc, 3, none⟩ = some (.int .i64 cop) := BC.cellv 3 rfl
                have k4 : w3.cell? ⟨gc, 4, none⟩ = some (.int .i64 cv) := BC.cellv 4 rfl
                have k5 : w3.cell? ⟨gc, 5, none⟩ = some (.bool cfl) := BC.cellv 5 rfl
                clear BC
                cases cfl with
                | true =>
                  obtain ⟨h1, h2, h3, h4⟩ := HC.out.2.2.2.2.2.1 rfl
                  have h1 : cf = 1 := h1
                  have h2 : cpc = (a : Nat) := h2
                  have h3 : cop = 2 := h3
                  have h4 : cv = 0 := h4
                  subst h1 h2 h3 h4
                  go_wp2_with fail
                  go_roundg (L - j)
                  case measure => omega
                  case rel => exact ⟨j + 1, q1 + 1, q2, by have := H6.out.2.2.2.2.2; omega, by have := H6.out.2.2.2.2.2; omega, by go_num, by go_num, rfl, by omega, by omega, by rw [HC.out.2.2.1]; rfl, by rw [HC.out.2.2.2.1]; rfl, c83.out⟩
                | false =>
                  by_cases h0 : cop = 0
                  · subst h0
                    go_wp2_with fail
                    go_roundg (L - j)
                    case measure => omega
                    case rel => exact ⟨j + 1, q1, q2 + 1, by have := H6.out.2.2.2.2.2; omega, by have := H6.out.2.2.2.2.2; omega, by go_num, rfl, by go_num, by omega, by omega, by rw [HC.out.2.2.1]; rfl, by rw [HC.out.2.2.2.1]; rfl, c83.out⟩
                  · have d0 : (cop == 0) = false := by rw [beq_eq_false_iff_ne]; exact h0
                    have d7 : (cop == 7) = false := by rw [beq_eq_false_iff_ne]; exact HC.out.2.2.2.2.2.2
                    have hz := Lib.hid h0; clear h0
                    go_wp2_with fail
                    go_roundg (L - j)
                    case measure => omega
                    case rel => exact ⟨j + 1, q1, q2, by have := H6.out.2.2.2.2.2; omega, by have := H6.out.2.2.2.2.2; omega, by go_num, rfl, rfl, by omega, by omega, by rw [HC.out.2.2.1]; rfl, by rw [HC.out.2.2.2.1, if_neg (by simpa using hz.out), Nat.add_zero], c83.out⟩
              · have d2 : ¬ (j : Int) < (L : Int) := by omega
                have ej : j = m6.cms.length := by have := H6.out.2.2.2.2.2; omega
                rw [ej, List.take_length] at hq1 hq2
                rw [H6.out.2.2.2.2.1.1] at hq1
                rw [H6.out.2.2.2.2.1.2] at hq2
                have z1 : ((i : Int) + 1).tdiv 2 = (q1 : Int) := by rw [hq1, Int.tdiv_eq_ediv_of_nonneg (by omega)]; omega
                obtain ⟨q3, hq3⟩ : ∃ q3, q3 = i / 2 := ⟨_, rfl⟩
                have z2 : (i : Int).tdiv 2 = (q3 : Int) := by rw [hq3, Int.tdiv_eq_ediv_of_nonneg (by omega)]; omega
                have z3 : (1 : Int) + (q3 : Int) = (q2 : Int) := by rw [hq2, hq3]; omega
                have bq3 : q3 ≤ 5 := by omega
                have HC := Lib.hid (And.intro KC (And.intro cW (And.intro hq1 hq2))); clear KC cW Br c6r hq1 hq2 hq3 ej
                go_wp2_with fail
                refine (HC.out.1).mono ?_
                rintro e w1 ⟨rfl, rfl⟩
                clear m0
                go_wp2_with fail
                refine (told28_yes w1).mono ?_
                rintro e x10 ⟨rfl, c10⟩
                have H10 := Lib.hid c10; clear c10
                go_wp2_with fail
                go_ret
                exact ⟨by first | rfl | simp, (((HZ.out.1.trans H6.out.2.2.1).trans c68.out).trans HC.out.2.1).trans H10.out⟩
        refine AllReadyS.o (fun K hK => ?_)
        have O := O.chg0 D0
        have OB := OB.chg0 D0
        rw [if_pos (by rfl)]
        go_simp
        obtain ⟨gY, hgY⟩ : ∃ g, g = x0.heap.size := ⟨_, rfl⟩
        obtain ⟨x10, hx10⟩ : ∃ x, x = x0.alloc (.cells #[.int .i64 9, .int .i64 0, .int .i64 0, .int .i64 0, .int .i64 9, .int .i64 0, .int .i64 0, .int .i64 0] 27) := ⟨_, rfl⟩
        rw [← hx10, ← hgY]
        have BY : Blk x10 gY 27 #[.int .i64 9, .int .i64 0, .int .i64 0, .int .i64 0, .int .i64 9, .int .i64 0, .int .i64 0, .int .i64 0] := by rw [hx10, hgY]; exact Blk.new _ _ _
        have cN : Chg [] x0 x10 := by rw [hx10]; exact (Chg.refl [] x0).alloc _
        have nY : w8.heap.size ≤ gY := by have := D0.size; omega
        clear hx10 hgY
        have D10 : Chg (fpv (.slice A i c)) w8 x10 := (D0.mono (fun k hk => by first | exact .inl hk | simp at hk) : Chg (fpv (.slice A i c)) w8 x0).trans (cN.mono (by simp))
        have O := O.chg0 cN
        have OB := OB.chg0 cN
        try have BE := cN.blk BE (by simp)
        try have BF := cN.blk BF (by simp)
        clear cN
        refine hK _ _ (D10) ?_
        clear hK K
        try simp only [Act.put, qSa, qSb, qSc]
        refine wpAnyS_ready (rs := [3]) (by kernel_rfl) (by simp) ?_
        refine AllReadyS.o (fun K hK => ?_)
        rw [if_pos (by rfl)]
        go_simp
        obtain ⟨gE, hgE⟩ : ∃ g, g = x10.heap.size := ⟨_, rfl⟩
        obtain ⟨x11, hx11⟩ : ∃ x, x = x10.alloc (.cells #[.int .i64 0, .int .i64 0, .int .i64 0, .int .i64 0] 27) := ⟨_, rfl⟩
        rw [← hx11, ← hgE]
        have BE : Blk x11 gE 27 #[.int .i64 0, .int .i64 0, .int .i64 0, .int .i64 0] := by rw [hx11, hgE]; exact Blk.new _ _ _
        have cN : Chg [] x10 x11 := by rw [hx11]; exact (Chg.refl [] x10).alloc _
        have nE : w8.heap.size ≤ gE := by have := D10.size; omega
        clear hx11 hgE
        have D11 : Chg (fpv (.slice A i c)) w8 x11 := (D10.mono (fun k hk => by first | exact .inl hk | simp at hk) : Chg (fpv (.slice A i c)) w8 x10).trans (cN.mono (by simp))
        have O := O.chg0 cN
        have OB := OB.chg0 cN
        try have BY := cN.blk BY (by simp)
        try have BF := cN.blk BF (by simp)
        clear cN
        refine hK _ _ (D11) ?_
        clear hK K
        try simp only [Act.put, qSa, qSb, qSc]
        refine wpAnyS_ready (rs := [4]) (by kernel_rfl) (by simp) ?_
        refine AllReadyS.o (fun K hK => ?_)
        refine step_catB insC_len insC_one tyI [⟨0, 0, 0, 0⟩] (i + 1) 1 (by rw [hlen]; rfl) rfl (by rfl) (by rfl) _ _ (by rfl) (by rfl) O (by rfl) BE (by omega) ?_
        intro A2 c2 x12 O2 S2
        have D12 : Chg (fpv (.slice A i c)) w8 x12 := (D11.mono (fun k hk => by first | exact .inl hk | simp at hk) : Chg (fpv (.slice A i c)) w8 x11).trans S2.c
        have OB := OB.chg S2.c hAp
        have BE := S2.c.blk BE (fun hm => by have := hFv _ hm; omega)
        try have BY := S2.c.blk BY (fun hm => by have := hFv _ hm; omega)
        clear O
        have O := O2
        clear O2 S2
        refine hK _ _ (D12) ?_
        clear hK K
        try simp only [Act.put, qSa, qSb, qSc]
        refine wpAnyS_ready (rs := [9]) (by kernel_rfl) (by simp) ?_
        refine AllReadyS.o (fun K hK => ?_)
        rw [if_pos (by rfl)]
        go_simp
        obtain ⟨gF, hgF⟩ : ∃ g, g = x12.heap.size := ⟨_, rfl⟩
        obtain ⟨x13, hx13⟩ : ∃ x, x = x12.alloc (.cells #[.slice A2 (i + 1) c2, .slice AB (a + 2) cB, .slice (some ⟨gY, 0, none⟩) 2 2] 28) := ⟨_, rfl⟩
        rw [← hx13, ← hgF]
        have BF : Blk x13 gF 28 #[.slice A2 (i + 1) c2, .slice AB (a + 2) cB, .slice (some ⟨gY, 0, none⟩) 2 2] := by rw [hx13, hgF]; exact Blk.new _ _ _
        have cN : Chg [] x12 x13 := by rw [hx13]; exact (Chg.refl [] x12).alloc _
        have nF : w8.heap.size ≤ gF := by have := D12.size; omega
        clear hx13 hgF
        have D13 : Chg (fpv (.slice A i c)) w8 x13 := (D12.mono (fun k hk => by first | exact .inl hk | simp at hk) : Chg (fpv (.slice A i c)) w8 x12).trans (cN.mono (by simp))
        have O := O.chg0 cN
        have OB := OB.chg0 cN
        try have BE := cN.blk BE (by simp)
        try have BY := cN.blk BY (by simp)
        clear cN
        refine hK _ _ (D13) ?_
        clear hK K
        try simp only [Act.put, qSa, qSb, qSc]
        refine wpAnyS_ready (rs := [10]) (by kernel_rfl) (by simp) ?_
        refine AllReadyS.o (fun K hK => ?_)
        rw [if_pos (by rfl)]
        go_simp
        go_at_call 7
        refine (one_ok x13 1 _ _ _ _ rfl).mono ?_
        rintro e x14 ⟨rfl, cN⟩
        dsimp only
        have D14 : Chg (fpv (.slice A i c)) w8 x14 := (D13.mono (fun k hk => by first | exact .inl hk | simp at hk) : Chg (fpv (.slice A i c)) w8 x13).trans (cN.mono (by simp))
        have O := O.chg0 cN
        have OB := OB.chg0 cN
        have BE := cN.blk BE (by simp)
        have BY := cN.blk BY (by simp)
        have BF := cN.blk BF (by simp)
        clear cN
        refine hK _ _ (D14) ?_
        clear hK K
        try simp only [Act.put, qSa, qSb, qSc]
        refine wpAnyS_tail 11 2 (by kernel_rfl) rfl ?_
        simp only [qDa, qDb]
        obtain ⟨x4, hx4⟩ : ∃ x, x = x14 := ⟨_, rfl⟩
        rw [← hx4] at O OB BE BY BF D14 ⊢
        clear hx4
        have PR : PrR x4 x4.heap.size (.slice (some ⟨gF, 0, none⟩) 3 3) [.slice A2 (i + 1) c2, .slice AB (a + 2) cB, .slice (some ⟨gY, 0, none⟩) 2 2] (fFs i a) := PrR.three BF (O.rd insC_len) (OB.rd insC_len) (rdG_blk (xs := fThird) insC_len BY rfl rfl)
        have cw4 : Chg [] w x4 := H8.out.2.newS D14 (fun b hb => H8.out.1 b hb)
        clear D0
        have KZ : Calls Tryz.prog 6 #[.agg #[.int .i64 ps, .int .i64 wo, .float .f64 b1, .float .f64 b2], .agg #[.int .i64 1, .slice (some ⟨gF, 0, none⟩) 3 3]] x4 (BothPost ps 1 b1 b2 (fFs i a) (.slice (some ⟨gF, 0, none⟩) 3 3) x4) := both_ok x4 ps wo 1 b1 b2 (some ⟨gF, 0, none⟩) 3 _ (fFs i a) PR (okFaults bk.2 ba) (by unfold sumL; simp [fFs, fFirst, fBad, fThird]; omega)
        have HZ := Lib.hid (And.intro cw4 (And.intro PR KZ))
        clear cw4 KZ PR BE BY BF O OB t0 t1 t2 t3 l0 nC hlen H8 hFv hAp nE nY nF
        go_wp2_with fail
        refine (HZ.out.2.2).mono ?_
        intro e x5 hZ
        obtain ⟨P, nn, -, hPl, hPh, hn4, hn19, gW, gA, gX, gg, gs, gl, vg, p, m, rfl, FS⟩ := hZ
        obtain ⟨s0, J0⟩ := GJ.start (J := FJ i a) FS hPl (by omega) (fun X h1 h2 h3 h4 h5 h6 h7 h8 => FJ.start h1 h2 h3 h4 h5 h6 h7 h8)
        have RJ := FJ.run (k := i) (a := a) (gW := gW) (wo := ((nn * 64 : Nat) : Int)) (b1 := b1) (b2 := b2) (va := .slice (some ⟨gA, 0, none⟩) 1 1) bk.2 ba HZ.out.2.1 hPl (by omega) (5000 * P) (by omega)
        obtain ⟨gm, f0, f2, l0, -⟩ := RJ.cells 0 s0 x5 J0
        have KR : Calls Tryz.prog 8 #[.pointer (some ⟨gW, 0, none⟩), .int .i64 5000] x5 (RunQ (5000 * P) _) := run_ok x5 gW P 5000 _ s0 RJ hPl (by omega) (by omega) J0
        have HR := Lib.hid KR
        clear KR RJ J0 FS hPl hPh hn4 hn19
        go_wp2_with fail
        refine (HR.out).mono ?_
        rintro e x6 ⟨i2, s, rfl, ⟨p6, m6, a6, X6, loc6, cP6, cV6, B6, R6, L6, C6, -, -, -, hJ, -, -, -, -, -⟩, -⟩
        have KS := fun (w' : World) (c : Chg [] x6 w') => m_status (B6.M.chg0 c) (by rw [C6.sl]; exact C6.ng) (by rw [C6.tm]; simp)
        have hst := hJ.stV R6 L6 C6
        have hcf := hJ.cf
        have hc7 := hJ.c7
        have hdn := fun h => hJ.done bk.2 h
        have C6l := C6.cl
        have cx6 : Chg [] x4 x6 := B6.M.c
        have m0 : x6.cell? ⟨gW, 0, none⟩ = some (.pointer (some ⟨p6.gm, 0, none⟩)) := B6.W.cellv 0 rfl
        have lW := B6.W.lt
        clear f0 f2 l0 HR R6 L6 hJ C6
        rcases hst with e0 | ⟨e3, hall⟩
        · rw [e0] at KS
          have H6 := Lib.hid (And.intro KS cx6); clear KS cx6 B6 e0 hcf hc7 hdn
          go_wp2_with fail
          refine (H6.out.1 _ (Chg.refl [] x6)).mono ?_
          rintro e x7 ⟨rfl, k7, hx7⟩
          have c67 : Chg [] x6 x7 := by rw [hx7]; exact (Chg.refl [] x6).drewN _
          have H7 := Lib.hid c67; clear c67 hx7
          go_wp2_with fail
          refine (told28_yes x7).mono ?_
          rintro e x8 ⟨rfl, c78⟩
          have H8 := Lib.hid c78; clear c78
          go_wp2_with fail
          go_ret
          exact ⟨rfl, ((HZ.out.1.trans H6.out.2).trans H7.out).trans H8.out⟩
        · rw [e3] at KS
          obtain ⟨dn1, dn2⟩ := hdn hall
          obtain ⟨L, hL⟩ : ∃ L, L = m6.cms.length := ⟨_, rfl⟩
          have bL : L ≤ 100000000 := by rw [hL]; exact C6l
          have H6 := Lib.hid (And.intro B6 (And.intro KS (And.intro cx6 (And.intro (And.intro hcf hc7) (And.intro (And.intro dn1 dn2) hL))))); clear KS cx6 B6 e3 hcf hc7 dn1 dn2 hdn hall hL C6l
          go_wp2_with fail
          refine (H6.out.2.1 _ (Chg.refl [] x6)).mono ?_
          rintro e x7 ⟨rfl, k7, hx7⟩
          have c67 : Chg [] x6 x7 := by rw [hx7]; exact (Chg.refl [] x6).drewN _
          have m0 := c67.cellv lW (by simp) m0
          have KS := H6.out.2.1 x7 c67
          have H7 := Lib.hid (And.intro c67 KS); clear hx7 c67 KS
          go_wp2_with fail
          refine (H7.out.2).mono ?_
          rintro e x8 ⟨rfl, k8, hx8⟩
          have c78 : Chg [] x7 x8 := by rw [hx8]; exact (Chg.refl [] x7).drewN _
          have c68 := Lib.hid (H7.out.1.trans c78)
          clear hx8 c78 m0
          go_wp2_with fail
          go_loopg [14, 15, 16] (L + 1) (fun gk fv ev idx wr => FcRel x8 m6.cms gk fv ev idx wr)
          case atStart => exact ⟨0, 0, 0, by have := H6.out.2.2.2.2.2; omega, by omega, rfl, rfl, rfl, by omega, by omega, rfl, rfl, Chg.refl [] x8⟩
          case round =>
            obtain ⟨j, q1, q2, hgk, hj, rfl, rfl, rfl, bq1, bq2, hq1, hq2, cW⟩ := hrel
            have c6r := c68.out.trans cW
            have Br := H6.out.1.chg0 c6r
            have m0 : wr.cell? ⟨gW, 0, none⟩ = some (.pointer (some ⟨p6.gm, 0, none⟩)) := Br.W.cellv 0 rfl
            have KC := m_commits Br.M
            rw [← H6.out.2.2.2.2.2] at KC hgk hj
            by_cases hlt : j < L
            · obtain ⟨cc, hcc⟩ : ∃ cc, m6.cms[j]? = some cc := ⟨_, List.getElem?_eq_getElem (by rw [← H6.out.2.2.2.2.2]; exact hlt)⟩
              have u1 := cnt_take (p := fun c => c.flt) hcc
              have u2 := cnt_take (p := fun c => decide (c.op = 0)) hcc
              rw [← hq1] at u1
              rw [← hq2] at u2
              have f1 := H6.out.2.2.2.1.1 cc (List.mem_of_getElem? hcc)
              have f7 := H6.out.2.2.2.1.2 cc (List.mem_of_getElem? hcc)
              have KX := m_commit_at Br.M j _ hcc
              obtain ⟨cg, cf, cpc, cop, cv, cfl⟩ := cc
              have HC := Lib.hid (And.intro KC (And.intro KX (And.intro u1 (And.intro u2 (And.intro cW (And.intro f1 f7)))))); clear KC KX u1 u2 cW hcc Br c6r f1 f7 hq1 hq2
              have d2 : (j : Int) < (L : Int) := by omega
              go_wp2_with fail
              refine (HC.out.1).mono ?_
              rintro e w1 ⟨rfl, rfl⟩
              go_wp2_with fail
              refine (HC.out.2.1).mono ?_
              rintro e w2 ⟨rfl, cx⟩
              dsimp only [comC]
              have Hx := Lib.hid cx; clear cx m0
              go_upto_region 25 with fail
              obtain ⟨gc, hgc⟩ : ∃ g', g' = w2.heap.size := ⟨_, rfl⟩
              obtain ⟨w3, hw3⟩ : ∃ w3, w3 = w2.alloc (.cells #[.int .i64 cg, .int .i64 cf, .int .i64 cpc, .int .i64 cop, .int .i64 cv, .bool cfl] 50) := ⟨_, rfl⟩
              rw [← hw3, ← hgc]
              have BC : Blk w3 gc 50 #[.int .i64 cg, .int .i64 cf, .int .i64 cpc, .int .i64 cop, .int .i64 cv, .bool cfl] := by rw [hw3, hgc]; exact Blk.new _ _ _
              have c13 : Chg [] w1 w3 := by rw [hw3]; exact Hx.out.alloc _
              have c83 := Lib.hid (HC.out.2.2.2.2.1.trans c13)
              clear hw3 hgc c13
              have k1 : w3.cell? ⟨gc, 1, none⟩ = some (.int .i64 cf) := BC.cellv 1 rfl
              have k2 : w3.cell? ⟨gc, 2, none⟩ = some (.int .i64 cpc) := BC.cellv 2 rfl
              have k3 : w3.cell? ⟨gc, 3, none⟩ = some (.int .i64 cop) := BC.cellv 3 rfl
              have k4 : w3.cell? ⟨gc, 4, none⟩ = some (.int .i64 cv) := BC.cellv 4 rfl
              have k5 : w3.cell? ⟨gc, 5, none⟩ = some (.bool cfl) := BC.cellv 5 rfl
              clear BC
              cases cfl with
              | true =>
                obtain ⟨h1, h2, h3, h4⟩ := HC.out.2.2.2.2.2.1 rfl
                have h1 : cf = 1 := h1
                have h2 : cpc = (a : Nat) := h2
                have h3 : cop = 2 := h3
                have h4 : cv = 0 := h4
                subst h1 h2 h3 h4
                go_wp2_with fail
                go_roundg (L - j)
                case measure => omega
                case rel => exact ⟨j + 1, q1 + 1, q2, by have := H6.out.2.2.2.2.2; omega, by have := H6.out.2.2.2.2.2; omega, by go_num, by go_num, rfl, by omega, by omega, by rw [HC.out.2.2.1]; rfl, by rw [HC.out.2.2.2.1]; rfl, c83.out⟩
              | false =>
                by_cases h0 : cop = 0
                · subst h0
                  go_wp2_with fail
                  go_roundg (L - j)
                  case measure => omega
                  case rel => exact ⟨j + 1, q1, q2 + 1, by have := H6.out.2.2.2.2.2; omega, by have := H6.out.2.2.2.2.2; omega, by go_num, rfl, by go_num, by omega, by omega, by rw [HC.out.2.2.1]; rfl, by rw [HC.out.2.2.2.1]; rfl, c83.out⟩
                · have d0 : (cop == 0) = false := by rw [beq_eq_false_iff_ne]; exact h0
                  have d7 : (cop == 7) = false := by rw [beq_eq_false_iff_ne]; exact HC.out.2.2.2.2.2.2
                  have hz := Lib.hid h0; clear h0
                  go_wp2_with fail
                  go_roundg (L - j)
                  case measure => omega
                  case rel => exact ⟨j + 1, q1, q2, by have := H6.out.2.2.2.2.2; omega, by have := H6.out.2.2.2.2.2; omega, by go_num, rfl, rfl, by omega, by omega, by rw [HC.out.2.2.1]; rfl, by rw [HC.out.2.2.2.1, if_neg (by simpa using hz.out), Nat.add_zero], c83.out⟩
            · have d2 : ¬ (j : Int) < (L : Int) := by omega
              have ej : j = m6.cms.length := by have := H6.out.2.2.2.2.2; omega
              rw [ej, List.take_length] at hq1 hq2
              rw [H6.out.2.2.2.2.1.1] at hq1
              rw [H6.out.2.2.2.2.1.2] at hq2
              have z1 : ((i : Int) + 1).tdiv 2 = (q1 : Int) := by rw [hq1, Int.tdiv_eq_ediv_of_nonneg (by omega)]; omega
              obtain ⟨q3, hq3⟩ : ∃ q3, q3 = i / 2 := ⟨_, rfl⟩
              have z2 : (i : Int).tdiv 2 = (q3 : Int) := by rw [hq3, Int.tdiv_eq_ediv_of_nonneg (by omega)]; omega
              have z3 : (1 : Int) + (q3 : Int) = (q2 : Int) := by rw [hq2, hq3]; omega
              have bq3 : q3 ≤ 5 := by omega
              have HC := Lib.hid (And.intro KC (And.intro cW (And.intro hq1 hq2))); clear KC cW Br c6r hq1 hq2 hq3 ej
              go_wp2_with fail
              refine (HC.out.1).mono ?_
              rintro e w1 ⟨rfl, rfl⟩
              clear m0
              go_wp2_with fail
              refine (told28_yes w1).mono ?_
              rintro e x10 ⟨rfl, c10⟩
              have H10 := Lib.hid c10; clear c10
              go_wp2_with fail
              go_ret
              exact ⟨by first | rfl | simp, (((HZ.out.1.trans H6.out.2.2.1).trans c68.out).trans HC.out.2.1).trans H10.out⟩
theorem faults_all (ps wo : Int) (b1 b2 : Nat) (a1 a2 : Int) (W : World) (_ : Tab W) : Calls Tryz.prog 4 #[.agg #[.int .i64 ps, .int .i64 wo, .float .f64 b1, .float .f64 b2], .int .i64 a1, .int .i64 a2] W (NwPost (.bool true) W) := faults_any ps wo b1 b2 a1 a2 W
end Go.Proofs.YtepnlcemlnkpdaaGreatDoor
