/- MachineYields: goroutines that yield to one another on one P all come to their ends, each with all of its yields. (Printed by wip/genmi9.py.) -/
import Derived.Test.YthjplmminmhiaaaGreatDoorMh2J
import Derived.Test.YthjplmminmhiaaaGreatDoorMe3J
namespace Go.Proofs.YthjplmminmhiaaaGreatDoor
open Go.RowKit Go.Maps

theorem OwnG.rd {α : Type} {f : α → List Value} {sz : Nat} {E : TypeId} {w : World} {v : Value} {xs : List α} (hf : ∀ x, (f x).length = sz) (h : OwnG f sz E w v xs) : RdG f sz w w.heap.size v xs := by
  obtain ⟨A, c, rfl⟩ := h.slice
  refine ⟨⟨A, c, rfl⟩, fun A' n c' e i x hx => ?_⟩
  injection e with e1 e2 e3
  obtain ⟨g, hA, hc, -, -, -, hl⟩ := h.cell hf hx
  refine ⟨g, 0, e1.symm.trans hA, hl, fun j u hu => ?_⟩
  rw [Nat.zero_add]
  exact hc j u hu
theorem rdG_blk {α : Type} {f : α → List Value} {sz : Nat} {E : TypeId} {w : World} {g n c : Nat} {cs : Array Value} {xs : List α} (hf : ∀ x, (f x).length = sz) (B : Blk w g E cs) (hcs : cs = (xs.flatMap f).toArray) (hn : n = xs.length) : RdG f sz w w.heap.size (.slice (some ⟨g, 0, none⟩) n c) xs := by
  subst hcs hn
  refine ⟨⟨_, _, rfl⟩, fun A' n c' e i x hx => ?_⟩
  injection e with e1 e2 e3
  refine ⟨g, 0, e1.symm, B.lt, fun j u hu => ?_⟩
  have hj : j < sz := by have := (List.getElem?_eq_some_iff.1 hu).1; rw [hf] at this; exact this
  rw [Nat.zero_add]
  refine B.cellv _ ?_
  rw [List.getElem?_toArray, flat_at hf hx hj]
  exact hu
/-- A program of two functions. -/
theorem PrR.two {w : World} {gF c : Nat} {v1 v2 : Value} {l1 l2 : List Ins} (BF : Blk w gF 34 #[v1, v2]) (R1 : RdG insC 4 w w.heap.size v1 l1) (R2 : RdG insC 4 w w.heap.size v2 l2) : PrR w w.heap.size (.slice (some ⟨gF, 0, none⟩) 2 c) [v1, v2] [l1, l2] := by
  obtain ⟨A1, c1, e1⟩ := R1.ex
  obtain ⟨A2, c2, e2⟩ := R2.ex
  refine ⟨⟨⟨_, _, rfl⟩, fun A n c' e i y hy => ?_, fun y hy => ?_⟩, rfl, fun i u l h1 h2 => ?_⟩
  · injection e with e3 e4 e5
    refine ⟨gF, 0, e3.symm, BF.lt, ?_⟩
    rw [Nat.zero_add]
    exact BF.cellv _ (by rw [← hy]; exact List.getElem?_toArray)
  · rcases List.mem_cons.1 hy with rfl | hy
    · rw [e1]; rfl
    · rw [List.mem_singleton.1 hy, e2]; rfl
  · match i with
    | 0 =>
      have e3 : v1 = u := by simpa using h1
      have e4 : l1 = l := by simpa using h2
      subst e3 e4; exact R1
    | 1 =>
      have e3 : v2 = u := by simpa using h1
      have e4 : l2 = l := by simpa using h2
      subst e3 e4; exact R2
    | i + 2 => simp at h1
instance decOkIns (G F S : Nat) (i : Ins) : Decidable (okIns G F S i) := by unfold okIns; infer_instance
set_option maxRecDepth 100000 in
theorem okFirst : ∀ k < 11, 2 ≤ k → 1 ≤ (yFirst k).length ∧ (yFirst k).length ≤ 64 ∧ ∀ x ∈ yFirst k, okIns 0 2 (yFirst k).length x := by decide
set_option maxRecDepth 100000 in
theorem okEach : ∀ y < 31, 1 ≤ (yEach y).length ∧ (yEach y).length ≤ 64 ∧ ∀ x ∈ yEach y, okIns 0 2 (yEach y).length x := by decide
theorem okYields {k y : Nat} (h1 : 2 ≤ k) (h2 : k ≤ 10) (h3 : y ≤ 30) : OkP 0 [yFirst k, yEach y] := by
  refine ⟨by omega, by show 1 ≤ 2; omega, by show 2 ≤ 16; omega, fun l hl => ?_⟩
  rcases List.mem_cons.1 hl with rfl | hl
  · exact okFirst k (by omega) h1
  · rw [List.mem_singleton.1 hl]; exact okEach y (by omega)
/-- Numbers as cells. -/
def dnC (n : Nat) (f : Nat → Nat) : Array Value := ((List.range n).map fun j => Value.int .i64 ((f j : Nat) : Int)).toArray
theorem dnC_at {n : Nat} {f : Nat → Nat} {j : Nat} (h : j < n) : (dnC n f)[j]? = some (.int .i64 ((f j : Nat) : Int)) := by unfold dnC; simp [h]
theorem dnC_zero (n : Nat) : zcells (.int .i64 0) n = dnC n (fun _ => 0) := by
  unfold zcells dnC
  apply Array.ext'
  simp [List.map_const']
theorem dnC_set {n : Nat} {f f' : Nat → Nat} {j : Nat} (hj : j < n) (hf : ∀ i, i < n → f' i = if i = j then f j + 1 else f i) : (dnC n f).setIfInBounds j (.int .i64 ((f j : Nat) + 1)) = dnC n f' := by
  apply Array.ext_getElem?
  intro i
  rw [Array.getElem?_setIfInBounds]
  by_cases hi : i < n
  · rw [dnC_at hi]
    by_cases e : j = i
    · subst e
      rw [if_pos rfl, if_pos (by unfold dnC; simpa using hj), dnC_at hj, hf j hj, if_pos rfl]
      push_cast
      rfl
    · rw [if_neg e, dnC_at hi, hf i hi, if_neg (fun h => e h.symm)]
  · have : (dnC n f').size ≤ i := by unfold dnC; simpa using hi
    rw [Array.getElem?_eq_none this]
    by_cases e : j = i
    · omega
    · rw [if_neg e, Array.getElem?_eq_none (by unfold dnC; simpa using hi)]
theorem yds_take {cms : List ComA} {j : Nat} {c : ComA} (h : cms[j]? = some c) (g : Nat) : yds (cms.take (j + 1)) g = yds (cms.take j) g + (if c.op = 9 ∧ c.g = (g : Nat) then 1 else 0) := by
  rw [List.take_add_one, h]
  exact yds_snoc _ _ _
theorem yds_le (cms : List ComA) (j g : Nat) : yds (cms.take j) g ≤ j := by
  unfold yds
  exact Nat.le_trans List.countP_le_length (by rw [List.length_take]; omega)
def YcRel (w7 : World) (k gd : Nat) (cms : List ComA) (gk : Nat) (idx : Value) (w : World) : Prop := ∃ j : Nat, gk + j = cms.length + 1 ∧ j ≤ cms.length ∧ idx = .int .i64 (j : Nat) ∧ Blk w gd 3 (dnC (k + 1) (yds (cms.take j))) ∧ Chg [] w7 w
def YeRel (w8 : World) (k : Nat) (gk : Nat) (idx : Value) (w : World) : Prop := ∃ j : Nat, gk + j = k + 2 ∧ 1 ≤ j ∧ j ≤ k + 1 ∧ idx = .int .i64 (j : Nat) ∧ Chg [] w8 w
def YfRel (w1 : World) (k : Nat) (gk : Nat) (v idx : Value) (w : World) : Prop := ∃ (i : Nat) (A : Option Addr) (c : Nat), gk + i = k + 1 ∧ i ≤ k ∧ idx = .int .i64 (i : Nat) ∧ v = .slice A i c ∧ OwnG insC 4 33 w (.slice A i c) (List.replicate i ⟨8, 1, 0, 0⟩) ∧ (∀ b ∈ fpv (.slice A i c), w1.heap.size ≤ b) ∧ Chg [] w1 w
set_option maxHeartbeats 16000000 in
set_option maxRecDepth 100000 in
theorem yields_any (ps wo : Int) (b1 b2 : Nat) (a1 a2 : Int) (w : World) : Calls Tryz.prog 5 #[.agg #[.int .i64 ps, .int .i64 wo, .float .f64 b1, .float .f64 b2], .int .i64 a1, .int .i64 a2] w (NwPost (.bool true) w) := by
  obtain ⟨n1, hn1, en1⟩ := mod28 a1 9 (by omega) (by omega)
  have en1 : wrap64 ((IntKind.u64.wrap a1).tmod 9) = n1 := en1
  obtain ⟨n2, hn2, en2⟩ := mod28 a2 30 (by omega) (by omega)
  have en2 : wrap64 ((IntKind.u64.wrap a2).tmod 30) = n2 := en2
  go_enter Tryz.func5, Tryz.ntmps5
  go_upto_region 1 with fail
  obtain ⟨w1, hw1⟩ : ∃ w1, w1 = w.alloc (.cells #[.int .i64 ps, .int .i64 wo, .float .f64 b1, .float .f64 b2] 24) := ⟨_, rfl⟩
  obtain ⟨gC, hgC⟩ : ∃ g, g = w.heap.size := ⟨_, rfl⟩
  rw [← hw1, ← hgC]
  have BC : Blk w1 gC 24 #[.int .i64 ps, .int .i64 wo, .float .f64 b1, .float .f64 b2] := by rw [hw1, hgC]; exact Blk.new w _ _
  have c01 : Chg [] w w1 := by rw [hw1]; exact (Chg.refl [] w).alloc _
  have hCn : w.heap.size ≤ gC := by omega
  have H1 := Lib.hid (And.intro BC (And.intro c01 hCn)); clear c01 BC hCn hw1 hgC
  go_upto_region 2 with fail
  clear en1 en2
  obtain ⟨k, hk⟩ : ∃ k, k = n1 + 2 := ⟨_, rfl⟩
  obtain ⟨y, hy⟩ : ∃ y, y = n2 + 1 := ⟨_, rfl⟩
  have hs1 : (2 : Int) + (n1 : Nat) = (k : Int) := by omega
  have hs2 : (1 : Int) + (n2 : Nat) = (y : Int) := by omega
  rw [hs1, hs2]
  have bk : 2 ≤ k ∧ k ≤ 10 := by omega
  have by_ : 1 ≤ y ∧ y ≤ 30 := by omega
  clear hs1 hs2 hk hy hn1 hn2
  go_wp2_with fail
  go_loopg [9, 10] (k + 1) (fun gk v idx wr => YfRel w1 k gk v idx wr)
  case atStart => exact ⟨0, none, 0, by omega, by omega, rfl, rfl, OwnG.nil _ _, fun b hb => by simp [fpv, Value.ownBlock] at hb, Chg.refl [] w1⟩
  case round =>
    obtain ⟨i, A, c, hgk, hi, rfl, rfl, O, hF, cW⟩ := hrel
    by_cases hlt : i < k
    · have d1 : (i : Int) < (k : Int) := by omega
      have HO := Lib.hid (And.intro hF cW); clear hF cW
      have hlen : (List.replicate i (⟨8, 1, 0, 0⟩ : Ins)).length = i := List.length_replicate
      go_wp2_with (at_builtin; refine wpList_push_g insC_len insC_one tyI ⟨8, 1, 0, 0⟩ rfl rfl _ _ rfl rfl O rfl (by rw [hlen]; omega) ?_; rw [hlen]; intro A' c' w9 O9 S9)
      have D9 := HO.out.2.newS S9.c HO.out.1
      have F9 : ∀ b ∈ fpv (.slice A' (i + 1) c'), w1.heap.size ≤ b := fun b hb => by
        rcases S9.f b hb with h | h
        · exact HO.out.1 b h
        · exact Nat.le_trans HO.out.2.size h
      have e9 : List.replicate i (⟨8, 1, 0, 0⟩ : Ins) ++ [⟨8, 1, 0, 0⟩] = List.replicate (i + 1) ⟨8, 1, 0, 0⟩ := by rw [List.replicate_succ']
      rw [e9] at O9
      have H9 := Lib.hid (And.intro O9 (And.intro F9 D9)); clear O9 F9 D9 S9 e9 O hlen
      go_roundg (k - i)
      case measure => omega
      case rel => exact ⟨i + 1, A', c', by omega, by omega, by go_num, by go_num, H9.out.1, H9.out.2.1, H9.out.2.2⟩
    · have d1 : ¬ (i : Int) < (k : Int) := by omega
      have ei : i = k := by omega
      subst ei
      have HO := Lib.hid (And.intro O (And.intro hF cW)); clear O hF cW
      go_upto_region 8 with fail
      obtain ⟨gE, hgE⟩ : ∃ g, g = wr.heap.size := ⟨_, rfl⟩
      obtain ⟨w7, hw7⟩ : ∃ w7, w7 = wr.alloc (.cells #[.int .i64 16, .int .i64 0, .int .i64 (y : Nat), .int .i64 0, .int .i64 9, .int .i64 0, .int .i64 0, .int .i64 0, .int .i64 17, .int .i64 1, .int .i64 0, .int .i64 0] 33) := ⟨_, rfl⟩
      rw [← hw7, ← hgE]
      have BE : Blk w7 gE 33 #[.int .i64 16, .int .i64 0, .int .i64 (y : Nat), .int .i64 0, .int .i64 9, .int .i64 0, .int .i64 0, .int .i64 0, .int .i64 17, .int .i64 1, .int .i64 0, .int .i64 0] := by rw [hw7, hgE]; exact Blk.new _ _ _
      have c17 : Chg [] wr w7 := by rw [hw7]; exact (Chg.refl [] wr).alloc _
      have O7 := HO.out.1.chg0 c17
      have D7 := HO.out.2.2.trans c17
      have B7 := D7.blk H1.out.1 (by simp)
      have g0 : w7.cell? ⟨gC, 0, none⟩ = some (.int .i64 ps) := B7.cellv 0 rfl
      have q0 := B7.frozen 0
      have nE : gE ∉ fpv (.slice A i c) := fun hm => by have := HO.out.1.lt hm; omega
      clear hw7 hgE c17
      have H7 := Lib.hid (And.intro BE (And.intro O7 (And.intro D7 B7))); clear BE O7 D7 B7
      go_upto_region 9 with fail
      obtain ⟨w8, hw8⟩ : ∃ w8, w8 = w7.setCell ⟨gC, 0, none⟩ (.int .i64 0) := ⟨_, rfl⟩
      rw [← hw8]
      have c78 : Chg [gC] w7 w8 := by rw [hw8]; exact (Chg.refl [gC] w7).setCell (.inl (by simp)) _
      have B8 : Blk w8 gC 24 #[.int .i64 0, .int .i64 wo, .float .f64 b1, .float .f64 b2] := by rw [hw8]; exact H7.out.2.2.2.setv 0 (.int .i64 0) rfl
      clear hw8 g0 q0
      have BE8 := c78.blk H7.out.1 (by simpa using H7.out.1.ne_ H7.out.2.2.2 (by decide))
      have O8 := H7.out.2.1.chg c78 (fun k hk hm => H7.out.2.1.ne_blk H7.out.2.2.2 (by decide) (by have e : k = gC := (by simpa using hm); rw [← e]; exact hk))
      have cw8 : Chg [] w w8 := (H1.out.2.1.trans H7.out.2.2.1).newS c78 (fun k hk => by have e : k = gC := (by simpa using hk); rw [e]; exact H1.out.2.2)
      have t0 : w8.cell? ⟨gC, 0, none⟩ = some (.int .i64 0) := B8.cellv 0 rfl
      have t1 : w8.cell? ⟨gC, 1, none⟩ = some (.int .i64 wo) := B8.cellv 1 rfl
      have t2 : w8.cell? ⟨gC, 2, none⟩ = some (.float .f64 b1) := B8.cellv 2 rfl
      have t3 : w8.cell? ⟨gC, 3, none⟩ = some (.float .f64 b2) := B8.cellv 3 rfl
      have l0 := B8.lt
      have nC : gC ∉ fpv (.slice A i c) := O8.ne_blk B8 (by decide)
      have hlen : (List.replicate i (⟨8, 1, 0, 0⟩ : Ins)).length = i := List.length_replicate
      have H8 := Lib.hid (And.intro B8 (And.intro BE8 (And.intro O8 cw8))); clear B8 BE8 O8 cw8 c78
      refine wp_region_takes (fuel := 6) 8 (fun w' => Chg (fpv (.slice A i c)) w8 w') [0, 1, 2, 5] (by kernel_rfl) (by kernel_rfl) (fun _ _ _ _ _ h => h) (((Chg.refl [] w8).drew.mono (by simp))) ?_
      simp only [List.filterMap_cons, List.filterMap_nil, List.getElem?_cons_zero, List.getElem?_cons_succ]
      refine wpTake_step (fun K hK => ?_)
      rw [if_pos (by rfl)]
      refine ⟨?_, fun w' hS' => ?_, ?_⟩
      rotate_left 1
      focus
        have j0 := hS'.cellv l0 nC t0
        have j1 := hS'.cellv l0 nC t1
        have j2 := hS'.cellv l0 nC t2
        have j3 := hS'.cellv l0 nC t3
        go_simp
        try with_reducible rfl
        done
      simp only [Act.put, List.setIfInBounds_toArray, List.set_cons_zero, List.set_cons_succ]
      refine hK _ ?_
      clear hK K
      refine wpTake_step (fun K hK => ?_)
      rw [if_pos (by rfl)]
      refine ⟨?_, fun w' hS' => ?_, ?_⟩
      rotate_left 1
      focus
        have j0 := hS'.cellv l0 nC t0
        have j1 := hS'.cellv l0 nC t1
        have j2 := hS'.cellv l0 nC t2
        have j3 := hS'.cellv l0 nC t3
        go_simp
        try with_reducible rfl
        done
      simp only [Act.put, List.setIfInBounds_toArray, List.set_cons_zero, List.set_cons_succ]
      refine hK _ ?_
      clear hK K
      refine wpTake_step (fun K hK => ?_)
      rw [if_pos (by rfl)]
      refine ⟨?_, fun w' hS' => ?_, ?_⟩
      rotate_left 1
      focus
        have j0 := hS'.cellv l0 nC t0
        have j1 := hS'.cellv l0 nC t1
        have j2 := hS'.cellv l0 nC t2
        have j3 := hS'.cellv l0 nC t3
        go_simp
        try with_reducible rfl
        done
      simp only [Act.put, List.setIfInBounds_toArray, List.set_cons_zero, List.set_cons_succ]
      refine hK _ ?_
      clear hK K
      refine wpTake_step (fun K hK => ?_)
      rw [if_pos (by rfl)]
      refine ⟨?_, fun w' hS' => ?_, ?_⟩
      rotate_left 1
      focus
        have j0 := hS'.cellv l0 nC t0
        have j1 := hS'.cellv l0 nC t1
        have j2 := hS'.cellv l0 nC t2
        have j3 := hS'.cellv l0 nC t3
        go_simp
        try with_reducible rfl
        done
      simp only [Act.put, List.setIfInBounds_toArray, List.set_cons_zero, List.set_cons_succ]
      refine hK _ ?_
      clear hK K
      refine wpTake_nil ?_
      generalize hx0 : w8.drew = x0
      have D0 : Chg [] w8 x0 := by rw [← hx0]; exact (Chg.refl [] w8).drew
      clear hx0
      refine wpAnyS_ready (rs := [3]) (by kernel_rfl) (by simp) ?_
      refine AllReadyS.cons (by simp only [List.getElem?_toArray, List.getElem?_cons_zero, List.getElem?_cons_succ]; rfl) (fun K hK => ?_) ?_
      · rw [if_pos (by rfl)]
        go_simp
        have OA := H8.out.2.2.1.chg0 D0
        refine hK _ _ (((D0.alloc _).mono (by simp))) ?_
        clear hK K
        try simp only [Act.put, List.setIfInBounds_toArray, List.set_cons_zero, List.set_cons_succ]
        refine wpAnyS_ready (rs := [4]) (by kernel_rfl) (by simp) ?_
        refine AllReadyS.cons (by simp only [List.getElem?_toArray, List.getElem?_cons_zero, List.getElem?_cons_succ]; rfl) (fun K hK => ?_) ?_
        · refine step_push_g insC_len insC_one tyI ⟨0, 0, 0, 0⟩ rfl (by rfl) _ _ (by rfl) (by rfl) OA (by rfl) (by rw [hlen]; omega) ?_
          rw [hlen]
          intro A2 c2 x2 O2 S2
          have D2 : Chg (fpv (.slice A i c)) w8 x2 := (D0.mono (by simp)).trans S2.c
          have e2 : List.replicate i (⟨8, 1, 0, 0⟩ : Ins) ++ [⟨0, 0, 0, 0⟩] = yFirst i := rfl
          rw [e2] at O2
          dsimp only
          refine hK _ _ (D2) ?_
          clear hK K
          try simp only [Act.put, List.setIfInBounds_toArray, List.set_cons_zero, List.set_cons_succ]
          refine wpAnyS_ready (rs := [6]) (by kernel_rfl) (by simp) ?_
          refine AllReadyS.cons (by simp only [List.getElem?_toArray, List.getElem?_cons_zero, List.getElem?_cons_succ]; rfl) (fun K hK => ?_) ?_
          · rw [if_pos (by rfl)]
            go_simp
            obtain ⟨gF, hgF⟩ : ∃ g, g = x2.heap.size := ⟨_, rfl⟩
            obtain ⟨x3, hx3⟩ : ∃ x3, x3 = x2.alloc (.cells #[.slice A2 (i + 1) c2, .slice (some ⟨gE, 0, none⟩) 3 3] 34) := ⟨_, rfl⟩
            rw [← hx3, ← hgF]
            have BF : Blk x3 gF 34 #[.slice A2 (i + 1) c2, .slice (some ⟨gE, 0, none⟩) 3 3] := by rw [hx3, hgF]; exact Blk.new _ _ _
            have c23 : Chg [] x2 x3 := by rw [hx3]; exact (Chg.refl [] x2).alloc _
            clear hx3 hgF
            have D3 : Chg (fpv (.slice A i c)) w8 x3 := D2.trans (c23.mono (by simp))
            have O3 := O2.chg0 c23
            refine hK _ _ (D3) ?_
            clear hK K
            try simp only [Act.put, List.setIfInBounds_toArray, List.set_cons_zero, List.set_cons_succ]
            refine wpAnyS_ready (rs := [7]) (by kernel_rfl) (by simp) ?_
            refine AllReadyS.cons (by simp only [List.getElem?_toArray, List.getElem?_cons_zero, List.getElem?_cons_succ]; rfl) (fun K hK => ?_) ?_
            · rw [if_pos (by rfl)]
              go_simp
              go_at_call 7
              refine (one_ok x3 0 _ _ _ _ rfl).mono ?_
              rintro e x4 ⟨rfl, c34⟩
              dsimp only
              have D4 : Chg (fpv (.slice A i c)) w8 x4 := D3.trans (c34.mono (by simp))
              refine hK _ _ (D4) ?_
              clear hK K
              try simp only [Act.put, List.setIfInBounds_toArray, List.set_cons_zero, List.set_cons_succ]
              refine wpAnyS_tail 8 2 (by kernel_rfl) rfl ?_
              simp only [List.drop_succ_cons, List.drop_zero]
              have BE4 := D4.blk H8.out.2.1 nE
              have O4 := O3.chg0 c34
              have BF4 := c34.blk BF (by simp)
              have PR : PrR x4 x4.heap.size (.slice (some ⟨gF, 0, none⟩) 2 2) [.slice A2 (i + 1) c2, .slice (some ⟨gE, 0, none⟩) 3 3] [yFirst i, yEach y] := PrR.two BF4 (OwnG.rd insC_len O4) (rdG_blk (xs := yEach y) insC_len BE4 rfl rfl)
              have cw4 : Chg [] w x4 := H8.out.2.2.2.newS D4 (fun b hb => Nat.le_trans H1.out.2.1.size (HO.out.2.1 b hb))
              have KZ := both_ok x4 0 wo 0 b1 b2 (some ⟨gF, 0, none⟩) 2 _ [yFirst i, yEach y] PR (okYields bk.1 bk.2 by_.2) (by unfold sumL; simp [yFirst, yEach]; omega)
              have HZ := Lib.hid (And.intro cw4 (And.intro PR KZ))
              clear cw4 KZ PR BE4 O4 BF4 BF O3 O2 OA S2 D2 D3 D4 c23 c34 D0 e2 t0 t1 t2 t3 l0 nC nE hlen H8 H7 HO
              go_wp2_with fail
              refine (HZ.out.2.2).mono ?_
              intro e x5 hZ
              obtain ⟨P, nn, hP1, -, -, hn4, hn19, gW, gA, gX, gg, gs, gl, vg, p, m, rfl, FS⟩ := hZ
              have hP := hP1 rfl
              obtain ⟨s0, J0⟩ := YJ.start (by omega) hP FS
              have RJ := YJ.run (k := i) (y := y) (by omega) (by omega) (gW := gW) (wo := ((nn * 64 : Nat) : Int)) (b1 := b1) (b2 := b2) (va := .slice (some ⟨gA, 0, none⟩) 1 1) HZ.out.2.1
              obtain ⟨gm, f0, f2, l0, -⟩ := RJ.cells 0 s0 x5 J0
              have KR : Calls Tryz.prog 13 #[.pointer (some ⟨gW, 0, none⟩), .int .i64 5000] x5 (RunQ 5000 _) := run_ok x5 gW 1 5000 _ s0 RJ (by omega) (by omega) (by omega) J0
              have HR := Lib.hid KR
              clear KR RJ J0 FS hP hP1 hn4 hn19
              go_wp2_with fail
              refine (HR.out).mono ?_
              rintro e x6 ⟨i2, s, rfl, ⟨p6, m6, a6, X6, Q6, cP6, cV6, B6, -, I6, -, -⟩, -⟩
              have C6 := I6.c.C
              have KS := fun (w' : World) (c : Chg [] x6 w') => m_status (B6.M.chg0 c) (by rw [C6.sl]; exact C6.ng) (by rw [C6.tm]; simp)
              rw [I6.stV] at KS
              have cx6 : Chg [] x4 x6 := B6.M.c
              have m0 : x6.cell? ⟨gW, 0, none⟩ = some (.pointer (some ⟨p6.gm, 0, none⟩)) := B6.W.cellv 0 rfl
              have lW := B6.W.lt
              clear f0 f2 l0 HR
              by_cases hQ : Q6 = []
              · subst hQ
                rw [if_pos rfl] at KS
                have C6l := C6.cl
                have H6 := Lib.hid (And.intro B6 (And.intro I6 (And.intro KS cx6))); clear B6 I6 KS cx6 C6
                go_wp2_with fail
                refine (H6.out.2.2.1 _ (Chg.refl [] x6)).mono ?_
                rintro e x7 ⟨rfl, k7, hx7⟩
                have c67 : Chg [] x6 x7 := by rw [hx7]; exact (Chg.refl [] x6).drewN _
                have m0 := c67.cellv lW (by simp) m0
                have KS := H6.out.2.2.1 x7 c67
                have H7 := Lib.hid (And.intro c67 KS); clear hx7 c67 KS
                go_wp2_with fail
                refine (H7.out.2).mono ?_
                rintro e x8 ⟨rfl, k8, hx8⟩
                have c78 : Chg [] x7 x8 := by rw [hx8]; exact (Chg.refl [] x7).drewN _
                have m0 := c78.cellv (Nat.lt_of_lt_of_le lW H7.out.1.size) (by simp) m0
                have c68 := H7.out.1.trans c78
                have c68' := Lib.hid c68
                clear hx8 c78
                have hmk : ∀ W : World, (Instr.makeSlice 37 (.int .i64 ((i : Int) + 1)) (.int .i64 ((i : Int) + 1))).run Tryz.prog W = .ok (.slice (some ⟨W.heap.size, 0, none⟩) (i + 1) (i + 1)) (W.alloc (.cells (zcells (.int .i64 0) (i + 1)) 3)) := fun W => run_make_z (P := Tryz.prog) 37 3 (.int .i64 0) 8 Tryz.underlying37 (by kernel_rfl) rfl .i64 .i64 (i + 1) (by omega) (by omega) W
                go_upto_region 20 with fail
                obtain ⟨gd, hgd⟩ : ∃ g, g = x8.heap.size := ⟨_, rfl⟩
                obtain ⟨x9, hx9⟩ : ∃ x9, x9 = x8.alloc (.cells (zcells (.int .i64 0) (i + 1)) 3) := ⟨_, rfl⟩
                rw [← hx9, ← hgd]
                have BD : Blk x9 gd 3 (dnC (i + 1) (yds (m6.cms.take 0))) := by
                  have e : dnC (i + 1) (yds (m6.cms.take 0)) = zcells (.int .i64 0) (i + 1) := by
                    rw [dnC_zero, List.take_zero]
                    rfl
                  rw [e, hx9, hgd]; exact Blk.new _ _ _
                have c89 : Chg [] x8 x9 := by rw [hx9]; exact (Chg.refl [] x8).alloc _
                have c69 := c68.trans c89
                have hdn : x8.heap.size ≤ gd := by omega
                clear hmk hx9 hgd
                obtain ⟨L, hL⟩ : ∃ L, L = m6.cms.length := ⟨_, rfl⟩
                have bL : L ≤ 100000000 := by rw [hL]; exact C6l
                have H9 := Lib.hid (And.intro BD (And.intro c69 (And.intro c89 (And.intro hdn hL)))); clear BD c69 c89 hdn hL c68 m0
                go_loopg [14] (L + 1) (fun gk idx wr => YcRel x8 i gd m6.cms gk idx wr)
                case atStart => exact ⟨0, by have := H9.out.2.2.2.2; omega, by omega, rfl, H9.out.1, H9.out.2.2.1⟩
                case round =>
                  obtain ⟨j, hgk, hj, rfl, BD, cW⟩ := hrel
                  rw [← H9.out.2.2.2.2] at hgk hj
                  have c6r := c68'.out.trans cW
                  have Br := H6.out.1.chg0 c6r
                  have m0 : wr.cell? ⟨gW, 0, none⟩ = some (.pointer (some ⟨p6.gm, 0, none⟩)) := Br.W.cellv 0 rfl
                  have KC := m_commits Br.M
                  rw [← H9.out.2.2.2.2] at KC
                  by_cases hlt : j < L
                  · obtain ⟨cc, hcc⟩ : ∃ cc, m6.cms[j]? = some cc := ⟨_, List.getElem?_eq_getElem (by rw [← H9.out.2.2.2.2]; exact hlt)⟩
                    have hyt := yds_take hcc
                    have hnn := (H6.out.2.1.done 1 (by omega) (by omega)).1
                    obtain ⟨g, hg, hgl⟩ := H6.out.2.1.c.cmg cc (List.mem_of_getElem? hcc)
                    rw [hnn] at hgl
                    have KX := m_commit_at Br.M j _ hcc
                    obtain ⟨cg, cf, cpc, cop, cv, cfl⟩ := cc
                    have hg : cg = (g : Nat) := hg
                    subst hg
                    have HC := Lib.hid (And.intro KC (And.intro KX (And.intro hyt (And.intro BD (And.intro cW hcc))))); clear KC KX hyt BD cW hcc Br c6r hnn
                    have d2 : (j : Int) < (L : Int) := by omega
                    go_wp2_with fail
                    refine (HC.out.1).mono ?_
                    rintro e w1 ⟨rfl, rfl⟩
                    go_wp2_with fail
                    refine (HC.out.2.1).mono ?_
                    rintro e w2 ⟨rfl, cx⟩
                    dsimp only [comC]
                    have Hx := Lib.hid cx; clear cx m0
                    go_upto_region 23 with fail
                    obtain ⟨gc, hgc⟩ : ∃ g', g' = w2.heap.size := ⟨_, rfl⟩
                    obtain ⟨w3, hw3⟩ : ∃ w3, w3 = w2.alloc (.cells #[.int .i64 (g : Nat), .int .i64 cf, .int .i64 cpc, .int .i64 cop, .int .i64 cv, .bool cfl] 60) := ⟨_, rfl⟩
                    rw [← hw3, ← hgc]
                    have BC : Blk w3 gc 60 #[.int .i64 (g : Nat), .int .i64 cf, .int .i64 cpc, .int .i64 cop, .int .i64 cv, .bool cfl] := by rw [hw3, hgc]; exact Blk.new _ _ _
                    have c13 : Chg [] w1 w3 := by rw [hw3]; exact Hx.out.alloc _
                    clear hw3 hgc
                    have BD3 := c13.blk HC.out.2.2.2.1 (by simp)
                    have k0 : w3.cell? ⟨gc, 0, none⟩ = some (.int .i64 (g : Nat)) := BC.cellv 0 rfl
                    have k3 : w3.cell? ⟨gc, 3, none⟩ = some (.int .i64 cop) := BC.cellv 3 rfl
                    have c83 := HC.out.2.2.2.2.1.trans c13
                    have H3 := Lib.hid (And.intro BC (And.intro BD3 c83)); clear BC BD3 c83 c13
                    by_cases h9 : cop = 9
                    · subst h9
                      obtain ⟨n, hn⟩ : ∃ n, n = yds (m6.cms.take j) g := ⟨_, rfl⟩
                      have bn : n ≤ j := by rw [hn]; exact yds_le _ _ _
                      have dn : w3.cell? ⟨gd, g, none⟩ = some (.int .i64 (n : Nat)) := by rw [hn]; exact H3.out.2.1.cellv g (dnC_at hgl)
                      have df := H3.out.2.1.frozen g
                      have d3 : (0 : Int) ≤ (g : Int) := by omega
                      have d4 : (g : Int) < (i : Int) + 1 := by omega
                      have BS : Blk (w3.setCell ⟨gd, g, none⟩ (.int .i64 ((n : Int) + 1))) gd 3 (dnC (i + 1) (yds (m6.cms.take (j + 1)))) := by
                        refine H3.out.2.1.setv g _ ?_
                        rw [hn]
                        exact dnC_set hgl fun k hk => by
                          rw [HC.out.2.2.1 k]
                          by_cases e : k = g
                          · subst e; rw [if_pos ⟨rfl, rfl⟩, if_pos rfl]
                          · rw [if_neg (fun h => e (by have := h.2; omega)), if_neg e]; rfl
                      have cS : Chg [] x8 (w3.setCell ⟨gd, g, none⟩ (.int .i64 ((n : Int) + 1))) := H3.out.2.2.newS ((Chg.refl [gd] w3).setCell (.inl (by simp)) _) (fun b hb => by rw [List.mem_singleton.1 hb]; exact H9.out.2.2.2.1)
                      have HS := Lib.hid (And.intro BS cS); clear BS cS hn
                      go_wp2_with fail
                      go_roundg (L - j)
                      case measure => omega
                      case rel => exact ⟨j + 1, by have := H9.out.2.2.2.2; omega, by have := H9.out.2.2.2.2; omega, by go_num, HS.out.1, HS.out.2⟩
                    · have d9 : (cop == 9) = false := by rw [beq_eq_false_iff_ne]; exact h9
                      have BS : Blk w3 gd 3 (dnC (i + 1) (yds (m6.cms.take (j + 1)))) := by
                        have e : yds (m6.cms.take (j + 1)) = yds (m6.cms.take j) := by
                          funext k
                          rw [HC.out.2.2.1 k, if_neg (fun h => h9 h.1)]
                          rfl
                        rw [e]
                        exact H3.out.2.1
                      have HS := Lib.hid BS; clear BS
                      go_wp2_with fail
                      go_roundg (L - j)
                      case measure => omega
                      case rel => exact ⟨j + 1, by have := H9.out.2.2.2.2; omega, by have := H9.out.2.2.2.2; omega, by go_num, HS.out, H3.out.2.2⟩
                  · have d2 : ¬ (j : Int) < (L : Int) := by omega
                    have HC := Lib.hid (And.intro KC (And.intro BD cW)); clear KC BD cW Br c6r
                    go_wp2_with fail
                    refine (HC.out.1).mono ?_
                    rintro e w1 ⟨rfl, rfl⟩
                    go_wp2_with fail
                    have ej : j = m6.cms.length := by have := H9.out.2.2.2.2; omega
                    have BF : Blk w1 gd 3 (dnC (i + 1) (yds m6.cms)) := by
                      have h := HC.out.2.1
                      rw [ej, List.take_length] at h
                      exact h
                    have HD := Lib.hid (And.intro BF (HC.out.2.2)); clear BF ej m0
                    go_loopg [17] (i + 1) (fun gk idx wr => YeRel w1 i gk idx wr)
                    case atStart => exact ⟨1, by omega, by omega, by omega, rfl, Chg.refl [] w1⟩
                    case round =>
                      obtain ⟨j2, hgk2, hj1, hj2, rfl, cR⟩ := hrel
                      have HR := Lib.hid cR; clear cR
                      by_cases hlt : j2 ≤ i
                      · have e2 : ((yds m6.cms j2 : Nat) : Int) = (y : Int) + 1 := by rw [(H6.out.2.1.done j2 hj1 hlt).2]; push_cast; rfl
                        have dn : wr.cell? ⟨gd, j2, none⟩ = some (.int .i64 ((y : Int) + 1)) := by rw [← e2]; exact (HR.out.blk HD.out.1 (by simp)).cellv j2 (dnC_at (by omega))
                        have d3 : (0 : Int) ≤ (j2 : Int) := by omega
                        have d4 : (j2 : Int) < (i : Int) + 1 := by omega
                        have d5 : (j2 : Int) ≤ (i : Int) := by omega
                        clear e2
                        go_wp2_with fail
                        go_roundg (i + 1 - j2)
                        case measure => omega
                        case rel => exact ⟨j2 + 1, by omega, by omega, by omega, by go_num, HR.out⟩
                      · have d5 : ¬ (j2 : Int) ≤ (i : Int) := by omega
                        go_wp2_with fail
                        refine (told28_yes wr).mono ?_
                        rintro e x10 ⟨rfl, c10⟩
                        have H10 := Lib.hid c10; clear c10
                        go_wp2_with fail
                        go_ret
                        exact ⟨rfl, ((((HZ.out.1.trans H6.out.2.2.2).trans c68'.out).trans HD.out.2).trans HR.out).trans H10.out⟩
              · rw [if_neg hQ] at KS
                have H6 := Lib.hid (And.intro KS cx6); clear KS cx6
                go_wp2_with fail
                refine (H6.out.1 _ (Chg.refl [] x6)).mono ?_
                rintro e x7 ⟨rfl, k7, hx7⟩
                have c67 : Chg [] x6 x7 := by rw [hx7]; exact (Chg.refl [] x6).drewN _
                have H7 := Lib.hid c67; clear c67 hx7
                go_wp2_with fail
                refine (told28_yes x7).mono ?_
                rintro e x8 ⟨rfl, c78⟩
                have H8 := Lib.hid c78; clear c78
                go_wp2_with fail
                go_ret
                exact ⟨rfl, ((HZ.out.1.trans H6.out.2).trans H7.out).trans H8.out⟩
            exact AllReadyS.nil
          exact AllReadyS.nil
        exact AllReadyS.nil
      exact AllReadyS.nil
theorem yields_all (ps wo : Int) (b1 b2 : Nat) (a1 a2 : Int) (W : World) (_ : Tab W) : Calls Tryz.prog 5 #[.agg #[.int .i64 ps, .int .i64 wo, .float .f64 b1, .float .f64 b2], .int .i64 a1, .int .i64 a2] W (NwPost (.bool true) W) := yields_any ps wo b1 b2 a1 a2 W
end Go.Proofs.YthjplmminmhiaaaGreatDoor
