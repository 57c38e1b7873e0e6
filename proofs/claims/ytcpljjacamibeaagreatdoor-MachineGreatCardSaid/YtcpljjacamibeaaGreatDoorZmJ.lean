/- MachineGreat: as many goroutines as there may be, and no more: who begins one too many is dead by it, and nobody else. (Printed by wip/genzm.py.) -/
/- A choice, read off an argument. -/
/- A configuration, read off an argument. -/
/- The last step of a law's row: the call returned true and nothing that was there has changed. No program's number in sight. -/
/- A closed fact of MachineGreat's row. -/
/- Closed facts of MachineGreat's row. -/
import Derived.Test.YtcpljjacamibeaaGreatDoorZiJ
import Derived.Test.YtcpljjacamibeaaGreatDoorRows
import Derived.WalkKit
import Derived.ProofKit
import Derived.OpenShut
import Derived.Lib.SmallJoins
import Derived.Test.YtcpljjacamibeaaGreatDoorMemJ
import Derived.Carry
import Derived.Deep.Slices
import Derived.Deep.Fields
namespace Go.Proofs.YtcpljjacamibeaaGreatDoor
set_option maxHeartbeats 16000000
set_option maxRecDepth 100000
open Go.RowKit Go.Maps
theorem OwnG.mk' {α : Type} {f : α → List Value} {sz g : Nat} {E : TypeId} {w : World} (hf : ∀ x, (f x).length = sz) (xs : List α) (B : Blk w g E (xs.flatMap f).toArray) (hl : xs.length ≤ 1000000) : OwnG f sz E w (.slice (some ⟨g, 0, none⟩) xs.length xs.length) xs :=
  ⟨own_mk (rest := []) (by rw [List.append_nil]; exact B) (by rw [flat_len hf]; simp) (Nat.le_refl _) (by unfold maxLen; omega) (flat_len hf xs)⟩
theorem run_catO {α : Type} {f : α → List Value} {sz by_ : Nat} {P : Program} {T E : TypeId} {w : World} {v u : Value} {xs ys : List α} (hf : ∀ x, (f x).length = sz) (h1 : ∀ x, ∀ u ∈ f x, u.oneCell' = true) (t : TyS P T E sz by_) (ty : TypeId) (h : OwnG f sz E w v xs) (hy : OwnG f sz E w u ys) (hp : 0 < ys.length) (hl : xs.length + ys.length ≤ 100000000) :
    ∃ v' w', (Builtin.append_ #[T, T] ty #[v, u]).run P w = .ok v' w' ∧ OwnG f sz E w' v' (xs ++ ys) ∧ Stp (fpv v) (fpv v') w w' := by
  obtain ⟨gE, c, rest, rfl, B, -⟩ := own_open hy.o hp
  obtain ⟨z, hz0, hzc⟩ := t.i
  obtain ⟨i, hi, hz, hsz, hb⟩ := info_parts hz0
  have hb2 := t.b
  have hm : (xs.length + ys.length) * by_ ≤ 140737488355328 := by
    have := Nat.mul_le_mul hl hb2
    omega
  obtain ⟨v', w', hrun, g1, g2, g3, g4⟩ := run_append_own_at (P := P) w 0 T ty E i z sz by_ t.s hi hz hsz hb hzc t.p v xs.length (xs.flatMap f) h.o ⟨gE, 0, none⟩ ys.length c (ys.flatMap f) (by rw [flat_len hf])
    (fun j u hu => by
      rw [WideShapes.add_plain, Nat.zero_add, B.cell]
      have hj := (List.getElem?_eq_some_iff.1 hu).1
      rw [List.getElem?_toArray, List.getElem?_append_left hj]; exact hu)
    (fun u hu => by obtain ⟨x, -, hx⟩ := List.mem_flatMap.1 hu; exact h1 x u hx) (by unfold maxLen; omega) hm (Nat.zero_le _)
  refine ⟨v', w', hrun, ⟨?_⟩, ⟨(Chg.refl (fpv v) w).grown g2 fun k hk => .inl (mem_fpv.2 hk), fun k hk => ?_⟩⟩
  · rw [List.flatMap_append, List.length_append]; exact g1
  · rcases g4 with h4 | h4
    · rw [mem_fpv, h4] at hk; exact .inl (mem_fpv.2 hk)
    · rw [mem_fpv, h4] at hk
      injection hk with hk
      exact .inr (by omega)
theorem wpList_catO {α : Type} {f : α → List Value} {sz by_ : Nat} {P : Program} {T E : TypeId} {w : World} {v u : Value} {xs ys : List α} {ops : Array Oper} {rest : List Oper} {op : Oper} {a : Act} {Q : Exit → Act → World → Prop} (hf : ∀ x, (f x).length = sz) (h1 : ∀ x, ∀ u ∈ f x, u.oneCell' = true) (t : TyS P T E sz by_) (n : Nat) (hn : xs.length + ys.length = n) (hgd : op.guard = none) (s y : Operand)
    (hop : op.op = .call { callee := .builtin .append, args := #[s, y], argTypes := #[T, T] }) (hs : a.eval s = v) (h : OwnG f sz E w v xs) (hx : a.eval y = u) (hy : OwnG f sz E w u ys) (hp : 0 < ys.length) (hl : n ≤ 100000000)
    (hK : ∀ A' c' w', OwnG f sz E w' (.slice A' n c') (xs ++ ys) → Stp (fpv v) (fpv (.slice A' n c')) w w' → wpList P ops Q rest (a.put op.dst (.slice A' n c')) w') : wpList P ops Q (op :: rest) a w := by
  obtain ⟨v', w', hr, h2, h3⟩ := run_catO hf h1 t op.type h hy hp (by omega)
  obtain ⟨A', c', e⟩ := h2.slice
  rw [List.length_append, hn] at e
  subst e
  refine wpList_plain hgd fun K' hK' => ?_
  unfold Oper.wp execOp
  simp only [hop, resolve, invoke, builtin, Sem.run_bind, Sem.run_pure, Result.andThen_ok, List.map_toArray, List.map_cons, List.map_nil, hs, hx, hr]
  exact hK' _ _ (hK A' c' w' h2 h3)
theorem gEach_len (k : Nat) : (gEach k).length = k + 1 := by simp [gEach]
theorem gEach_succ (k : Nat) : [⟨4, k, 15, 0⟩] ++ gEach k = gEach (k + 1) := by
  unfold gEach; rw [List.range_succ, List.reverse_append, List.map_append]; simp
theorem okG8 : okIns 0 2 2 ⟨8, 1, 0, 0⟩ := ⟨rfl, by decide, by decide, by decide, by decide⟩
theorem okG14 : okIns 0 2 2 ⟨14, 0, 0, 0⟩ := ⟨rfl, by decide, by decide, by decide, by decide⟩
theorem okG0 (S : Nat) : okIns 0 2 S ⟨0, 0, 0, 0⟩ := ⟨rfl, by decide, by decide, by decide, by decide⟩
theorem okG4 (S b : Nat) (hb : b < 4) : okIns 0 2 S ⟨4, b, 15, 0⟩ := by
  have : b = 0 ∨ b = 1 ∨ b = 2 ∨ b = 3 := by omega
  rcases this with rfl | rfl | rfl | rfl <;> exact ⟨rfl, by decide, by decide, by decide, by decide⟩
theorem okGreat {k : Nat} (hk : k ≤ 4) : OkP 0 (gFs k) := by
  refine ⟨by omega, by show 1 ≤ 2; omega, by show 2 ≤ 16; omega, fun l hl => ?_⟩
  have hl : l = gFirst ∨ l = gEach k := by simpa [gFs] using hl
  rcases hl with rfl | rfl
  · refine ⟨by decide, by decide, fun i hi => ?_⟩
    rcases List.mem_cons.1 hi with rfl | h
    · exact okG8
    · rw [List.mem_singleton.1 h]; exact okG14
  · refine ⟨by rw [gEach_len]; omega, by rw [gEach_len]; omega, fun i hi => ?_⟩
    rcases List.mem_append.1 hi with h | h
    · obtain ⟨j, hj, rfl⟩ := List.mem_map.1 h
      have := List.mem_range.1 (List.mem_reverse.1 hj)
      exact okG4 _ _ (by omega)
    · rw [List.mem_singleton.1 h]; exact okG0 _
def GgRel (w1 : World) (k : Nat) (gk : Nat) (v idx : Value) (w : World) : Prop := ∃ (i : Nat) (A : Option Addr) (c : Nat), gk + i = k + 1 ∧ i ≤ k ∧ idx = .int .i64 (i : Nat) ∧ v = .slice A (i + 1) c ∧ OwnG insC 4 33 w (.slice A (i + 1) c) (gEach i) ∧ (∀ b ∈ fpv (.slice A (i + 1) c), w1.heap.size ≤ b) ∧ Chg [] w1 w
def p8 (c : ComA) : Bool := decide (c.op = 8) && !c.flt
def GcRel (w7 : World) (cms : List ComA) (gk : Nat) (sv fv idx : Value) (w : World) : Prop := ∃ j n1 n2 : Nat, gk + j = cms.length + 1 ∧ j ≤ cms.length ∧ idx = .int .i64 (j : Nat) ∧ sv = .int .i64 (n1 : Nat) ∧ fv = .int .i64 (n2 : Nat) ∧ n1 ≤ j ∧ n2 ≤ j ∧ n1 = ((cms.take j).filter p8).length ∧ n2 = (cms.take j).countP (fun c => c.flt) ∧ Chg [] w7 w
theorem p8_take {cms : List ComA} {n j : Nat} {c : ComA} (h : cms[j]? = some c) (hs : (cms.filter p8).map (·.v) = (List.range n).map (fun i => ((i + 1 : Nat) : Int))) :
    ((cms.take (j + 1)).filter p8).length = ((cms.take j).filter p8).length + (if p8 c = true then 1 else 0) ∧ (p8 c = true → c.v = ((((cms.take j).filter p8).length + 1 : Nat) : Int)) := by
  have hj := (List.getElem?_eq_some_iff.1 h).1
  have e1 : cms.take (j + 1) = cms.take j ++ [c] := by rw [List.take_add_one, h]; rfl
  have e2 : cms = cms.take j ++ c :: cms.drop (j + 1) := by
    have := List.take_append_drop (j + 1) cms
    rw [e1] at this
    rw [List.append_assoc] at this
    exact this.symm
  constructor
  · rw [e1, List.filter_append, List.length_append]
    congr 1
    by_cases hp : p8 c = true <;> simp [List.filter_cons, hp]
  · intro hp
    have hf : cms.filter p8 = (cms.take j).filter p8 ++ c :: (cms.drop (j + 1)).filter p8 := by
      conv => lhs; rw [e2]
      rw [List.filter_append, List.filter_cons, if_pos hp]
    have h1 : ((cms.filter p8).map (·.v))[((cms.take j).filter p8).length]? = some c.v := by
      rw [hf, List.getElem?_map, List.getElem?_append_right (Nat.le_refl _), Nat.sub_self]; rfl
    rw [hs, List.getElem?_map] at h1
    obtain ⟨i, hi, he⟩ := Option.map_eq_some_iff.1 h1
    obtain ⟨hi1, hi2⟩ := List.getElem?_eq_some_iff.1 hi
    rw [List.getElem_range] at hi2
    rw [← he, ← hi2]
theorem cnt_takeZ {p : ComA → Bool} {cms : List ComA} {j : Nat} {c : ComA} (h : cms[j]? = some c) : (cms.take (j + 1)).countP p = (cms.take j).countP p + if p c = true then 1 else 0 := by
  rw [List.take_add_one, h, List.countP_append]
  simp
theorem great_any (ps wo : Int) (b1 b2 : Nat) (a1 : Int) (w : World) : Calls Tryz.prog 4 #[.agg #[.int .i64 ps, .int .i64 wo, .float .f64 b1, .float .f64 b2], .int .i64 a1] w (NwPost (.bool true) w) := by
  obtain ⟨k, hk, en1⟩ := mod28 a1 5 (by omega) (by omega)
  have en1 : wrap64 ((IntKind.u64.wrap a1).tmod 5) = k := en1
  have bk : k ≤ 4 := by omega
  go_enter Tryz.func4, Tryz.ntmps4
  go_upto_region 1 with fail
  obtain ⟨w1, hw1⟩ : ∃ w1, w1 = w.alloc (.cells #[.int .i64 ps, .int .i64 wo, .float .f64 b1, .float .f64 b2] 24) := ⟨_, rfl⟩
  obtain ⟨gC, hgC⟩ : ∃ g, g = w.heap.size := ⟨_, rfl⟩
  rw [← hw1, ← hgC]
  have BC : Blk w1 gC 24 #[.int .i64 ps, .int .i64 wo, .float .f64 b1, .float .f64 b2] := by rw [hw1, hgC]; exact Blk.new w _ _
  have c01 : Chg [] w w1 := by rw [hw1]; exact (Chg.refl [] w).alloc _
  clear hw1 hgC
  have H1 := Lib.hid (And.intro BC c01); clear c01 BC
  go_upto_region 2 with fail
  rw [en1]
  clear en1 hk
  go_upto_region 3 with fail
  obtain ⟨gZ, hgZ⟩ : ∃ g, g = w1.heap.size := ⟨_, rfl⟩
  obtain ⟨w2, hw2⟩ : ∃ w2, w2 = w1.alloc (.cells #[.int .i64 0, .int .i64 0, .int .i64 0, .int .i64 0] 33) := ⟨_, rfl⟩
  rw [← hw2, ← hgZ]
  have BZ : Blk w2 gZ 33 (([⟨0, 0, 0, 0⟩] : List Ins).flatMap insC).toArray := by rw [hw2, hgZ]; exact Blk.new _ _ _
  have c12 : Chg [] w1 w2 := by rw [hw2]; exact (Chg.refl [] w1).alloc _
  have OZ : OwnG insC 4 33 w2 (.slice (some ⟨gZ, 0, none⟩) 1 1) (gEach 0) := OwnG.mk' insC_len [⟨0, 0, 0, 0⟩] BZ (by simp)
  have fZ : ∀ b ∈ fpv (.slice (some ⟨gZ, 0, none⟩) 1 1), w1.heap.size ≤ b := fun b hb => by
    have e : b = gZ := by simpa [fpv, Value.ownBlock] using hb
    rw [e, hgZ]; exact Nat.le_refl _
  have H2 := Lib.hid (And.intro OZ (And.intro fZ c12)); clear OZ fZ c12 BZ hw2 hgZ
  go_wp2_with fail
  go_loopg [6, 7] (k + 1) (fun gk v idx wr => GgRel w1 k gk v idx wr)
  case atStart => exact ⟨0, _, _, by omega, by omega, rfl, rfl, H2.out.1, H2.out.2.1, H2.out.2.2⟩
  case round =>
    obtain ⟨i, A, c, hgk, hi, rfl, rfl, O, hF, cW⟩ := hrel
    by_cases hlt : i < k
    · have d1 : (i : Int) < (k : Int) := by omega
      have HO := Lib.hid (And.intro hF cW); clear hF cW
      have cA : Chg [] wr (wr.alloc (.cells #[.int .i64 4, .int .i64 (i : Nat), .int .i64 15, .int .i64 0] 33)) := (Chg.refl [] wr).alloc _
      have OA := O.chg0 cA
      have ON : OwnG insC 4 33 (wr.alloc (.cells #[.int .i64 4, .int .i64 (i : Nat), .int .i64 15, .int .i64 0] 33)) (.slice (some ⟨wr.heap.size, 0, none⟩) 1 1) [⟨4, i, 15, 0⟩] := OwnG.mk' insC_len [⟨4, i, 15, 0⟩] (Blk.new wr _ _) (by simp)
      go_wp2_with (at_builtin; refine wpList_catO insC_len insC_one tyI (i + 1 + 1) (by rw [gEach_len]; simp; omega) rfl _ _ rfl rfl ON rfl OA (by rw [gEach_len]; omega) (by omega) ?_; intro A' c' w9 O9 S9)
      have S9 : Stp (fpv (.slice (some ⟨wr.heap.size, 0, none⟩) 1 1)) (fpv (.slice A' (i + 1 + 1) c')) (wr.alloc (.cells #[.int .i64 4, .int .i64 (i : Nat), .int .i64 15, .int .i64 0] 33)) w9 := S9
      have cN : Chg [] wr w9 := cA.newS S9.c (fun b hb => by
        have e : b = wr.heap.size := by simpa [fpv, Value.ownBlock] using hb
        omega)
      have D9 : Chg [] w1 w9 := HO.out.2.trans cN
      have F9 : ∀ b ∈ fpv (.slice A' (i + 1 + 1) c'), w1.heap.size ≤ b := fun b hb => by
        have h0 := HO.out.2.size
        rcases S9.f b hb with h | h
        · have e : b = wr.heap.size := by simpa [fpv, Value.ownBlock] using h
          omega
        · have := cA.size; omega
      rw [gEach_succ] at O9
      have H9 := Lib.hid (And.intro O9 (And.intro F9 D9)); clear O9 F9 D9 S9 O ON OA cA cN
      go_roundg (k - i)
      case measure => omega
      case rel => exact ⟨i + 1, A', c', by omega, by omega, by go_num, by go_num, H9.out.1, H9.out.2.1, H9.out.2.2⟩
    · have d1 : ¬ (i : Int) < (k : Int) := by omega
      have ei : i = k := by omega
      subst ei
      have HO := Lib.hid (And.intro O (And.intro hF cW)); clear O hF cW
      go_upto_region 7 with fail
      obtain ⟨w8, hw8⟩ : ∃ x, x = wr := ⟨_, rfl⟩
      subst hw8
      have OE := HO.out.1
      have BC8 := HO.out.2.2.blk H1.out.1 (by simp)
      have cw8 : Chg [] w w8 := H1.out.2.trans HO.out.2.2
      have t0 : w8.cell? ⟨gC, 0, none⟩ = some (.int .i64 ps) := BC8.cellv 0 rfl
      have t1 : w8.cell? ⟨gC, 1, none⟩ = some (.int .i64 wo) := BC8.cellv 1 rfl
      have t2 : w8.cell? ⟨gC, 2, none⟩ = some (.float .f64 b1) := BC8.cellv 2 rfl
      have t3 : w8.cell? ⟨gC, 3, none⟩ = some (.float .f64 b2) := BC8.cellv 3 rfl
      have l0 := BC8.lt
      have H8 := Lib.hid cw8; clear cw8 BC8
      refine wp_region_takes (fuel := 5) 7 (fun w' => Chg [] w8 w') [0, 1, 2, 4] (by kernel_rfl) (by kernel_rfl) (fun _ _ _ _ _ h => h) ((Chg.refl [] w8).drew) ?_
      simp only [List.filterMap_cons, List.filterMap_nil, qGa, qGb]
      iterate 4
        refine wpTake_step (fun K hK => ?_)
        rw [if_pos (by rfl)]
        refine ⟨?_, fun w' hS' => ?_, ?_⟩
        rotate_left 1
        focus
          have j0 := hS'.cellv l0 (by simp) t0
          have j1 := hS'.cellv l0 (by simp) t1
          have j2 := hS'.cellv l0 (by simp) t2
          have j3 := hS'.cellv l0 (by simp) t3
          go_simp
          try with_reducible rfl
          done
        simp only [Act.put, qSa, qSb, qSc]
        refine hK _ ?_
        clear hK K
      refine wpTake_nil ?_
      generalize hx0 : w8.drew = x0
      have D0 : Chg [] w8 x0 := by rw [← hx0]; exact (Chg.refl [] w8).drew
      clear hx0
      refine wpAnyS_ready (rs := [3]) (by kernel_rfl) (by simp) ?_
      refine AllReadyS.o (fun K hK => ?_)
      have OE := OE.chg0 D0
      rw [if_pos (by rfl)]
      go_simp
      obtain ⟨gE, hgE⟩ : ∃ g, g = x0.heap.size := ⟨_, rfl⟩
      obtain ⟨x1, hx1⟩ : ∃ x, x = x0.alloc (.cells #[.int .i64 8, .int .i64 1, .int .i64 0, .int .i64 0, .int .i64 14, .int .i64 0, .int .i64 0, .int .i64 0] 33) := ⟨_, rfl⟩
      rw [← hx1, ← hgE]
      have BE : Blk x1 gE 33 #[.int .i64 8, .int .i64 1, .int .i64 0, .int .i64 0, .int .i64 14, .int .i64 0, .int .i64 0, .int .i64 0] := by rw [hx1, hgE]; exact Blk.new _ _ _
      have cN : Chg [] x0 x1 := by rw [hx1]; exact (Chg.refl [] x0).alloc _
      have nE : w8.heap.size ≤ gE := by have := D0.size; omega
      clear hx1 hgE
      have D1 : Chg [] w8 x1 := D0.trans cN
      have OE := OE.chg0 cN
      try have BF := cN.blk BF (by simp)
      clear cN
      refine hK _ _ (D1) ?_
      clear hK K
      try simp only [Act.put, qSa, qSb, qSc]
      refine wpAnyS_ready (rs := [5]) (by kernel_rfl) (by simp) ?_
      refine AllReadyS.o (fun K hK => ?_)
      rw [if_pos (by rfl)]
      go_simp
      obtain ⟨gF, hgF⟩ : ∃ g, g = x1.heap.size := ⟨_, rfl⟩
      obtain ⟨x2, hx2⟩ : ∃ x, x = x1.alloc (.cells #[.slice (some ⟨gE, 0, none⟩) 2 2, .slice A (i + 1) c] 34) := ⟨_, rfl⟩
      rw [← hx2, ← hgF]
      have BF : Blk x2 gF 34 #[.slice (some ⟨gE, 0, none⟩) 2 2, .slice A (i + 1) c] := by rw [hx2, hgF]; exact Blk.new _ _ _
      have cN : Chg [] x1 x2 := by rw [hx2]; exact (Chg.refl [] x1).alloc _
      have nF : w8.heap.size ≤ gF := by have := D1.size; omega
      clear hx2 hgF
      have D2 : Chg [] w8 x2 := D1.trans cN
      have OE := OE.chg0 cN
      try have BE := cN.blk BE (by simp)
      clear cN
      refine hK _ _ (D2) ?_
      clear hK K
      try simp only [Act.put, qSa, qSb, qSc]
      refine wpAnyS_ready (rs := [6]) (by kernel_rfl) (by simp) ?_
      refine AllReadyS.o (fun K hK => ?_)
      rw [if_pos (by rfl)]
      go_simp
      go_at_call 7
      refine (one_ok x2 0 _ _ _ _ rfl).mono ?_
      rintro e x3 ⟨rfl, cN⟩
      dsimp only
      have D3 : Chg [] w8 x3 := D2.trans cN
      have OE := OE.chg0 cN
      have BE := cN.blk BE (by simp)
      have BF := cN.blk BF (by simp)
      clear cN
      refine hK _ _ (D3) ?_
      clear hK K
      try simp only [Act.put, qSa, qSb, qSc]
      refine wpAnyS_tail 7 2 (by kernel_rfl) rfl ?_
      simp only [qDa, qDb]
      obtain ⟨x4, hx4⟩ : ∃ x, x = x3 := ⟨_, rfl⟩
      rw [← hx4] at OE BE BF D3 ⊢
      clear hx4
      have PR : PrR x4 x4.heap.size (.slice (some ⟨gF, 0, none⟩) 2 2) [.slice (some ⟨gE, 0, none⟩) 2 2, .slice A (i + 1) c] (gFs i) := PrR.two BF (rdG_blk (xs := gFirst) insC_len BE rfl rfl) (OE.rd insC_len)
      have cw4 : Chg [] w x4 := H8.out.trans D3
      clear D0
      have KZ : Calls Tryz.prog 6 #[.agg #[.int .i64 ps, .int .i64 wo, .float .f64 b1, .float .f64 b2], .agg #[.int .i64 0, .slice (some ⟨gF, 0, none⟩) 2 2]] x4 (BothPost ps 0 b1 b2 (gFs i) (.slice (some ⟨gF, 0, none⟩) 2 2) x4) := both_ok x4 ps wo 0 b1 b2 (some ⟨gF, 0, none⟩) 2 _ (gFs i) PR (okGreat bk) (by unfold sumL; simp [gFs, gFirst, gEach_len]; omega)
      have HZ := Lib.hid (And.intro cw4 (And.intro PR KZ))
      clear cw4 KZ PR BE BF OE t0 t1 t2 t3 l0 H8 nE nF
      go_wp2_with fail
      refine (HZ.out.2.2).mono ?_
      intro e x5 hZ
      obtain ⟨P, nn, -, hPl, hPh, hn4, hn19, gW, gA, gX, gg, gs, gl, vg, p, m, rfl, FS⟩ := hZ
      obtain ⟨s0, J0⟩ := GZ.start (J := GrJ i) FS hPl (by omega) (fun X h1 h2 h3 h4 h5 h6 _ _ => GrJ.start X h1 h2 h3 h4 h5 h6)
      have RJ := GrJ.run (k := i) (gW := gW) (wo := ((nn * 64 : Nat) : Int)) (b1 := b1) (b2 := b2) (va := .slice (some ⟨gA, 0, none⟩) 1 1) bk HZ.out.2.1 hPl (by omega) (60000 * P) (by omega)
      obtain ⟨gm, f0, f2, l0, -⟩ := RJ.cells 0 s0 x5 J0
      have KR : Calls Tryz.prog 13 #[.pointer (some ⟨gW, 0, none⟩), .int .i64 60000] x5 (RunQ (60000 * P) _) := run_ok x5 gW P 60000 _ s0 RJ hPl (by omega) (by omega) J0
      have HR := Lib.hid KR
      clear KR RJ J0 FS hPl hPh hn4 hn19
      go_wp2_with fail
      refine (HR.out).mono ?_
      rintro e x6 ⟨i2, s, rfl, ⟨p6, m6, a6, X6, loc6, cP6, cV6, B6, R6, L6, C6, -, -, -, hJ, -, -, -, -, -, -⟩, -⟩
      have KS := fun (w' : World) (c : Chg [] x6 w') => m_status (B6.M.chg0 c) (by rw [C6.sl]; exact C6.ng) (by rw [C6.tm]; simp)
      have hst := hJ.stV R6 L6 C6
      have hfg := hJ.fg
      have hdn := fun h => hJ.done h
      have C6l := C6.cl
      have cx6 : Chg [] x4 x6 := B6.M.c
      have m0 : x6.cell? ⟨gW, 0, none⟩ = some (.pointer (some ⟨p6.gm, 0, none⟩)) := B6.W.cellv 0 rfl
      have lW := B6.W.lt
      clear f0 f2 l0 HR R6 L6 hJ C6
      rcases hst with e0 | ⟨e3, hall⟩
      · rw [e0] at KS
        have H6 := Lib.hid (And.intro KS cx6); clear KS cx6 B6 e0 hfg hdn
        go_wp2_with fail
        refine (H6.out.1 _ (Chg.refl [] x6)).mono ?_
        rintro e x7 ⟨rfl, k7, hx7⟩
        have c67 : Chg [] x6 x7 := by rw [hx7]; exact (Chg.refl [] x6).drewN _
        have H7 := Lib.hid c67; clear c67 hx7
        go_wp2_with fail
        refine (told28_yes x7).mono ?_
        rintro e x8 ⟨rfl, c78⟩
        have H8 := Lib.hid c78; clear c78
        go_wp2_with fail
        go_ret
        exact ⟨rfl, ((HZ.out.1.trans H6.out.2).trans H7.out).trans H8.out⟩
      · rw [e3] at KS
        obtain ⟨dn0, dn1, dn2⟩ := hdn hall
        obtain ⟨L, hL⟩ : ∃ L, L = m6.cms.length := ⟨_, rfl⟩
        have bL : L ≤ 100000000 := by rw [hL]; exact C6l
        have H6 := Lib.hid (And.intro B6 (And.intro KS (And.intro cx6 (And.intro hfg (And.intro (And.intro dn1 (And.intro dn2 dn0)) hL))))); clear KS cx6 B6 e3 hfg dn1 dn2 dn0 hdn hall hL C6l
        go_wp2_with fail
        refine (H6.out.2.1 _ (Chg.refl [] x6)).mono ?_
        rintro e x7 ⟨rfl, k7, hx7⟩
        have c67 : Chg [] x6 x7 := by rw [hx7]; exact (Chg.refl [] x6).drewN _
        have m0 := c67.cellv lW (by simp) m0
        have KS := H6.out.2.1 x7 c67
        have H7 := Lib.hid (And.intro c67 KS); clear hx7 c67 KS
        go_wp2_with fail
        refine (H7.out.2).mono ?_
        rintro e x8 ⟨rfl, k8, hx8⟩
        have c78 : Chg [] x7 x8 := by rw [hx8]; exact (Chg.refl [] x7).drewN _
        have c68 := Lib.hid (H7.out.1.trans c78)
        clear hx8 c78 m0
        go_wp2_with fail
        go_loopg [9, 10, 11] (L + 1) (fun gk sv fv idx wr => GcRel x8 m6.cms gk sv fv idx wr)
        case atStart => exact ⟨0, 0, 0, by have := H6.out.2.2.2.2.2; omega, by omega, rfl, rfl, rfl, by omega, by omega, rfl, rfl, Chg.refl [] x8⟩
        case round =>
          obtain ⟨j, q1, q2, hgk, hj, rfl, rfl, rfl, bq1, bq2, hq1, hq2, cW⟩ := hrel
          have c6r := c68.out.trans cW
          have Br := H6.out.1.chg0 c6r
          have m0 : wr.cell? ⟨gW, 0, none⟩ = some (.pointer (some ⟨p6.gm, 0, none⟩)) := Br.W.cellv 0 rfl
          have KC := m_commits Br.M
          rw [← H6.out.2.2.2.2.2] at KC hgk hj
          by_cases hlt : j < L
          · obtain ⟨cc, hcc⟩ : ∃ cc, m6.cms[j]? = some cc := ⟨_, List.getElem?_eq_getElem (by rw [← H6.out.2.2.2.2.2]; exact hlt)⟩
            obtain ⟨u1, u3⟩ := p8_take hcc H6.out.2.2.2.2.1.2.1
            have u2 := cnt_takeZ (p := fun c => c.flt) hcc
            rw [← hq1] at u1 u3
            rw [← hq2] at u2
            have f1 := H6.out.2.2.2.1 cc (List.mem_of_getElem? hcc)
            have KX := m_commit_at Br.M j _ hcc
            obtain ⟨cg, cf, cpc, cop, cv, cfl⟩ := cc
            have HC := Lib.hid (And.intro KC (And.intro KX (And.intro u1 (And.intro u2 (And.intro cW (And.intro f1 u3)))))); clear KC KX u1 u2 u3 cW hcc Br c6r f1 hq1 hq2
            have d2 : (j : Int) < (L : Int) := by omega
            go_wp2_with fail
            refine (HC.out.1).mono ?_
            rintro e w1 ⟨rfl, rfl⟩
            go_wp2_with fail
            refine (HC.out.2.1).mono ?_
            rintro e w2 ⟨rfl, cx⟩
            dsimp only [comC]
            have Hx := Lib.hid cx; clear cx m0
            go_upto_region 19 with fail
            obtain ⟨gc, hgc⟩ : ∃ g', g' = w2.heap.size := ⟨_, rfl⟩
            obtain ⟨w3, hw3⟩ : ∃ w3, w3 = w2.alloc (.cells #[.int .i64 cg, .int .i64 cf, .int .i64 cpc, .int .i64 cop, .int .i64 cv, .bool cfl] 59) := ⟨_, rfl⟩
            rw [← hw3, ← hgc]
            have BC : Blk w3 gc 59 #[.int .i64 cg, .int .i64 cf, .int .i64 cpc, .int .i64 cop, .int .i64 cv, .bool cfl] := by rw [hw3, hgc]; exact Blk.new _ _ _
            have c13 : Chg [] w1 w3 := by rw [hw3]; exact Hx.out.alloc _
            have c83 := Lib.hid (HC.out.2.2.2.2.1.trans c13)
            clear hw3 hgc c13
            have k1 : w3.cell? ⟨gc, 0, none⟩ = some (.int .i64 cg) := BC.cellv 0 rfl
            have k3 : w3.cell? ⟨gc, 3, none⟩ = some (.int .i64 cop) := BC.cellv 3 rfl
            have k4 : w3.cell? ⟨gc, 4, none⟩ = some (.int .i64 cv) := BC.cellv 4 rfl
            have k5 : w3.cell? ⟨gc, 5, none⟩ = some (.bool cfl) := BC.cellv 5 rfl
            clear BC
            cases cfl with
            | true =>
              obtain ⟨h1, h2⟩ := HC.out.2.2.2.2.2.1 rfl
              have h1 : cg = 0 := h1
              have h2 : cop = 8 := h2
              subst h1 h2
              go_wp2_with fail
              go_roundg (L - j)
              case measure => omega
              case rel => exact ⟨j + 1, q1, q2 + 1, by have := H6.out.2.2.2.2.2; omega, by have := H6.out.2.2.2.2.2; omega, by go_num, rfl, by go_num, by omega, by omega, by rw [HC.out.2.2.1]; rfl, by rw [HC.out.2.2.2.1]; rfl, c83.out⟩
            | false =>
              by_cases h0 : cop = 8
              · subst h0
                have h3 : cv = ((q1 + 1 : Nat) : Int) := HC.out.2.2.2.2.2.2 rfl
                subst h3
                go_wp2_with fail
                go_roundg (L - j)
                case measure => omega
                case rel => exact ⟨j + 1, q1 + 1, q2, by have := H6.out.2.2.2.2.2; omega, by have := H6.out.2.2.2.2.2; omega, by go_num, by go_num, rfl, by omega, by omega, by rw [HC.out.2.2.1]; rfl, by rw [HC.out.2.2.2.1]; rfl, c83.out⟩
              · have d0 : (cop == 8) = false := by rw [beq_eq_false_iff_ne]; exact h0
                have hz := Lib.hid h0; clear h0
                go_wp2_with fail
                go_roundg (L - j)
                case measure => omega
                case rel => exact ⟨j + 1, q1, q2, by have := H6.out.2.2.2.2.2; omega, by have := H6.out.2.2.2.2.2; omega, by go_num, rfl, rfl, by omega, by omega, by rw [HC.out.2.2.1, if_neg (by unfold p8; simpa using hz.out), Nat.add_zero], by rw [HC.out.2.2.2.1]; rfl, c83.out⟩
          · have d2 : ¬ (j : Int) < (L : Int) := by omega
            have ej : j = m6.cms.length := by have := H6.out.2.2.2.2.2; omega
            rw [ej, List.take_length] at hq1 hq2
            have e8 : (m6.cms.filter p8).length = 1023 := by
              have h := congrArg List.length H6.out.2.2.2.2.1.2.1
              rw [List.length_map, List.length_map, List.length_range] at h
              exact h
            rw [e8] at hq1
            rw [H6.out.2.2.2.2.1.1] at hq2
            subst hq1 hq2
            obtain ⟨Ag, cg, hvg⟩ := Br.hX.o.slice
            rw [ptrs_len, H6.out.2.2.2.2.1.2.2] at hvg
            have HC := Lib.hid (And.intro KC (And.intro cW (And.intro Br hvg))); clear KC cW Br c6r ej e8 hvg
            go_wp2_with fail
            refine (HC.out.1).mono ?_
            rintro e w1 ⟨rfl, rfl⟩
            clear m0
            go_wp2_with fail
            refine (told28_yes w1).mono ?_
            rintro e x10 ⟨rfl, c10⟩
            have B10 := HC.out.2.2.1.chg0 c10
            have m1 : x10.cell? ⟨gW, 1, none⟩ = some (.pointer (some ⟨a6.gX, 0, none⟩)) := B10.W.cellv 1 rfl
            have m2 : x10.cell? ⟨a6.gX, 2, none⟩ = some (.slice Ag 1024 cg) := by rw [← HC.out.2.2.2]; exact B10.hX.x.cellv 2 rfl
            have H10 := Lib.hid c10; clear c10 B10
            go_wp2_with fail
            go_ret
            exact ⟨by first | rfl | simp, (((HZ.out.1.trans H6.out.2.2.1).trans c68.out).trans HC.out.2.1).trans H10.out⟩
theorem great_all (ps wo : Int) (b1 b2 : Nat) (a1 : Int) (W : World) (_ : Tab W) : Calls Tryz.prog 4 #[.agg #[.int .i64 ps, .int .i64 wo, .float .f64 b1, .float .f64 b2], .int .i64 a1] W (NwPost (.bool true) W) := great_any ps wo b1 b2 a1 W
open Go.ChangeShapes Go.WideShapes Go.ChangeAt Go.RowKit
section
variable {H : Type} {enc : TypeId × Value → H} {w : World} {spare : Nat → Bool} {b0 : Nat} {v : Value} {d : DataW H} {p : List MemPlace}
end
section
variable {H : Type} {enc : TypeId × Value → H} {P : Program} {w : World} {spare : Nat → Bool} {b0 base : Nat} {held : Bool} {v : Value} {d : DataW H} {p : List MemPlace} {t : TypeId} {cs : List Value} {fuel : Nat} {x : DataW H × List MemPlace}
theorem trod_float28 {k : FloatKind} (ht : P.underlying t = some (.float k)) (h : DataW.trod enc P w base spare held fuel t cs = some x) : ∃ b, cs = [.float k b] := by
  cases fuel with
  | zero => simp [DataW.trod] at h
  | succ n =>
    unfold DataW.trod at h
    rw [ht] at h
    split at h <;> simp_all
theorem open_config (hv : Value.okWide Tryz.prog w .any b0 24 v) (h : DataW.Trod enc Tryz.prog w 0 spare true 24 v d p) : ∃ (q u : Int) (b k : Nat), v = .agg #[.int .i64 q, .int .i64 u, .float .f64 b, .float .f64 k] := by
  obtain ⟨v0, v1, v2, v3, y0, y1, y2, y3, n, rfl, -, -, h0, h1, h2, h3⟩ := Go.Joins.open_agg4 Tryz.underlying24 (by kernel_rfl) (by kernel_rfl) hv h
  obtain ⟨q, e0, -⟩ := DataW.trod_int Tryz.underlying3 h0
  obtain ⟨u, e1, -⟩ := DataW.trod_int Tryz.underlying3 h1
  obtain ⟨b, e2⟩ := trod_float28 Tryz.underlying22 h2
  obtain ⟨k, e3⟩ := trod_float28 Tryz.underlying22 h3
  exact ⟨q, u, b, k, by simp_all⟩
end
open Go.ChangeShapes Go.WideShapes Go.ChangeAt Go.RowKit Go.Deep
theorem law_own : ownKnob Tryz.prog.godebug = none := by kernel_rfl
theorem law_laidOut : laidOutB Tryz.prog = true := by kernel_rfl
section
variable {H : Type} {enc : TypeId × Value → H} {P : Program}
theorem trodAll_stays {W W' : World} (hl : laidOutB P = true) (hb : Below W.heap.size W W') : ∀ (ts : List TypeId) (vs : List Value) (ds : List (DataW H)) (ps : List MemPlace),
    (∀ t ∈ ts, P.readableRec t = true ∧ t < P.types.size) → DataW.TrodAll enc P W 0 (fun _ => true) true ts vs ds ps → (∀ x ∈ ps, x.block < W.heap.size) →
    DataW.TrodAll enc P W' 0 (fun b => decide (b < W.heap.size)) true ts vs ds ps
  | [], [], [], _, _, h, _ => h
  | t :: ts, v :: vs, d :: ds, ps, ht, h, hlt => by
    obtain ⟨p, q, h1, h2, rfl⟩ := h
    have h0 := ht t (by simp)
    exact ⟨p, q, Below.trod hl h0.1 h0.2 h1 hb (fun x hx => hlt x (by simp [hx])), trodAll_stays hl hb ts vs ds q (fun t' h' => ht t' (by simp [h'])) h2 (fun x hx => hlt x (by simp [hx])), rfl⟩
  | [], _ :: _, _, _, _, h, _ => h.elim
  | [], [], _ :: _, _, _, h, _ => h.elim
  | _ :: _, [], _, _, _, h, _ => h.elim
  | _ :: _, _ :: _, [], _, _, h, _ => h.elim
theorem law_post {f : Func} {s : ChangeSpec} {tb : TypeId} {W W' : World} {args : Array Value} {ds gs : List (DataW H)} {before : List MemPlace} (hl : laidOutB P = true)
    (ht : P.underlying tb = some .bool) (hrt : f.resultTypes = #[tb]) (hp : ∀ t ∈ f.params.toList, P.readableRec t = true ∧ t < P.types.size) (hv : s.vars = [])
    (hfn : s.fn H ds = { results := [.lit (.bool true)], args := ds })
    (hW : DataW.Whole enc P f.params.toList s.vars false W args.toList ds gs before) (hb : Below W.heap.size W W') :
    s.post enc P f false true false false W args (.bool true) W' := by
  have hlt : ∀ p ∈ before, p.block < W.heap.size := fun p hp => hW.lt p hp
  have hW0 := hW
  obtain ⟨p, q, hA, hV, rfl, _, _⟩ := hW
  rw [hv] at hV
  obtain ⟨rfl, rfl⟩ := trodVars_none hV
  refine ⟨ds, [], p ++ [], [], p, [], hW0, ?_, ?_, ?_, ?_, fun h => by cases h⟩
  · rw [List.append_nil, hfn, hrt]
    exact trodAll_cons_mk (shut_bool ht _) trodAll_mk0
  · rw [List.append_nil, hfn]
    exact trodAll_stays hl hb _ _ _ _ hp hA (fun x hx => hlt x (by simp [hx]))
  · rw [List.append_nil, hfn, hv]
    exact rfl
  · exact hb.frame _
end
section
variable {H : Type} {enc : TypeId × Value → H} {P : Program} {w : World} {base : Nat} {spare : Nat → Bool} {held : Bool}
end
theorem machineGreat_k2 : joinedFacts Tryz.pinned.checked.prog 4 Tryz.f4 (OpenSpec.ofChange Rows.machineGreatSpec).bare Rows.machineGreatRow = true := by
  unfold joinedFacts
  simp only [Bool.and_eq_true]
  repeat' apply And.intro
  all_goals as_aux_lemma => kernel_rfl
theorem machineGreat_k1 : Tryz.pinned.checked.prog.funcNamed Rows.machineGreatRow.func = some 4 := by kernel_rfl
theorem machineGreat_k3 : Tryz.f4.isInstance Tryz.pinned.checked.prog Rows.machineGreatRow.origin Rows.machineGreatRow.targs := of_decide_eq_true (by kernel_rfl)
theorem machineGreat_k4 : Tryz.f4.isWrapper Tryz.pinned.checked.prog Rows.machineGreatRow.wrapper Rows.machineGreatRow.mainSum := by unfold Func.isWrapper; first | (rw [if_pos (by decide +kernel)]; kernel_rfl) | (rw [if_neg (by decide +kernel)]; exact ⟨rfl, rfl⟩)
end Go.Proofs.YtcpljjacamibeaaGreatDoor
