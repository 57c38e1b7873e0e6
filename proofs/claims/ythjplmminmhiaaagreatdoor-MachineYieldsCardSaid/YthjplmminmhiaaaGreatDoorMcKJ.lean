/- Package code: Decode: the closure that catches what is thrown. -/
/- Regions that draw their order in functions that defer: as XReg; a slot that names a result is not laid there. -/
import Derived.Test.YthjplmminmhiaaaGreatDoorMcIJ
import Derived.Test.YthjplmminmhiaaaGreatDoorMcOJ
import Derived.Test.YthjplmminmhiaaaGreatDoorMPaJ
import Derived.Recover
import Derived.Test.YthjplmminmhiaaaGreatDoorMOw
import Derived.Defers
namespace Go.Proofs.YthjplmminmhiaaaGreatDoor
open Go.RowKit Go.Maps

theorem run_ta_nil (w : World) : (Instr.typeAssert .nilIface 20 244 true).run Tryz.prog w = .ok (.tuple #[.agg #[.int .i64 0], .bool false]) w := by kernel_rfl
theorem run_ta_bad (w : World) (k : Int) : (Instr.typeAssert (.iface 244 (.agg #[.int .i64 k])) 20 244 true).run Tryz.prog w = .ok (.tuple #[.agg #[.int .i64 k], .bool true]) w := by kernel_rfl
theorem tm14 (a b c r t g o p : Value) : (#[a, b, c] ++ (((((((Array.replicate 11 undef).setIfInBounds 3 r).setIfInBounds 4 t).setIfInBounds 2 t).setIfInBounds 5 g).setIfInBounds 6 o).setIfInBounds 0 p).setIfInBounds 1 o) = #[a, b, c, p, o, t, r, t, g, o, undef, undef, undef, undef] := by
  rw [← Array.toList_inj]
  simp only [Array.toList_append, Array.toList_setIfInBounds, Array.toList_replicate]
  rfl
section
variable (w : World) (gP gE gA : Nat) (v0 v1 : Value) (n0 n1 : Int) (hP : Blk w gP 30 #[v0, v1]) (hE : Blk w gE 3 #[.int .i64 n0]) (hA : Blk w gA 3 #[.int .i64 n1])
include hP hE hA
set_option maxHeartbeats 1600000 in
set_option maxRecDepth 100000 in
theorem cd_catch_idle : CallsD Tryz.prog 122 #[.pointer (some ⟨gP, 0, none⟩), .pointer (some ⟨gE, 0, none⟩), .pointer (some ⟨gA, 0, none⟩)] .returning w fun e u' w' => e = .returned (.tuple #[]) ∧ u' = .returning ∧ Chg [] w w' := by
  have _ := And.intro hP (And.intro hE hA)
  refine callsD_of_wpS Tryz.func122 rfl fun c₀ cs hu => ?_
  apply wpS_seq
  apply wpS_region
  simp [wpOpsS, go_sem, recoverD, hu, run_ta_nil, Tryz.ntmps122, Exit.thenS]
  rw [tm14]
  refine wpS_of_wp ?_
  go_wp2_with fail
  cases c₀
  simp_all [bodyPostS, results, Tryz.results122]
  exact (Chg.refl [] w).alloc _
set_option maxHeartbeats 1600000 in
set_option maxRecDepth 100000 in
theorem cd_catch (k : Nat) (he : gE ≠ gA) : CallsD Tryz.prog 122 #[.pointer (some ⟨gP, 0, none⟩), .pointer (some ⟨gE, 0, none⟩), .pointer (some ⟨gA, 0, none⟩)] (.panicking (badV k)) w fun e u' w' => e = .returned (.tuple #[]) ∧ settle u' = .returning ∧ Blk w' gP 30 #[.int .i64 0, .slice none 0 0] ∧ Blk w' gE 3 #[.int .i64 6] ∧ Blk w' gA 3 #[.int .i64 (k : Nat)] ∧ Chg [gP, gE, gA] w w' := by
  refine callsD_of_wpS Tryz.func122 rfl fun c₀ cs hu => ?_
  apply wpS_seq
  apply wpS_region
  simp [wpOpsS, go_sem, recoverD, hu, badV, run_ta_bad, Tryz.ntmps122, Exit.thenS]
  rw [tm14]
  refine wpS_of_wp ?_
  go_wp2_with fail
  obtain ⟨w1, hw1⟩ : ∃ w1, w1 = w.alloc (.cells #[.int .i64 (k : Nat)] 244) := ⟨_, rfl⟩
  have c0 : w1.cell? ⟨w.heap.size, 0, none⟩ = some (.int .i64 (k : Nat)) := by rw [hw1]; exact (Blk.new w 244 #[.int .i64 (k : Nat)]).cellv 0 rfl
  have hl : w.heap.size < w1.heap.size := by rw [hw1, World.size_alloc]; omega
  have hn : w.heap.size ∉ [gP, gE, gA] := by have := hP.lt; have := hE.lt; have := hA.lt; simp; omega
  have c01 : Chg [] w w1 := by rw [hw1]; exact (Chg.refl _ _).alloc _
  rw [← hw1]
  clear hw1
  have HB0 := Lib.hid c01
  have HB := Lib.hid (And.intro (c01.blk hP (by simp)) (And.intro (c01.blk hE (by simp)) (And.intro (c01.blk hA (by simp)) (And.intro (hE.ne_ hP (by decide)) (And.intro (hA.ne_ hP (by decide)) he)))))
  clear hP hE hA c01 he
  refine wp_region_takes (fuel := 3) 5 (fun w' => Chg [gP, gE, gA] w1 w') [0, 1, 2] (by kernel_rfl) (by kernel_rfl) (fun _ _ _ _ _ h => h) (((Chg.refl [gP, gE, gA] w1).drew)) ?_
  simp only [List.filterMap_cons, List.filterMap_nil, List.getElem?_cons_zero, List.getElem?_cons_succ]
  refine wpTake_step (fun K hK => ?_)
  rw [if_pos (by rfl)]
  refine ⟨?_, fun w' hS' => ?_, ?_⟩
  rotate_left 1
  focus
    have j0 := hS'.cellv hl hn c0
    go_simp
    try with_reducible rfl
    done
  simp only [Act.put, List.setIfInBounds_toArray, List.set_cons_zero, List.set_cons_succ]
  refine hK _ ?_
  clear hK K
  refine wpTake_step (fun K hK => ?_)
  rw [if_pos (by rfl)]
  refine ⟨?_, fun w' hS' => ?_, ?_⟩
  rotate_left 1
  focus
    have j0 := hS'.cellv hl hn c0
    go_simp
    try with_reducible rfl
    done
  simp only [Act.put, List.setIfInBounds_toArray, List.set_cons_zero, List.set_cons_succ]
  refine hK _ ?_
  clear hK K
  refine wpTake_step (fun K hK => ?_)
  rw [if_pos (by rfl)]
  refine ⟨?_, fun w' hS' => ?_, ?_⟩
  rotate_left 1
  focus
    have j0 := hS'.cellv hl hn c0
    go_simp
    try with_reducible rfl
    done
  simp only [Act.put, List.setIfInBounds_toArray, List.set_cons_zero, List.set_cons_succ]
  refine hK _ ?_
  clear hK K
  refine wpTake_nil ?_
  generalize hx0 : w1.drew = x0
  have D0 : Chg [] w1 x0 := by rw [← hx0]; exact (Chg.refl [] w1).drew
  clear hx0
  refine wpAnyS_ready (rs := [3]) (by kernel_rfl) (by simp) ?_
  refine AllReadyS.cons (by simp only [List.getElem?_toArray, List.getElem?_cons_zero, List.getElem?_cons_succ]; rfl) (fun K hK => ?_) ?_
  · rw [if_pos (by rfl)]
    have z0 : x0.cell? ⟨gP, 0, none⟩ = some v0 := (D0.blk HB.out.1 (by simp)).cellv 0 rfl
    have z1 : x0.cell? ⟨gP, 1, none⟩ = some v1 := (D0.blk HB.out.1 (by simp)).cellv 1 rfl
    have y0 := (D0.blk HB.out.1 (by simp)).frozen 0
    have y1 := (D0.blk HB.out.1 (by simp)).frozen 1
    go_simp
    generalize hx1 : World.setCell (World.setCell x0 ⟨gP, 0, none⟩ (.int .i64 0)) ⟨gP, 1, none⟩ (.slice none 0 0) = x1
    have P1 : Blk x1 gP 30 #[.int .i64 0, .slice none 0 0] := by rw [← hx1]; exact ((D0.blk HB.out.1 (by simp)).set_ 0 _).setv 1 _ rfl
    have D1 : Chg [gP, gE, gA] w1 x1 := by rw [← hx1]; exact (((D0.mono (by simp)).setCell (.inl (by simp)) _).setCell (.inl (by simp)) _)
    have E1 : Blk x1 gE 3 #[.int .i64 n0] := by rw [← hx1]; exact ((D0.blk HB.out.2.1 (by simp)).far (p := ⟨gP, 0, none⟩) HB.out.2.2.2.1 _).far (p := ⟨gP, 1, none⟩) HB.out.2.2.2.1 _
    have A1 : Blk x1 gA 3 #[.int .i64 n1] := by rw [← hx1]; exact ((D0.blk HB.out.2.2.1 (by simp)).far (p := ⟨gP, 0, none⟩) HB.out.2.2.2.2.1 _).far (p := ⟨gP, 1, none⟩) HB.out.2.2.2.2.1 _
    clear hx1 z0 z1 y0 y1
    refine hK _ _ (D1) ?_
    clear hK K
    try simp only [Act.put, List.setIfInBounds_toArray, List.set_cons_zero, List.set_cons_succ]
    refine wpAnyS_ready (rs := [4]) (by kernel_rfl) (by simp) ?_
    refine AllReadyS.cons (by simp only [List.getElem?_toArray, List.getElem?_cons_zero, List.getElem?_cons_succ]; rfl) (fun K hK => ?_) ?_
    · rw [if_pos (by rfl)]
      have z0 : x1.cell? ⟨gE, 0, none⟩ = some (.int .i64 n0) := E1.cellv 0 rfl
      have y0 := E1.frozen 0
      go_simp
      generalize hx2 : World.setCell x1 ⟨gE, 0, none⟩ (.int .i64 6) = x2
      have P2 : Blk x2 gP 30 #[.int .i64 0, .slice none 0 0] := by rw [← hx2]; exact P1.far (p := ⟨gE, 0, none⟩) HB.out.2.2.2.1.symm _
      have D2 : Chg [gP, gE, gA] w1 x2 := by rw [← hx2]; exact D1.setCell (.inl (by simp)) _
      have E2 : Blk x2 gE 3 #[.int .i64 6] := by rw [← hx2]; exact E1.setv 0 _ rfl
      have A2 : Blk x2 gA 3 #[.int .i64 n1] := by rw [← hx2]; exact A1.far (p := ⟨gE, 0, none⟩) HB.out.2.2.2.2.2.symm _
      clear hx2 z0 y0
      refine hK _ _ (D2) ?_
      clear hK K
      try simp only [Act.put, List.setIfInBounds_toArray, List.set_cons_zero, List.set_cons_succ]
      refine wpAnyS_tail 5 1 (by kernel_rfl) rfl ?_
      simp only [List.drop_succ_cons, List.drop_zero]
      have z0 : x2.cell? ⟨gA, 0, none⟩ = some (.int .i64 n1) := A2.cellv 0 rfl
      have y0 := A2.frozen 0
      have HX := Lib.hid (And.intro P2 (And.intro D2 (And.intro E2 A2)))
      clear P2 D2 E2 A2 P1 D1 E1 A1 D0
      go_wp2_with fail
      have P3 := HX.out.1.far (p := ⟨gA, 0, none⟩) HB.out.2.2.2.2.1.symm (.int .i64 (k : Nat))
      have E3 := HX.out.2.2.1.far (p := ⟨gA, 0, none⟩) HB.out.2.2.2.2.2 (.int .i64 (k : Nat))
      have A3 := HX.out.2.2.2.setv 0 (.int .i64 (k : Nat)) (cs' := #[.int .i64 (k : Nat)]) rfl
      have D3 := HX.out.2.1.setCell (p := ⟨gA, 0, none⟩) (.inl (by simp)) (.int .i64 (k : Nat))
      refine ⟨rfl, _, rfl, _, by simp [results, Tryz.results122], rfl, rfl, P3, E3, A3, (HB0.out.mono (by simp)).trans D3⟩
    exact AllReadyS.nil
  exact AllReadyS.nil
end
end Go.Proofs.YthjplmminmhiaaaGreatDoor
namespace Go.Proofs.YthjplmminmhiaaaGreatDoor
open Go Go.RowKit Go.Maps

section
variable {P : Program} {ops : Array Oper} {Q : Exit → Act → World → Prop} {md : Region.Mode} {S : World → Prop} {n : Nat}
theorem wpAnyS_takesD (hsel : Region.noSelect ops = true) (hs : Region.sinkB md ops n = true) (hc : Region.chainB md ops n = true) (hn : n < ops.size) {fuel : Nat} {w : World} (hS : S w) : ∀ (is : List Nat) (os : List Oper) (listed : Array Bool) (a : Act),
    (∀ o ∈ os, ∀ c a v w, Q (.panic c) (a.put o.dst v) w → Q (.panic c) a w) →
    (is.map fun i => ops[i]?) = os.map some → takeB md ops n is listed = true → wpTake P ops S (fun a' => wpAnyS P md ops Q S n fuel (listAll is listed) a' w) os a →
    wpAnyS P md ops Q S n (is.length + fuel) listed a w
  | [], [], listed, a, _, _, _, h => by simpa [wpTake, listAll] using h
  | i :: is, o :: os, listed, a, hQ, he, hB, h => by
    simp only [List.map_cons, List.cons.injEq] at he
    simp only [takeB, Bool.and_eq_true, decide_eq_true_eq] at hB
    obtain ⟨⟨⟨⟨b1, b2⟩, b3⟩, b4⟩, b5⟩ := hB
    obtain ⟨v, hy, h⟩ := h
    have e : (i :: is).length + fuel = (is.length + fuel) + 1 := by simp only [List.length_cons]; omega
    rw [e]
    exact wpAnyS_first he.1 (Region.noSelect_spec hsel) (fun c a w hp => hQ o (by simp) c a v w hp) hs hc hn b1 _ _ _ _ (headB_spec b2) (Region.free_spec he.1 b4) (by simpa using b3) hy hS
      (wpAnyS_takesD hsel hs hc hn hS is os _ _ (fun o' ho' => hQ o' (by simp [ho'])) he.2 b5 h)
  | [], _ :: _, _, _, _, he, _, _ => by simp at he
  | _ :: _, [], _, _, _, he, _, _ => by simp at he
theorem takes_list {l : List Oper} {is : List Nat} (b6 : (is.all fun i => decide (i < l.length)) = true) : (is.map fun i => l.toArray[i]?) = (is.filterMap fun i => l[i]?).map some := by
  induction is with
  | nil => rfl
  | cons i is ih =>
    simp only [List.all_cons, Bool.and_eq_true, decide_eq_true_eq] at b6
    rw [List.map_cons, ih b6.2]
    simp [b6.1]
theorem takes_mem {l : List Oper} {is : List Nat} {o : Oper} (h : o ∈ is.filterMap fun i => l[i]?) : o ∈ l := by
  obtain ⟨i, _, hi⟩ := List.mem_filterMap.1 h
  exact List.mem_of_getElem? hi
theorem wp_region_takesD {id fuel : Nat} {a : Act} {w : World} {l : List Oper} (n : Nat) (S : World → Prop) (is : List Nat) (hm : P.follows .mixedOrders = true)
    (hB : (Region.noSelect l.toArray && Region.sinkB .any l.toArray n && Region.chainB .any l.toArray n && decide (n < l.toArray.size) && takeB .any l.toArray n is (Array.replicate l.toArray.size false) && decide (l.toArray.size = is.length + fuel) && is.all fun i => decide (i < l.length)) = true)
    (hQ : ∀ o ∈ l, ∀ c a v w, Q (.panic c) (a.put o.dst v) w → Q (.panic c) a w) (hS : S w.drew)
    (h : wpTake P l.toArray S (fun a' => wpAnyS P .any l.toArray Q S n fuel (listAll is (Array.replicate l.toArray.size false)) a' w.drew) (is.filterMap fun i => l[i]?) a) : (Code.region id l.toArray true).wp P Q a w := by
  simp only [Bool.and_eq_true, decide_eq_true_eq] at hB
  obtain ⟨⟨⟨⟨⟨⟨b1, b2⟩, b3⟩, b4⟩, b5⟩, hf⟩, b6⟩ := hB
  refine wp_region_any hm (wpAny_of_S (S := S) (n := n) _ _ _ _ ?_)
  have h2 := wpAnyS_takesD (Q := Q) b1 b2 b3 b4 hS is _ _ a (fun o ho => hQ o (takes_mem ho)) (takes_list b6) b5 h
  rw [← hf] at h2
  exact h2
theorem wpAnyS_moreD {fuel F : Nat} {a : Act} {w : World} {l : List Oper} {listed : Array Bool} (is : List Nat)
    (hB : (Region.noSelect l.toArray && Region.sinkB .any l.toArray n && Region.chainB .any l.toArray n && decide (n < l.toArray.size) && takeB .any l.toArray n is listed && decide (F = is.length + fuel) && is.all fun i => decide (i < l.length)) = true)
    (hQ : ∀ o ∈ l, ∀ c a v w, Q (.panic c) (a.put o.dst v) w → Q (.panic c) a w) (hS : S w)
    (h : wpTake P l.toArray S (fun a' => wpAnyS P .any l.toArray Q S n fuel (listAll is listed) a' w) (is.filterMap fun i => l[i]?) a) : wpAnyS P .any l.toArray Q S n F listed a w := by
  simp only [Bool.and_eq_true, decide_eq_true_eq] at hB
  obtain ⟨⟨⟨⟨⟨⟨b1, b2⟩, b3⟩, b4⟩, b5⟩, hf⟩, b6⟩ := hB
  have h2 := wpAnyS_takesD (Q := Q) b1 b2 b3 b4 hS is _ _ a (fun o ho => hQ o (takes_mem ho)) (takes_list b6) b5 h
  rw [← hf] at h2
  exact h2
end
theorem Leaves_congr {P : Program} {fn : Func} {t t' : Array Value} {R : Ending → World → Prop} (h : results fn t = results fn t') : ∀ (ds : List Deferred) (u : FrameMode) (w : World), Leaves P fn t R ds u w → Leaves P fn t' R ds u w
  | [], .returning, w, H => by
    obtain ⟨v, h1, h2⟩ := H
    exact ⟨v, by rw [← h]; exact h1, h2⟩
  | [], .panicking _, _, H => H
  | [], .run, _, H => H
  | d :: ds, u, w, ⟨h1, fv, cap, f, args, h2, h3, h4⟩ => ⟨h1, fv, cap, f, args, h2, h3, h4.mono fun e u' w' H => by
    cases e with
    | returned v => exact Leaves_congr h ds _ _ H
    | panicked c => exact Leaves_congr h ds _ _ H
    | outgrown => exact H⟩
theorem hQ3 {P : Program} {fn : Func} {R : Ending → World → Prop} {p q r : Tmp} {t1 t2 t3 : TypeId} (hres : fn.results = #[.cell p t1, .cell q t2, .cell r t3]) {l : List Oper} (hl : (l.all fun o => decide (o.dst ≠ some p) && decide (o.dst ≠ some q) && decide (o.dst ≠ some r)) = true) :
    ∀ o ∈ l, ∀ c a v w, bodyPostD P fn R (.panic c) (a.put o.dst v) w → bodyPostD P fn R (.panic c) a w := by
  intro o ho c a v w H
  have h1 := List.all_eq_true.1 hl o ho
  simp only [Bool.and_eq_true, decide_eq_true_eq] at h1
  obtain ⟨⟨n1, n2⟩, n3⟩ := h1
  cases hd : o.dst with
  | none => rw [hd] at H; exact H
  | some d =>
    rw [hd] at H n1 n2 n3
    have g : ∀ k, d ≠ k → (a.tmps.setIfInBounds d v)[k]?.getD undef = a.tmps[k]?.getD undef := fun k hk => by
      rw [Array.getElem?_setIfInBounds_ne hk]
    have e : results fn (a.tmps.setIfInBounds d v) = results fn a.tmps := by
      simp only [results, hres]
      simp [g p (fun e => n1 (by rw [e])), g q (fun e => n2 (by rw [e])), g r (fun e => n3 (by rw [e]))]
    exact Leaves_congr e _ _ _ H
end Go.Proofs.YthjplmminmhiaaaGreatDoor
