/- Package code: what may stand in a part; the reader's next byte. -/
import Derived.Test.YtoeppmnoifankaaGreatDoorMcOJ
import Derived.Test.YtoeppmnoifankaaGreatDoorMClJ
import Derived.Test.YtoeppmnoifankaaGreatDoorMOw
import Derived.Deep.WholeRow
import Derived.Test.YtoeppmnoifankaaGreatDoorMBit
namespace Go.Proofs.YtoeppmnoifankaaGreatDoor
open Go.RowKit Go.Maps

theorem tyC : VTy Tryz.prog 137 3 3 (.int .i64 0) := ⟨Tryz.underlying137, Tryz.underlying3, fun _ => by kernel_rfl⟩
theorem wpList_vmap_look' {P : Program} {T K E : TypeId} {z : Value} {w : World} {b n : Nat} {f : Int → Option Value} {ops : Array Oper} {rest : List Oper} {o : Oper} {a : Act} {Q : Exit → Act → World → Prop} (hg : o.guard = none) (m x : Operand) (hop : o.op = Op.lookup T m x false) (h : VMap P K w b n f) (t : VTy P T K E z) (hm : a.eval m = .map (some b)) {k : Int} (hx : a.eval x = .int .i64 k) (hk : Wf64 k) {u : Value} (hf : f k = some u)
    (hK : wpList P ops Q rest (a.put o.dst u) w) : wpList P ops Q (o :: rest) a w :=
  wpList_vmap_look hg m x hop h t hm hx hk (by rw [hf]; exact hK)
/-- How many may stand there: a map's look-up. -/
theorem most_at (G F S part : Nat) (hp : part ≤ 6) : (putV (putV (putV (putV (putV (putV (putV (fun _ => none) 0 (Value.int .i64 1)) 1 (Value.int .i64 256)) 2 (Value.int .i64 16)) 3 (Value.int .i64 (G : Nat))) 4 (Value.int .i64 (F : Nat))) 5 (Value.int .i64 (S : Nat))) 6 (Value.int .i64 32)) (part : Nat) = some (Value.int .i64 (mostP G F S part : Nat)) := by
  have : part = 0 ∨ part = 1 ∨ part = 2 ∨ part = 3 ∨ part = 4 ∨ part = 5 ∨ part = 6 := by omega
  rcases this with rfl | rfl | rfl | rfl | rfl | rfl | rfl <;> rfl
set_option maxHeartbeats 1600000 in
set_option maxRecDepth 100000 in
theorem cd_fits (w : World) (G F S part v : Nat) (hp : part ≤ 6) : Calls Tryz.prog 277 #[.agg #[.int .i64 (G : Nat), .int .i64 (F : Nat), .int .i64 (S : Nat)], .int .i64 (part : Nat), .int .i64 (v : Nat)] w (NwPost (.bool (fitsP G F S part v)) w) := by
  have hmm := @run_makeMap Tryz.prog
  go_enter Tryz.func277, Tryz.ntmps277
  go_upto_region 1 with fail
  obtain ⟨w1, hw1⟩ : ∃ w1, w1 = w.alloc (.cells #[.int .i64 (G : Nat), .int .i64 (F : Nat), .int .i64 (S : Nat)] 232) := ⟨_, rfl⟩
  have B : Blk w1 w.heap.size 232 #[.int .i64 (G : Nat), .int .i64 (F : Nat), .int .i64 (S : Nat)] := by rw [hw1]; exact Blk.new _ _ _
  have D : Chg [] w w1 := by rw [hw1]; exact (Chg.refl _ _).alloc _
  rw [← hw1]
  have M := VMap.made w1 Tryz.prog 3
  have hne : w.heap.size ∉ [w1.heap.size] := by have := B.lt; simp; omega
  have hnw : ∀ k ∈ [w1.heap.size], w.heap.size ≤ k := by have := D.size; simpa using this
  have B2 := B.alloc (.map #[] 0)
  have D2 := D.alloc (.map #[] 0)
  clear B D hw1
  have HL := Lib.hid (most_at G F S part hp)
  go_wp2_with (first
    | (at_lookup; refine wpList_vmap_look' rfl _ _ rfl M tyC rfl rfl (by unfold Wf64; omega) HL.out ?_)
    | (refine wpList_vmap_insert rfl _ _ _ rfl M tyC rfl rfl (by unfold Wf64; omega) rfl (by decide) ?_
       intro x1 M1 C1 _
       have M := M1
       have B2 := C1.blk B2 hne
       have k0 := B2.cellv 0 rfl
       have k1 := B2.cellv 1 rfl
       have k2 := B2.cellv 2 rfl
       have D2 := D2.new C1 hnw
       clear C1 M1))
  go_ret
  exact ⟨by simp [fitsP], D2⟩
section
variable {P : Program} {ops : Array Oper} {rest : List Oper} {o : Oper} {a : Act} {Q : Exit → Act → World → Prop} {w w' : World}
theorem wpList_build {T : TypeId} {ps : Array (Nat × Operand)} (hg : o.guard = none) (hop : o.op = Op.build T ps) (v : Value) (hr : (execOp a.eval o).run P w = .ok (.value v) w) (hK : wpList P ops Q rest (a.put o.dst v) w) : wpList P ops Q (o :: rest) a w := by
  refine wpList_plain hg fun K' hK' => ?_
  unfold Oper.wp
  rw [hr]; exact hK' _ _ hK
theorem wpList_store {T : TypeId} {p x : Operand} (hg : o.guard = none) (hop : o.op = Op.store T p x) {ad v : Value} (hp : a.eval p = ad) (hx : a.eval x = v) (hr : (Instr.storeAt T ad v).run P w = .ok () w') (hK : wpList P ops Q rest (a.put o.dst undef) w') : wpList P ops Q (o :: rest) a w := by
  refine wpList_plain hg fun K' hK' => ?_
  unfold Oper.wp
  simp [execOp, hop, hp, hx, hr, Result.andThen]
  exact hK' _ _ hK
end
def partsL : List Value := (ptab.flatMap id).map (Value.int .i64)
def partsV : Value := .agg partsL.toArray
set_option maxHeartbeats 1600000 in
set_option maxRecDepth 100000 in
theorem cd_parts (w : World) : Calls Tryz.prog 276 #[] w (NwPost partsV w) := by
  go_enter Tryz.func276, Tryz.ntmps276
  have hst : ∀ c : Array Value, c.size = 54 → (Instr.storeAt 363 (.pointer (some ⟨w.heap.size, 0, none⟩)) partsV).run Tryz.prog (w.alloc (.cells c 363)) = .ok () (w.alloc (.cells partsL.toArray 363)) := fun c hc =>
    run_storeAt_new w 363 c partsL.toArray (by kernel_rfl) (by rw [hc]; rfl) (by decide +kernel)
  go_upto_region 1 with fail
  go_wp2_with (first
    | (refine wpList_build (T := 363) rfl rfl partsV (by kernel_rfl) ?_)
    | (refine wpList_store (T := 363) rfl rfl rfl rfl (hst _ rfl) ?_))
  obtain ⟨cs, hcs⟩ : ∃ cs, cs = partsL.toArray := ⟨_, rfl⟩
  have hi : (Tryz.prog.info? 363).map (·.size) = some cs.size := by rw [hcs]; kernel_rfl
  have hV : partsV = .agg cs := by rw [hcs]; rfl
  rw [← hcs, hV]
  clear hst hV hcs
  simp only [Act.put, Array.setIfInBounds, List.size_toArray, List.length_cons, List.length_nil]
  have hr := fun tmps hp => results_cell_row (P := Tryz.prog) (fn := Tryz.f276) rfl tmps _ w.heap.size 363 cs _ _ hp (heap_alloc_new w (.cells cs 363)) Tryz.underlying363 rfl hi
  refine ⟨rfl, _, hr _ ?_, ?_⟩
  · rfl
  · exact ⟨rfl, (Chg.refl [] w).alloc _⟩
set_option maxRecDepth 100000 in
theorem run_parts_at (w : World) {o : Nat} (ho : o ≤ 17) {x y z : Int} (h : ptab[o]? = some [x, y, z]) : (Instr.index 363 partsV (.int .i64 (o : Nat))).run Tryz.prog w = .ok (.agg #[.int .i64 x, .int .i64 y, .int .i64 z]) w := by
  have hh : o = 0 ∨ o = 1 ∨ o = 2 ∨ o = 3 ∨ o = 4 ∨ o = 5 ∨ o = 6 ∨ o = 7 ∨ o = 8 ∨ o = 9 ∨ o = 10 ∨ o = 11 ∨ o = 12 ∨ o = 13 ∨ o = 14 ∨ o = 15 ∨ o = 16 ∨ o = 17 := by omega
  rcases hh with rfl | rfl | rfl | rfl | rfl | rfl | rfl | rfl | rfl | rfl | rfl | rfl | rfl | rfl | rfl | rfl | rfl | rfl
  all_goals
    injection h with h; injection h with e1 h; injection h with e2 h; injection h with e3 _
    subst e1 e2 e3
    show _ = _
    kernel_rfl
end Go.Proofs.YtoeppmnoifankaaGreatDoor
