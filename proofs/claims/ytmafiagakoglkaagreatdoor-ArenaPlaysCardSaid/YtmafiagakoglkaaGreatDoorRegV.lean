/- Steps of a region that draws, for lists of values of one cell: literals, make, reslicings. -/
import Derived.Test.YtmafiagakoglkaaGreatDoorReg
import Derived.Laws.MakeOwn
namespace Go.Proofs.YtmafiagakoglkaaGreatDoor
open Go Go.RowKit Go.Maps

section
variable {P : Program} {T E : TypeId} {z : Value} {by_ : Nat} {w : World} {xs : List Value} {A : Option Addr} {n c i : Nat} {o : Oper} {a : Act}
theorem run_take_v (t : SlV P T E z by_) (s x : Operand) (ho : o.op = Op.slice T s none (some x) none) (hs : a.eval s = .slice A n c) (hx : a.eval x = .int .i64 (i : Nat)) (hi : i ≤ c) :
    (execOp a.eval o).run P w = .ok (.value (sliced A 0 i c 1)) w := by
  have hr : (Instr.sliceAt T (.slice A n c) none (some (.int .i64 (i : Nat))) none).run P w = .ok (sliced A 0 i c 1) w := run_slice_own t _ _ _ 0 i c (by
    have e1 : ∀ code, (Instr.sliceBound (.int .i64 (i : Nat)) c code).run P w = .ok i w := fun code => by
      rw [run_sliceBound w .i64 (i : Nat) c code (by omega) (by omega), Int.toNat_natCast]
    simp [Instr.sliceBounds, e1])
  simp [execOp, ho, hs, hx, hr, Result.andThen]
theorem run_drop_v (t : SlV P T E z by_) (s x : Operand) (ho : o.op = Op.slice T s (some x) none none) (hs : a.eval s = .slice A n c) (hx : a.eval x = .int .i64 (i : Nat)) (hi : i ≤ n) :
    (execOp a.eval o).run P w = .ok (.value (sliced A i n c 1)) w := by
  have hr : (Instr.sliceAt T (.slice A n c) (some (.int .i64 (i : Nat))) none none).run P w = .ok (sliced A i n c 1) w := run_slice_own t _ _ _ i n c (by
    have e1 : ∀ code, (Instr.sliceBound (.int .i64 (i : Nat)) n code).run P w = .ok i w := fun code => by
      rw [run_sliceBound w .i64 (i : Nat) n code (by omega) (by omega), Int.toNat_natCast]
    simp [Instr.sliceBounds, e1])
  simp [execOp, ho, hs, hx, hr, Result.andThen]
section
variable {ops : Array Oper} {K : Act → World → Prop} {Q : Exit → Act → World → Prop} {E' : Prop}
/-- []T{} -/
theorem step_lit0 (t : SlV P T E z by_) (hgd : o.guard = none) (ho : o.op = Op.buildSlice T 0 #[])
    (hK : ∀ v w', OwnV E w' v [] → Chg [] w w' → (∀ k ∈ fpv v, w.heap.size ≤ k) → K (a.put o.dst v) w') : if Region.wanted o (yielded ops a.tmps) = true then Oper.wp P o a w K Q else E' := by
  have hw : Region.wanted o (yielded ops a.tmps) = true := by simp [Region.wanted, hgd]
  rw [if_pos hw]
  obtain ⟨i, hi, hz⟩ := Option.map_eq_some_iff.1 t.i
  simp only [Prod.mk.injEq] at hz
  obtain ⟨hz, hs, hb⟩ := hz
  have hr : (Instr.buildSlice T 0 #[]).run P w = .ok (.slice (some ⟨w.heap.size, 0, none⟩) 0 0) (w.alloc (.cells #[] E)) := by
    simp [Instr.buildSlice, run_underlying t.s, sizeOf, typeInfo, hi, Instr.fill, newRow, go_sem]
  unfold Oper.wp
  simp [execOp, ho, hr, Result.andThen]
  exact hK _ _ (OwnV.empty E w) ((Chg.refl [] w).alloc _) (fun k hk => by have := fpv_some hk; omega)
/-- []T{x} -/
theorem step_lit1 (t : SlV P T E z by_) {x : Value} {xo : Operand} (hgd : o.guard = none) (ho : o.op = Op.buildSlice T 1 #[(0, xo)]) (hx : a.eval xo = x) (h1 : x.oneCell' = true)
    (hK : ∀ g w', Blk w' g E #[x] → Chg [] w w' → g = w.heap.size → K (a.put o.dst (.slice (some ⟨g, 0, none⟩) 1 1)) w') : if Region.wanted o (yielded ops a.tmps) = true then Oper.wp P o a w K Q else E' := by
  have hw : Region.wanted o (yielded ops a.tmps) = true := by simp [Region.wanted, hgd]
  rw [if_pos hw]
  obtain ⟨i, hi, hz⟩ := Option.map_eq_some_iff.1 t.i
  simp only [Prod.mk.injEq] at hz
  obtain ⟨hz, hs, hb⟩ := hz
  have z1 := t.z1
  have hr : (Instr.buildSlice T 1 #[(0, x)]).run P w = .ok (.slice (some ⟨w.heap.size, 0, none⟩) 1 1) (w.alloc (.cells #[x] E)) := by
    have z2 : ¬ z.cells.size = 0 := by omega
    cases x <;> first | (cases h1; done) | simp [Instr.buildSlice, run_underlying t.s, sizeOf, typeInfo, hi, zeroValue, hz, hs, Instr.fill, newRow, go_sem]
  unfold Oper.wp
  simp [execOp, ho, hx, hr, Result.andThen]
  exact hK _ _ (Blk.new w E #[x]) ((Chg.refl [] w).alloc _) rfl
/-- make([]T, n) -/
theorem step_make (t : SlV P T E z by_) (hzc : z.cells = #[z]) {lo co : Operand} (hgd : o.guard = none) (ho : o.op = Op.makeSlice T lo co) (hl : a.eval lo = .int .i64 (n : Nat)) (hc : a.eval co = .int .i64 (n : Nat)) (hn : n ≤ 1000000)
    (hK : ∀ g w', Blk w' g E (zcells z n) → Chg [] w w' → g = w.heap.size → K (a.put o.dst (.slice (some ⟨g, 0, none⟩) n n)) w') : if Region.wanted o (yielded ops a.tmps) = true then Oper.wp P o a w K Q else E' := by
  have hw : Region.wanted o (yielded ops a.tmps) = true := by simp [Region.wanted, hgd]
  rw [if_pos hw]
  have hb := t.b
  have hr := run_make_z (P := P) T E z by_ t.s t.i hzc .i64 .i64 n (by have := Nat.mul_le_mul hb hn; omega) (by omega) w
  unfold Oper.wp
  simp [execOp, ho, hl, hc, hr, Result.andThen]
  exact hK _ _ (Blk.new w E _) ((Chg.refl [] w).alloc _) rfl
/-- append onto a list that is new since W. -/
theorem step_cat_f {W : World} {B : Nat} {v u : Value} {ys : List Value} (n : Nat) (hn : xs.length + ys.length = n) (hgd : o.guard = none) (s x : Operand)
    (ho : o.op = .call { callee := .builtin .append, args := #[s, x], argTypes := #[T, T] }) (t : SlV P T E z by_) (hs : a.eval s = v) (O : OwnV E w v xs) (D : Chg [] W w) (F : ∀ k ∈ fpv v, W.heap.size ≤ k)
    (hx : a.eval x = u) (U : RdV w B u ys) (hl : n ≤ 1000000)
    (hK : ∀ v' w', OwnV E w' v' (xs ++ ys) → Chg (fpv v) w w' → Chg [] W w' → (∀ k ∈ fpv v', k ∈ fpv v ∨ w.heap.size ≤ k) → (∀ k ∈ fpv v', W.heap.size ≤ k) → K (a.put o.dst v') w') : if Region.wanted o (yielded ops a.tmps) = true then Oper.wp P o a w K Q else E' :=
  step_cat_v n hn hgd s x ho t hs O hx U hl fun A' c' w' O' S => hK _ w' O' S.c (D.newS S.c F) S.f fun k hk => by
    rcases S.f k hk with h1 | h1
    · exact F k h1
    · exact Nat.le_trans D.size h1
end
end
end Go.Proofs.YtmafiagakoglkaaGreatDoor
