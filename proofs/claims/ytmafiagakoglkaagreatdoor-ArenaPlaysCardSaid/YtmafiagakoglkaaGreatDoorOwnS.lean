/- Lists of values of one cell: a slice of one is read; laws for regions. Plain theorems on worlds. -/
import Derived.Test.YtmafiagakoglkaaGreatDoorMRs
import Derived.Deep.RegionLaw
namespace Go.Proofs.YtmafiagakoglkaaGreatDoor
open Go.RowKit Go.Maps

theorem OwnI.v {E : TypeId} {w : World} {v : Value} {xs : List Int} (h : OwnI E w v xs) : OwnV E w v (xs.map (Value.int .i64)) := ⟨by rw [List.length_map]; exact h.o⟩
theorem OwnV.i {E : TypeId} {w : World} {v : Value} {xs : List Int} (h : OwnV E w v (xs.map (Value.int .i64))) : OwnI E w v xs := ⟨by have := h.o; rwa [List.length_map] at this⟩
section
variable {P : Program} {T E : TypeId} {z : Value} {by_ : Nat} {w w0 : World} {v : Value} {xs : List Value} {A : Option Addr} {n c i : Nat}
theorem run_slice_own (t : SlV P T E z by_) (lo hi mx : Option Value) (l h m : Nat) (hb : (Instr.sliceBounds true n c lo hi mx).run P w = .ok (l, h, m) w) :
    (Instr.sliceAt T (.slice A n c) lo hi mx).run P w = .ok (sliced A l h m 1) w := by
  have he : P.underlying T = some (.slice (P.elem T)) := by unfold Program.elem; rw [t.s]
  have e2 : P.elem T = E := by unfold Program.elem; rw [t.s]
  obtain ⟨i, hi, hz⟩ := Option.map_eq_some_iff.1 t.i
  simp only [Prod.mk.injEq] at hz
  obtain ⟨hz, hs, hb'⟩ := hz
  rw [run_sliceAt_slice w T _ _ _ _ he, run_slice_any w T A n c he, hb]
  simp [Result.andThen, sizeOf, typeInfo, e2, hi, hs]
theorem rd_take (h : OwnV E w0 (.slice A n c) xs) (h1 : ∀ y ∈ xs, y.oneCell' = true) (hi : i ≤ xs.length) : RdV w0 w0.heap.size (sliced A 0 i c 1) (xs.take i) := by
  have h2 := h.take (c' := c) h1 hi
  unfold sliced
  rcases h.o.2 with ⟨e, h0⟩ | ⟨g, cap, cur, e, _⟩
  · injection e with e1 e2 e3
    subst e1
    simpa using h2
  · injection e with e1 e2 e3
    subst e1
    have e4 : (if c = 0 then some (⟨g, 0, none⟩ : Addr) else (some (⟨g, 0, none⟩ : Addr)).map (·.add (0 * 1))) = some ⟨g, 0, none⟩ := by
      split
      · rfl
      · simp [WideShapes.add_plain]
    rw [e4]
    simpa using h2
theorem rd_drop (h : OwnV E w0 (.slice A n c) xs) (h1 : ∀ y ∈ xs, y.oneCell' = true) (hi : i ≤ xs.length) : RdV w0 w0.heap.size (sliced A i n c 1) (xs.drop i) := by
  unfold sliced
  rcases h.o.2 with ⟨e, h0⟩ | ⟨g, cap, cur, e, _, _, hc, _⟩
  · injection e with e1 e2 e3
    subst e1 e2 e3
    have e5 : xs = [] := List.eq_nil_of_length_eq_zero h0
    subst e5
    have e6 : i = 0 := by simpa using hi
    subst e6
    simpa using RdV.none_ w0 w0.heap.size none 0
  · injection e with e1 e2 e3
    subst e1
    by_cases e4 : c = i
    · have e5 : i = xs.length := by omega
      rw [if_pos e4]
      have e6 : xs.drop i = [] := by rw [e5]; exact List.drop_length
      have e7 : n - i = 0 := by omega
      rw [e6, e7]
      exact RdV.none_ _ _ _ _
    · rw [if_neg e4]
      have h3 := h.drop (c' := c - i) (m := n - i) (i := i) h1 (by omega)
      simpa [WideShapes.add_plain] using h3
section
variable {ops : Array Oper} {o : Oper} {a : Act} {K : Act → World → Prop} {Q : Exit → Act → World → Prop} {E' : Prop}
theorem step_take_v (hgd : o.guard = none) (s x : Operand) (ho : o.op = Op.slice T s none (some x) none) (t : SlV P T E z by_) (hs : a.eval s = .slice A n c) (h : OwnV E w0 (.slice A n c) xs) (h1 : ∀ y ∈ xs, y.oneCell' = true) (hx : a.eval x = .int .i64 (i : Nat)) (hi : i ≤ xs.length) (hc : xs.length ≤ c)
    (hK : ∀ u, RdV w0 w0.heap.size u (xs.take i) → K (a.put o.dst u) w) : if Region.wanted o (yielded ops a.tmps) = true then Oper.wp P o a w K Q else E' := by
  have hw : Region.wanted o (yielded ops a.tmps) = true := by simp [Region.wanted, hgd]
  rw [if_pos hw]
  have hr : (Instr.sliceAt T (.slice A n c) none (some (.int .i64 (i : Nat))) none).run P w = .ok (sliced A 0 i c 1) w := run_slice_own t _ _ _ 0 i c (by
    have e1 : ∀ code, (Instr.sliceBound (.int .i64 (i : Nat)) c code).run P w = .ok i w := fun code => by
      rw [run_sliceBound w .i64 (i : Nat) c code (by omega) (by omega), Int.toNat_natCast]
    simp [Instr.sliceBounds, e1])
  unfold Oper.wp
  simp [execOp, ho, hs, hx, hr, Result.andThen]
  exact hK _ (rd_take h h1 hi)
theorem step_drop_v (hgd : o.guard = none) (s x : Operand) (ho : o.op = Op.slice T s (some x) none none) (t : SlV P T E z by_) (hs : a.eval s = .slice A n c) (h : OwnV E w0 (.slice A n c) xs) (h1 : ∀ y ∈ xs, y.oneCell' = true) (hx : a.eval x = .int .i64 (i : Nat)) (hi : i ≤ xs.length) (hn : n = xs.length)
    (hK : ∀ u, RdV w0 w0.heap.size u (xs.drop i) → K (a.put o.dst u) w) : if Region.wanted o (yielded ops a.tmps) = true then Oper.wp P o a w K Q else E' := by
  have hw : Region.wanted o (yielded ops a.tmps) = true := by simp [Region.wanted, hgd]
  rw [if_pos hw]
  have hr : (Instr.sliceAt T (.slice A n c) (some (.int .i64 (i : Nat))) none none).run P w = .ok (sliced A i n c 1) w := run_slice_own t _ _ _ i n c (by
    have e1 : ∀ code, (Instr.sliceBound (.int .i64 (i : Nat)) n code).run P w = .ok i w := fun code => by
      rw [run_sliceBound w .i64 (i : Nat) n code (by omega) (by omega), Int.toNat_natCast]
    simp [Instr.sliceBounds, e1])
  unfold Oper.wp
  simp [execOp, ho, hs, hx, hr, Result.andThen]
  exact hK _ (rd_drop h h1 hi)
end
theorem OwnV.drew (h : OwnV E w v xs) : OwnV E w.drew v xs := ⟨h.o⟩
theorem OwnV.alloc (h : OwnV E w v xs) (o : Obj) : OwnV E (w.alloc o) v xs := h.chg0 ((Chg.refl _ _).alloc o)
end
/-- A field of a block is given a list that the call made. -/
def CatPost (E : TypeId) (W : World) (g : Nat) (t : TypeId) (cs : Array Value) (F : Nat) (ys : List Value) (wd : World) : Prop :=
  ∃ v', OwnV E wd v' ys ∧ (∀ k ∈ fpv v', W.heap.size ≤ k) ∧ Blk wd g t (cs.setIfInBounds F v') ∧ Chg [g] W wd
theorem cat_done {E t : TypeId} {W w3 : World} {g F : Nat} {cs : Array Value} {v : Value} {ys : List Value} (B : Blk W g t cs) (D : Chg [] W w3) (O : OwnV E w3 v ys) (Fv : ∀ k ∈ fpv v, W.heap.size ≤ k) : CatPost E W g t cs F ys (w3.setCell ⟨g, F, none⟩ v) :=
  ⟨v, O.chg ((Chg.refl [g] w3).setCell (.inl (by simp)) _) (fun k hk hm => by
    have e : k = g := by simpa using hm
    have := Fv k hk; have := B.lt; omega), Fv, (D.blk B (by simp)).set_ F v, (D.mono (by simp)).setCell (.inl (by simp)) _⟩
end Go.Proofs.YtmafiagakoglkaaGreatDoor
