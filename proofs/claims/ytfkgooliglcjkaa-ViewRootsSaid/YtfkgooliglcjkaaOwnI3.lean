/- A list of integers that the call owns: a slice laid behind it; one of them set. Plain theorems on worlds; no program in sight. -/
import Derived.Test.YtfkgooliglcjkaaVw
import Derived.Test.YtfkgooliglcjkaaOwnI2
import Derived.Deep.AppendSrc
namespace Go.Proofs.Ytfkgooliglcjkaa
open Go.RowKit Go.Maps
section
variable {P : Program} {T E : TypeId} {w w' : World} {v u : Value} {xs ys : List Int} {B : Nat}
theorem setCells_nil (w : World) (b o : Nat) : w.setCells b o [] = w := rfl
theorem run_cat_sl (t : SlTy P T E) (ty : TypeId) (h : OwnI E w v xs) (hu : SlI w B u ys) (hl : xs.length + ys.length ≤ 1000000000000) :
    ∃ v' w', (Builtin.append_ #[T, T] ty #[v, u]).run P w = .ok v' w' ∧ OwnI E w' v' (xs ++ ys) ∧ Stp (fpv v) (fpv v') w w' := by
  obtain ⟨A, c, rfl⟩ := hu.ex
  have hA := hu.at_ _ _ _ rfl
  obtain ⟨i, hi, hz, hs, hb⟩ := info_parts t.i
  have some_ : ∀ ad : Addr, A = some ad → ∃ v' w', (Builtin.append_ #[T, T] ty #[v, .slice (some ad) ys.length c]).run P w = .ok v' w' ∧ OwnI E w' v' (xs ++ ys) ∧ Stp (fpv v) (fpv v') w w' := by
    rintro ad rfl
    obtain ⟨v', w', hrun, h1, h2, h3, h4⟩ := run_append_own_at (P := P) w 0 T ty E i (.int .i64 0) 1 8 t.s hi hz hs hb rfl (by decide) v xs.length (xs.map (Value.int .i64)) h.o ad ys.length c (ys.map (Value.int .i64)) (by simp)
      (fun j z hj => by
        rw [List.getElem?_map] at hj
        cases hy : ys[j]? with
        | none => rw [hy] at hj; simp at hj
        | some y =>
          rw [hy] at hj
          have e : Value.int .i64 y = z := by simpa using hj
          obtain ⟨b, off, e1, _, hc⟩ := hA j y hy
          injection e1 with e1
          rw [e1, ← e, WideShapes.add_plain]; exact hc)
      (by intro u hu; obtain ⟨z, _, rfl⟩ := List.mem_map.1 hu; rfl) (by unfold maxLen; omega) (by omega) (Nat.zero_le _)
    refine ⟨v', w', hrun, ⟨by simpa using h1⟩, ⟨(Chg.refl (fpv v) w).grown h2 fun k hk => .inl (mem_fpv.2 hk), fun k hk => ?_⟩⟩
    rcases h4 with h4 | h4
    · rw [mem_fpv, h4] at hk; exact .inl (mem_fpv.2 hk)
    · rw [mem_fpv, h4] at hk
      injection hk with hk
      exact .inr (by omega)
  cases A with
  | some ad => exact some_ ad rfl
  | none =>
    have e : ys = [] := by
      cases ys with
      | nil => rfl
      | cons y ys =>
        obtain ⟨b, off, e1, _⟩ := hA 0 y rfl
        cases e1
    subst e
    refine ⟨v, w, ?_, by simpa using h, Stp.refl _ _⟩
    rcases h.o.2 with ⟨rfl, hx⟩ | ⟨g, cap, cur, rfl, _, hg, hc, _, _, _⟩
    · rcases (Src.ofNil (P := P) w (size := 1) t.s c).kind with ⟨e', hk⟩ | hk <;>
        simp [Builtin.append_, run_underlying t.s, sizeOf, typeInfo, hi, Builtin.lenOf, Builtin.firstCells]
    · have := run_append_room_src (P := P) w T T ty E i t.s hi g 0 xs.length cap (.slice none 0 c) 0 [] (Src.ofNil w t.s c) (by simpa using hc) (by simp) (by simp)
      rw [setCells_nil] at this
      exact this
theorem wpList_cat_sl {ops : Array Oper} {rest : List Oper} {o : Oper} {a : Act} {Q : Exit → Act → World → Prop} (hgd : o.guard = none) (s x : Operand)
    (ho : o.op = .call { callee := .builtin .append, args := #[s, x], argTypes := #[T, T] }) (t : SlTy P T E) (hs : a.eval s = v) (h : OwnI E w v xs) (hx : a.eval x = u) (hu : SlI w B u ys) (hl : xs.length + ys.length ≤ 1000000000000)
    (hK : ∀ A' c' w', OwnI E w' (.slice A' (xs.length + ys.length) c') (xs ++ ys) → Stp (fpv v) (fpv (.slice A' (xs.length + ys.length) c')) w w' → wpList P ops Q rest (a.put o.dst (.slice A' (xs.length + ys.length) c')) w') : wpList P ops Q (o :: rest) a w := by
  obtain ⟨v', w', hr, h2, h3⟩ := run_cat_sl t o.type h hu hl
  obtain ⟨A', c', e⟩ := h2.slice
  rw [List.length_append] at e
  subst e
  refine wpList_plain hgd fun K' hK' => ?_
  unfold Oper.wp execOp
  simp only [ho, resolve, invoke, builtin, Sem.run_bind, Sem.run_pure, Result.andThen_ok, List.map_toArray, List.map_cons, List.map_nil, hs, hx, hr]
  exact hK' _ _ (hK A' c' w' h2 h3)
theorem OwnI.empty (E : TypeId) (w : World) : OwnI E (w.alloc (.cells #[] E)) (.slice (some ⟨w.heap.size, 0, none⟩) 0 0) [] :=
  ⟨⟨rfl, .inr ⟨w.heap.size, 0, _, rfl, Nat.zero_le _, heap_alloc_new w _, Nat.le_refl _, by decide, rfl, rfl⟩⟩⟩
/-- A slice laid behind an empty new one: a copy. -/
theorem wpList_copy_sl {ops : Array Oper} {rest : List Oper} {o : Oper} {a : Act} {Q : Exit → Act → World → Prop} (hgd : o.guard = none) (s x : Operand)
    (ho : o.op = .call { callee := .builtin .append, args := #[s, x], argTypes := #[T, T] }) (t : SlTy P T E) (hs : a.eval s = .slice (some ⟨w.heap.size, 0, none⟩) 0 0) (hx : a.eval x = u) (hu : SlI w B u ys) (hB : B ≤ w.heap.size) (hl : ys.length ≤ 1000000)
    (hK : ∀ A' c' w', OwnI E w' (.slice A' ys.length c') ys → Stp [] (fpv (.slice A' ys.length c')) w w' → wpList P ops Q rest (a.put o.dst (.slice A' ys.length c')) w') : wpList P ops Q (o :: rest) a (w.alloc (.cells #[] E)) := by
  refine wpList_cat_sl hgd s x ho t hs (OwnI.empty E w) hx (hu.chg ((Chg.refl [] w).alloc _) hB (by simp)) (by simp; omega) fun A' c' w' O S => ?_
  rw [List.nil_append] at O
  rw [List.length_nil, Nat.zero_add] at O S ⊢
  have one : ∀ k ∈ fpv (.slice (some ⟨w.heap.size, 0, none⟩) 0 0), k = w.heap.size := fun k hk => by simpa [fpv, Value.ownBlock, eq_comm] using hk
  refine hK A' c' w' O ⟨((Chg.refl [] w).alloc (.cells #[] E)).new S.c (fun k hk => by rw [one k hk]; exact Nat.le_refl _), fun k hk => ?_⟩
  rcases S.f k hk with h1 | h1
  · exact .inr (by rw [one k h1]; exact Nat.le_refl _)
  · exact .inr (by rw [World.size_alloc] at h1; omega)
/-- One of them set. -/
theorem OwnI.set_ {g n c q : Nat} (h : OwnI E w (.slice (some ⟨g, 0, none⟩) n c) xs) (_ : q < xs.length) (z : Int) : OwnI E (w.setCell ⟨g, q, none⟩ (.int .i64 z)) (.slice (some ⟨g, 0, none⟩) n c) (xs.set q z) := by
  rcases h.o.2 with ⟨e, _⟩ | ⟨g', cap, cur, e, hb0, hg, hc, hm, hs, ht⟩
  · simp at e
  · injection e with e1 e2 e3
    injection e1 with e1
    injection e1 with e1
    subst e1 e2 e3
    have hb : Blk w g E cur := hg
    refine ⟨⟨by simp, .inr ⟨g, c, cur.setIfInBounds q (.int .i64 z), by simp, Nat.zero_le _, hb.set_ q _, by simpa using hc, hm, by simpa using hs, ?_⟩⟩⟩
    rw [Array.toList_setIfInBounds, List.take_set, List.length_set, ht, List.map_set]
end
end Go.Proofs.Ytfkgooliglcjkaa
