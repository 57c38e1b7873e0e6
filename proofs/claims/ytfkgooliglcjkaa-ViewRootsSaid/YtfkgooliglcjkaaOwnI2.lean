/- A list of integers that the call owns: one of one element; one behind another. Plain theorems on worlds; no program in sight. -/
import Derived.Test.YtfkgooliglcjkaaOwnI
namespace Go.Proofs.Ytfkgooliglcjkaa
open Go.RowKit Go.Maps
section
variable {P : Program} {T E : TypeId} {w w' : World} {v : Value} {xs ys : List Int}
theorem OwnI.one (E : TypeId) (w : World) (a : Int) : OwnI E (w.alloc (.cells #[.int .i64 a] E)) (.slice (some ⟨w.heap.size, 0, none⟩) 1 1) [a] :=
  ⟨⟨rfl, .inr ⟨w.heap.size, 1, _, rfl, Nat.zero_le _, heap_alloc_new w _, Nat.le_refl _, by decide, rfl, rfl⟩⟩⟩
theorem run_cat_int (t : SlTy P T E) (ty : TypeId) (h : OwnI E w v xs) {g c : Nat} (hu : OwnI E w (.slice (some ⟨g, 0, none⟩) ys.length c) ys) (hl : xs.length + ys.length ≤ 1000000000000) :
    ∃ v' w', (Builtin.append_ #[T, T] ty #[v, .slice (some ⟨g, 0, none⟩) ys.length c]).run P w = .ok v' w' ∧ OwnI E w' v' (xs ++ ys) ∧ Stp (fpv v) (fpv v') w w' := by
  obtain ⟨i, hi, hz, hs, hb⟩ := info_parts t.i
  obtain ⟨v', w', hrun, h1, h2, h3, h4⟩ := run_append_own_at (P := P) w 0 T ty E i (.int .i64 0) 1 8 t.s hi hz hs hb rfl (by decide) v xs.length (xs.map (Value.int .i64)) h.o ⟨g, 0, none⟩ ys.length c (ys.map (Value.int .i64)) (by simp) (hu.o.cells (g := g) rfl) (by intro u hu; obtain ⟨z, _, rfl⟩ := List.mem_map.1 hu; rfl) (by unfold maxLen; omega) (by omega) (Nat.zero_le _)
  refine ⟨v', w', hrun, ⟨by simpa using h1⟩, ⟨(Chg.refl (fpv v) w).grown h2 fun k hk => .inl (mem_fpv.2 hk), fun k hk => ?_⟩⟩
  rcases h4 with h4 | h4
  · rw [mem_fpv, h4] at hk; exact .inl (mem_fpv.2 hk)
  · rw [mem_fpv, h4] at hk
    injection hk with hk
    exact .inr (by omega)
theorem wpList_cat_int {ops : Array Oper} {rest : List Oper} {o : Oper} {a : Act} {Q : Exit → Act → World → Prop} (hgd : o.guard = none) (s x : Operand)
    (ho : o.op = .call { callee := .builtin .append, args := #[s, x], argTypes := #[T, T] }) (t : SlTy P T E) (hs : a.eval s = v) (h : OwnI E w v xs) {g c : Nat} (hx : a.eval x = .slice (some ⟨g, 0, none⟩) ys.length c) (hu : OwnI E w (.slice (some ⟨g, 0, none⟩) ys.length c) ys) (hl : xs.length + ys.length ≤ 1000000000000)
    (hK : ∀ A' c' w', OwnI E w' (.slice A' (xs.length + ys.length) c') (xs ++ ys) → Stp (fpv v) (fpv (.slice A' (xs.length + ys.length) c')) w w' → wpList P ops Q rest (a.put o.dst (.slice A' (xs.length + ys.length) c')) w') : wpList P ops Q (o :: rest) a w := by
  obtain ⟨v', w', hr, h2, h3⟩ := run_cat_int t o.type h hu hl
  obtain ⟨A', c', e⟩ := h2.slice
  rw [List.length_append] at e
  subst e
  refine wpList_plain hgd fun K' hK' => ?_
  unfold Oper.wp execOp
  simp only [ho, resolve, invoke, builtin, Sem.run_bind, Sem.run_pure, Result.andThen_ok, List.map_toArray, List.map_cons, List.map_nil, hs, hx, hr]
  exact hK' _ _ (hK A' c' w' h2 h3)
end
section
variable {P : Program} {T K : TypeId} {w : World} {b n : Nat} {f : Int → Option Int}
  {ops : Array Oper} {rest : List Oper} {o : Oper} {a : Act} {Q : Exit → Act → World → Prop}
theorem wpList_imap_yes (hg : o.guard = none) (m x : Operand) (hop : o.op = Op.lookup T m x true) (h : IMap P K w b n f) (t : IntTy P T K) (hm : a.eval m = .map (some b)) {k u : Int} (hx : a.eval x = .int .i64 k) (hk : WfI k) (hf : f k = some u)
    (hK : wpList P ops Q rest (a.put o.dst (.tuple #[.int .i64 u, .bool true])) w) : wpList P ops Q (o :: rest) a w := by
  refine wpList_imap_lookOk hg m x hop h t hm hx hk ?_
  rw [hf]; exact hK
theorem wpList_imap_no (hg : o.guard = none) (m x : Operand) (hop : o.op = Op.lookup T m x true) (h : IMap P K w b n f) (t : IntTy P T K) (hm : a.eval m = .map (some b)) {k : Int} (hx : a.eval x = .int .i64 k) (hk : WfI k) (hf : f k = none)
    (hK : wpList P ops Q rest (a.put o.dst (.tuple #[.int .i64 0, .bool false])) w) : wpList P ops Q (o :: rest) a w := by
  refine wpList_imap_lookOk hg m x hop h t hm hx hk ?_
  rw [hf]; exact hK
theorem wpList_imap_val (hg : o.guard = none) (m x : Operand) (hop : o.op = Op.lookup T m x false) (h : IMap P K w b n f) (t : IntTy P T K) (hm : a.eval m = .map (some b)) {k u : Int} (hx : a.eval x = .int .i64 k) (hk : WfI k) (hf : f k = some u)
    (hK : wpList P ops Q rest (a.put o.dst (.int .i64 u)) w) : wpList P ops Q (o :: rest) a w := by
  refine wpList_imap_look hg m x hop h t hm hx hk ?_
  rw [hf]; exact hK
theorem wpList_imap_nil (hg : o.guard = none) (m x : Operand) (hop : o.op = Op.lookup T m x false) (h : IMap P K w b n f) (t : IntTy P T K) (hm : a.eval m = .map (some b)) {k : Int} (hx : a.eval x = .int .i64 k) (hk : WfI k) (hf : f k = none)
    (hK : wpList P ops Q rest (a.put o.dst (.int .i64 0)) w) : wpList P ops Q (o :: rest) a w := by
  refine wpList_imap_look hg m x hop h t hm hx hk ?_
  rw [hf]; exact hK
end
end Go.Proofs.Ytfkgooliglcjkaa
