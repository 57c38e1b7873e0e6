/- A list of integers that the call owns: append of one (no map, no view). Plain theorems on worlds; no program in sight. -/
import Derived.Test.YtkocikpoagfonaaDoorMem
import Derived.Maps.AppendAt
namespace Go.Proofs.YtkocikpoagfonaaDoor
open Go.RowKit Go.Maps

/-- What a slice type of integers of the program is. -/
structure SlTy (P : Program) (T E : TypeId) : Prop where
  s : P.underlying T = some (.slice E)
  i : (P.info? E).map (fun i => (i.zero, i.size, i.bytes)) = some (some (.int .i64 0), 1, 8)
/-- Slice v owns the list xs. -/
structure OwnI (E : TypeId) (w : World) (v : Value) (xs : List Int) : Prop where
  o : w.ownsRow 0 E 1 v xs.length (xs.map (Value.int .i64))

section
variable {P : Program} {T E : TypeId} {w w' : World} {v : Value} {xs : List Int}
theorem OwnI.nil (E : TypeId) (w : World) : OwnI E w (.slice none 0 0) [] := ⟨World.ownsRow_nil _ _ _ _⟩
theorem OwnI.lt (h : OwnI E w v xs) {k : Nat} (hk : k ∈ fpv v) : k < w.heap.size := own_lt h.o (mem_fpv.1 hk)
theorem OwnI.chg {S : List Nat} (h : OwnI E w v xs) (c : Chg S w w') (hn : ∀ k ∈ fpv v, k ∉ S) : OwnI E w' v xs := ⟨own_chg h.o c fun k hk => hn k (mem_fpv.2 hk)⟩
theorem OwnI.chg0 (h : OwnI E w v xs) (c : Chg [] w w') : OwnI E w' v xs := h.chg c (by simp)
theorem OwnI.drewN (h : OwnI E w v xs) (n : Nat) : OwnI E (w.drewN n) v xs := ⟨h.o⟩
theorem OwnI.alloc (h : OwnI E w v xs) (o : Obj) : OwnI E (w.alloc o) v xs := ⟨h.o.alloc o⟩
theorem OwnI.slice (h : OwnI E w v xs) : ∃ A c, v = .slice A xs.length c := by
  rcases h.o.2 with ⟨rfl, h0⟩ | ⟨g, cap, cur, rfl, _⟩
  · exact ⟨none, 0, by rw [h0]⟩
  · exact ⟨_, _, rfl⟩
theorem OwnI.cell {A : Option Addr} {n c i : Nat} {x : Int} (h : OwnI E w (.slice A n c) xs) (hx : xs[i]? = some x) : ∃ g, A = some ⟨g, 0, none⟩ ∧ w.cell? ⟨g, i, none⟩ = some (.int .i64 x) ∧ w.frozen? ⟨g, i, none⟩ = false ∧ n = xs.length := by
  rcases h.o.2 with ⟨_, h0⟩ | ⟨g, cap, cur, e, _, hh, hc, hm, hs, ht⟩
  · have : xs = [] := List.eq_nil_of_length_eq_zero h0
    subst this; simp at hx
  · injection e with e1 e2 e3
    refine ⟨g, e1, ?_, Blk.frozen (t := E) (cs := cur) hh i, e2⟩
    rw [Blk.cell (t := E) (cs := cur) hh]
    have h1 : (cur.toList.take (xs.length * 1))[i]? = some (.int .i64 x) := by rw [ht]; simp [hx]
    rw [List.getElem?_take] at h1
    split at h1
    · simpa using h1
    · cases h1

theorem news_one (w : World) (u : Value) (E : TypeId) : ∀ j x, [u][j]? = some x → (w.alloc (.cells #[u] E)).cell? ((⟨w.heap.size, 0, none⟩ : Addr).add j) = some x := cell_one_new w u E

theorem run_push_int (t : SlTy P T E) (ty : TypeId) (h : OwnI E w v xs) (z : Int) (hl : xs.length + 1 ≤ 1000000000000) :
    ∃ v' w', (Builtin.append_ #[T, T] ty #[v, .slice (some ⟨w.heap.size, 0, none⟩) 1 1]).run P (w.alloc (.cells #[.int .i64 z] E)) = .ok v' w' ∧ OwnI E w' v' (xs ++ [z]) ∧ Stp (fpv v) (fpv v') w w' := by
  obtain ⟨i, hi, hz, hs, hb⟩ := info_parts t.i
  obtain ⟨v', w', hrun, h1, h2, h3, h4⟩ := run_append_own_at (P := P) (w.alloc (.cells #[.int .i64 z] E)) 0 T ty E i (.int .i64 0) 1 8 t.s hi hz hs hb rfl (by decide) v xs.length (xs.map (Value.int .i64)) (h.o.alloc _) ⟨w.heap.size, 0, none⟩ 1 1 [.int .i64 z] rfl (news_one w _ E) (by intro u hu; simp at hu; subst hu; rfl) (by unfold maxLen; omega) (by omega) (Nat.zero_le _)
  refine ⟨v', w', hrun, ⟨by simpa using h1⟩, ⟨((Chg.refl (fpv v) w).alloc _).grown h2 fun k hk => .inl (mem_fpv.2 hk), fun k hk => ?_⟩⟩
  rcases h4 with h4 | h4
  · rw [mem_fpv, h4] at hk; exact .inl (mem_fpv.2 hk)
  · rw [mem_fpv, h4] at hk
    injection hk with hk
    rw [World.size_alloc] at hk
    exact .inr (by omega)
theorem wpList_push_int {ops : Array Oper} {rest : List Oper} {o : Oper} {a : Act} {Q : Exit → Act → World → Prop} (hgd : o.guard = none) (s x : Operand)
    (ho : o.op = .call { callee := .builtin .append, args := #[s, x], argTypes := #[T, T] }) (t : SlTy P T E) (hs : a.eval s = v) (h : OwnI E w v xs) {z : Int} (hx : a.eval x = .slice (some ⟨w.heap.size, 0, none⟩) 1 1) (hl : xs.length + 1 ≤ 1000000000000)
    (hK : ∀ A' c' w', OwnI E w' (.slice A' (xs.length + 1) c') (xs ++ [z]) → Stp (fpv v) (fpv (.slice A' (xs.length + 1) c')) w w' → wpList P ops Q rest (a.put o.dst (.slice A' (xs.length + 1) c')) w') : wpList P ops Q (o :: rest) a (w.alloc (.cells #[.int .i64 z] E)) := by
  obtain ⟨v', w', hr, h2, h3⟩ := run_push_int t o.type h z hl
  obtain ⟨A', c', e⟩ := h2.slice
  rw [List.length_append, List.length_singleton] at e
  subst e
  refine wpList_plain hgd fun K' hK' => ?_
  unfold Oper.wp execOp
  simp only [ho, resolve, invoke, builtin, Sem.run_bind, Sem.run_pure, Result.andThen_ok, List.map_toArray, List.map_cons, List.map_nil, hs, hx, hr]
  exact hK' _ _ (hK A' c' w' h2 h3)
end
end Go.Proofs.YtkocikpoagfonaaDoor
