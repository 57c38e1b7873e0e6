/- Lists of structs that the call owns, whatever the struct: reads, append of one. Plain theorems on worlds; no program in sight. -/
/- Scripts as data: instructions, what may stand in their parts, their bytes. No program in sight. -/
import Derived.Test.YtoeppmnoifankaaGreatDoorMOw
namespace Go.Proofs.YtoeppmnoifankaaGreatDoor
open Go.RowKit Go.Maps

/-- What a slice type is whose elements have sz cells. -/
structure TyS (P : Program) (T E : TypeId) (sz by_ : Nat) : Prop where
  s : P.underlying T = some (.slice E)
  i : ∃ z, (P.info? E).map (fun i => (i.zero, i.size, i.bytes)) = some (some z, sz, by_) ∧ z.cells.size = sz
  b : by_ ≤ 256
  p : 0 < sz
section
variable {α : Type} {f : α → List Value} {sz : Nat}
theorem flat_len (hf : ∀ x, (f x).length = sz) (xs : List α) : (xs.flatMap f).length = xs.length * sz := by
  induction xs with
  | nil => simp
  | cons x xs ih => rw [List.flatMap_cons, List.length_append, ih, hf, List.length_cons, Nat.add_mul]; omega
theorem flat_at (hf : ∀ x, (f x).length = sz) : ∀ {xs : List α} {i : Nat} {x : α} (_ : xs[i]? = some x) {j : Nat} (_ : j < sz), (xs.flatMap f)[i * sz + j]? = (f x)[j]?
  | y :: ys, 0, x, hx, j, hj => by
    have e : y = x := by simpa using hx
    subst e
    rw [List.flatMap_cons, List.getElem?_append_left (by rw [hf]; omega)]; congr 1; omega
  | y :: ys, i + 1, x, hx, j, hj => by
    rw [List.flatMap_cons, List.getElem?_append_right (by rw [hf, Nat.add_mul]; omega), hf, show (i + 1) * sz + j - sz = i * sz + j by rw [Nat.add_mul]; omega]
    exact flat_at hf (by simpa using hx) hj
end
/-- Slice v owns the list xs; f gives an element's cells. -/
structure OwnG {α : Type} (f : α → List Value) (sz : Nat) (E : TypeId) (w : World) (v : Value) (xs : List α) : Prop where
  o : w.ownsRow 0 E sz v xs.length (xs.flatMap f)
section
variable {α : Type} {f : α → List Value} {sz : Nat} {P : Program} {T E : TypeId} {by_ : Nat} {w w' : World} {v : Value} {xs : List α}
theorem OwnG.nil (E : TypeId) (w : World) : OwnG f sz E w (.slice none 0 0) [] := ⟨World.ownsRow_nil _ _ _ _⟩
theorem OwnG.lt (h : OwnG f sz E w v xs) {k : Nat} (hk : k ∈ fpv v) : k < w.heap.size := own_lt h.o (mem_fpv.1 hk)
theorem OwnG.chg {S : List Nat} (h : OwnG f sz E w v xs) (c : Chg S w w') (hn : ∀ k ∈ fpv v, k ∉ S) : OwnG f sz E w' v xs := ⟨own_chg h.o c fun k hk => hn k (mem_fpv.2 hk)⟩
theorem OwnG.chg0 (h : OwnG f sz E w v xs) (c : Chg [] w w') : OwnG f sz E w' v xs := h.chg c (by simp)
theorem OwnG.slice (h : OwnG f sz E w v xs) : ∃ A c, v = .slice A xs.length c := by
  rcases h.o.2 with ⟨rfl, h0⟩ | ⟨g, cap, cur, rfl, _⟩
  · exact ⟨none, 0, by rw [h0]⟩
  · exact ⟨_, _, rfl⟩
theorem OwnG.ne_blk {g : Nat} {t : TypeId} {cs : Array Value} (h : OwnG f sz E w v xs) (hb : Blk w g t cs) (hne : E ≠ t) : g ∉ fpv v := fun hm => own_ne h.o hb hne (mem_fpv.1 hm)
theorem OwnG.cell {A : Option Addr} {n c i : Nat} {x : α} (hf : ∀ x, (f x).length = sz) (h : OwnG f sz E w (.slice A n c) xs) (hx : xs[i]? = some x) :
    ∃ g, A = some ⟨g, 0, none⟩ ∧ (∀ j u, (f x)[j]? = some u → w.cell? ⟨g, i * sz + j, none⟩ = some u) ∧ (∀ j, w.frozen? ⟨g, j, none⟩ = false) ∧ n = xs.length ∧ n ≤ c ∧ g < w.heap.size := by
  have hil := (List.getElem?_eq_some_iff.1 hx).1
  obtain ⟨g, cap, rest, ev, hb, _, hnc, _⟩ := own_open h.o (by omega)
  injection ev with e1 e2 e3
  refine ⟨g, e1, fun j u hu => ?_, fun j => hb.frozen _, e2, by omega, hb.lt⟩
  have hj : j < sz := by have := (List.getElem?_eq_some_iff.1 hu).1; rw [hf] at this; exact this
  have h1 := flat_at hf hx hj
  have hl := flat_len hf xs
  rw [hb.cell, List.getElem?_toArray, List.getElem?_append_left (by
    have := (List.getElem?_eq_some_iff.1 (h1.trans hu)).1; exact this)]
  exact h1.trans hu
theorem run_push_g (hf : ∀ x, (f x).length = sz) (h1 : ∀ x, ∀ u ∈ f x, u.oneCell' = true) (t : TyS P T E sz by_) (ty : TypeId) (h : OwnG f sz E w v xs) (x : α) (hl : xs.length ≤ 100000000) :
    ∃ v' w', (Builtin.append_ #[T, T] ty #[v, .slice (some ⟨w.heap.size, 0, none⟩) 1 1]).run P (w.alloc (.cells (f x).toArray E)) = .ok v' w' ∧ OwnG f sz E w' v' (xs ++ [x]) ∧ Stp (fpv v) (fpv v') w w' := by
  obtain ⟨z, hz0, hzc⟩ := t.i
  obtain ⟨i, hi, hz, hsz, hb⟩ := info_parts hz0
  have hb2 := t.b
  have hm : (xs.length + 1) * by_ ≤ 140737488355328 := by
    have := Nat.mul_le_mul (show xs.length + 1 ≤ 100000001 by omega) hb2
    omega
  obtain ⟨v', w', hrun, g1, g2, g3, g4⟩ := run_append_own_at (P := P) (w.alloc (.cells (f x).toArray E)) 0 T ty E i z sz by_ t.s hi hz hsz hb hzc t.p v xs.length (xs.flatMap f) (h.o.alloc _) ⟨w.heap.size, 0, none⟩ 1 1 (f x) (by rw [hf]; omega)
    (fun j u hu => by rw [WideShapes.add_plain, Nat.zero_add, (Blk.new w E (f x).toArray).cell]; simpa using hu)
    (h1 x) (by unfold maxLen; omega) hm (Nat.zero_le _)
  refine ⟨v', w', hrun, ⟨?_⟩, ⟨((Chg.refl (fpv v) w).alloc _).grown g2 fun k hk => .inl (mem_fpv.2 hk), fun k hk => ?_⟩⟩
  · have e : (xs ++ [x]).flatMap f = xs.flatMap f ++ f x := by simp
    rw [e, List.length_append]; exact g1
  · rcases g4 with h4 | h4
    · rw [mem_fpv, h4] at hk; exact .inl (mem_fpv.2 hk)
    · rw [mem_fpv, h4] at hk
      injection hk with hk
      rw [World.size_alloc] at hk
      exact .inr (by omega)
theorem wpList_push_g {ops : Array Oper} {rest : List Oper} {op : Oper} {a : Act} {Q : Exit → Act → World → Prop} {cs : Array Value} (hf : ∀ x, (f x).length = sz) (h1 : ∀ x, ∀ u ∈ f x, u.oneCell' = true) (t : TyS P T E sz by_) (x : α) (hcs : cs = (f x).toArray) (hgd : op.guard = none) (s y : Operand)
    (hop : op.op = .call { callee := .builtin .append, args := #[s, y], argTypes := #[T, T] }) (hs : a.eval s = v) (h : OwnG f sz E w v xs) (hx : a.eval y = .slice (some ⟨w.heap.size, 0, none⟩) 1 1) (hl : xs.length ≤ 100000000)
    (hK : ∀ A' c' w', OwnG f sz E w' (.slice A' (xs.length + 1) c') (xs ++ [x]) → Stp (fpv v) (fpv (.slice A' (xs.length + 1) c')) w w' → wpList P ops Q rest (a.put op.dst (.slice A' (xs.length + 1) c')) w') : wpList P ops Q (op :: rest) a (w.alloc (.cells cs E)) := by
  subst hcs
  obtain ⟨v', w', hr, h2, h3⟩ := run_push_g hf h1 t op.type h x hl
  obtain ⟨A', c', e⟩ := h2.slice
  rw [List.length_append, List.length_singleton] at e
  subst e
  refine wpList_plain hgd fun K' hK' => ?_
  unfold Oper.wp execOp
  simp only [hop, resolve, invoke, builtin, Sem.run_bind, Sem.run_pure, Result.andThen_ok, List.map_toArray, List.map_cons, List.map_nil, hs, hx, hr]
  exact hK' _ _ (hK A' c' w' h2 h3)
/-- append of a list that is read, in a region that does not draw. -/
theorem wpList_cat_v {z : Value} {u : Value} {ys zs : List Value} {B : Nat} {ops : Array Oper} {rest : List Oper} {op : Oper} {a : Act} {Q : Exit → Act → World → Prop} (t : SlV P T E z by_) (hgd : op.guard = none) (s x : Operand)
    (hop : op.op = .call { callee := .builtin .append, args := #[s, x], argTypes := #[T, T] }) (hs : a.eval s = v) (h : OwnV E w v ys) (hx : a.eval x = u) (hu : RdV w B u zs) (hl : ys.length + zs.length ≤ 1000000)
    (hK : ∀ A' c' w', OwnV E w' (.slice A' (ys.length + zs.length) c') (ys ++ zs) → Stp (fpv v) (fpv (.slice A' (ys.length + zs.length) c')) w w' → wpList P ops Q rest (a.put op.dst (.slice A' (ys.length + zs.length) c')) w') : wpList P ops Q (op :: rest) a w := by
  obtain ⟨v', w', hr, h2, h3⟩ := run_cat_v t op.type h hu hl
  obtain ⟨A', c', e⟩ := h2.slice
  rw [List.length_append] at e
  subst e
  refine wpList_plain hgd fun K' hK' => ?_
  unfold Oper.wp execOp
  simp only [hop, resolve, invoke, builtin, Sem.run_bind, Sem.run_pure, Result.andThen_ok, List.map_toArray, List.map_cons, List.map_nil, hs, hx, hr]
  exact hK' _ _ (hK A' c' w' h2 h3)
end
theorem lt_of_cellM {w : World} {b off : Nat} {v : Value} (h : w.cell? ⟨b, off, none⟩ = some v) : b < w.heap.size := by
  rcases Nat.lt_or_ge b w.heap.size with hlt | hge
  · exact hlt
  · simp [World.cell?, Array.getElem?_eq_none hge] at h
theorem RdV.chg0 {w w' : World} {B : Nat} {u : Value} {ys : List Value} (h : RdV w B u ys) (c : Chg [] w w') : RdV w' B u ys :=
  ⟨h.ex, fun A n cc e i y hy => by
    obtain ⟨b, off, h1, h2, h3⟩ := h.at_ A n cc e i y hy
    exact ⟨b, off, h1, h2, c.cellv (lt_of_cellM h3) (by simp) h3⟩, h.one⟩
theorem RdV.far {w w' : World} {B : Nat} {u : Value} {ys : List Value} {S : List Nat} (h : RdV w B u ys) (c : Chg S w w') (hS : ∀ k ∈ S, B ≤ k) : RdV w' B u ys :=
  ⟨h.ex, fun A n cc e i y hy => by
    obtain ⟨b, off, h1, h2, h3⟩ := h.at_ A n cc e i y hy
    exact ⟨b, off, h1, h2, c.cellv (lt_of_cellM h3) (fun hm => by have := hS b hm; omega) h3⟩, h.one⟩
end Go.Proofs.YtoeppmnoifankaaGreatDoor
namespace Go.Proofs.YtoeppmnoifankaaGreatDoor
open Go.RowKit

/-- An instruction. -/
structure Ins where
  o : Nat
  a : Nat
  b : Nat
  c : Nat
/-- What may stand in an instruction's parts: 0 nothing, 1 anything, 2 a place, 3 a global, 4 a function, 5 a target, 6 where one waits. -/
def ptab : List (List Int) :=
  [[0, 0, 0], [2, 1, 0], [2, 2, 1], [2, 1, 2], [2, 2, 0], [2, 0, 0], [2, 3, 0], [3, 2, 0], [4, 2, 0], [0, 0, 0], [0, 1, 1], [6, 0, 0], [6, 0, 0], [2, 2, 0], [5, 0, 0], [2, 2, 5], [1, 1, 0], [5, 0, 0]]
/-- How many may stand there, of so many globals, functions, instructions. -/
def mostP (G F S : Nat) (part : Int) : Nat :=
  if part = 0 then 1 else if part = 1 then 256 else if part = 2 then 16 else if part = 3 then G else if part = 4 then F else if part = 5 then S else if part = 6 then 32 else 0
def fitsP (G F S : Nat) (part v : Int) : Bool := decide (0 ≤ v ∧ v < mostP G F S part)
/-- Which part of an instruction may not be. -/
def wrongP (G F S : Nat) (o a b c : Nat) : Int :=
  if 17 < o then 0 else
  match ptab[o]? with
  | some [x, y, z] => if fitsP G F S x a then if fitsP G F S y b then if fitsP G F S z c then -1 else 3 else 2 else 1
  | _ => -1
theorem ptab_at {o : Nat} (h : o ≤ 17) : ∃ x y z, ptab[o]? = some [x, y, z] ∧ 0 ≤ x ∧ x ≤ 6 ∧ 0 ≤ y ∧ y ≤ 6 ∧ 0 ≤ z ∧ z ≤ 6 := by
  have hh : o = 0 ∨ o = 1 ∨ o = 2 ∨ o = 3 ∨ o = 4 ∨ o = 5 ∨ o = 6 ∨ o = 7 ∨ o = 8 ∨ o = 9 ∨ o = 10 ∨ o = 11 ∨ o = 12 ∨ o = 13 ∨ o = 14 ∨ o = 15 ∨ o = 16 ∨ o = 17 := by omega
  rcases hh with rfl | rfl | rfl | rfl | rfl | rfl | rfl | rfl | rfl | rfl | rfl | rfl | rfl | rfl | rfl | rfl | rfl | rfl <;> exact ⟨_, _, _, rfl, by decide⟩
section
variable {G F S o a b c : Nat}
theorem wrongP_form (ho : o ≤ 17) : ∃ x y z, ptab[o]? = some [x, y, z] ∧ wrongP G F S o a b c = if fitsP G F S x a then if fitsP G F S y b then if fitsP G F S z c then -1 else 3 else 2 else 1 := by
  obtain ⟨x, y, z, h, -⟩ := ptab_at ho
  refine ⟨x, y, z, h, ?_⟩
  unfold wrongP
  rw [if_neg (by omega), h]
theorem wrongP_op (h : wrongP G F S o a b c = -1) : o ≤ 17 := by
  unfold wrongP at h
  by_cases h1 : 17 < o
  · rw [if_pos h1] at h; cases h
  · omega
/-- An instruction that may be is not found wrong as it is read part by part. -/
theorem wrongP_parts (h : wrongP G F S o a b c = -1) : (wrongP G F S o 0 0 0 ≥ 0 → 0 < wrongP G F S o 0 0 0) ∧ (wrongP G F S o a 0 0 ≥ 0 → 1 < wrongP G F S o a 0 0) ∧ (wrongP G F S o a b 0 ≥ 0 → 2 < wrongP G F S o a b 0) := by
  have ho := wrongP_op h
  obtain ⟨x, y, z, h1, h2⟩ := wrongP_form (G := G) (F := F) (S := S) (a := a) (b := b) (c := c) ho
  obtain ⟨x1, y1, z1, h3, h4⟩ := wrongP_form (G := G) (F := F) (S := S) (a := 0) (b := 0) (c := 0) ho
  obtain ⟨x2, y2, z2, h5, h6⟩ := wrongP_form (G := G) (F := F) (S := S) (a := a) (b := 0) (c := 0) ho
  obtain ⟨x3, y3, z3, h7, h8⟩ := wrongP_form (G := G) (F := F) (S := S) (a := a) (b := b) (c := 0) ho
  rw [h1] at h3 h5 h7
  injection h3 with h3; injection h3 with e1 h3; injection h3 with e2 h3; injection h3 with e3 _
  injection h5 with h5; injection h5 with e4 h5; injection h5 with e5 h5; injection h5 with e6 _
  injection h7 with h7; injection h7 with e7 h7; injection h7 with e8 h7; injection h7 with e9 _
  subst e1 e2 e3 e4 e5 e6 e7 e8 e9
  rw [h2] at h
  rw [h4, h6, h8]
  have f1 : fitsP G F S x a = true := by
    cases q : fitsP G F S x a
    · rw [q] at h; simp at h
    · rfl
  have f2 : fitsP G F S y b = true := by
    cases q : fitsP G F S y b
    · rw [f1, q] at h; simp at h
    · rfl
  rw [f1, f2]
  refine ⟨fun h0 => ?_, fun h0 => ?_, fun h0 => ?_⟩
  · by_cases q1 : fitsP G F S x ((0 : Nat) : Int) = true <;> by_cases q2 : fitsP G F S y ((0 : Nat) : Int) = true <;> by_cases q3 : fitsP G F S z ((0 : Nat) : Int) = true <;>
      simp only [q1, q2, q3, if_true, if_false, Bool.false_eq_true] at h0 ⊢ <;> omega
  · by_cases q2 : fitsP G F S y ((0 : Nat) : Int) = true <;> by_cases q3 : fitsP G F S z ((0 : Nat) : Int) = true <;>
      simp only [q2, q3, if_true, if_false, Bool.false_eq_true] at h0 ⊢ <;> omega
  · by_cases q3 : fitsP G F S z ((0 : Nat) : Int) = true <;>
      simp only [q3, if_true, if_false, Bool.false_eq_true] at h0 ⊢ <;> omega
end
/-- A program: how many globals, its functions. -/
def okIns (G F S : Nat) (i : Ins) : Prop := wrongP G F S i.o i.a i.b i.c = -1 ∧ i.o < 256 ∧ i.a < 256 ∧ i.b < 256 ∧ i.c < 256
structure OkP (G : Nat) (fs : List (List Ins)) : Prop where
  g : G ≤ 32
  f0 : 1 ≤ fs.length
  f1 : fs.length ≤ 16
  s : ∀ l ∈ fs, 1 ≤ l.length ∧ l.length ≤ 64 ∧ ∀ i ∈ l, okIns G fs.length l.length i
def encI (i : Ins) : List Nat := [i.o, i.a, i.b, i.c]
def encF (l : List Ins) : List Nat := l.length :: l.flatMap encI
/-- A program's bytes. -/
def encP (G : Nat) (fs : List (List Ins)) : List Nat := fs.length :: G :: fs.flatMap encF
end Go.Proofs.YtoeppmnoifankaaGreatDoor
