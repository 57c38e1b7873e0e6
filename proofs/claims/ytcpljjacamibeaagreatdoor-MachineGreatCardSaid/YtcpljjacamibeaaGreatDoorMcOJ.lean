/- Lists of structs that the call owns, whatever the struct: reads, append of one. Plain theorems on worlds; no program in sight. -/
/- Scripts as data: instructions, what may stand in their parts, their bytes. No program in sight. -/
/- Scripts as data: how bytes are read, where they are wrong; a program's bytes read as the program. No program in sight. -/
import Derived.Test.YtcpljjacamibeaaGreatDoorMOw
namespace Go.Proofs.YtcpljjacamibeaaGreatDoor
set_option maxHeartbeats 16000000
set_option maxRecDepth 100000
open Go.RowKit Go.Maps
structure TyS (P : Program) (T E : TypeId) (sz by_ : Nat) : Prop where
  s : P.underlying T = some (.slice E)
  i : ∃ z, (P.info? E).map (fun i => (i.zero, i.size, i.bytes)) = some (some z, sz, by_) ∧ z.cells.size = sz
  b : by_ ≤ 256
  p : 0 < sz
section
variable {α : Type} {f : α → List Value} {sz : Nat}
theorem flat_len (hf : ∀ x, (f x).length = sz) (xs : List α) : (xs.flatMap f).length = xs.length * sz := by
  induction xs with
  | nil => simp
  | cons x xs ih => rw [List.flatMap_cons, List.length_append, ih, hf, List.length_cons, Nat.add_mul]; omega
theorem flat_at (hf : ∀ x, (f x).length = sz) : ∀ {xs : List α} {i : Nat} {x : α} (_ : xs[i]? = some x) {j : Nat} (_ : j < sz), (xs.flatMap f)[i * sz + j]? = (f x)[j]?
  | y :: ys, 0, x, hx, j, hj => by
    have e : y = x := by simpa using hx
    subst e
    rw [List.flatMap_cons, List.getElem?_append_left (by rw [hf]; omega)]; congr 1; omega
  | y :: ys, i + 1, x, hx, j, hj => by
    rw [List.flatMap_cons, List.getElem?_append_right (by rw [hf, Nat.add_mul]; omega), hf, show (i + 1) * sz + j - sz = i * sz + j by rw [Nat.add_mul]; omega]
    exact flat_at hf (by simpa using hx) hj
end
structure OwnG {α : Type} (f : α → List Value) (sz : Nat) (E : TypeId) (w : World) (v : Value) (xs : List α) : Prop where
  o : w.ownsRow 0 E sz v xs.length (xs.flatMap f)
section
variable {α : Type} {f : α → List Value} {sz : Nat} {P : Program} {T E : TypeId} {by_ : Nat} {w w' : World} {v : Value} {xs : List α}
theorem OwnG.nil (E : TypeId) (w : World) : OwnG f sz E w (.slice none 0 0) [] := ⟨World.ownsRow_nil _ _ _ _⟩
theorem OwnG.lt (h : OwnG f sz E w v xs) {k : Nat} (hk : k ∈ fpv v) : k < w.heap.size := own_lt h.o (mem_fpv.1 hk)
theorem OwnG.chg {S : List Nat} (h : OwnG f sz E w v xs) (c : Chg S w w') (hn : ∀ k ∈ fpv v, k ∉ S) : OwnG f sz E w' v xs := ⟨own_chg h.o c fun k hk => hn k (mem_fpv.2 hk)⟩
theorem OwnG.chg0 (h : OwnG f sz E w v xs) (c : Chg [] w w') : OwnG f sz E w' v xs := h.chg c (by simp)
theorem OwnG.slice (h : OwnG f sz E w v xs) : ∃ A c, v = .slice A xs.length c := by
  rcases h.o.2 with ⟨rfl, h0⟩ | ⟨g, cap, cur, rfl, _⟩
  · exact ⟨none, 0, by rw [h0]⟩
  · exact ⟨_, _, rfl⟩
theorem OwnG.ne_blk {g : Nat} {t : TypeId} {cs : Array Value} (h : OwnG f sz E w v xs) (hb : Blk w g t cs) (hne : E ≠ t) : g ∉ fpv v := fun hm => own_ne h.o hb hne (mem_fpv.1 hm)
theorem OwnG.cell {A : Option Addr} {n c i : Nat} {x : α} (hf : ∀ x, (f x).length = sz) (h : OwnG f sz E w (.slice A n c) xs) (hx : xs[i]? = some x) :
    ∃ g, A = some ⟨g, 0, none⟩ ∧ (∀ j u, (f x)[j]? = some u → w.cell? ⟨g, i * sz + j, none⟩ = some u) ∧ (∀ j, w.frozen? ⟨g, j, none⟩ = false) ∧ n = xs.length ∧ n ≤ c ∧ g < w.heap.size := by
  have hil := (List.getElem?_eq_some_iff.1 hx).1
  obtain ⟨g, cap, rest, ev, hb, _, hnc, _⟩ := own_open h.o (by omega)
  injection ev with e1 e2 e3
  refine ⟨g, e1, fun j u hu => ?_, fun j => hb.frozen _, e2, by omega, hb.lt⟩
  have hj : j < sz := by have := (List.getElem?_eq_some_iff.1 hu).1; rw [hf] at this; exact this
  have h1 := flat_at hf hx hj
  have hl := flat_len hf xs
  rw [hb.cell, List.getElem?_toArray, List.getElem?_append_left (by
    have := (List.getElem?_eq_some_iff.1 (h1.trans hu)).1; exact this)]
  exact h1.trans hu
theorem run_push_g (hf : ∀ x, (f x).length = sz) (h1 : ∀ x, ∀ u ∈ f x, u.oneCell' = true) (t : TyS P T E sz by_) (ty : TypeId) (h : OwnG f sz E w v xs) (x : α) (hl : xs.length ≤ 100000000) :
    ∃ v' w', (Builtin.append_ #[T, T] ty #[v, .slice (some ⟨w.heap.size, 0, none⟩) 1 1]).run P (w.alloc (.cells (f x).toArray E)) = .ok v' w' ∧ OwnG f sz E w' v' (xs ++ [x]) ∧ Stp (fpv v) (fpv v') w w' := by
  obtain ⟨z, hz0, hzc⟩ := t.i
  obtain ⟨i, hi, hz, hsz, hb⟩ := info_parts hz0
  have hb2 := t.b
  have hm : (xs.length + 1) * by_ ≤ 140737488355328 := by
    have := Nat.mul_le_mul (show xs.length + 1 ≤ 100000001 by omega) hb2
    omega
  obtain ⟨v', w', hrun, g1, g2, g3, g4⟩ := run_append_own_at (P := P) (w.alloc (.cells (f x).toArray E)) 0 T ty E i z sz by_ t.s hi hz hsz hb hzc t.p v xs.length (xs.flatMap f) (h.o.alloc _) ⟨w.heap.size, 0, none⟩ 1 1 (f x) (by rw [hf]; omega)
    (fun j u hu => by rw [WideShapes.add_plain, Nat.zero_add, (Blk.new w E (f x).toArray).cell]; simpa using hu)
    (h1 x) (by unfold maxLen; omega) hm (Nat.zero_le _)
  refine ⟨v', w', hrun, ⟨?_⟩, ⟨((Chg.refl (fpv v) w).alloc _).grown g2 fun k hk => .inl (mem_fpv.2 hk), fun k hk => ?_⟩⟩
  · have e : (xs ++ [x]).flatMap f = xs.flatMap f ++ f x := by simp
    rw [e, List.length_append]; exact g1
  · rcases g4 with h4 | h4
    · rw [mem_fpv, h4] at hk; exact .inl (mem_fpv.2 hk)
    · rw [mem_fpv, h4] at hk
      injection hk with hk
      rw [World.size_alloc] at hk
      exact .inr (by omega)
theorem wpList_push_g {ops : Array Oper} {rest : List Oper} {op : Oper} {a : Act} {Q : Exit → Act → World → Prop} {cs : Array Value} (hf : ∀ x, (f x).length = sz) (h1 : ∀ x, ∀ u ∈ f x, u.oneCell' = true) (t : TyS P T E sz by_) (x : α) (hcs : cs = (f x).toArray) (hgd : op.guard = none) (s y : Operand)
    (hop : op.op = .call { callee := .builtin .append, args := #[s, y], argTypes := #[T, T] }) (hs : a.eval s = v) (h : OwnG f sz E w v xs) (hx : a.eval y = .slice (some ⟨w.heap.size, 0, none⟩) 1 1) (hl : xs.length ≤ 100000000)
    (hK : ∀ A' c' w', OwnG f sz E w' (.slice A' (xs.length + 1) c') (xs ++ [x]) → Stp (fpv v) (fpv (.slice A' (xs.length + 1) c')) w w' → wpList P ops Q rest (a.put op.dst (.slice A' (xs.length + 1) c')) w') : wpList P ops Q (op :: rest) a (w.alloc (.cells cs E)) := by
  subst hcs
  obtain ⟨v', w', hr, h2, h3⟩ := run_push_g hf h1 t op.type h x hl
  obtain ⟨A', c', e⟩ := h2.slice
  rw [List.length_append, List.length_singleton] at e
  subst e
  refine wpList_plain hgd fun K' hK' => ?_
  unfold Oper.wp execOp
  simp only [hop, resolve, invoke, builtin, Sem.run_bind, Sem.run_pure, Result.andThen_ok, List.map_toArray, List.map_cons, List.map_nil, hs, hx, hr]
  exact hK' _ _ (hK A' c' w' h2 h3)
theorem wpList_cat_v {z : Value} {u : Value} {ys zs : List Value} {B : Nat} {ops : Array Oper} {rest : List Oper} {op : Oper} {a : Act} {Q : Exit → Act → World → Prop} (t : SlV P T E z by_) (hgd : op.guard = none) (s x : Operand)
    (hop : op.op = .call { callee := .builtin .append, args := #[s, x], argTypes := #[T, T] }) (hs : a.eval s = v) (h : OwnV E w v ys) (hx : a.eval x = u) (hu : RdV w B u zs) (hl : ys.length + zs.length ≤ 1000000)
    (hK : ∀ A' c' w', OwnV E w' (.slice A' (ys.length + zs.length) c') (ys ++ zs) → Stp (fpv v) (fpv (.slice A' (ys.length + zs.length) c')) w w' → wpList P ops Q rest (a.put op.dst (.slice A' (ys.length + zs.length) c')) w') : wpList P ops Q (op :: rest) a w := by
  obtain ⟨v', w', hr, h2, h3⟩ := run_cat_v t op.type h hu hl
  obtain ⟨A', c', e⟩ := h2.slice
  rw [List.length_append] at e
  subst e
  refine wpList_plain hgd fun K' hK' => ?_
  unfold Oper.wp execOp
  simp only [hop, resolve, invoke, builtin, Sem.run_bind, Sem.run_pure, Result.andThen_ok, List.map_toArray, List.map_cons, List.map_nil, hs, hx, hr]
  exact hK' _ _ (hK A' c' w' h2 h3)
end
theorem lt_of_cellM {w : World} {b off : Nat} {v : Value} (h : w.cell? ⟨b, off, none⟩ = some v) : b < w.heap.size := by
  rcases Nat.lt_or_ge b w.heap.size with hlt | hge
  · exact hlt
  · simp [World.cell?, Array.getElem?_eq_none hge] at h
theorem RdV.chg0 {w w' : World} {B : Nat} {u : Value} {ys : List Value} (h : RdV w B u ys) (c : Chg [] w w') : RdV w' B u ys :=
  ⟨h.ex, fun A n cc e i y hy => by
    obtain ⟨b, off, h1, h2, h3⟩ := h.at_ A n cc e i y hy
    exact ⟨b, off, h1, h2, c.cellv (lt_of_cellM h3) (by simp) h3⟩, h.one⟩
theorem RdV.far {w w' : World} {B : Nat} {u : Value} {ys : List Value} {S : List Nat} (h : RdV w B u ys) (c : Chg S w w') (hS : ∀ k ∈ S, B ≤ k) : RdV w' B u ys :=
  ⟨h.ex, fun A n cc e i y hy => by
    obtain ⟨b, off, h1, h2, h3⟩ := h.at_ A n cc e i y hy
    exact ⟨b, off, h1, h2, c.cellv (lt_of_cellM h3) (fun hm => by have := hS b hm; omega) h3⟩, h.one⟩
open Go.RowKit
structure Ins where
  o : Nat
  a : Nat
  b : Nat
  c : Nat
def ptab : List (List Int) :=
  [[0, 0, 0], [2, 1, 0], [2, 2, 1], [2, 1, 2], [2, 2, 0], [2, 0, 0], [2, 3, 0], [3, 2, 0], [4, 2, 0], [0, 0, 0], [0, 1, 1], [6, 0, 0], [6, 0, 0], [2, 2, 0], [5, 0, 0], [2, 2, 5], [1, 1, 0], [5, 0, 0]]
def mostP (G F S : Nat) (part : Int) : Nat :=
  if part = 0 then 1 else if part = 1 then 256 else if part = 2 then 16 else if part = 3 then G else if part = 4 then F else if part = 5 then S else if part = 6 then 32 else 0
def fitsP (G F S : Nat) (part v : Int) : Bool := decide (0 ≤ v ∧ v < mostP G F S part)
def wrongP (G F S : Nat) (o a b c : Nat) : Int :=
  if 17 < o then 0 else
  match ptab[o]? with
  | some [x, y, z] => if fitsP G F S x a then if fitsP G F S y b then if fitsP G F S z c then -1 else 3 else 2 else 1
  | _ => -1
theorem ptab_at {o : Nat} (h : o ≤ 17) : ∃ x y z, ptab[o]? = some [x, y, z] ∧ 0 ≤ x ∧ x ≤ 6 ∧ 0 ≤ y ∧ y ≤ 6 ∧ 0 ≤ z ∧ z ≤ 6 := by
  have hh : o = 0 ∨ o = 1 ∨ o = 2 ∨ o = 3 ∨ o = 4 ∨ o = 5 ∨ o = 6 ∨ o = 7 ∨ o = 8 ∨ o = 9 ∨ o = 10 ∨ o = 11 ∨ o = 12 ∨ o = 13 ∨ o = 14 ∨ o = 15 ∨ o = 16 ∨ o = 17 := by omega
  rcases hh with rfl | rfl | rfl | rfl | rfl | rfl | rfl | rfl | rfl | rfl | rfl | rfl | rfl | rfl | rfl | rfl | rfl | rfl <;> exact ⟨_, _, _, rfl, by decide⟩
section
variable {G F S o a b c : Nat}
theorem wrongP_form (ho : o ≤ 17) : ∃ x y z, ptab[o]? = some [x, y, z] ∧ wrongP G F S o a b c = if fitsP G F S x a then if fitsP G F S y b then if fitsP G F S z c then -1 else 3 else 2 else 1 := by
  obtain ⟨x, y, z, h, -⟩ := ptab_at ho
  refine ⟨x, y, z, h, ?_⟩
  unfold wrongP
  rw [if_neg (by omega), h]
theorem wrongP_op (h : wrongP G F S o a b c = -1) : o ≤ 17 := by
  unfold wrongP at h
  by_cases h1 : 17 < o
  · rw [if_pos h1] at h; cases h
  · omega
theorem wrongP_parts (h : wrongP G F S o a b c = -1) : (wrongP G F S o 0 0 0 ≥ 0 → 0 < wrongP G F S o 0 0 0) ∧ (wrongP G F S o a 0 0 ≥ 0 → 1 < wrongP G F S o a 0 0) ∧ (wrongP G F S o a b 0 ≥ 0 → 2 < wrongP G F S o a b 0) := by
  have ho := wrongP_op h
  obtain ⟨x, y, z, h1, h2⟩ := wrongP_form (G := G) (F := F) (S := S) (a := a) (b := b) (c := c) ho
  obtain ⟨x1, y1, z1, h3, h4⟩ := wrongP_form (G := G) (F := F) (S := S) (a := 0) (b := 0) (c := 0) ho
  obtain ⟨x2, y2, z2, h5, h6⟩ := wrongP_form (G := G) (F := F) (S := S) (a := a) (b := 0) (c := 0) ho
  obtain ⟨x3, y3, z3, h7, h8⟩ := wrongP_form (G := G) (F := F) (S := S) (a := a) (b := b) (c := 0) ho
  rw [h1] at h3 h5 h7
  injection h3 with h3; injection h3 with e1 h3; injection h3 with e2 h3; injection h3 with e3 _
  injection h5 with h5; injection h5 with e4 h5; injection h5 with e5 h5; injection h5 with e6 _
  injection h7 with h7; injection h7 with e7 h7; injection h7 with e8 h7; injection h7 with e9 _
  subst e1 e2 e3 e4 e5 e6 e7 e8 e9
  rw [h2] at h
  rw [h4, h6, h8]
  have f1 : fitsP G F S x a = true := by
    cases q : fitsP G F S x a
    · rw [q] at h; simp at h
    · rfl
  have f2 : fitsP G F S y b = true := by
    cases q : fitsP G F S y b
    · rw [f1, q] at h; simp at h
    · rfl
  rw [f1, f2]
  refine ⟨fun h0 => ?_, fun h0 => ?_, fun h0 => ?_⟩
  · by_cases q1 : fitsP G F S x ((0 : Nat) : Int) = true <;> by_cases q2 : fitsP G F S y ((0 : Nat) : Int) = true <;> by_cases q3 : fitsP G F S z ((0 : Nat) : Int) = true <;>
      simp only [q1, q2, q3, if_true, if_false, Bool.false_eq_true] at h0 ⊢ <;> omega
  · by_cases q2 : fitsP G F S y ((0 : Nat) : Int) = true <;> by_cases q3 : fitsP G F S z ((0 : Nat) : Int) = true <;>
      simp only [q2, q3, if_true, if_false, Bool.false_eq_true] at h0 ⊢ <;> omega
  · by_cases q3 : fitsP G F S z ((0 : Nat) : Int) = true <;>
      simp only [q3, if_true, if_false, Bool.false_eq_true] at h0 ⊢ <;> omega
end
def okIns (G F S : Nat) (i : Ins) : Prop := wrongP G F S i.o i.a i.b i.c = -1 ∧ i.o < 256 ∧ i.a < 256 ∧ i.b < 256 ∧ i.c < 256
structure OkP (G : Nat) (fs : List (List Ins)) : Prop where
  g : G ≤ 32
  f0 : 1 ≤ fs.length
  f1 : fs.length ≤ 16
  s : ∀ l ∈ fs, 1 ≤ l.length ∧ l.length ≤ 64 ∧ ∀ i ∈ l, okIns G fs.length l.length i
def encI (i : Ins) : List Nat := [i.o, i.a, i.b, i.c]
def encF (l : List Ins) : List Nat := l.length :: l.flatMap encI
def encP (G : Nat) (fs : List (List Ins)) : List Nat := fs.length :: G :: fs.flatMap encF
def rdN (bs : List Nat) (at_ lo hi : Nat) : Except Nat Nat :=
  if bs.length ≤ at_ then .error bs.length else if bs.getD at_ 0 < lo ∨ hi < bs.getD at_ 0 then .error at_ else .ok (bs.getD at_ 0)
def insL (v : List Nat) : Ins := ⟨v.getD 0 0, v.getD 1 0, v.getD 2 0, v.getD 3 0⟩
def wrI (G F S : Nat) (i : Ins) : Int := wrongP G F S i.o i.a i.b i.c
def insGo (G F S : Nat) (bs : List Nat) (a0 : Nat) : Nat → List Nat → Except Nat Ins
  | 0, v => .ok (insL v)
  | n + 1, v => if bs.length ≤ a0 + v.length then .error bs.length else
    if 0 ≤ wrI G F S (insL (v ++ [bs.getD (a0 + v.length) 0])) ∧ wrI G F S (insL (v ++ [bs.getD (a0 + v.length) 0])) ≤ (v.length : Int) then .error (a0 + (wrI G F S (insL (v ++ [bs.getD (a0 + v.length) 0]))).toNat)
    else insGo G F S bs a0 n (v ++ [bs.getD (a0 + v.length) 0])
def codGo (G F S : Nat) (bs : List Nat) : Nat → Nat → List Ins → Except Nat (List Ins × Nat)
  | 0, a, l => .ok (l, a)
  | n + 1, a, l => match insGo G F S bs a 4 [] with
    | .error k => .error k
    | .ok i => codGo G F S bs n (a + 4) (l ++ [i])
def funGo (G F : Nat) (bs : List Nat) : Nat → Nat → List (List Ins) → Except Nat (List (List Ins) × Nat)
  | 0, a, l => .ok (l, a)
  | n + 1, a, l => match rdN bs a 1 64 with
    | .error k => .error k
    | .ok S => match codGo G F S bs S (a + 1) [] with
      | .error k => .error k
      | .ok (f, a') => funGo G F bs n a' (l ++ [f])
def decP (bs : List Nat) : Except Nat (Nat × List (List Ins)) :=
  match rdN bs 0 1 16 with
  | .error k => .error k
  | .ok F => match rdN bs 1 0 32 with
    | .error k => .error k
    | .ok G => match funGo G F bs F 2 [] with
      | .error k => .error k
      | .ok (fs, a) => if a < bs.length then .error a else .ok (G, fs)
section
variable {G F S : Nat}
theorem rdN_ok {bs : List Nat} {a lo hi v : Nat} (h : bs[a]? = some v) (h1 : lo ≤ v) (h2 : v ≤ hi) : rdN bs a lo hi = .ok v := by
  have hl := (List.getElem?_eq_some_iff.1 h).1
  have e : bs.getD a 0 = v := by rw [List.getD_eq_getElem?_getD, h]; rfl
  unfold rdN
  rw [if_neg (by omega), e, if_neg (by omega)]
theorem insGo_ok {i : Ins} (h : okIns G F S i) (bs : List Nat) (a : Nat) (hb : ∀ j v, (encI i)[j]? = some v → bs[a + j]? = some v) : insGo G F S bs a 4 [] = .ok i := by
  obtain ⟨hw, -⟩ := h
  obtain ⟨w1, w2, w3⟩ := wrongP_parts hw
  have g : ∀ j v, (encI i)[j]? = some v → bs.getD (a + j) 0 = v ∧ ¬ bs.length ≤ a + j := fun j v hv => by
    have := hb j v hv
    refine ⟨by rw [List.getD_eq_getElem?_getD, this]; rfl, ?_⟩
    have := (List.getElem?_eq_some_iff.1 this).1
    omega
  obtain ⟨g0, l0⟩ := g 0 i.o rfl
  obtain ⟨g1, l1⟩ := g 1 i.a rfl
  obtain ⟨g2, l2⟩ := g 2 i.b rfl
  obtain ⟨g3, l3⟩ := g 3 i.c rfl
  have e0 : insL [i.o] = ⟨i.o, 0, 0, 0⟩ := rfl
  have e1 : insL [i.o, i.a] = ⟨i.o, i.a, 0, 0⟩ := rfl
  have e2 : insL [i.o, i.a, i.b] = ⟨i.o, i.a, i.b, 0⟩ := rfl
  have e3 : insL [i.o, i.a, i.b, i.c] = i := rfl
  have n0 : ¬ (0 ≤ wrI G F S ⟨i.o, 0, 0, 0⟩ ∧ wrI G F S ⟨i.o, 0, 0, 0⟩ ≤ ((0 : Nat) : Int)) := fun ⟨h0, h1⟩ => by have := w1 h0; unfold wrI at h1; simp only at h1; omega
  have n1 : ¬ (0 ≤ wrI G F S ⟨i.o, i.a, 0, 0⟩ ∧ wrI G F S ⟨i.o, i.a, 0, 0⟩ ≤ ((1 : Nat) : Int)) := fun ⟨h0, h1⟩ => by have := w2 h0; unfold wrI at h1; simp only at h1; omega
  have n2 : ¬ (0 ≤ wrI G F S ⟨i.o, i.a, i.b, 0⟩ ∧ wrI G F S ⟨i.o, i.a, i.b, 0⟩ ≤ ((2 : Nat) : Int)) := fun ⟨h0, h1⟩ => by have := w3 h0; unfold wrI at h1; simp only at h1; omega
  have n3 : ¬ (0 ≤ wrI G F S i ∧ wrI G F S i ≤ ((3 : Nat) : Int)) := fun ⟨h0, h1⟩ => by unfold wrI at h0; omega
  rw [insGo, if_neg (by simpa using l0)]
  simp only [List.nil_append, List.length_nil, g0, e0]
  rw [if_neg n0, insGo, if_neg (by simpa using l1)]
  simp only [List.cons_append, List.nil_append, List.length_cons, List.length_nil, g1, e1]
  rw [if_neg n1, insGo, if_neg (by simpa using l2)]
  simp only [List.cons_append, List.nil_append, List.length_cons, List.length_nil, g2, e2]
  rw [if_neg n2, insGo, if_neg (by simpa using l3)]
  simp only [List.cons_append, List.nil_append, List.length_cons, List.length_nil, g3, e3]
  rw [if_neg n3, insGo, e3]
theorem codGo_ok (bs : List Nat) : ∀ (l : List Ins) (a : Nat) (l0 : List Ins), (∀ i ∈ l, okIns G F S i) → (∀ j v, (l.flatMap encI)[j]? = some v → bs[a + j]? = some v) → codGo G F S bs l.length a l0 = .ok (l0 ++ l, a + 4 * l.length)
  | [], a, l0, _, _ => by simp [codGo]
  | i :: l, a, l0, h, hb => by
    rw [List.length_cons, codGo, insGo_ok (h i (by simp)) bs a (fun j v hv => hb j v (by
      rw [List.flatMap_cons, List.getElem?_append_left (List.getElem?_eq_some_iff.1 hv).1]; exact hv))]
    show codGo G F S bs l.length (a + 4) (l0 ++ [i]) = _
    rw [codGo_ok bs l (a + 4) (l0 ++ [i]) (fun x hx => h x (by simp [hx])) (fun j v hv => by
      have := hb (4 + j) v (by
        rw [List.flatMap_cons, List.getElem?_append_right (by show (encI i).length ≤ _; simp [encI])]
        rw [show 4 + j - (encI i).length = j by simp [encI]]; exact hv)
      rwa [show a + 4 + j = a + (4 + j) by omega])]
    congr 2
    · simp
    · omega
theorem encF_len (l : List Ins) : (encF l).length = 1 + 4 * l.length := by
  unfold encF
  rw [List.length_cons]
  have : (l.flatMap encI).length = 4 * l.length := by
    induction l with
    | nil => rfl
    | cons i l ih => rw [List.flatMap_cons, List.length_append, ih]; simp [encI]; omega
  omega
theorem funGo_ok (bs : List Nat) : ∀ (fs : List (List Ins)) (a : Nat) (l0 : List (List Ins)), (∀ l ∈ fs, 1 ≤ l.length ∧ l.length ≤ 64 ∧ ∀ i ∈ l, okIns G F l.length i) → (∀ j v, (fs.flatMap encF)[j]? = some v → bs[a + j]? = some v) → funGo G F bs fs.length a l0 = .ok (l0 ++ fs, a + (fs.flatMap encF).length)
  | [], a, l0, _, _ => by simp [funGo]
  | l :: fs, a, l0, h, hb => by
    obtain ⟨h1, h2, h3⟩ := h l (by simp)
    have hb1 : ∀ j v, (encF l)[j]? = some v → bs[a + j]? = some v := fun j v hv => hb j v (by
      rw [List.flatMap_cons, List.getElem?_append_left (List.getElem?_eq_some_iff.1 hv).1]; exact hv)
    have r1 : rdN bs a 1 64 = .ok l.length := rdN_ok (by have := hb1 0 l.length rfl; rwa [Nat.add_zero] at this) h1 h2
    have r2 := codGo_ok (G := G) (F := F) (S := l.length) bs l (a + 1) [] h3 (fun j v hv => by
      have := hb1 (1 + j) v (by unfold encF; rw [Nat.add_comm 1 j, List.getElem?_cons_succ]; exact hv)
      rwa [show a + 1 + j = a + (1 + j) by omega])
    rw [List.length_cons, funGo]
    simp only [r1, r2]
    have hl := encF_len l
    rw [funGo_ok bs fs (a + 1 + 4 * l.length) _ (fun x hx => h x (by simp [hx])) (fun j v hv => by
      have := hb ((encF l).length + j) v (by
        rw [List.flatMap_cons, List.getElem?_append_right (by omega), Nat.add_sub_cancel_left]; exact hv)
      rwa [show a + 1 + 4 * l.length + j = a + ((encF l).length + j) by omega])]
    congr 2
    · simp
    · rw [List.flatMap_cons, List.length_append]; omega
theorem decP_enc {fs : List (List Ins)} (h : OkP G fs) : decP (encP G fs) = .ok (G, fs) := by
  have r1 : rdN (encP G fs) 0 1 16 = .ok fs.length := rdN_ok rfl h.f0 h.f1
  have r2 : rdN (encP G fs) 1 0 32 = .ok G := rdN_ok rfl (Nat.zero_le _) h.g
  have r3 := funGo_ok (G := G) (F := fs.length) (encP G fs) fs 2 [] h.s (fun j v hv => by
    unfold encP
    rw [show 2 + j = j + 1 + 1 by omega, List.getElem?_cons_succ, List.getElem?_cons_succ]; exact hv)
  unfold decP
  simp only [r1, r2, r3]
  rw [if_neg (by unfold encP; simp only [List.length_cons]; omega), List.nil_append]
end
end Go.Proofs.YtcpljjacamibeaaGreatDoor
