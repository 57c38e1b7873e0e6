/- Lists of structs that the call owns, whatever the struct: reads, append of one. Plain theorems on worlds; no program in sight. -/
/- Scripts as data: instructions, what may stand in their parts, their bytes. No program in sight. -/
/- Scripts as data: how bytes are read, where they are wrong; a program's bytes read as the program. No program in sight. -/
/- A script in memory. -/
/- Package phase: its functions' contracts. -/
/- Package state: what goroutines do. -/
/- Package state: Spawn. -/
/- Packages queue, timer, wait, barrier, as long as nobody is in them. -/
/- The machine's small parts as data: a ring's cells. No program in sight. -/
import Derived.Test.YtcpljjacamibeaaGreatDoorMOw
import Derived.Test.YtcpljjacamibeaaGreatDoorMemJ
import Derived.Test.YtcpljjacamibeaaGreatDoorMClJ
namespace Go.Proofs.YtcpljjacamibeaaGreatDoor
set_option maxHeartbeats 16000000
set_option maxRecDepth 100000
open Go.RowKit Go.Maps
structure TyS (P : Program) (T E : TypeId) (sz by_ : Nat) : Prop where
  s : P.underlying T = some (.slice E)
  i : ∃ z, (P.info? E).map (fun i => (i.zero, i.size, i.bytes)) = some (some z, sz, by_) ∧ z.cells.size = sz
  b : by_ ≤ 256
  p : 0 < sz
section
variable {α : Type} {f : α → List Value} {sz : Nat}
theorem flat_len (hf : ∀ x, (f x).length = sz) (xs : List α) : (xs.flatMap f).length = xs.length * sz := by
  induction xs with
  | nil => simp
  | cons x xs ih => rw [List.flatMap_cons, List.length_append, ih, hf, List.length_cons, Nat.add_mul]; omega
theorem flat_at (hf : ∀ x, (f x).length = sz) : ∀ {xs : List α} {i : Nat} {x : α} (_ : xs[i]? = some x) {j : Nat} (_ : j < sz), (xs.flatMap f)[i * sz + j]? = (f x)[j]?
  | y :: ys, 0, x, hx, j, hj => by
    have e : y = x := by simpa using hx
    subst e
    rw [List.flatMap_cons, List.getElem?_append_left (by rw [hf]; omega)]; congr 1; omega
  | y :: ys, i + 1, x, hx, j, hj => by
    rw [List.flatMap_cons, List.getElem?_append_right (by rw [hf, Nat.add_mul]; omega), hf, show (i + 1) * sz + j - sz = i * sz + j by rw [Nat.add_mul]; omega]
    exact flat_at hf (by simpa using hx) hj
end
structure OwnG {α : Type} (f : α → List Value) (sz : Nat) (E : TypeId) (w : World) (v : Value) (xs : List α) : Prop where
  o : w.ownsRow 0 E sz v xs.length (xs.flatMap f)
section
variable {α : Type} {f : α → List Value} {sz : Nat} {P : Program} {T E : TypeId} {by_ : Nat} {w w' : World} {v : Value} {xs : List α}
theorem OwnG.nil (E : TypeId) (w : World) : OwnG f sz E w (.slice none 0 0) [] := ⟨World.ownsRow_nil _ _ _ _⟩
theorem OwnG.lt (h : OwnG f sz E w v xs) {k : Nat} (hk : k ∈ fpv v) : k < w.heap.size := own_lt h.o (mem_fpv.1 hk)
theorem OwnG.chg {S : List Nat} (h : OwnG f sz E w v xs) (c : Chg S w w') (hn : ∀ k ∈ fpv v, k ∉ S) : OwnG f sz E w' v xs := ⟨own_chg h.o c fun k hk => hn k (mem_fpv.2 hk)⟩
theorem OwnG.chg0 (h : OwnG f sz E w v xs) (c : Chg [] w w') : OwnG f sz E w' v xs := h.chg c (by simp)
theorem OwnG.slice (h : OwnG f sz E w v xs) : ∃ A c, v = .slice A xs.length c := by
  rcases h.o.2 with ⟨rfl, h0⟩ | ⟨g, cap, cur, rfl, _⟩
  · exact ⟨none, 0, by rw [h0]⟩
  · exact ⟨_, _, rfl⟩
theorem OwnG.ne_blk {g : Nat} {t : TypeId} {cs : Array Value} (h : OwnG f sz E w v xs) (hb : Blk w g t cs) (hne : E ≠ t) : g ∉ fpv v := fun hm => own_ne h.o hb hne (mem_fpv.1 hm)
theorem OwnG.cell {A : Option Addr} {n c i : Nat} {x : α} (hf : ∀ x, (f x).length = sz) (h : OwnG f sz E w (.slice A n c) xs) (hx : xs[i]? = some x) :
    ∃ g, A = some ⟨g, 0, none⟩ ∧ (∀ j u, (f x)[j]? = some u → w.cell? ⟨g, i * sz + j, none⟩ = some u) ∧ (∀ j, w.frozen? ⟨g, j, none⟩ = false) ∧ n = xs.length ∧ n ≤ c ∧ g < w.heap.size := by
  have hil := (List.getElem?_eq_some_iff.1 hx).1
  obtain ⟨g, cap, rest, ev, hb, _, hnc, _⟩ := own_open h.o (by omega)
  injection ev with e1 e2 e3
  refine ⟨g, e1, fun j u hu => ?_, fun j => hb.frozen _, e2, by omega, hb.lt⟩
  have hj : j < sz := by have := (List.getElem?_eq_some_iff.1 hu).1; rw [hf] at this; exact this
  have h1 := flat_at hf hx hj
  have hl := flat_len hf xs
  rw [hb.cell, List.getElem?_toArray, List.getElem?_append_left (by
    have := (List.getElem?_eq_some_iff.1 (h1.trans hu)).1; exact this)]
  exact h1.trans hu
theorem run_push_g (hf : ∀ x, (f x).length = sz) (h1 : ∀ x, ∀ u ∈ f x, u.oneCell' = true) (t : TyS P T E sz by_) (ty : TypeId) (h : OwnG f sz E w v xs) (x : α) (hl : xs.length ≤ 100000000) :
    ∃ v' w', (Builtin.append_ #[T, T] ty #[v, .slice (some ⟨w.heap.size, 0, none⟩) 1 1]).run P (w.alloc (.cells (f x).toArray E)) = .ok v' w' ∧ OwnG f sz E w' v' (xs ++ [x]) ∧ Stp (fpv v) (fpv v') w w' := by
  obtain ⟨z, hz0, hzc⟩ := t.i
  obtain ⟨i, hi, hz, hsz, hb⟩ := info_parts hz0
  have hb2 := t.b
  have hm : (xs.length + 1) * by_ ≤ 140737488355328 := by
    have := Nat.mul_le_mul (show xs.length + 1 ≤ 100000001 by omega) hb2
    omega
  obtain ⟨v', w', hrun, g1, g2, g3, g4⟩ := run_append_own_at (P := P) (w.alloc (.cells (f x).toArray E)) 0 T ty E i z sz by_ t.s hi hz hsz hb hzc t.p v xs.length (xs.flatMap f) (h.o.alloc _) ⟨w.heap.size, 0, none⟩ 1 1 (f x) (by rw [hf]; omega)
    (fun j u hu => by rw [WideShapes.add_plain, Nat.zero_add, (Blk.new w E (f x).toArray).cell]; simpa using hu)
    (h1 x) (by unfold maxLen; omega) hm (Nat.zero_le _)
  refine ⟨v', w', hrun, ⟨?_⟩, ⟨((Chg.refl (fpv v) w).alloc _).grown g2 fun k hk => .inl (mem_fpv.2 hk), fun k hk => ?_⟩⟩
  · have e : (xs ++ [x]).flatMap f = xs.flatMap f ++ f x := by simp
    rw [e, List.length_append]; exact g1
  · rcases g4 with h4 | h4
    · rw [mem_fpv, h4] at hk; exact .inl (mem_fpv.2 hk)
    · rw [mem_fpv, h4] at hk
      injection hk with hk
      rw [World.size_alloc] at hk
      exact .inr (by omega)
theorem wpList_push_g {ops : Array Oper} {rest : List Oper} {op : Oper} {a : Act} {Q : Exit → Act → World → Prop} {cs : Array Value} (hf : ∀ x, (f x).length = sz) (h1 : ∀ x, ∀ u ∈ f x, u.oneCell' = true) (t : TyS P T E sz by_) (x : α) (hcs : cs = (f x).toArray) (hgd : op.guard = none) (s y : Operand)
    (hop : op.op = .call { callee := .builtin .append, args := #[s, y], argTypes := #[T, T] }) (hs : a.eval s = v) (h : OwnG f sz E w v xs) (hx : a.eval y = .slice (some ⟨w.heap.size, 0, none⟩) 1 1) (hl : xs.length ≤ 100000000)
    (hK : ∀ A' c' w', OwnG f sz E w' (.slice A' (xs.length + 1) c') (xs ++ [x]) → Stp (fpv v) (fpv (.slice A' (xs.length + 1) c')) w w' → wpList P ops Q rest (a.put op.dst (.slice A' (xs.length + 1) c')) w') : wpList P ops Q (op :: rest) a (w.alloc (.cells cs E)) := by
  subst hcs
  obtain ⟨v', w', hr, h2, h3⟩ := run_push_g hf h1 t op.type h x hl
  obtain ⟨A', c', e⟩ := h2.slice
  rw [List.length_append, List.length_singleton] at e
  subst e
  refine wpList_plain hgd fun K' hK' => ?_
  unfold Oper.wp execOp
  simp only [hop, resolve, invoke, builtin, Sem.run_bind, Sem.run_pure, Result.andThen_ok, List.map_toArray, List.map_cons, List.map_nil, hs, hx, hr]
  exact hK' _ _ (hK A' c' w' h2 h3)
theorem wpList_cat_v {z : Value} {u : Value} {ys zs : List Value} {B : Nat} {ops : Array Oper} {rest : List Oper} {op : Oper} {a : Act} {Q : Exit → Act → World → Prop} (t : SlV P T E z by_) (hgd : op.guard = none) (s x : Operand)
    (hop : op.op = .call { callee := .builtin .append, args := #[s, x], argTypes := #[T, T] }) (hs : a.eval s = v) (h : OwnV E w v ys) (hx : a.eval x = u) (hu : RdV w B u zs) (hl : ys.length + zs.length ≤ 1000000)
    (hK : ∀ A' c' w', OwnV E w' (.slice A' (ys.length + zs.length) c') (ys ++ zs) → Stp (fpv v) (fpv (.slice A' (ys.length + zs.length) c')) w w' → wpList P ops Q rest (a.put op.dst (.slice A' (ys.length + zs.length) c')) w') : wpList P ops Q (op :: rest) a w := by
  obtain ⟨v', w', hr, h2, h3⟩ := run_cat_v t op.type h hu hl
  obtain ⟨A', c', e⟩ := h2.slice
  rw [List.length_append] at e
  subst e
  refine wpList_plain hgd fun K' hK' => ?_
  unfold Oper.wp execOp
  simp only [hop, resolve, invoke, builtin, Sem.run_bind, Sem.run_pure, Result.andThen_ok, List.map_toArray, List.map_cons, List.map_nil, hs, hx, hr]
  exact hK' _ _ (hK A' c' w' h2 h3)
end
theorem lt_of_cellM {w : World} {b off : Nat} {v : Value} (h : w.cell? ⟨b, off, none⟩ = some v) : b < w.heap.size := by
  rcases Nat.lt_or_ge b w.heap.size with hlt | hge
  · exact hlt
  · simp [World.cell?, Array.getElem?_eq_none hge] at h
theorem RdV.chg0 {w w' : World} {B : Nat} {u : Value} {ys : List Value} (h : RdV w B u ys) (c : Chg [] w w') : RdV w' B u ys :=
  ⟨h.ex, fun A n cc e i y hy => by
    obtain ⟨b, off, h1, h2, h3⟩ := h.at_ A n cc e i y hy
    exact ⟨b, off, h1, h2, c.cellv (lt_of_cellM h3) (by simp) h3⟩, h.one⟩
theorem RdV.far {w w' : World} {B : Nat} {u : Value} {ys : List Value} {S : List Nat} (h : RdV w B u ys) (c : Chg S w w') (hS : ∀ k ∈ S, B ≤ k) : RdV w' B u ys :=
  ⟨h.ex, fun A n cc e i y hy => by
    obtain ⟨b, off, h1, h2, h3⟩ := h.at_ A n cc e i y hy
    exact ⟨b, off, h1, h2, c.cellv (lt_of_cellM h3) (fun hm => by have := hS b hm; omega) h3⟩, h.one⟩
open Go.RowKit
structure Ins where
  o : Nat
  a : Nat
  b : Nat
  c : Nat
def ptab : List (List Int) :=
  [[0, 0, 0], [2, 1, 0], [2, 2, 1], [2, 1, 2], [2, 2, 0], [2, 0, 0], [2, 3, 0], [3, 2, 0], [4, 2, 0], [0, 0, 0], [0, 1, 1], [6, 0, 0], [6, 0, 0], [2, 2, 0], [5, 0, 0], [2, 2, 5], [1, 1, 0], [5, 0, 0]]
def mostP (G F S : Nat) (part : Int) : Nat :=
  if part = 0 then 1 else if part = 1 then 256 else if part = 2 then 16 else if part = 3 then G else if part = 4 then F else if part = 5 then S else if part = 6 then 32 else 0
def fitsP (G F S : Nat) (part v : Int) : Bool := decide (0 ≤ v ∧ v < mostP G F S part)
def wrongP (G F S : Nat) (o a b c : Nat) : Int :=
  if 17 < o then 0 else
  match ptab[o]? with
  | some [x, y, z] => if fitsP G F S x a then if fitsP G F S y b then if fitsP G F S z c then -1 else 3 else 2 else 1
  | _ => -1
theorem ptab_at {o : Nat} (h : o ≤ 17) : ∃ x y z, ptab[o]? = some [x, y, z] ∧ 0 ≤ x ∧ x ≤ 6 ∧ 0 ≤ y ∧ y ≤ 6 ∧ 0 ≤ z ∧ z ≤ 6 := by
  have hh : o = 0 ∨ o = 1 ∨ o = 2 ∨ o = 3 ∨ o = 4 ∨ o = 5 ∨ o = 6 ∨ o = 7 ∨ o = 8 ∨ o = 9 ∨ o = 10 ∨ o = 11 ∨ o = 12 ∨ o = 13 ∨ o = 14 ∨ o = 15 ∨ o = 16 ∨ o = 17 := by omega
  rcases hh with rfl | rfl | rfl | rfl | rfl | rfl | rfl | rfl | rfl | rfl | rfl | rfl | rfl | rfl | rfl | rfl | rfl | rfl <;> exact ⟨_, _, _, rfl, by decide⟩
section
variable {G F S o a b c : Nat}
theorem wrongP_form (ho : o ≤ 17) : ∃ x y z, ptab[o]? = some [x, y, z] ∧ wrongP G F S o a b c = if fitsP G F S x a then if fitsP G F S y b then if fitsP G F S z c then -1 else 3 else 2 else 1 := by
  obtain ⟨x, y, z, h, -⟩ := ptab_at ho
  refine ⟨x, y, z, h, ?_⟩
  unfold wrongP
  rw [if_neg (by omega), h]
end
def okIns (G F S : Nat) (i : Ins) : Prop := wrongP G F S i.o i.a i.b i.c = -1 ∧ i.o < 256 ∧ i.a < 256 ∧ i.b < 256 ∧ i.c < 256
structure OkP (G : Nat) (fs : List (List Ins)) : Prop where
  g : G ≤ 32
  f0 : 1 ≤ fs.length
  f1 : fs.length ≤ 16
  s : ∀ l ∈ fs, 1 ≤ l.length ∧ l.length ≤ 64 ∧ ∀ i ∈ l, okIns G fs.length l.length i
def encI (i : Ins) : List Nat := [i.o, i.a, i.b, i.c]
def encF (l : List Ins) : List Nat := l.length :: l.flatMap encI
def encP (G : Nat) (fs : List (List Ins)) : List Nat := fs.length :: G :: fs.flatMap encF
def rdN (bs : List Nat) (at_ lo hi : Nat) : Except Nat Nat :=
  if bs.length ≤ at_ then .error bs.length else if bs.getD at_ 0 < lo ∨ hi < bs.getD at_ 0 then .error at_ else .ok (bs.getD at_ 0)
def insL (v : List Nat) : Ins := ⟨v.getD 0 0, v.getD 1 0, v.getD 2 0, v.getD 3 0⟩
def wrI (G F S : Nat) (i : Ins) : Int := wrongP G F S i.o i.a i.b i.c
def insGo (G F S : Nat) (bs : List Nat) (a0 : Nat) : Nat → List Nat → Except Nat Ins
  | 0, v => .ok (insL v)
  | n + 1, v => if bs.length ≤ a0 + v.length then .error bs.length else
    if 0 ≤ wrI G F S (insL (v ++ [bs.getD (a0 + v.length) 0])) ∧ wrI G F S (insL (v ++ [bs.getD (a0 + v.length) 0])) ≤ (v.length : Int) then .error (a0 + (wrI G F S (insL (v ++ [bs.getD (a0 + v.length) 0]))).toNat)
    else insGo G F S bs a0 n (v ++ [bs.getD (a0 + v.length) 0])
def codGo (G F S : Nat) (bs : List Nat) : Nat → Nat → List Ins → Except Nat (List Ins × Nat)
  | 0, a, l => .ok (l, a)
  | n + 1, a, l => match insGo G F S bs a 4 [] with
    | .error k => .error k
    | .ok i => codGo G F S bs n (a + 4) (l ++ [i])
def funGo (G F : Nat) (bs : List Nat) : Nat → Nat → List (List Ins) → Except Nat (List (List Ins) × Nat)
  | 0, a, l => .ok (l, a)
  | n + 1, a, l => match rdN bs a 1 64 with
    | .error k => .error k
    | .ok S => match codGo G F S bs S (a + 1) [] with
      | .error k => .error k
      | .ok (f, a') => funGo G F bs n a' (l ++ [f])
def decP (bs : List Nat) : Except Nat (Nat × List (List Ins)) :=
  match rdN bs 0 1 16 with
  | .error k => .error k
  | .ok F => match rdN bs 1 0 32 with
    | .error k => .error k
    | .ok G => match funGo G F bs F 2 [] with
      | .error k => .error k
      | .ok (fs, a) => if a < bs.length then .error a else .ok (G, fs)
section
variable {G F S : Nat}
end
def insC (i : Ins) : List Value := [.int .i64 (i.o : Nat), .int .i64 (i.a : Nat), .int .i64 (i.b : Nat), .int .i64 (i.c : Nat)]
theorem insC_len (i : Ins) : (insC i).length = 4 := rfl
theorem insC_one (i : Ins) : ∀ u ∈ insC i, u.oneCell' = true := by
  intro u hu
  simp [insC] at hu
  rcases hu with rfl | rfl | rfl | rfl <;> rfl
structure IsFn (w : World) (v : Value) (vf : Nat → Value) (fs : List (List Ins)) : Prop where
  o : OwnV 34 w v ((List.range fs.length).map vf)
  f : ∀ i l, fs[i]? = some l → OwnG insC 4 33 w (vf i) l
def FnF (v : Value) (vf : Nat → Value) (n : Nat) (k : Nat) : Prop := k ∈ fpv v ∨ ∃ i, i < n ∧ k ∈ fpv (vf i)
structure PhA where
  ph : Int
  cyc : Int
  said : List Bool
  cnt : Int
  rs : Int
structure IsPh (w : World) (g b : Nat) (s : PhA) : Prop where
  g : Blk w g 168 #[.int .i64 s.ph, .int .i64 s.cyc, .slice (some ⟨b, 0, none⟩) s.said.length s.said.length, .int .i64 s.cnt, .int .i64 s.rs]
  b : Blk w b 4 (s.said.map Value.bool).toArray
theorem IsPh.chg {S : List Nat} {a w : World} {g b : Nat} {s : PhA} (h : IsPh a g b s) (hc : Chg S a w) (hg : g ∉ S) (hb : b ∉ S) : IsPh w g b s :=
  ⟨hc.blk h.g hg, hc.blk h.b hb⟩
structure PhA.ok (s : PhA) : Prop where
  p0 : 0 ≤ s.ph
  p3 : s.ph ≤ 3
  l1 : 1 ≤ s.said.length
  l2 : s.said.length ≤ 64
  c0 : 0 ≤ s.cnt
  c1 : s.cnt ≤ 1000000
  y0 : 0 ≤ s.cyc
  r0 : 0 ≤ s.rs
def ph_nxt (ph : Int) : Int := if ph = 3 then 0 else ph + 1
def ph_none_said (l : List Bool) : List Bool := List.replicate l.length false
def PhA.zero (s : PhA) : PhA := { s with said := ph_none_said s.said, cnt := 0 }
def PhA.quiet (s : PhA) : Bool := s.ph == 1 && s.cnt == (s.said.length : Int)
theorem ph_phase_ok (g b : Nat) (s : PhA) (w : World) (h : IsPh w g b s) :
    Calls Tryz.prog 39 #[.pointer (some ⟨g, 0, none⟩)] w fun e w' => e = .returned (.int .i64 s.ph) ∧ w = w' := by
  have c0 := h.g.cellv 0 rfl
  clear h
  go_enter Tryz.func39, Tryz.ntmps39
  go_wp2
  go_ret
  exact ⟨rfl, rfl⟩
theorem ph_cycle_ok (g b : Nat) (s : PhA) (w : World) (h : IsPh w g b s) :
    Calls Tryz.prog 40 #[.pointer (some ⟨g, 0, none⟩)] w fun e w' => e = .returned (.int .i64 s.cyc) ∧ w = w' := by
  have c0 := h.g.cellv 1 rfl
  clear h
  go_enter Tryz.func40, Tryz.ntmps40
  go_wp2
  go_ret
  exact ⟨rfl, rfl⟩
def PhA.say (s : PhA) (p : Nat) (empty flushed : Bool) : PhA :=
  if empty && !flushed then
    if s.said.getD p false then s else { s with said := s.said.set p true, cnt := s.cnt + 1 }
  else { s with said := ph_none_said s.said, cnt := 0, rs := if 0 < s.cnt then s.rs + 1 else s.rs }
def ph_NewPost (n : Nat) (w : World) (e : Ending) (w' : World) : Prop :=
  ∃ g b, e = .returned (.tuple #[.pointer (some ⟨g, 0, none⟩), .int .i64 0]) ∧ IsPh w' g b { ph := 0, cyc := 0, said := List.replicate n false, cnt := 0, rs := 0 } ∧ Chg [] w w' ∧ w.heap.size ≤ g ∧ w.heap.size ≤ b
theorem ph_new_ok (n : Nat) (w : World) (h1 : 1 ≤ n) (h2 : n ≤ 64) :
    Calls Tryz.prog 57 #[.int .i64 n] w (ph_NewPost n w) := by
  have n1 : ¬ ((n : Int) < 1) := by omega
  have n2 : ¬ (64 < (n : Int)) := by omega
  have hmk := fun W => run_make_z (P := Tryz.prog) 147 4 (.bool false) 1 Tryz.underlying147 (by kernel_rfl) rfl .i64 .i64 n (by omega) (by omega) W
  go_enter Tryz.func57, Tryz.ntmps57
  go_wp2
  go_ret2
  refine ⟨w.heap.size + 1, w.heap.size, rfl, ⟨?_, ?_⟩, ((Chg.refl _ w).alloc _).alloc _, ?_, ?_⟩
  · simpa using Blk.new (w.alloc _) _ _
  · simpa [zcells_list] using (Blk.new w _ _).alloc _
  · simp
  · simp
def cntI (xs : List Int) (i : Int) : Nat := xs.count i
def stC (v : Value) (c : Nat → Nat) : Array Value := #[v, .int .i64 (c 0 : Nat), .int .i64 (c 1 : Nat), .int .i64 (c 2 : Nat), .int .i64 (c 3 : Nat), .int .i64 (c 4 : Nat), .int .i64 (c 5 : Nat)]
structure IsSt (w : World) (g : Nat) (v : Value) (xs : List Int) : Prop where
  b : Blk w g 162 (stC v fun i => cntI xs i)
  o : OwnI 3 w v xs
  r : ∀ x ∈ xs, 1 ≤ x ∧ x ≤ 5
theorem stC_at (v : Value) (c : Nat → Nat) {i : Nat} (hi : i < 6) : (stC v c)[1 + i]? = some (.int .i64 (c i : Nat)) := by
  have : i = 0 ∨ i = 1 ∨ i = 2 ∨ i = 3 ∨ i = 4 ∨ i = 5 := by omega
  rcases this with rfl | rfl | rfl | rfl | rfl | rfl <;> rfl
theorem stC_set (v : Value) (c : Nat → Nat) {i : Nat} (hi : i < 6) (x : Nat) : (stC v c).setIfInBounds (1 + i) (.int .i64 (x : Nat)) = stC v (fun k => if k = i then x else c k) := by
  have : i = 0 ∨ i = 1 ∨ i = 2 ∨ i = 3 ∨ i = 4 ∨ i = 5 := by omega
  rcases this with rfl | rfl | rfl | rfl | rfl | rfl <;> rfl
theorem stC_set0 (v u : Value) (c : Nat → Nat) : (stC v c).setIfInBounds 0 u = stC u c := rfl
theorem cntI_le (xs : List Int) (i : Int) : cntI xs i ≤ xs.length := List.count_le_length
theorem cntI_push (xs : List Int) (x i : Int) : cntI (xs ++ [x]) i = cntI xs i + if x = i then 1 else 0 := by
  unfold cntI
  rw [List.count_append, List.count_singleton]
  by_cases h : x = i
  · subst h; simp
  · simp [h]
theorem st_new (w : World) : Calls Tryz.prog 58 #[] w fun e w' => ∃ g, e = .returned (.pointer (some ⟨g, 0, none⟩)) ∧ w.heap.size ≤ g ∧ IsSt w' g (.slice none 0 0) [] ∧ Chg [] w w' := by
  go_enter Tryz.func58, Tryz.ntmps58
  go_wp2_with fail
  go_ret
  exact ⟨w.heap.size, rfl, Nat.le_refl _, ⟨Blk.new _ _ _, OwnI.nil _ _, by simp⟩, (Chg.refl _ _).alloc _⟩
section
variable (w : World) (g : Nat) (v : Value) (xs : List Int) (I : IsSt w g v xs)
include I
theorem st_len : Calls Tryz.prog 37 #[.pointer (some ⟨g, 0, none⟩)] w (QuPost (.int .i64 (xs.length : Nat)) w) := by
  obtain ⟨A, c, hv⟩ := I.o.slice
  have c0 : w.cell? ⟨g, 0, none⟩ = some v := I.b.cellv 0 rfl
  rw [hv] at c0
  generalize xs.length = n at c0 ⊢
  go_enter Tryz.func37, Tryz.ntmps37
  go_wp2_with fail
  go_ret
  exact ⟨rfl, rfl⟩
theorem st_count (k : Nat) (h1 : 1 ≤ k) (h5 : k ≤ 5) : Calls Tryz.prog 36 #[.pointer (some ⟨g, 0, none⟩), .int .i64 (k : Nat)] w (QuPost (.int .i64 (cntI xs k : Nat)) w) := by
  have c0 := I.b.cellv (1 + k) (stC_at v _ (i := k) (by omega))
  have d1 : decide ((k : Int) ≤ 0) = false := decide_eq_false (by omega)
  have d2 : decide ((k : Int) > 5) = false := decide_eq_false (by omega)
  have e1 : (0 : Int) ≤ k := by omega
  have e2 : (k : Int) < 6 := by omega
  go_enter Tryz.func36, Tryz.ntmps36
  go_wp2_with fail
  go_ret
  exact ⟨rfl, rfl⟩
theorem st_of (k : Nat) (x : Int) (hx : xs[k]? = some x) : Calls Tryz.prog 42 #[.pointer (some ⟨g, 0, none⟩), .int .i64 (k : Nat)] w (QuPost (.int .i64 x) w) := by
  obtain ⟨A, c, hv⟩ := I.o.slice
  have c0 : w.cell? ⟨g, 0, none⟩ = some v := I.b.cellv 0 rfl
  obtain ⟨n, hn⟩ : ∃ n, n = xs.length := ⟨_, rfl⟩
  rw [hv, ← hn] at c0
  have o := I.o
  rw [hv] at o
  obtain ⟨b, hA, hc, -, -⟩ := o.cell hx
  subst hA
  have hk : k < n := by rw [hn]; exact (List.getElem?_eq_some_iff.1 hx).1
  have d1 : decide ((k : Int) < 0) = false := decide_eq_false (by omega)
  have d2 : decide ((k : Int) ≥ (n : Int)) = false := decide_eq_false (by omega)
  have e1 : (0 : Int) ≤ k := by omega
  have e2 : (k : Int) < (n : Int) := by omega
  go_enter Tryz.func42, Tryz.ntmps42
  go_wp2_with fail
  go_ret
  exact ⟨rfl, rfl⟩
end
def StSpPost (g : Nat) (v : Value) (xs : List Int) (w : World) (e : Ending) (w' : World) : Prop := ∃ v', e = .returned (.tuple #[.int .i64 (xs.length : Nat), .int .i64 0]) ∧ IsSt w' g v' (xs ++ [1]) ∧ Stp (g :: fpv v) (g :: fpv v') w w'
theorem slS : SlTy Tryz.prog 37 3 := ⟨Tryz.underlying37, by kernel_rfl⟩
theorem st_spawn (w : World) (g : Nat) (v : Value) (xs : List Int) (I : IsSt w g v xs) (hl : xs.length < 1024) : Calls Tryz.prog 113 #[.pointer (some ⟨g, 0, none⟩)] w (StSpPost g v xs w) := by
  obtain ⟨A, c, hv⟩ := I.o.slice
  have c0 : w.cell? ⟨g, 0, none⟩ = some v := I.b.cellv 0 rfl
  obtain ⟨n, hn⟩ : ∃ n, n = xs.length := ⟨_, rfl⟩
  rw [hv, ← hn] at c0
  have d1 : decide ((n : Int) ≥ 1024) = false := decide_eq_false (by omega)
  have d2 : ¬ ((n : Int) ≥ 1024) := by omega
  have O := I.o
  rw [hv, ← hn] at O
  have HI := Lib.hid (And.intro I (And.intro O (And.intro hn hv))); clear I O hn hv
  have hll : xs.length + 1 ≤ 1000000000000 := by omega
  go_enter Tryz.func113, Tryz.ntmps113
  go_upto_region 5 with fail
  go_wp2_with (at_builtin; refine wpList_push_int rfl _ _ rfl slS rfl HI.out.2.1 rfl hll ?_)
  intro A' c' w5 O5 S5
  have hgv : g ∉ fpv v := fun hm => own_ne HI.out.1.o.o HI.out.1.b (by decide) (mem_fpv.1 hm)
  have S6 : Stp (fpv v) (fpv (.slice A' (xs.length + 1) c')) w w5 := by
    have h5 := S5
    rw [HI.out.2.2.1] at h5
    rw [HI.out.2.2.2]
    exact h5
  have B5 := S6.c.blk HI.out.1.b hgv
  have f5 := B5.frozen 0
  have e5 : w5.cell? ⟨g, 0, none⟩ = some v := B5.cellv 0 rfl
  obtain ⟨m, hvN⟩ : ∃ m, m = xs.length + 1 := ⟨_, rfl⟩
  rw [← hvN] at O5 S6 ⊢
  have HJ := Lib.hid (And.intro O5 (And.intro S6 (And.intro B5 (And.intro hgv hvN)))); clear O5 S6 B5 hgv hvN S5
  go_upto_region 6 with fail
  obtain ⟨w6, hw6⟩ : ∃ w6, w6 = w5.setCell ⟨g, 0, none⟩ (.slice A' m c') := ⟨_, rfl⟩
  rw [← hw6]
  have B6 : Blk w6 g 162 (stC (.slice A' m c') fun i => cntI xs i) := by rw [hw6]; exact HJ.out.2.2.1.setv 0 (.slice A' m c') (stC_set0 _ _ _)
  have C6 : Chg [g] w5 w6 := by rw [hw6]; exact (Chg.refl _ _).setCell (.inl (by simp)) _
  have e6 : w6.cell? ⟨g, 2, none⟩ = some (.int .i64 (cntI xs 1 : Nat)) := B6.cellv 2 rfl
  have f6 := B6.frozen 2
  have HL := Lib.hid (And.intro B6 (And.intro C6 (cntI_le xs 1))); clear B6 C6 hw6
  generalize hk : cntI xs 1 = k at e6
  go_still_tail 8, (by kernel_rfl)
  change wpList _ _ _ _ _ w6.drew
  have f6' : w6.drew.frozen? ⟨g, 2, none⟩ = false := f6
  have e6' : w6.drew.cell? ⟨g, 2, none⟩ = some (.int .i64 (k : Nat)) := e6
  have hk2 : (k : Int) ≤ 1024 := by have := HL.out.2.2; omega
  go_upto_region 7 with fail
  obtain ⟨w7, hw7⟩ : ∃ w7, w7 = (w6.setCell ⟨g, 2, none⟩ (.int .i64 ((k : Int) + 1))).drew := ⟨_, rfl⟩
  rw [← hw7]
  have ek : (k : Int) + 1 = ((k + 1 : Nat) : Int) := by omega
  rw [ek] at hw7
  clear ek
  have B7 : Blk w7 g 162 (stC (.slice A' m c') fun i => cntI (xs ++ [1]) i) := by
    rw [hw7]
    refine Blk.drew (HL.out.1.setv 2 _ ?_)
    rw [← hk, show (2 : Nat) = 1 + 1 from rfl, stC_set _ _ (by decide)]
    congr 1; funext i
    rw [cntI_push]
    by_cases e : i = 1
    · subst e; simp
    · rw [if_neg e, if_neg (by omega)]; rfl
  have C7 : Chg [g] w5 w7 := by rw [hw7]; exact (HL.out.2.1.setCell (.inl (by simp)) _).drew
  have e7 : w7.cell? ⟨g, 0, none⟩ = some (.slice A' m c') := B7.cellv 0 rfl
  have HM := Lib.hid (And.intro B7 C7); clear B7 C7 hw7
  go_wp2_with fail
  have em : wrap64 ((m : Int) - 1) = (xs.length : Int) := by have := HJ.out.2.2.2.2; unfold wrap64; omega
  rw [em]
  go_ret2
  have hg' : g ∉ fpv (.slice A' m c') := fun hm => by
    rcases HJ.out.2.1.f g hm with h | h
    · exact HJ.out.2.2.2.1 h
    · have := HI.out.1.b.lt; omega
  refine ⟨.slice A' m c', rfl, ⟨HM.out.1, HJ.out.1.chg HM.out.2 (fun k hk hm => hg' (by simp at hm; exact hm ▸ hk)), fun x hx => ?_⟩, ⟨(HJ.out.2.1.c.mono (fun k hk => .inl (List.mem_cons_of_mem _ hk))).trans (HM.out.2.mono (by simp)), fun k hk => ?_⟩⟩
  · rcases List.mem_append.1 hx with h | h
    · exact HI.out.1.r x h
    · simp at h; omega
  · rcases List.mem_cons.1 hk with rfl | h
    · exact .inl (by simp)
    · rcases HJ.out.2.1.f k h with h | h
      · exact .inl (List.mem_cons_of_mem _ h)
      · exact .inr h
def NbPost (t : TypeId) (cs : Array Value) (w : World) (e : Ending) (w' : World) : Prop := ∃ g, e = .returned (.pointer (some ⟨g, 0, none⟩)) ∧ w.heap.size ≤ g ∧ Blk w' g t cs ∧ Chg [] w w'
theorem q_new (w : World) : Calls Tryz.prog 110 #[] w (NbPost 267 #[.slice none 0 0] w) := by
  go_enter Tryz.func110, Tryz.ntmps110
  go_wp2_with fail
  go_ret
  exact ⟨w.heap.size, rfl, Nat.le_refl _, Blk.new _ _ _, (Chg.refl _ _).alloc _⟩
theorem tm_new (w : World) : Calls Tryz.prog 59 #[] w (NbPost 166 #[.slice none 0 0, .int .i64 0] w) := by
  go_enter Tryz.func59, Tryz.ntmps59
  go_wp2_with fail
  go_ret
  exact ⟨w.heap.size, rfl, Nat.le_refl _, Blk.new _ _ _, (Chg.refl _ _).alloc _⟩
def wtC (v : Nat → Value) : Array Value := ((List.range 32).map v).toArray
theorem wt_new (w : World) : Calls Tryz.prog 60 #[] w (NbPost 223 (wtC fun _ => .slice none 0 0) w) := by
  go_enter Tryz.func60, Tryz.ntmps60
  go_wp2_with fail
  go_ret
  exact ⟨w.heap.size, rfl, Nat.le_refl _, Blk.new _ _ _, (Chg.refl _ _).alloc _⟩
def brC : Array Value := ((List.range 33).map fun _ => Value.int .i64 0).toArray
theorem br_new (w : World) : Calls Tryz.prog 61 #[] w (NbPost 205 brC w) := by
  go_enter Tryz.func61, Tryz.ntmps61
  go_wp2_with fail
  go_ret
  exact ⟨w.heap.size, rfl, Nat.le_refl _, Blk.new _ _ _, (Chg.refl _ _).alloc _⟩
section
variable (w : World) (g : Nat)
theorem q_len0 (B : Blk w g 267 #[.slice none 0 0]) : Calls Tryz.prog 209 #[.pointer (some ⟨g, 0, none⟩)] w (QuPost (.int .i64 0) w) := by
  have c0 := B.cellv 0 rfl
  go_enter Tryz.func209, Tryz.ntmps209
  go_wp2_with fail
  go_ret
  exact ⟨rfl, rfl⟩
theorem q_put0 (B : Blk w g 267 #[.slice none 0 0]) : Calls Tryz.prog 127 #[.pointer (some ⟨g, 0, none⟩), .slice none 0 0] w fun e w' => e = .returned (.tuple #[]) ∧ Blk w' g 267 #[.slice none 0 0] ∧ Chg [g] w w' := by
  have c0 := B.cellv 0 rfl
  have f0 := B.frozen 0
  have HB := Lib.hid B; clear B
  go_enter Tryz.func127, Tryz.ntmps127
  go_wp2_with fail
  go_end0
  exact ⟨rfl, HB.out.setv 0 _ rfl, (Chg.refl _ _).setCell (.inl (by simp)) _⟩
theorem lclone_nil (w : World) : Calls Tryz.prog 41 #[.slice none 0 0] w (NwPost (.slice none 0 0) w) := by
  have hnil : ∀ w : World, (binOp BinOp.eql 37 (.slice none 0 0) (.slice none 0 0)).run Tryz.prog w = .ok (.bool true) w := fun _ => by kernel_rfl
  go_enter Tryz.func41, Tryz.ntmps41
  go_wp2_with fail
  go_ret
  exact ⟨rfl, Chg.refl _ _⟩
theorem q_all0 (B : Blk w g 267 #[.slice none 0 0]) : Calls Tryz.prog 94 #[.pointer (some ⟨g, 0, none⟩)] w (NwPost (.slice none 0 0) w) := by
  have c0 := B.cellv 0 rfl
  go_enter Tryz.func94, Tryz.ntmps94
  go_wp2_with fail
  refine (lclone_nil w).mono ?_
  rintro e w1 ⟨rfl, c1⟩
  go_wp2_with fail
  go_ret
  exact ⟨rfl, c1⟩
theorem tm_len0 (B : Blk w g 166 #[.slice none 0 0, .int .i64 0]) : Calls Tryz.prog 38 #[.pointer (some ⟨g, 0, none⟩)] w (QuPost (.int .i64 0) w) := by
  have c0 := B.cellv 0 rfl
  go_enter Tryz.func38, Tryz.ntmps38
  go_wp2_with fail
  go_ret
  exact ⟨rfl, rfl⟩
theorem tm_due0 (B : Blk w g 166 #[.slice none 0 0, .int .i64 0]) (now : Int) : Calls Tryz.prog 81 #[.pointer (some ⟨g, 0, none⟩), .int .i64 now] w (QuPost (.slice none 0 0) w) := by
  go_enter Tryz.func81, Tryz.ntmps81
  have HB := Lib.hid B; clear B
  go_wp2_with fail
  go_loopg [5] 1 (fun gk idx wr => gk = 1 ∧ idx = .slice none 0 0 ∧ wr = w)
  case atStart => exact ⟨rfl, rfl, rfl⟩
  case round =>
    obtain ⟨rfl, rfl, rfl⟩ := hrel
    go_wp2_with fail
    refine (tm_len0 _ g HB.out).mono ?_
    rintro e w1 ⟨rfl, rfl⟩
    go_wp2_with fail
    go_ret
    exact ⟨rfl, rfl⟩
end
structure RgR where
  l : Nat → Int
  fr : Nat
  n : Nat
  nx : Int
  hs : Bool
def rgC (r : RgR) : Array Value := (((List.range 256).map fun i => Value.int .i64 (r.l i)) ++ ([.int .i64 (r.fr : Nat), .int .i64 (r.n : Nat), .int .i64 r.nx, .bool r.hs] : List Value)).toArray
theorem rgC_at (r : RgR) {i : Nat} (hi : i < 256) : (rgC r)[i]? = some (.int .i64 (r.l i)) := by
  unfold rgC
  rw [List.getElem?_toArray, List.getElem?_append_left (by simpa using hi), List.getElem?_map, List.getElem?_range hi]; rfl
theorem rgC_hi (r : RgR) (i : Nat) : (rgC r)[256 + i]? = [Value.int .i64 (r.fr : Nat), .int .i64 (r.n : Nat), .int .i64 r.nx, .bool r.hs][i]? := by
  unfold rgC
  rw [List.getElem?_toArray, List.getElem?_append_right (by simp)]; simp
theorem rgC_fr (r : RgR) : (rgC r)[256]? = some (.int .i64 (r.fr : Nat)) := rgC_hi r 0
theorem rgC_n (r : RgR) : (rgC r)[257]? = some (.int .i64 (r.n : Nat)) := rgC_hi r 1
theorem rgC_nx (r : RgR) : (rgC r)[258]? = some (.int .i64 r.nx) := rgC_hi r 2
theorem rgC_hs (r : RgR) : (rgC r)[259]? = some (.bool r.hs) := rgC_hi r 3
theorem rgC_size (r : RgR) : (rgC r).size = 260 := by unfold rgC; simp
theorem rgC_ext {a : Array Value} (r : RgR) (hs : a.size = 260) (hl : ∀ i, i < 256 → a[i]? = some (.int .i64 (r.l i))) (h0 : a[256]? = some (.int .i64 (r.fr : Nat))) (h1 : a[257]? = some (.int .i64 (r.n : Nat))) (h2 : a[258]? = some (.int .i64 r.nx)) (h3 : a[259]? = some (.bool r.hs)) : a = rgC r := by
  apply Array.ext_getElem?
  intro i
  by_cases hi : i < 256
  · rw [hl i hi, rgC_at r hi]
  · have : i = 256 ∨ i = 257 ∨ i = 258 ∨ i = 259 ∨ 260 ≤ i := by omega
    rcases this with rfl | rfl | rfl | rfl | h
    · rw [h0, rgC_fr]
    · rw [h1, rgC_n]
    · rw [h2, rgC_nx]
    · rw [h3, rgC_hs]
    · rw [Array.getElem?_eq_none (by omega), Array.getElem?_eq_none (by rw [rgC_size]; omega)]
section
variable (r : RgR)
theorem rgC_setl {i : Nat} (hi : i < 256) (x : Int) : (rgC r).setIfInBounds i (.int .i64 x) = rgC { r with l := fun k => if k = i then x else r.l k } := by
  refine rgC_ext _ (by simp [rgC_size]) (fun k hk => ?_) ?_ ?_ ?_ ?_
  · rw [Array.getElem?_setIfInBounds]
    by_cases e : i = k
    · subst e; rw [if_pos rfl, if_pos (by rw [rgC_size]; omega)]; simp
    · rw [if_neg e, rgC_at r hk]; simp [show ¬ k = i from fun h => e h.symm]
  · rw [Array.getElem?_setIfInBounds_ne (by omega), rgC_fr]
  · rw [Array.getElem?_setIfInBounds_ne (by omega), rgC_n]
  · rw [Array.getElem?_setIfInBounds_ne (by omega), rgC_nx]
  · rw [Array.getElem?_setIfInBounds_ne (by omega), rgC_hs]
theorem rgC_setfr (x : Nat) : (rgC r).setIfInBounds 256 (.int .i64 (x : Nat)) = rgC { r with fr := x } := by
  refine rgC_ext _ (by simp [rgC_size]) (fun k hk => ?_) ?_ ?_ ?_ ?_
  · rw [Array.getElem?_setIfInBounds_ne (by omega), rgC_at r hk]
  · rw [Array.getElem?_setIfInBounds, if_pos rfl, if_pos (by rw [rgC_size]; omega)]
  · rw [Array.getElem?_setIfInBounds_ne (by omega), rgC_n]
  · rw [Array.getElem?_setIfInBounds_ne (by omega), rgC_nx]
  · rw [Array.getElem?_setIfInBounds_ne (by omega), rgC_hs]
theorem rgC_setn (x : Nat) : (rgC r).setIfInBounds 257 (.int .i64 (x : Nat)) = rgC { r with n := x } := by
  refine rgC_ext _ (by simp [rgC_size]) (fun k hk => ?_) ?_ ?_ ?_ ?_
  · rw [Array.getElem?_setIfInBounds_ne (by omega), rgC_at r hk]
  · rw [Array.getElem?_setIfInBounds_ne (by omega), rgC_fr]
  · rw [Array.getElem?_setIfInBounds, if_pos rfl, if_pos (by rw [rgC_size]; omega)]
  · rw [Array.getElem?_setIfInBounds_ne (by omega), rgC_nx]
  · rw [Array.getElem?_setIfInBounds_ne (by omega), rgC_hs]
end
def rg0 : RgR := ⟨fun _ => 0, 0, 0, 0, false⟩
def RgR.xs (r : RgR) : List Int := (if r.hs then [r.nx] else []) ++ (List.range r.n).map fun i => r.l ((r.fr + i) % 256)
end Go.Proofs.YtcpljjacamibeaaGreatDoor
