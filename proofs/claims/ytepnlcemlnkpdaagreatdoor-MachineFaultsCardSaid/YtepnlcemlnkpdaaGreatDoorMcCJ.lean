/- Scripts as data: instructions, what may stand in their parts, their bytes. No program in sight. -/
/- Scripts as data: how bytes are read, where they are wrong; a program's bytes read as the program. No program in sight. -/
/- A map from integers to any values that the call owns, told by a function. Plain theorems on worlds; no program in sight. -/
/- The walks of package class. -/
/- The walks of package class: Pages, Slots, Of. -/
/- The walks of the document's Sizes, Size, Of (layer 4). -/
/- Package code: what may stand in a part; the reader's next byte. -/
/- Package state: what goroutines do. -/
import Derived.Test.YtepnlcemlnkpdaaGreatDoorMOw
import Derived.Test.YtepnlcemlnkpdaaGreatDoorMemJ
import Derived.Maps.OwnOps
import Derived.Maps.OwnSet
import Derived.BigQuiet
import Derived.Deep.LoopGhost
import Derived.Deep.DeepCutAuto
import Derived.Deep.RegionLaw
import Derived.IntWalk
import Derived.Deep.WholeRow
namespace Go.Proofs.YtepnlcemlnkpdaaGreatDoor
set_option maxHeartbeats 16000000
set_option maxRecDepth 100000
open Go.RowKit
structure Ins where
  o : Nat
  a : Nat
  b : Nat
  c : Nat
def ptab : List (List Int) :=
  [[0, 0, 0], [2, 1, 0], [2, 2, 1], [2, 1, 2], [2, 2, 0], [2, 0, 0], [2, 3, 0], [3, 2, 0], [4, 2, 0], [0, 0, 0], [0, 1, 1], [6, 0, 0], [6, 0, 0], [2, 2, 0], [5, 0, 0], [2, 2, 5], [1, 1, 0], [5, 0, 0]]
def mostP (G F S : Nat) (part : Int) : Nat :=
  if part = 0 then 1 else if part = 1 then 256 else if part = 2 then 16 else if part = 3 then G else if part = 4 then F else if part = 5 then S else if part = 6 then 32 else 0
def fitsP (G F S : Nat) (part v : Int) : Bool := decide (0 ≤ v ∧ v < mostP G F S part)
def wrongP (G F S : Nat) (o a b c : Nat) : Int :=
  if 17 < o then 0 else
  match ptab[o]? with
  | some [x, y, z] => if fitsP G F S x a then if fitsP G F S y b then if fitsP G F S z c then -1 else 3 else 2 else 1
  | _ => -1
theorem ptab_at {o : Nat} (h : o ≤ 17) : ∃ x y z, ptab[o]? = some [x, y, z] ∧ 0 ≤ x ∧ x ≤ 6 ∧ 0 ≤ y ∧ y ≤ 6 ∧ 0 ≤ z ∧ z ≤ 6 := by
  have hh : o = 0 ∨ o = 1 ∨ o = 2 ∨ o = 3 ∨ o = 4 ∨ o = 5 ∨ o = 6 ∨ o = 7 ∨ o = 8 ∨ o = 9 ∨ o = 10 ∨ o = 11 ∨ o = 12 ∨ o = 13 ∨ o = 14 ∨ o = 15 ∨ o = 16 ∨ o = 17 := by omega
  rcases hh with rfl | rfl | rfl | rfl | rfl | rfl | rfl | rfl | rfl | rfl | rfl | rfl | rfl | rfl | rfl | rfl | rfl | rfl <;> exact ⟨_, _, _, rfl, by decide⟩
section
variable {G F S o a b c : Nat}
theorem wrongP_form (ho : o ≤ 17) : ∃ x y z, ptab[o]? = some [x, y, z] ∧ wrongP G F S o a b c = if fitsP G F S x a then if fitsP G F S y b then if fitsP G F S z c then -1 else 3 else 2 else 1 := by
  obtain ⟨x, y, z, h, -⟩ := ptab_at ho
  refine ⟨x, y, z, h, ?_⟩
  unfold wrongP
  rw [if_neg (by omega), h]
theorem wrongP_op (h : wrongP G F S o a b c = -1) : o ≤ 17 := by
  unfold wrongP at h
  by_cases h1 : 17 < o
  · rw [if_pos h1] at h; cases h
  · omega
theorem wrongP_parts (h : wrongP G F S o a b c = -1) : (wrongP G F S o 0 0 0 ≥ 0 → 0 < wrongP G F S o 0 0 0) ∧ (wrongP G F S o a 0 0 ≥ 0 → 1 < wrongP G F S o a 0 0) ∧ (wrongP G F S o a b 0 ≥ 0 → 2 < wrongP G F S o a b 0) := by
  have ho := wrongP_op h
  obtain ⟨x, y, z, h1, h2⟩ := wrongP_form (G := G) (F := F) (S := S) (a := a) (b := b) (c := c) ho
  obtain ⟨x1, y1, z1, h3, h4⟩ := wrongP_form (G := G) (F := F) (S := S) (a := 0) (b := 0) (c := 0) ho
  obtain ⟨x2, y2, z2, h5, h6⟩ := wrongP_form (G := G) (F := F) (S := S) (a := a) (b := 0) (c := 0) ho
  obtain ⟨x3, y3, z3, h7, h8⟩ := wrongP_form (G := G) (F := F) (S := S) (a := a) (b := b) (c := 0) ho
  rw [h1] at h3 h5 h7
  injection h3 with h3; injection h3 with e1 h3; injection h3 with e2 h3; injection h3 with e3 _
  injection h5 with h5; injection h5 with e4 h5; injection h5 with e5 h5; injection h5 with e6 _
  injection h7 with h7; injection h7 with e7 h7; injection h7 with e8 h7; injection h7 with e9 _
  subst e1 e2 e3 e4 e5 e6 e7 e8 e9
  rw [h2] at h
  rw [h4, h6, h8]
  have f1 : fitsP G F S x a = true := by
    cases q : fitsP G F S x a
    · rw [q] at h; simp at h
    · rfl
  have f2 : fitsP G F S y b = true := by
    cases q : fitsP G F S y b
    · rw [f1, q] at h; simp at h
    · rfl
  rw [f1, f2]
  refine ⟨fun h0 => ?_, fun h0 => ?_, fun h0 => ?_⟩
  · by_cases q1 : fitsP G F S x ((0 : Nat) : Int) = true <;> by_cases q2 : fitsP G F S y ((0 : Nat) : Int) = true <;> by_cases q3 : fitsP G F S z ((0 : Nat) : Int) = true <;>
      simp only [q1, q2, q3, if_true, if_false, Bool.false_eq_true] at h0 ⊢ <;> omega
  · by_cases q2 : fitsP G F S y ((0 : Nat) : Int) = true <;> by_cases q3 : fitsP G F S z ((0 : Nat) : Int) = true <;>
      simp only [q2, q3, if_true, if_false, Bool.false_eq_true] at h0 ⊢ <;> omega
  · by_cases q3 : fitsP G F S z ((0 : Nat) : Int) = true <;>
      simp only [q3, if_true, if_false, Bool.false_eq_true] at h0 ⊢ <;> omega
end
def okIns (G F S : Nat) (i : Ins) : Prop := wrongP G F S i.o i.a i.b i.c = -1 ∧ i.o < 256 ∧ i.a < 256 ∧ i.b < 256 ∧ i.c < 256
structure OkP (G : Nat) (fs : List (List Ins)) : Prop where
  g : G ≤ 32
  f0 : 1 ≤ fs.length
  f1 : fs.length ≤ 16
  s : ∀ l ∈ fs, 1 ≤ l.length ∧ l.length ≤ 64 ∧ ∀ i ∈ l, okIns G fs.length l.length i
def encI (i : Ins) : List Nat := [i.o, i.a, i.b, i.c]
def encF (l : List Ins) : List Nat := l.length :: l.flatMap encI
def encP (G : Nat) (fs : List (List Ins)) : List Nat := fs.length :: G :: fs.flatMap encF
def rdN (bs : List Nat) (at_ lo hi : Nat) : Except Nat Nat :=
  if bs.length ≤ at_ then .error bs.length else if bs.getD at_ 0 < lo ∨ hi < bs.getD at_ 0 then .error at_ else .ok (bs.getD at_ 0)
def insL (v : List Nat) : Ins := ⟨v.getD 0 0, v.getD 1 0, v.getD 2 0, v.getD 3 0⟩
def wrI (G F S : Nat) (i : Ins) : Int := wrongP G F S i.o i.a i.b i.c
def insGo (G F S : Nat) (bs : List Nat) (a0 : Nat) : Nat → List Nat → Except Nat Ins
  | 0, v => .ok (insL v)
  | n + 1, v => if bs.length ≤ a0 + v.length then .error bs.length else
    if 0 ≤ wrI G F S (insL (v ++ [bs.getD (a0 + v.length) 0])) ∧ wrI G F S (insL (v ++ [bs.getD (a0 + v.length) 0])) ≤ (v.length : Int) then .error (a0 + (wrI G F S (insL (v ++ [bs.getD (a0 + v.length) 0]))).toNat)
    else insGo G F S bs a0 n (v ++ [bs.getD (a0 + v.length) 0])
def codGo (G F S : Nat) (bs : List Nat) : Nat → Nat → List Ins → Except Nat (List Ins × Nat)
  | 0, a, l => .ok (l, a)
  | n + 1, a, l => match insGo G F S bs a 4 [] with
    | .error k => .error k
    | .ok i => codGo G F S bs n (a + 4) (l ++ [i])
def funGo (G F : Nat) (bs : List Nat) : Nat → Nat → List (List Ins) → Except Nat (List (List Ins) × Nat)
  | 0, a, l => .ok (l, a)
  | n + 1, a, l => match rdN bs a 1 64 with
    | .error k => .error k
    | .ok S => match codGo G F S bs S (a + 1) [] with
      | .error k => .error k
      | .ok (f, a') => funGo G F bs n a' (l ++ [f])
def decP (bs : List Nat) : Except Nat (Nat × List (List Ins)) :=
  match rdN bs 0 1 16 with
  | .error k => .error k
  | .ok F => match rdN bs 1 0 32 with
    | .error k => .error k
    | .ok G => match funGo G F bs F 2 [] with
      | .error k => .error k
      | .ok (fs, a) => if a < bs.length then .error a else .ok (G, fs)
section
variable {G F S : Nat}
theorem rdN_ok {bs : List Nat} {a lo hi v : Nat} (h : bs[a]? = some v) (h1 : lo ≤ v) (h2 : v ≤ hi) : rdN bs a lo hi = .ok v := by
  have hl := (List.getElem?_eq_some_iff.1 h).1
  have e : bs.getD a 0 = v := by rw [List.getD_eq_getElem?_getD, h]; rfl
  unfold rdN
  rw [if_neg (by omega), e, if_neg (by omega)]
theorem insGo_ok {i : Ins} (h : okIns G F S i) (bs : List Nat) (a : Nat) (hb : ∀ j v, (encI i)[j]? = some v → bs[a + j]? = some v) : insGo G F S bs a 4 [] = .ok i := by
  obtain ⟨hw, -⟩ := h
  obtain ⟨w1, w2, w3⟩ := wrongP_parts hw
  have g : ∀ j v, (encI i)[j]? = some v → bs.getD (a + j) 0 = v ∧ ¬ bs.length ≤ a + j := fun j v hv => by
    have := hb j v hv
    refine ⟨by rw [List.getD_eq_getElem?_getD, this]; rfl, ?_⟩
    have := (List.getElem?_eq_some_iff.1 this).1
    omega
  obtain ⟨g0, l0⟩ := g 0 i.o rfl
  obtain ⟨g1, l1⟩ := g 1 i.a rfl
  obtain ⟨g2, l2⟩ := g 2 i.b rfl
  obtain ⟨g3, l3⟩ := g 3 i.c rfl
  have e0 : insL [i.o] = ⟨i.o, 0, 0, 0⟩ := rfl
  have e1 : insL [i.o, i.a] = ⟨i.o, i.a, 0, 0⟩ := rfl
  have e2 : insL [i.o, i.a, i.b] = ⟨i.o, i.a, i.b, 0⟩ := rfl
  have e3 : insL [i.o, i.a, i.b, i.c] = i := rfl
  have n0 : ¬ (0 ≤ wrI G F S ⟨i.o, 0, 0, 0⟩ ∧ wrI G F S ⟨i.o, 0, 0, 0⟩ ≤ ((0 : Nat) : Int)) := fun ⟨h0, h1⟩ => by have := w1 h0; unfold wrI at h1; simp only at h1; omega
  have n1 : ¬ (0 ≤ wrI G F S ⟨i.o, i.a, 0, 0⟩ ∧ wrI G F S ⟨i.o, i.a, 0, 0⟩ ≤ ((1 : Nat) : Int)) := fun ⟨h0, h1⟩ => by have := w2 h0; unfold wrI at h1; simp only at h1; omega
  have n2 : ¬ (0 ≤ wrI G F S ⟨i.o, i.a, i.b, 0⟩ ∧ wrI G F S ⟨i.o, i.a, i.b, 0⟩ ≤ ((2 : Nat) : Int)) := fun ⟨h0, h1⟩ => by have := w3 h0; unfold wrI at h1; simp only at h1; omega
  have n3 : ¬ (0 ≤ wrI G F S i ∧ wrI G F S i ≤ ((3 : Nat) : Int)) := fun ⟨h0, h1⟩ => by unfold wrI at h0; omega
  rw [insGo, if_neg (by simpa using l0)]
  simp only [List.nil_append, List.length_nil, g0, e0]
  rw [if_neg n0, insGo, if_neg (by simpa using l1)]
  simp only [List.cons_append, List.nil_append, List.length_cons, List.length_nil, g1, e1]
  rw [if_neg n1, insGo, if_neg (by simpa using l2)]
  simp only [List.cons_append, List.nil_append, List.length_cons, List.length_nil, g2, e2]
  rw [if_neg n2, insGo, if_neg (by simpa using l3)]
  simp only [List.cons_append, List.nil_append, List.length_cons, List.length_nil, g3, e3]
  rw [if_neg n3, insGo, e3]
theorem codGo_ok (bs : List Nat) : ∀ (l : List Ins) (a : Nat) (l0 : List Ins), (∀ i ∈ l, okIns G F S i) → (∀ j v, (l.flatMap encI)[j]? = some v → bs[a + j]? = some v) → codGo G F S bs l.length a l0 = .ok (l0 ++ l, a + 4 * l.length)
  | [], a, l0, _, _ => by simp [codGo]
  | i :: l, a, l0, h, hb => by
    rw [List.length_cons, codGo, insGo_ok (h i (by simp)) bs a (fun j v hv => hb j v (by
      rw [List.flatMap_cons, List.getElem?_append_left (List.getElem?_eq_some_iff.1 hv).1]; exact hv))]
    show codGo G F S bs l.length (a + 4) (l0 ++ [i]) = _
    rw [codGo_ok bs l (a + 4) (l0 ++ [i]) (fun x hx => h x (by simp [hx])) (fun j v hv => by
      have := hb (4 + j) v (by
        rw [List.flatMap_cons, List.getElem?_append_right (by show (encI i).length ≤ _; simp [encI])]
        rw [show 4 + j - (encI i).length = j by simp [encI]]; exact hv)
      rwa [show a + 4 + j = a + (4 + j) by omega])]
    congr 2
    · simp
    · omega
theorem encF_len (l : List Ins) : (encF l).length = 1 + 4 * l.length := by
  unfold encF
  rw [List.length_cons]
  have : (l.flatMap encI).length = 4 * l.length := by
    induction l with
    | nil => rfl
    | cons i l ih => rw [List.flatMap_cons, List.length_append, ih]; simp [encI]; omega
  omega
theorem funGo_ok (bs : List Nat) : ∀ (fs : List (List Ins)) (a : Nat) (l0 : List (List Ins)), (∀ l ∈ fs, 1 ≤ l.length ∧ l.length ≤ 64 ∧ ∀ i ∈ l, okIns G F l.length i) → (∀ j v, (fs.flatMap encF)[j]? = some v → bs[a + j]? = some v) → funGo G F bs fs.length a l0 = .ok (l0 ++ fs, a + (fs.flatMap encF).length)
  | [], a, l0, _, _ => by simp [funGo]
  | l :: fs, a, l0, h, hb => by
    obtain ⟨h1, h2, h3⟩ := h l (by simp)
    have hb1 : ∀ j v, (encF l)[j]? = some v → bs[a + j]? = some v := fun j v hv => hb j v (by
      rw [List.flatMap_cons, List.getElem?_append_left (List.getElem?_eq_some_iff.1 hv).1]; exact hv)
    have r1 : rdN bs a 1 64 = .ok l.length := rdN_ok (by have := hb1 0 l.length rfl; rwa [Nat.add_zero] at this) h1 h2
    have r2 := codGo_ok (G := G) (F := F) (S := l.length) bs l (a + 1) [] h3 (fun j v hv => by
      have := hb1 (1 + j) v (by unfold encF; rw [Nat.add_comm 1 j, List.getElem?_cons_succ]; exact hv)
      rwa [show a + 1 + j = a + (1 + j) by omega])
    rw [List.length_cons, funGo]
    simp only [r1, r2]
    have hl := encF_len l
    rw [funGo_ok bs fs (a + 1 + 4 * l.length) _ (fun x hx => h x (by simp [hx])) (fun j v hv => by
      have := hb ((encF l).length + j) v (by
        rw [List.flatMap_cons, List.getElem?_append_right (by omega), Nat.add_sub_cancel_left]; exact hv)
      rwa [show a + 1 + 4 * l.length + j = a + ((encF l).length + j) by omega])]
    congr 2
    · simp
    · rw [List.flatMap_cons, List.length_append]; omega
theorem decP_enc {fs : List (List Ins)} (h : OkP G fs) : decP (encP G fs) = .ok (G, fs) := by
  have r1 : rdN (encP G fs) 0 1 16 = .ok fs.length := rdN_ok rfl h.f0 h.f1
  have r2 : rdN (encP G fs) 1 0 32 = .ok G := rdN_ok rfl (Nat.zero_le _) h.g
  have r3 := funGo_ok (G := G) (F := fs.length) (encP G fs) fs 2 [] h.s (fun j v hv => by
    unfold encP
    rw [show 2 + j = j + 1 + 1 by omega, List.getElem?_cons_succ, List.getElem?_cons_succ]; exact hv)
  unfold decP
  simp only [r1, r2, r3]
  rw [if_neg (by unfold encP; simp only [List.length_cons]; omega), List.nil_append]
end
open Go.RowKit Go.Maps
def heldE (v : Value) : Option (DataW Value × List MemPlace) := some (.held v, [])
structure VMap (P : Program) (K : TypeId) (w : World) (b n : Nat) (f : Int → Option Value) : Prop where
  ex : ∃ D : DataW Value, w.ownsMap P K heldE b n D ∧ IsMap D ∧ ∀ x, has D (.int .i64 x) = (f x).isSome ∧ ∀ v, f x = some v → ∀ zd, D.atKey (.int .i64 x) zd = .held v
structure VTy (P : Program) (T K E : TypeId) (z : Value) : Prop where
  m : P.underlying T = some (.map K E)
  i : P.underlying K = some (.int .i64)
  z : ∀ w, (zeroValue E).run P w = .ok z w
def putV (f : Int → Option Value) (x : Int) (v : Value) : Int → Option Value := fun y => if y = x then some v else f y
def delV (f : Int → Option Value) (x : Int) : Int → Option Value := fun y => if y = x then none else f y
def Wf64 (x : Int) : Prop := -9223372036854775808 ≤ x ∧ x ≤ 9223372036854775807
theorem Wf64.wf {x : Int} (h : Wf64 x) : (Lit.int .i64 x).wf = true := by
  have e1 : IntKind.i64.min = -9223372036854775808 := by decide
  have e2 : IntKind.i64.max = 9223372036854775807 := by decide
  simp only [Lit.wf, e1, e2, Bool.and_eq_true, decide_eq_true_eq]; exact h
section
variable {P : Program} {T K E : TypeId} {z : Value} {w w' : World} {b n : Nat} {f : Int → Option Value}
theorem VMap.made (w : World) (P : Program) (K : TypeId) : VMap P K (w.alloc (.map #[] 0)) w.heap.size 0 (fun _ => none) :=
  ⟨.map [], World.ownsMap_made _ _ _ _, isMap_empty, fun x => ⟨rfl, fun v h => by cases h⟩⟩
theorem VMap.lt (h : VMap P K w b n f) : b < w.heap.size := let ⟨_, h1, _⟩ := h.ex; h1.lt
theorem VMap.block (h : VMap P K w b n f) (hb : w'.heap[b]? = w.heap[b]?) : VMap P K w' b n f := by
  obtain ⟨D, ⟨es, cl, h1, h2⟩, r⟩ := h.ex
  exact ⟨D, ⟨es, cl, hb.trans h1, h2⟩, r⟩
theorem VMap.chg {S : List Nat} (h : VMap P K w b n f) (c : Chg S w w') (hn : b ∉ S) : VMap P K w' b n f := h.block (c.block b h.lt hn)
theorem VMap.look (h : VMap P K w b n f) (t : VTy P T K E z) {x : Int} (hx : Wf64 x) : (Instr.lookup T (.map (some b)) (.int .i64 x) false).run P w = .ok ((f x).getD z) w := by
  obtain ⟨D, ho, hm, hf⟩ := h.ex
  obtain ⟨c, ps, hrun, hat⟩ := ho.lookup (int_keyed t.i) t.m (t.z w) (zd := .held z) (zp := []) rfl (keyOf_int_mk t.i hx.wf)
  rw [hrun]
  obtain ⟨h1, h2⟩ := hf x
  have hc : DataW.held c = D.atKey (.int .i64 x) (.held z) := by simpa [heldE] using congrArg (Option.map Prod.fst) hat
  cases e : f x with
  | none =>
    rw [e] at h1
    rw [atKey_of_not_has h1] at hc
    injection hc with hc
    rw [hc]; rfl
  | some v =>
    rw [h2 v e] at hc
    injection hc with hc
    rw [hc]; rfl
theorem Chg.turned (h : w.mapTurned w' b) : Chg [b] w w' := (Chg.refl _ w).grown h.grown (fun k hk => by injection hk with hk; exact .inl (by simp [hk]))
theorem VMap.put (h : VMap P K w b n f) (t : VTy P T K E z) {x : Int} (hx : Wf64 x) (v : Value) (hn : n < maxLen) :
    ∃ w', (Instr.mapUpdate T (.map (some b)) (.int .i64 x) v).run P w = .ok () w' ∧ VMap P K w' b (n + 1) (putV f x v) ∧ Chg [b] w w' ∧ w'.heap.size = w.heap.size := by
  obtain ⟨D, ho, hm, hf⟩ := h.ex
  obtain ⟨w', hrun, r1, r2⟩ := ho.store (int_keyed t.i) t.m hn (keyOf_int_mk t.i hx.wf) (val := v) (d := .held v) (ps := []) rfl
  refine ⟨w', hrun, ⟨_, r1, hm.put _ _, fun y => ?_⟩, Chg.turned r2, ?_⟩
  · unfold putV
    by_cases e : y = x
    · subst e
      rw [if_pos rfl]
      exact ⟨has_put_same hm (show WideAt.IsKeyLit (Lit.int .i64 y) from trivial) _, fun u hu zd => by injection hu with hu; subst hu; exact atKey_put_same hm (show WideAt.IsKeyLit (Lit.int .i64 y) from trivial) _ _⟩
    · rw [if_neg e]
      have hne : (Lit.int .i64 y) ≠ (Lit.int .i64 x) := by simpa using e
      exact ⟨(has_put_other hne _).trans (hf y).1, fun u hu zd => (atKey_put_other hne _ _).trans ((hf y).2 u hu zd)⟩
  · obtain ⟨es, cl, es', cl', hb, rfl⟩ := r2
    exact Array.size_setIfInBounds
end
section
variable {P : Program} {T K E : TypeId} {z : Value} {w : World} {b n : Nat} {f : Int → Option Value}
  {ops : Array Oper} {rest : List Oper} {o : Oper} {a : Act} {Q : Exit → Act → World → Prop}
theorem wpList_vmap_look (hg : o.guard = none) (m x : Operand) (hop : o.op = Op.lookup T m x false) (h : VMap P K w b n f) (t : VTy P T K E z) (hm : a.eval m = .map (some b)) {k : Int} (hx : a.eval x = .int .i64 k) (hk : Wf64 k)
    (hK : wpList P ops Q rest (a.put o.dst ((f k).getD z)) w) : wpList P ops Q (o :: rest) a w := by
  refine wpList_plain hg fun K' hK' => ?_
  unfold Oper.wp
  simp [execOp, hop, hm, hx, h.look t hk, Result.andThen]
  exact hK' _ _ hK
theorem wpList_vmap_insert (hg : o.guard = none) (m x v : Operand) (hop : o.op = Op.insert T m x v) (h : VMap P K w b n f) (t : VTy P T K E z) (hm : a.eval m = .map (some b)) {k : Int} {u : Value} (hx : a.eval x = .int .i64 k) (hk : Wf64 k) (hv : a.eval v = u) (hn : n < maxLen)
    (hK : ∀ w', VMap P K w' b (n + 1) (putV f k u) → Chg [b] w w' → w'.heap.size = w.heap.size → wpList P ops Q rest (a.put o.dst undef) w') : wpList P ops Q (o :: rest) a w := by
  refine wpList_plain hg fun K' hK' => ?_
  obtain ⟨w', hrun, r1, r2, r3⟩ := h.put t hk u hn
  unfold Oper.wp
  simp [execOp, hop, hm, hx, hv, hrun, Result.andThen]
  exact hK' _ _ (hK w' r1 r2 r3)
end
def szL : List Nat := [1, 2, 3, 4, 6, 8, 12, 16, 24, 32, 48, 64, 96, 128, 192, 256]
def pgL : List Nat := [1, 1, 1, 1, 1, 1, 1, 1, 2, 1, 3, 1, 3, 2, 3, 4]
def slL : List Nat := [64, 32, 21, 16, 10, 8, 5, 4, 5, 2, 4, 1, 2, 1, 1, 1]
def szK (k : Nat) : Nat := szL.getD k 0
def pgK (k : Nat) : Nat := pgL.getD k 0
def slK (k : Nat) : Nat := slL.getD k 0
def isK (k : Int) : Prop := 0 ≤ k ∧ k < 16
instance (k : Int) : Decidable (isK k) := inferInstanceAs (Decidable (_ ∧ _))
def szI (k : Int) : Int := if isK k then szK k.toNat else 0
def pgI (k : Int) : Int := if isK k then pgK k.toNat else 0
def slI (k : Int) : Int := if isK k then slK k.toNat else 0
def szA : Array Value := (szL.map fun (n : Nat) => Value.int .i64 (n : Int)).toArray
def NwPost (v : Value) (w : World) (e : Ending) (w' : World) : Prop := e = .returned v ∧ Chg [] w w'
theorem table_ok (w : World) : Calls Tryz.prog 157 #[] w (NwPost (.agg szA) w) := by
  go_enter Tryz.func157, Tryz.ntmps157
  go_wp2_with fail
  exact ⟨rfl, _, results_cell_row (P := Tryz.prog) (fn := Tryz.f157) rfl _ _ _ _ _ _ _ rfl (heap_alloc_new w _) Tryz.underlying133 (by rfl) (by kernel_rfl), rfl, (Chg.refl [] w).alloc _⟩
theorem count_ok (w : World) : Calls Tryz.prog 97 #[] w (NwPost (.int .i64 16) w) := by
  go_enter Tryz.func97, Tryz.ntmps97
  go_wp2_with fail
  refine (table_ok w).mono ?_
  rintro e w1 ⟨rfl, c1⟩
  go_wp2_with fail
  go_ret
  exact ⟨rfl, c1⟩
def fitP (s p : Nat) : Bool := decide (p * 64 % s * 8 ≤ p * 64 - p * 64 % s)
def CpRel (w0 : World) (P : Nat) (gk : Nat) (idx : Value) (w : World) : Prop := ∃ p, gk + p = P + 1 ∧ 1 ≤ p ∧ p ≤ P ∧ idx = .int .i64 (p : Nat) ∧ Chg [] w0 w
def SzsPost (w : World) (e : Ending) (w' : World) : Prop := e = .returned (.slice (some ⟨w.heap.size, 0, none⟩) 16 16) ∧ Blk w' w.heap.size 3 szA ∧ Chg [] w w'
def OfSays (n q : Nat) : Prop := q < 16 ∧ n ≤ szK q ∧ ∀ j, j < q → szK j < n
def OfPost (n : Nat) (w : World) (e : Ending) (w' : World) : Prop := ∃ q, OfSays n q ∧ NwPost (.int .i64 (q : Nat)) w e w'
def RoRel (w0 : World) (n : Int) (gk : Nat) (idx : Value) (w : World) : Prop := ∃ k, gk + k = 17 ∧ k ≤ 15 ∧ idx = .int .i64 (k : Nat) ∧ (∀ j, j < k → (szK j : Int) < n) ∧ Chg [] w0 w
theorem tyC : VTy Tryz.prog 210 3 3 (.int .i64 0) := ⟨Tryz.underlying210, Tryz.underlying3, fun _ => by kernel_rfl⟩
theorem wpList_vmap_look' {P : Program} {T K E : TypeId} {z : Value} {w : World} {b n : Nat} {f : Int → Option Value} {ops : Array Oper} {rest : List Oper} {o : Oper} {a : Act} {Q : Exit → Act → World → Prop} (hg : o.guard = none) (m x : Operand) (hop : o.op = Op.lookup T m x false) (h : VMap P K w b n f) (t : VTy P T K E z) (hm : a.eval m = .map (some b)) {k : Int} (hx : a.eval x = .int .i64 k) (hk : Wf64 k) {u : Value} (hf : f k = some u)
    (hK : wpList P ops Q rest (a.put o.dst u) w) : wpList P ops Q (o :: rest) a w :=
  wpList_vmap_look hg m x hop h t hm hx hk (by rw [hf]; exact hK)
theorem most_at (G F S part : Nat) (hp : part ≤ 6) : (putV (putV (putV (putV (putV (putV (putV (fun _ => none) 0 (Value.int .i64 1)) 1 (Value.int .i64 256)) 2 (Value.int .i64 16)) 3 (Value.int .i64 (G : Nat))) 4 (Value.int .i64 (F : Nat))) 5 (Value.int .i64 (S : Nat))) 6 (Value.int .i64 32)) (part : Nat) = some (Value.int .i64 (mostP G F S part : Nat)) := by
  have : part = 0 ∨ part = 1 ∨ part = 2 ∨ part = 3 ∨ part = 4 ∨ part = 5 ∨ part = 6 := by omega
  rcases this with rfl | rfl | rfl | rfl | rfl | rfl | rfl <;> rfl
theorem cd_fits (w : World) (G F S part v : Nat) (hp : part ≤ 6) : Calls Tryz.prog 248 #[.agg #[.int .i64 (G : Nat), .int .i64 (F : Nat), .int .i64 (S : Nat)], .int .i64 (part : Nat), .int .i64 (v : Nat)] w (NwPost (.bool (fitsP G F S part v)) w) := by
  have hmm := @run_makeMap Tryz.prog
  go_enter Tryz.func248, Tryz.ntmps248
  go_upto_region 1 with fail
  obtain ⟨w1, hw1⟩ : ∃ w1, w1 = w.alloc (.cells #[.int .i64 (G : Nat), .int .i64 (F : Nat), .int .i64 (S : Nat)] 172) := ⟨_, rfl⟩
  have B : Blk w1 w.heap.size 172 #[.int .i64 (G : Nat), .int .i64 (F : Nat), .int .i64 (S : Nat)] := by rw [hw1]; exact Blk.new _ _ _
  have D : Chg [] w w1 := by rw [hw1]; exact (Chg.refl _ _).alloc _
  rw [← hw1]
  have M := VMap.made w1 Tryz.prog 3
  have hne : w.heap.size ∉ [w1.heap.size] := by have := B.lt; simp; omega
  have hnw : ∀ k ∈ [w1.heap.size], w.heap.size ≤ k := by have := D.size; simpa using this
  have B2 := B.alloc (.map #[] 0)
  have D2 := D.alloc (.map #[] 0)
  clear B D hw1
  have HL := Lib.hid (most_at G F S part hp)
  go_wp2_with (first
    | (at_lookup; refine wpList_vmap_look' rfl _ _ rfl M tyC rfl rfl (by unfold Wf64; omega) HL.out ?_)
    | (refine wpList_vmap_insert rfl _ _ _ rfl M tyC rfl rfl (by unfold Wf64; omega) rfl (by decide) ?_
       intro x1 M1 C1 _
       have M := M1
       have B2 := C1.blk B2 hne
       have k0 := B2.cellv 0 rfl
       have k1 := B2.cellv 1 rfl
       have k2 := B2.cellv 2 rfl
       have D2 := D2.new C1 hnw
       clear C1 M1))
  go_ret
  exact ⟨by simp [fitsP], D2⟩
section
variable {P : Program} {ops : Array Oper} {rest : List Oper} {o : Oper} {a : Act} {Q : Exit → Act → World → Prop} {w w' : World}
theorem wpList_build {T : TypeId} {ps : Array (Nat × Operand)} (hg : o.guard = none) (hop : o.op = Op.build T ps) (v : Value) (hr : (execOp a.eval o).run P w = .ok (.value v) w) (hK : wpList P ops Q rest (a.put o.dst v) w) : wpList P ops Q (o :: rest) a w := by
  refine wpList_plain hg fun K' hK' => ?_
  unfold Oper.wp
  rw [hr]; exact hK' _ _ hK
theorem wpList_store {T : TypeId} {p x : Operand} (hg : o.guard = none) (hop : o.op = Op.store T p x) {ad v : Value} (hp : a.eval p = ad) (hx : a.eval x = v) (hr : (Instr.storeAt T ad v).run P w = .ok () w') (hK : wpList P ops Q rest (a.put o.dst undef) w') : wpList P ops Q (o :: rest) a w := by
  refine wpList_plain hg fun K' hK' => ?_
  unfold Oper.wp
  simp [execOp, hop, hp, hx, hr, Result.andThen]
  exact hK' _ _ hK
end
def partsL : List Value := (ptab.flatMap id).map (Value.int .i64)
def partsV : Value := .agg partsL.toArray
theorem cd_parts (w : World) : Calls Tryz.prog 247 #[] w (NwPost partsV w) := by
  go_enter Tryz.func247, Tryz.ntmps247
  have hst : ∀ c : Array Value, c.size = 54 → (Instr.storeAt 339 (.pointer (some ⟨w.heap.size, 0, none⟩)) partsV).run Tryz.prog (w.alloc (.cells c 339)) = .ok () (w.alloc (.cells partsL.toArray 339)) := fun c hc =>
    run_storeAt_new w 339 c partsL.toArray (by kernel_rfl) (by rw [hc]; rfl) (by decide +kernel)
  go_upto_region 1 with fail
  go_wp2_with (first
    | (refine wpList_build (T := 339) rfl rfl partsV (by kernel_rfl) ?_)
    | (refine wpList_store (T := 339) rfl rfl rfl rfl (hst _ rfl) ?_))
  obtain ⟨cs, hcs⟩ : ∃ cs, cs = partsL.toArray := ⟨_, rfl⟩
  have hi : (Tryz.prog.info? 339).map (·.size) = some cs.size := by rw [hcs]; kernel_rfl
  have hV : partsV = .agg cs := by rw [hcs]; rfl
  rw [← hcs, hV]
  clear hst hV hcs
  simp only [Act.put, Array.setIfInBounds, List.size_toArray, List.length_cons, List.length_nil]
  have hr := fun tmps hp => results_cell_row (P := Tryz.prog) (fn := Tryz.f247) rfl tmps _ w.heap.size 339 cs _ _ hp (heap_alloc_new w (.cells cs 339)) Tryz.underlying339 rfl hi
  refine ⟨rfl, _, hr _ ?_, ?_⟩
  · rfl
  · exact ⟨rfl, (Chg.refl [] w).alloc _⟩
theorem run_parts_at (w : World) {o : Nat} (ho : o ≤ 17) {x y z : Int} (h : ptab[o]? = some [x, y, z]) : (Instr.index 339 partsV (.int .i64 (o : Nat))).run Tryz.prog w = .ok (.agg #[.int .i64 x, .int .i64 y, .int .i64 z]) w := by
  have hh : o = 0 ∨ o = 1 ∨ o = 2 ∨ o = 3 ∨ o = 4 ∨ o = 5 ∨ o = 6 ∨ o = 7 ∨ o = 8 ∨ o = 9 ∨ o = 10 ∨ o = 11 ∨ o = 12 ∨ o = 13 ∨ o = 14 ∨ o = 15 ∨ o = 16 ∨ o = 17 := by omega
  rcases hh with rfl | rfl | rfl | rfl | rfl | rfl | rfl | rfl | rfl | rfl | rfl | rfl | rfl | rfl | rfl | rfl | rfl | rfl
  all_goals
    injection h with h; injection h with e1 h; injection h with e2 h; injection h with e3 _
    subst e1 e2 e3
    show _ = _
    kernel_rfl
def cntI (xs : List Int) (i : Int) : Nat := xs.count i
def stC (v : Value) (c : Nat → Nat) : Array Value := #[v, .int .i64 (c 0 : Nat), .int .i64 (c 1 : Nat), .int .i64 (c 2 : Nat), .int .i64 (c 3 : Nat), .int .i64 (c 4 : Nat), .int .i64 (c 5 : Nat)]
structure IsSt (w : World) (g : Nat) (v : Value) (xs : List Int) : Prop where
  b : Blk w g 153 (stC v fun i => cntI xs i)
  o : OwnI 3 w v xs
  r : ∀ x ∈ xs, 1 ≤ x ∧ x ≤ 5
theorem stC_at (v : Value) (c : Nat → Nat) {i : Nat} (hi : i < 6) : (stC v c)[1 + i]? = some (.int .i64 (c i : Nat)) := by
  have : i = 0 ∨ i = 1 ∨ i = 2 ∨ i = 3 ∨ i = 4 ∨ i = 5 := by omega
  rcases this with rfl | rfl | rfl | rfl | rfl | rfl <;> rfl
theorem stC_set (v : Value) (c : Nat → Nat) {i : Nat} (hi : i < 6) (x : Nat) : (stC v c).setIfInBounds (1 + i) (.int .i64 (x : Nat)) = stC v (fun k => if k = i then x else c k) := by
  have : i = 0 ∨ i = 1 ∨ i = 2 ∨ i = 3 ∨ i = 4 ∨ i = 5 := by omega
  rcases this with rfl | rfl | rfl | rfl | rfl | rfl <;> rfl
theorem stC_set0 (v u : Value) (c : Nat → Nat) : (stC v c).setIfInBounds 0 u = stC u c := rfl
theorem cntI_le (xs : List Int) (i : Int) : cntI xs i ≤ xs.length := List.count_le_length
theorem cntI_push (xs : List Int) (x i : Int) : cntI (xs ++ [x]) i = cntI xs i + if x = i then 1 else 0 := by
  unfold cntI
  rw [List.count_append, List.count_singleton]
  by_cases h : x = i
  · subst h; simp
  · simp [h]
theorem st_new (w : World) : Calls Tryz.prog 43 #[] w fun e w' => ∃ g, e = .returned (.pointer (some ⟨g, 0, none⟩)) ∧ w.heap.size ≤ g ∧ IsSt w' g (.slice none 0 0) [] ∧ Chg [] w w' := by
  go_enter Tryz.func43, Tryz.ntmps43
  go_wp2_with fail
  go_ret
  exact ⟨w.heap.size, rfl, Nat.le_refl _, ⟨Blk.new _ _ _, OwnI.nil _ _, by simp⟩, (Chg.refl _ _).alloc _⟩
section
variable (w : World) (g : Nat) (v : Value) (xs : List Int) (I : IsSt w g v xs)
include I
theorem st_len : Calls Tryz.prog 33 #[.pointer (some ⟨g, 0, none⟩)] w (QuPost (.int .i64 (xs.length : Nat)) w) := by
  obtain ⟨A, c, hv⟩ := I.o.slice
  have c0 : w.cell? ⟨g, 0, none⟩ = some v := I.b.cellv 0 rfl
  rw [hv] at c0
  generalize xs.length = n at c0 ⊢
  go_enter Tryz.func33, Tryz.ntmps33
  go_wp2_with fail
  go_ret
  exact ⟨rfl, rfl⟩
theorem st_count (k : Nat) (h1 : 1 ≤ k) (h5 : k ≤ 5) : Calls Tryz.prog 32 #[.pointer (some ⟨g, 0, none⟩), .int .i64 (k : Nat)] w (QuPost (.int .i64 (cntI xs k : Nat)) w) := by
  have c0 := I.b.cellv (1 + k) (stC_at v _ (i := k) (by omega))
  have d1 : decide ((k : Int) ≤ 0) = false := decide_eq_false (by omega)
  have d2 : decide ((k : Int) > 5) = false := decide_eq_false (by omega)
  have e1 : (0 : Int) ≤ k := by omega
  have e2 : (k : Int) < 6 := by omega
  go_enter Tryz.func32, Tryz.ntmps32
  go_wp2_with fail
  go_ret
  exact ⟨rfl, rfl⟩
theorem st_of (k : Nat) (x : Int) (hx : xs[k]? = some x) : Calls Tryz.prog 54 #[.pointer (some ⟨g, 0, none⟩), .int .i64 (k : Nat)] w (QuPost (.int .i64 x) w) := by
  obtain ⟨A, c, hv⟩ := I.o.slice
  have c0 : w.cell? ⟨g, 0, none⟩ = some v := I.b.cellv 0 rfl
  obtain ⟨n, hn⟩ : ∃ n, n = xs.length := ⟨_, rfl⟩
  rw [hv, ← hn] at c0
  have o := I.o
  rw [hv] at o
  obtain ⟨b, hA, hc, -, -⟩ := o.cell hx
  subst hA
  have hk : k < n := by rw [hn]; exact (List.getElem?_eq_some_iff.1 hx).1
  have d1 : decide ((k : Int) < 0) = false := decide_eq_false (by omega)
  have d2 : decide ((k : Int) ≥ (n : Int)) = false := decide_eq_false (by omega)
  have e1 : (0 : Int) ≤ k := by omega
  have e2 : (k : Int) < (n : Int) := by omega
  go_enter Tryz.func54, Tryz.ntmps54
  go_wp2_with fail
  go_ret
  exact ⟨rfl, rfl⟩
end
end Go.Proofs.YtepnlcemlnkpdaaGreatDoor
