/- A slice of integers that lies in memory; a slice laid behind one that is owned; the document's rising lists (cut loose of the view). -/
import Derived.Test.YtkocikpoagfonaaDoorZI
import Derived.Deep.AppendSrc
import Derived.Deep.RegionHeld3
import Derived.StillTailTactics
namespace Go.Proofs.YtkocikpoagfonaaDoor
open Go.RowKit Go.Maps

/-- A list that rises. -/
def Rise (l : List Int) : Prop := l.Pairwise (· < ·)
theorem rise_sorted {ss : List Int} (h : ss.Nodup) : Rise (ss.mergeSort (fun x y => decide (x ≤ y))) := by
  have tr : ∀ a b c : Int, (decide (a ≤ b)) = true → (decide (b ≤ c)) = true → (decide (a ≤ c)) = true := fun a b c h1 h2 => by simp only [decide_eq_true_eq] at *; exact Int.le_trans h1 h2
  have tot : ∀ a b : Int, (decide (a ≤ b) || decide (b ≤ a)) = true := fun a b => by simp only [Bool.or_eq_true, decide_eq_true_eq]; exact Int.le_total a b
  have h1 := List.pairwise_mergeSort (le := fun x y : Int => decide (x ≤ y)) tr tot ss
  have h2 : (ss.mergeSort (fun x y => decide (x ≤ y))).Nodup := (List.mergeSort_perm ss _).nodup_iff.2 h
  exact List.Pairwise.imp₂ (fun a b h3 h4 => by simp only [decide_eq_true_eq] at h3; omega) h1 h2
theorem rise_eq {l m : List Int} (h : Rise l) (h' : Rise m) (e : ∀ x, x ∈ l ↔ x ∈ m) : l = m :=
  List.Perm.eq_of_pairwise (le := fun a b => a < b) (fun a b _ _ h1 h2 => by omega) h h' ((List.perm_ext_iff_of_nodup (h.imp fun g => by omega) (h'.imp fun g => by omega)).2 e)
theorem rise_nodup {l : List Int} (h : Rise l) : l.Nodup := h.imp fun g => by omega
def WfI (x : Int) : Prop := -9223372036854775808 ≤ x ∧ x ≤ 9223372036854775807
def IntsAt (w : World) (B : Nat) (A : Option Addr) (xs : List Int) : Prop := ∀ i x, xs[i]? = some x → ∃ b off, A = some ⟨b, off, none⟩ ∧ b < B ∧ w.cell? ⟨b, off + i, none⟩ = some (.int .i64 x)
/-- A slice of integers. -/
structure SlI (w : World) (B : Nat) (v : Value) (xs : List Int) : Prop where
  ex : ∃ A c, v = .slice A xs.length c
  len : xs.length ≤ maxLen
  at_ : ∀ A n c, v = .slice A n c → IntsAt w B A xs
  wf : ∀ x ∈ xs, WfI x
theorem Chg.then_ {S T : List Nat} {a w w' : World} (h : Chg S a w) (c : Chg T w w') (hT : ∀ k ∈ T, k ∈ S ∨ a.heap.size ≤ k) : Chg S a w' :=
  ⟨c.os.trans h.os, c.tape.trans h.tape, c.output.trans h.output, Nat.le_trans h.size c.size, fun k hk hn =>
    (c.block k (Nat.lt_of_lt_of_le hk h.size) (fun hm => by
      rcases hT k hm with h1 | h1
      · exact hn h1
      · omega)).trans (h.block k hk hn)⟩
theorem Chg.new {T : List Nat} {a w w' : World} (h : Chg [] a w) (c : Chg T w w') (hT : ∀ k ∈ T, a.heap.size ≤ k) : Chg [] a w' := h.then_ c fun k hk => .inr (hT k hk)
section
variable {w w' : World} {B : Nat} {S : List Nat}
theorem IntsAt.chg {A : Option Addr} {xs : List Int} (h : IntsAt w B A xs) (c : Chg S w w') (hB : B ≤ w.heap.size) (hS : ∀ k ∈ S, B ≤ k) : IntsAt w' B A xs := fun i x hx => by
  obtain ⟨b, off, e, hb, hc⟩ := h i x hx
  exact ⟨b, off, e, hb, c.cellv (by omega) (fun hm => by have := hS b hm; omega) hc⟩
theorem SlI.chg {v : Value} {xs : List Int} (h : SlI w B v xs) (c : Chg S w w') (hB : B ≤ w.heap.size) (hS : ∀ k ∈ S, B ≤ k) : SlI w' B v xs :=
  ⟨h.ex, h.len, fun A n cc e => (h.at_ A n cc e).chg c hB hS, h.wf⟩
theorem IntsAt.mono {A : Option Addr} {xs : List Int} (h : IntsAt w B A xs) {B' : Nat} (hB : B ≤ B') : IntsAt w B' A xs := fun i x hx => by
  obtain ⟨b, off, e, hb, hc⟩ := h i x hx
  exact ⟨b, off, e, by omega, hc⟩
theorem SlI.mono {v : Value} {xs : List Int} (h : SlI w B v xs) {B' : Nat} (hB : B ≤ B') : SlI w B' v xs := ⟨h.ex, h.len, fun A n cc e => (h.at_ A n cc e).mono hB, h.wf⟩
theorem SlI.of_own {T : TypeId} {v : Value} {xs : List Int} (h : w.ownsRow 0 T 1 v xs.length (xs.map (Value.int .i64))) (hw : ∀ x ∈ xs, WfI x) (hl : xs.length ≤ maxLen) : SlI w w.heap.size v xs := by
  rcases h.2 with ⟨rfl, h0⟩ | ⟨g, cap, cur, rfl, _, hh, hc, hm, hs, ht⟩
  · have : xs = [] := List.eq_nil_of_length_eq_zero h0
    subst this
    exact ⟨⟨none, 0, rfl⟩, hl, fun A n c e i x hx => by simp at hx, hw⟩
  · refine ⟨⟨_, _, rfl⟩, hl, fun A n c e i x hx => ?_, hw⟩
    injection e with e1 e2 e3
    refine ⟨g, 0, e1.symm, Blk.lt (t := T) (cs := cur) hh, ?_⟩
    rw [Nat.zero_add, Blk.cell (t := T) (cs := cur) hh]
    have h1 : (cur.toList.take (xs.length * 1))[i]? = some (.int .i64 x) := by rw [ht]; simp [hx]
    rw [List.getElem?_take] at h1
    split at h1
    · simpa using h1
    · cases h1
end
theorem SlI.rd {w : World} {B : Nat} {v : Value} {xs : List Int} (h : SlI w B v xs) : RdI w v xs :=
  ⟨h.ex, by have := h.len; unfold maxLen at this; omega, fun A n c e i x hx => by obtain ⟨b, off, e1, _, h1⟩ := h.at_ A n c e i x hx; exact ⟨b, off, e1, h1⟩⟩
section
variable {P : Program} {T E : TypeId} {w w' : World} {v u : Value} {xs ys : List Int} {B : Nat}
theorem OwnI.sl (h : OwnI E w v xs) (hw : ∀ x ∈ xs, WfI x) (hl : xs.length ≤ maxLen) : SlI w w.heap.size v xs := SlI.of_own h.o hw hl
theorem setCells_nil (w : World) (b o : Nat) : w.setCells b o [] = w := rfl
theorem run_cat_sl (t : SlTy P T E) (ty : TypeId) (h : OwnI E w v xs) (hu : SlI w B u ys) (hl : xs.length + ys.length ≤ 1000000000000) :
    ∃ v' w', (Builtin.append_ #[T, T] ty #[v, u]).run P w = .ok v' w' ∧ OwnI E w' v' (xs ++ ys) ∧ Stp (fpv v) (fpv v') w w' := by
  obtain ⟨A, c, rfl⟩ := hu.ex
  have hA := hu.at_ _ _ _ rfl
  obtain ⟨i, hi, hz, hs, hb⟩ := info_parts t.i
  have some_ : ∀ ad : Addr, A = some ad → ∃ v' w', (Builtin.append_ #[T, T] ty #[v, .slice (some ad) ys.length c]).run P w = .ok v' w' ∧ OwnI E w' v' (xs ++ ys) ∧ Stp (fpv v) (fpv v') w w' := by
    rintro ad rfl
    obtain ⟨v', w', hrun, h1, h2, h3, h4⟩ := run_append_own_at (P := P) w 0 T ty E i (.int .i64 0) 1 8 t.s hi hz hs hb rfl (by decide) v xs.length (xs.map (Value.int .i64)) h.o ad ys.length c (ys.map (Value.int .i64)) (by simp)
      (fun j z hj => by
        rw [List.getElem?_map] at hj
        cases hy : ys[j]? with
        | none => rw [hy] at hj; simp at hj
        | some y =>
          rw [hy] at hj
          have e : Value.int .i64 y = z := by simpa using hj
          obtain ⟨b, off, e1, _, hc⟩ := hA j y hy
          injection e1 with e1
          rw [e1, ← e, WideShapes.add_plain]; exact hc)
      (by intro u hu; obtain ⟨z, _, rfl⟩ := List.mem_map.1 hu; rfl) (by unfold maxLen; omega) (by omega) (Nat.zero_le _)
    refine ⟨v', w', hrun, ⟨by simpa using h1⟩, ⟨(Chg.refl (fpv v) w).grown h2 fun k hk => .inl (mem_fpv.2 hk), fun k hk => ?_⟩⟩
    rcases h4 with h4 | h4
    · rw [mem_fpv, h4] at hk; exact .inl (mem_fpv.2 hk)
    · rw [mem_fpv, h4] at hk
      injection hk with hk
      exact .inr (by omega)
  cases A with
  | some ad => exact some_ ad rfl
  | none =>
    have e : ys = [] := by
      cases ys with
      | nil => rfl
      | cons y ys =>
        obtain ⟨b, off, e1, _⟩ := hA 0 y rfl
        cases e1
    subst e
    refine ⟨v, w, ?_, by simpa using h, Stp.refl _ _⟩
    rcases h.o.2 with ⟨rfl, hx⟩ | ⟨g, cap, cur, rfl, _, hg, hc, _, _, _⟩
    · rcases (Src.ofNil (P := P) w (size := 1) t.s c).kind with ⟨e', hk⟩ | hk <;>
        simp [Builtin.append_, run_underlying t.s, sizeOf, typeInfo, hi, Builtin.lenOf, Builtin.firstCells]
    · have := run_append_room_src (P := P) w T T ty E i t.s hi g 0 xs.length cap (.slice none 0 c) 0 [] (Src.ofNil w t.s c) (by simpa using hc) (by simp) (by simp)
      rw [setCells_nil] at this
      exact this
theorem wpList_cat_sl {ops : Array Oper} {rest : List Oper} {o : Oper} {a : Act} {Q : Exit → Act → World → Prop} (hgd : o.guard = none) (s x : Operand)
    (ho : o.op = .call { callee := .builtin .append, args := #[s, x], argTypes := #[T, T] }) (t : SlTy P T E) (hs : a.eval s = v) (h : OwnI E w v xs) (hx : a.eval x = u) (hu : SlI w B u ys) (hl : xs.length + ys.length ≤ 1000000000000)
    (hK : ∀ A' c' w', OwnI E w' (.slice A' (xs.length + ys.length) c') (xs ++ ys) → Stp (fpv v) (fpv (.slice A' (xs.length + ys.length) c')) w w' → wpList P ops Q rest (a.put o.dst (.slice A' (xs.length + ys.length) c')) w') : wpList P ops Q (o :: rest) a w := by
  obtain ⟨v', w', hr, h2, h3⟩ := run_cat_sl t o.type h hu hl
  obtain ⟨A', c', e⟩ := h2.slice
  rw [List.length_append] at e
  subst e
  refine wpList_plain hgd fun K' hK' => ?_
  unfold Oper.wp execOp
  simp only [ho, resolve, invoke, builtin, Sem.run_bind, Sem.run_pure, Result.andThen_ok, List.map_toArray, List.map_cons, List.map_nil, hs, hx, hr]
  exact hK' _ _ (hK A' c' w' h2 h3)
theorem OwnI.empty (E : TypeId) (w : World) : OwnI E (w.alloc (.cells #[] E)) (.slice (some ⟨w.heap.size, 0, none⟩) 0 0) [] :=
  ⟨⟨rfl, .inr ⟨w.heap.size, 0, _, rfl, Nat.zero_le _, heap_alloc_new w _, Nat.le_refl _, by decide, rfl, rfl⟩⟩⟩
theorem OwnI.set_ {g n c q : Nat} (h : OwnI E w (.slice (some ⟨g, 0, none⟩) n c) xs) (_ : q < xs.length) (z : Int) : OwnI E (w.setCell ⟨g, q, none⟩ (.int .i64 z)) (.slice (some ⟨g, 0, none⟩) n c) (xs.set q z) := by
  rcases h.o.2 with ⟨e, _⟩ | ⟨g', cap, cur, e, hb0, hg, hc, hm, hs, ht⟩
  · simp at e
  · injection e with e1 e2 e3
    injection e1 with e1
    injection e1 with e1
    subst e1 e2 e3
    have hb : Blk w g E cur := hg
    refine ⟨⟨by simp, .inr ⟨g, c, cur.setIfInBounds q (.int .i64 z), by simp, Nat.zero_le _, hb.set_ q _, by simpa using hc, hm, by simpa using hs, ?_⟩⟩⟩
    rw [Array.toList_setIfInBounds, List.take_set, List.length_set, ht, List.map_set]
end
def putL : List Int → Int → List Int
  | [], x => [x]
  | y :: l, x => if y < x then y :: putL l x else if y = x then y :: l else x :: y :: l
theorem mem_putL : ∀ {l : List Int} {x y : Int}, y ∈ putL l x ↔ y ∈ l ∨ y = x
  | [], x, y => by simp [putL]
  | a :: l, x, y => by
    unfold putL
    split
    · rw [List.mem_cons, mem_putL, List.mem_cons, or_assoc]
    · split
      · next h => rw [List.mem_cons]
                  constructor
                  · exact .inl
                  · rintro (h1 | h1)
                    · exact h1
                    · exact .inl (by omega)
      · rw [List.mem_cons]; exact Or.comm
theorem rising_putL : ∀ {l : List Int} {x : Int}, Rise l → Rise (putL l x)
  | [], x, _ => by simp [putL, Rise]
  | a :: l, x, h => by
    have h1 := List.pairwise_cons.1 h
    unfold putL
    split
    · next h2 => exact List.pairwise_cons.2 ⟨fun b hb => by
        rcases mem_putL.1 hb with h3 | h3
        · exact h1.1 b h3
        · omega, rising_putL h1.2⟩
    · split
      · exact h
      · exact List.pairwise_cons.2 ⟨fun b hb => by
          rcases List.mem_cons.1 hb with h3 | h3
          · omega
          · have := h1.1 b h3; omega, h⟩
theorem len_putL : ∀ (l : List Int) (x : Int), (putL l x).length ≤ l.length + 1
  | [], x => by simp [putL]
  | a :: l, x => by
    unfold putL
    split
    · have := len_putL l x; simp only [List.length_cons]; omega
    · split <;> simp
theorem putL_old : ∀ {l : List Int} {x : Int} {i : Nat}, (∀ j y, j < i → l[j]? = some y → y < x) → l[i]? = some x → putL l x = l
  | [], _, _, _, h => by simp at h
  | a :: l, x, 0, _, h => by
    have e : a = x := by simpa using h
    unfold putL; rw [if_neg (by omega), if_pos e]
  | a :: l, x, i + 1, h1, h => by
    have e := h1 0 a (by omega) rfl
    unfold putL
    rw [if_pos e, putL_old (i := i) (fun j y hj hy => h1 (j + 1) y (by omega) (by simpa using hy)) (by simpa using h)]
theorem putL_new : ∀ {l : List Int} {x : Int} {i : Nat}, i ≤ l.length → (∀ j y, j < i → l[j]? = some y → y < x) → (∀ y, l[i]? = some y → x < y) → putL l x = l.take i ++ x :: l.drop i
  | [], x, i, hi, _, _ => by simp [putL]
  | a :: l, x, 0, _, _, h => by
    have e := h a rfl
    unfold putL; rw [if_neg (by omega), if_neg (by omega)]; rfl
  | a :: l, x, i + 1, hi, h1, h => by
    have e := h1 0 a (by omega) rfl
    unfold putL
    rw [if_pos e, putL_new (i := i) (by simpa using hi) (fun j y hj hy => h1 (j + 1) y (by omega) (by simpa using hy)) (fun y hy => h y (by simpa using hy))]
    rfl
def OncePost (v : Value) (xs : List Int) (w : World) (e : Ending) (w' : World) : Prop := ∃ v', e = .returned v' ∧ OwnI 3 w' v' xs ∧ Stp (fpv v) (fpv v') w w'
end Go.Proofs.YtkocikpoagfonaaDoor
