/- Lists of values of one cell that the call owns (pointers, slices): append of a list that is read. Plain theorems on worlds; no program in sight. -/
/- Lists of values of one cell: a slice of one is read; laws for regions. Plain theorems on worlds. -/
/- Regions that draw their order: what reads is taken ahead; stores in a forced order stand behind. Plain theorems on regions. -/
/- Steps of a region that draws, for lists of values of one cell: literals, make, reslicings. -/
import Derived.Test.YtcpljjacamibeaaGreatDoorMZ
import Derived.Deep.RegionLaw
import Derived.Deep.RegionHeld
import Derived.StillTail
import Derived.Laws.MakeOwn
namespace Go.Proofs.YtcpljjacamibeaaGreatDoor
set_option maxHeartbeats 16000000
set_option maxRecDepth 100000
open Go.RowKit Go.Maps
structure SlV (P : Program) (T E : TypeId) (z : Value) (by_ : Nat) : Prop where
  s : P.underlying T = some (.slice E)
  i : (P.info? E).map (fun i => (i.zero, i.size, i.bytes)) = some (some z, 1, by_)
  z1 : z.cells.size = 1
  b : by_ ≤ 64
structure OwnV (E : TypeId) (w : World) (v : Value) (xs : List Value) : Prop where
  o : w.ownsRow 0 E 1 v xs.length xs
structure RdV (w : World) (B : Nat) (u : Value) (ys : List Value) : Prop where
  ex : ∃ A c, u = .slice A ys.length c
  at_ : ∀ A n c, u = .slice A n c → ∀ i y, ys[i]? = some y → ∃ b off, A = some ⟨b, off, none⟩ ∧ b < B ∧ w.cell? ⟨b, off + i, none⟩ = some y
  one : ∀ y ∈ ys, y.oneCell' = true
section
variable {P : Program} {T E : TypeId} {z : Value} {by_ : Nat} {w w' : World} {v u : Value} {xs ys : List Value} {B : Nat}
theorem OwnV.nil (E : TypeId) (w : World) : OwnV E w (.slice none 0 0) [] := ⟨World.ownsRow_nil _ _ _ _⟩
theorem OwnV.lt (h : OwnV E w v xs) {k : Nat} (hk : k ∈ fpv v) : k < w.heap.size := own_lt h.o (mem_fpv.1 hk)
theorem OwnV.chg {S : List Nat} (h : OwnV E w v xs) (c : Chg S w w') (hn : ∀ k ∈ fpv v, k ∉ S) : OwnV E w' v xs := ⟨own_chg h.o c fun k hk => hn k (mem_fpv.2 hk)⟩
theorem OwnV.chg0 (h : OwnV E w v xs) (c : Chg [] w w') : OwnV E w' v xs := h.chg c (by simp)
theorem OwnV.slice (h : OwnV E w v xs) : ∃ A c, v = .slice A xs.length c := by
  rcases h.o.2 with ⟨rfl, h0⟩ | ⟨g, cap, cur, rfl, _⟩
  · exact ⟨none, 0, by rw [h0]⟩
  · exact ⟨_, _, rfl⟩
theorem OwnV.cell {A : Option Addr} {n c i : Nat} {x : Value} (h : OwnV E w (.slice A n c) xs) (hx : xs[i]? = some x) : ∃ g, A = some ⟨g, 0, none⟩ ∧ w.cell? ⟨g, i, none⟩ = some x ∧ w.frozen? ⟨g, i, none⟩ = false ∧ n = xs.length ∧ n ≤ c ∧ g < w.heap.size := by
  rcases h.o.2 with ⟨_, h0⟩ | ⟨g, cap, cur, e, _, hh, hc, hm, hs, ht⟩
  · have : xs = [] := List.eq_nil_of_length_eq_zero h0
    subst this; simp at hx
  · injection e with e1 e2 e3
    refine ⟨g, e1, ?_, Blk.frozen (t := E) (cs := cur) hh i, e2, by omega, Blk.lt (t := E) (cs := cur) hh⟩
    rw [Blk.cell (t := E) (cs := cur) hh]
    have h1 : (cur.toList.take (xs.length * 1))[i]? = some x := by rw [ht]; exact hx
    rw [List.getElem?_take] at h1
    split at h1
    · simpa using h1
    · cases h1
theorem RdV.mono (h : RdV w B u ys) {B' : Nat} (hB : B ≤ B') : RdV w B' u ys := ⟨h.ex, fun A n c e i y hy => by
  obtain ⟨b, off, h1, h2, h3⟩ := h.at_ A n c e i y hy
  exact ⟨b, off, h1, Nat.lt_of_lt_of_le h2 hB, h3⟩, h.one⟩
theorem RdV.chg {S : List Nat} (h : RdV w B u ys) (c : Chg S w w') (hB : B ≤ w.heap.size) (hS : ∀ k ∈ S, B ≤ k) : RdV w' B u ys := ⟨h.ex, fun A n cc e i y hy => by
  obtain ⟨b, off, h1, h2, h3⟩ := h.at_ A n cc e i y hy
  exact ⟨b, off, h1, h2, c.cellv (by omega) (fun hm => by have := hS b hm; omega) h3⟩, h.one⟩
theorem RdV.one_ {g : Nat} {x : Value} {t : TypeId} (h : Blk w g t #[x]) (hx : x.oneCell' = true) : RdV w w.heap.size (.slice (some ⟨g, 0, none⟩) 1 1) [x] :=
  ⟨⟨_, _, rfl⟩, (fun A n c e i y hy => by
    injection e with e1 e2 e3
    cases i with
    | zero =>
      have : x = y := by simpa using hy
      subst this
      exact ⟨g, 0, e1.symm, h.lt, h.cellv 0 rfl⟩
    | succ i => simp at hy), by simpa using hx⟩
theorem run_cat_v (t : SlV P T E z by_) (ty : TypeId) (h : OwnV E w v xs) (hu : RdV w B u ys) (hl : xs.length + ys.length ≤ 1000000) :
    ∃ v' w', (Builtin.append_ #[T, T] ty #[v, u]).run P w = .ok v' w' ∧ OwnV E w' v' (xs ++ ys) ∧ Stp (fpv v) (fpv v') w w' := by
  obtain ⟨A, c, rfl⟩ := hu.ex
  have hA := hu.at_ _ _ _ rfl
  obtain ⟨i, hi, hz⟩ := Option.map_eq_some_iff.1 t.i
  simp only [Prod.mk.injEq] at hz
  obtain ⟨hz, hs, hb⟩ := hz
  have some_ : ∀ ad : Addr, A = some ad → ∃ v' w', (Builtin.append_ #[T, T] ty #[v, .slice (some ad) ys.length c]).run P w = .ok v' w' ∧ OwnV E w' v' (xs ++ ys) ∧ Stp (fpv v) (fpv v') w w' := by
    rintro ad rfl
    obtain ⟨v', w', hrun, h1, h2, h3, h4⟩ := run_append_own_at (P := P) w 0 T ty E i z 1 by_ t.s hi hz hs hb t.z1 (by decide) v xs.length xs h.o ad ys.length c ys (by simp)
      (fun j y hj => by
        obtain ⟨b, off, e1, _, hc⟩ := hA j y hj
        injection e1 with e1
        rw [e1, WideShapes.add_plain]; exact hc)
      hu.one (by unfold maxLen; omega) (by have := Nat.mul_le_mul hl t.b; omega) (Nat.zero_le _)
    refine ⟨v', w', hrun, ⟨by rw [List.length_append]; exact h1⟩, ⟨(Chg.refl (fpv v) w).grown h2 fun k hk => .inl (mem_fpv.2 hk), fun k hk => ?_⟩⟩
    rcases h4 with h4 | h4
    · rw [mem_fpv, h4] at hk; exact .inl (mem_fpv.2 hk)
    · rw [mem_fpv, h4] at hk
      injection hk with hk
      exact .inr (by omega)
  cases A with
  | some ad => exact some_ ad rfl
  | none =>
    have e : ys = [] := by
      cases ys with
      | nil => rfl
      | cons y ys =>
        obtain ⟨b, off, e1, _⟩ := hA 0 y rfl
        cases e1
    subst e
    refine ⟨v, w, ?_, by simpa using h, Stp.refl _ _⟩
    rcases h.o.2 with ⟨rfl, hx⟩ | ⟨g, cap, cur, rfl, _, hg, hc, _, _, _⟩
    · rcases (Src.ofNil (P := P) w (size := 1) t.s c).kind with ⟨e', hk⟩ | hk <;>
        simp [Builtin.append_, run_underlying t.s, sizeOf, typeInfo, hi, Builtin.lenOf, Builtin.firstCells]
    · have := run_append_room_src (P := P) w T T ty E i t.s hi g 0 xs.length cap (.slice none 0 c) 0 [] (hs ▸ Src.ofNil w t.s c) (by simpa using hc) (by simp) (by simp)
      rw [setCells_nil] at this
      exact this
theorem step_cat_v {ops : Array Oper} {o : Oper} {a : Act} {K : Act → World → Prop} {Q : Exit → Act → World → Prop} {E' : Prop} (n : Nat) (hn : xs.length + ys.length = n) (hgd : o.guard = none) (s x : Operand)
    (ho : o.op = .call { callee := .builtin .append, args := #[s, x], argTypes := #[T, T] }) (t : SlV P T E z by_) (hs : a.eval s = v) (h : OwnV E w v xs) (hx : a.eval x = u) (hu : RdV w B u ys) (hl : n ≤ 1000000)
    (hK : ∀ A' c' w', OwnV E w' (.slice A' n c') (xs ++ ys) → Stp (fpv v) (fpv (.slice A' n c')) w w' → K (a.put o.dst (.slice A' n c')) w') : if Region.wanted o (yielded ops a.tmps) = true then Oper.wp P o a w K Q else E' := by
  subst hn
  have hw : Region.wanted o (yielded ops a.tmps) = true := by simp [Region.wanted, hgd]
  rw [if_pos hw]
  obtain ⟨v', w', hr, h2, h3⟩ := run_cat_v t o.type h hu hl
  obtain ⟨A', c', e⟩ := h2.slice
  rw [List.length_append] at e
  subst e
  unfold Oper.wp execOp
  simp only [ho, resolve, invoke, builtin, Sem.run_bind, Sem.run_pure, Result.andThen_ok, List.map_toArray, List.map_cons, List.map_nil, hs, hx, hr]
  exact hK A' c' w' h2 h3
end
section
variable {P : Program} {T E : TypeId} {z : Value} {by_ : Nat} {w w0 : World} {v : Value} {xs : List Value} {A : Option Addr} {n c i : Nat}
section
variable {ops : Array Oper} {o : Oper} {a : Act} {K : Act → World → Prop} {Q : Exit → Act → World → Prop} {E' : Prop}
end
theorem OwnV.alloc (h : OwnV E w v xs) (o : Obj) : OwnV E (w.alloc o) v xs := h.chg0 ((Chg.refl _ _).alloc o)
end
def CatPost (E : TypeId) (W : World) (g : Nat) (t : TypeId) (cs : Array Value) (F : Nat) (ys : List Value) (wd : World) : Prop :=
  ∃ v', OwnV E wd v' ys ∧ (∀ k ∈ fpv v', W.heap.size ≤ k) ∧ Blk wd g t (cs.setIfInBounds F v') ∧ Chg [g] W wd
open Go Go.RowKit Go.Maps
section
variable {P : Program} {ops : Array Oper} {Q : Exit → Act → World → Prop} {md : Region.Mode} {S : World → Prop} {n : Nat}
def wpAnyS (P : Program) (md : Region.Mode) (ops : Array Oper) (Q : Exit → Act → World → Prop) (S : World → Prop) (n : Nat) : Nat → Array Bool → Act → World → Prop
  | 0, listed, a, w => Region.ready md ops listed = [] ∧ Q .normal a w
  | fuel + 1, listed, a, w =>
    (Region.ready md ops listed = [] → Q .normal a w) ∧
    ∀ i ∈ Region.ready md ops listed, wpOp P ops Q i (fun a' w' => (i < n → S w') ∧ wpAnyS P md ops Q S n fuel (listed.setIfInBounds i true) a' w') a w
theorem wpAny_of_S : ∀ (fuel : Nat) (listed : Array Bool) (a : Act) (w : World), wpAnyS P md ops Q S n fuel listed a w → wpAny P md ops Q fuel listed a w
  | 0, _, _, _, h => h
  | fuel + 1, _, _, _, h => ⟨h.1, fun i hi => wpOp_mono (fun a' w' h' => wpAny_of_S fuel _ a' w' h'.2) (h.2 i hi)⟩
theorem wpAnyS_first {i : Nat} {oi : Oper} {v : Value} (hi : ops[i]? = some oi) (hsel : ∀ (j : Nat) (o : Oper) cs b, ops[j]? = some o → o.op ≠ .select cs b)
    (hQ : ∀ c a w, Q (.panic c) (a.put oi.dst v) w → Q (.panic c) a w)
    (hs : Region.sinkB md ops n = true) (hc : Region.chainB md ops n = true) (hn : n < ops.size) (hin : i < n) :
    ∀ (fuel : Nat) (listed : Array Bool) (a : Act) (w : World), HeadInv md ops n listed →
      (∀ j oj, ops[j]? = some oj → j ≠ i → listed.getD j true = false → (∀ e ∈ oj.after, Region.binds md e = true → e.on ≠ i) → oi.apart ops oj = true) →
      i ∈ Region.ready md ops listed → YieldsIf P ops S oi v a → S w →
      wpAnyS P md ops Q S n fuel (listed.setIfInBounds i true) (a.put oi.dst v) w → wpAnyS P md ops Q S n (fuel + 1) listed a w := by
  intro fuel
  induction fuel with
  | zero =>
    intro listed a w _ _ hr hy hS H
    refine ⟨fun h => (by rw [h] at hr; cases hr), fun j hj => ?_⟩
    by_cases hji : j = i
    · subst hji; exact hy.wpOp hi hS ⟨fun _ => hS, H⟩
    · have := ready_mono hj hji
      rw [H.1] at this
      cases this
  | succ fuel ih =>
    intro listed a w inv hfree hr hy hS H
    have hun := (mem_ready.1 hr).1
    refine ⟨fun h => (by rw [h] at hr; cases hr), fun j hj => ?_⟩
    have hjn : j < n := by
      rcases Nat.lt_or_ge j n with h | h
      · exact h
      · exact absurd hj (tail_waits hs hc hn inv _ i rfl hin hun j h)
    by_cases hji : j = i
    · subst hji; exact hy.wpOp hi hS ⟨fun _ => hS, H⟩
    · have h1 := H.2 j (ready_mono hj hji)
      obtain ⟨hjun, oj, hoj, hall⟩ := mem_ready.1 hj
      have hnot : ∀ e ∈ oj.after, Region.binds md e = true → e.on ≠ i := fun e he hb heq => by
        have h1 := hall e he hb
        rw [heq, getD_both hun] at h1
        cases h1
      have h2 := wpOp_putIf hoj (hfree j oj hoj hji hjun hnot) (fun cs b => hsel i oi cs b hi) (fun cs b => hsel j oj cs b hoj) hQ hy h1
      have hfree' : ∀ k ok, ops[k]? = some ok → k ≠ i → (listed.setIfInBounds j true).getD k true = false →
          (∀ e ∈ ok.after, Region.binds md e = true → e.on ≠ i) → oi.apart ops ok = true := fun k ok hk hki hun hno => by
        refine hfree k ok hk hki ?_ hno
        by_cases hjk : j = k
        · subst hjk; exact hjun
        · rw [getD_set_ne true hjk] at hun; exact hun
      refine wpOp_mono (fun a' w' h3 => ⟨h3.2.1, ih (listed.setIfInBounds j true) a' w' (inv.set hj hjn) hfree' (ready_mono hr (Ne.symm hji)) h3.1 (h3.2.1 hjn) ?_⟩) h2
      rw [Array.setIfInBounds_comm _ _ hji]
      exact h3.2.2
def headB (md : Region.Mode) (ops : Array Oper) (n : Nat) (listed : Array Bool) : Bool :=
  decide (listed.size = ops.size) && ((List.range ops.size).all fun j => !listed.getD j false || match ops[j]? with
    | some oj => oj.after.all fun e => !Region.binds md e || listed.getD e.on false
    | none => true) && (List.range ops.size).all fun t => decide (t < n) || !listed.getD t true
theorem headB_spec {listed : Array Bool} (h : headB md ops n listed = true) : HeadInv md ops n listed := by
  unfold headB at h
  simp only [Bool.and_eq_true, decide_eq_true_eq] at h
  obtain ⟨⟨h1, h2⟩, h3⟩ := h
  refine ⟨h1, fun j oj hj hl e he hb => ?_, fun t ht ht2 => ?_⟩
  · have h4 := List.all_eq_true.1 h2 j (List.mem_range.2 (Array.getElem?_eq_some_iff.1 hj).1)
    rw [hl, hj] at h4
    simp only [Bool.not_true, Bool.false_or] at h4
    have h5 := Array.all_eq_true_iff_forall_mem.1 h4 e he
    rw [hb] at h5
    simpa using h5
  · have h4 := List.all_eq_true.1 h3 t (List.mem_range.2 ht2)
    simp only [Bool.or_eq_true, decide_eq_true_eq, Bool.not_eq_true'] at h4
    rcases h4 with h4 | h4
    · omega
    · exact h4
def wpTake (P : Program) (ops : Array Oper) (S : World → Prop) (R : Act → Prop) : List Oper → Act → Prop
  | [], a => R a
  | o :: rest, a => ∃ v, YieldsIf P ops S o v a ∧ wpTake P ops S R rest (a.put o.dst v)
theorem wpTake_nil {R : Act → Prop} {a : Act} (h : R a) : wpTake P ops S R [] a := h
theorem wpTake_step {R : Act → Prop} {a : Act} {o : Oper} {rest : List Oper}
    (h : ∀ K : Act → Prop, (∀ a, wpTake P ops S R rest a → K a) → if Region.wanted o (yielded ops a.tmps) = true then ∃ v, (∀ w, S w → (execOp a.eval o).run P w = .ok (.value v) w) ∧ K (a.put o.dst v) else K (a.put o.dst undef)) : wpTake P ops S R (o :: rest) a := by
  have h1 := h _ (fun _ h => h)
  by_cases hw : Region.wanted o (yielded ops a.tmps) = true
  · rw [if_pos hw] at h1
    obtain ⟨v, h2, h3⟩ := h1
    exact ⟨v, .inl ⟨hw, h2⟩, h3⟩
  · rw [if_neg hw] at h1
    exact ⟨undef, .inr ⟨by simpa using hw, rfl⟩, h1⟩
def takeB (md : Region.Mode) (ops : Array Oper) (n : Nat) : List Nat → Array Bool → Bool
  | [], _ => true
  | i :: r, listed => decide (i < n) && headB md ops n listed && (Region.ready md ops listed).contains i && Region.free md ops listed i && takeB md ops n r (listed.setIfInBounds i true)
def listAll : List Nat → Array Bool → Array Bool
  | [], l => l
  | i :: r, l => listAll r (l.setIfInBounds i true)
theorem wpAnyS_takes (hsel : Region.noSelect ops = true) (hs : Region.sinkB md ops n = true) (hc : Region.chainB md ops n = true) (hn : n < ops.size)
    (hQ : ∀ c a (d : Nat) v w, Q (.panic c) (a.put (some d) v) w → Q (.panic c) a w) {fuel : Nat} {w : World} (hS : S w) : ∀ (is : List Nat) (os : List Oper) (listed : Array Bool) (a : Act),
    (is.map fun i => ops[i]?) = os.map some → takeB md ops n is listed = true → wpTake P ops S (fun a' => wpAnyS P md ops Q S n fuel (listAll is listed) a' w) os a →
    wpAnyS P md ops Q S n (is.length + fuel) listed a w
  | [], [], listed, a, _, _, h => by simpa [wpTake, listAll] using h
  | i :: is, o :: os, listed, a, he, hB, h => by
    simp only [List.map_cons, List.cons.injEq] at he
    simp only [takeB, Bool.and_eq_true, decide_eq_true_eq] at hB
    obtain ⟨⟨⟨⟨b1, b2⟩, b3⟩, b4⟩, b5⟩ := hB
    obtain ⟨v, hy, h⟩ := h
    have e : (i :: is).length + fuel = (is.length + fuel) + 1 := by simp only [List.length_cons]; omega
    rw [e]
    exact wpAnyS_first he.1 (Region.noSelect_spec hsel) (fun c a w hp => by cases hd : o.dst <;> rw [hd] at hp <;> first | exact hp | exact hQ c a _ v w hp) hs hc hn b1 _ _ _ _ (headB_spec b2) (Region.free_spec he.1 b4) (by simpa using b3) hy hS
      (wpAnyS_takes hsel hs hc hn hQ hS is os _ _ he.2 b5 h)
  | [], _ :: _, _, _, he, _, _ => by simp at he
  | _ :: _, [], _, _, he, _, _ => by simp at he
theorem wp_region_takes {id fuel : Nat} {a : Act} {w : World} {l : List Oper} (n : Nat) (S : World → Prop) (is : List Nat) (hm : P.follows .mixedOrders = true)
    (hB : (Region.noSelect l.toArray && Region.sinkB .any l.toArray n && Region.chainB .any l.toArray n && decide (n < l.toArray.size) && takeB .any l.toArray n is (Array.replicate l.toArray.size false) && decide (l.toArray.size = is.length + fuel) && is.all fun i => decide (i < l.length)) = true)
    (hQ : ∀ c a (d : Nat) v w, Q (.panic c) (a.put (some d) v) w → Q (.panic c) a w) (hS : S w.drew)
    (h : wpTake P l.toArray S (fun a' => wpAnyS P .any l.toArray Q S n fuel (listAll is (Array.replicate l.toArray.size false)) a' w.drew) (is.filterMap fun i => l[i]?) a) : (Code.region id l.toArray true).wp P Q a w := by
  simp only [Bool.and_eq_true, decide_eq_true_eq] at hB
  obtain ⟨⟨⟨⟨⟨⟨b1, b2⟩, b3⟩, b4⟩, b5⟩, hf⟩, b6⟩ := hB
  refine wp_region_any hm (wpAny_of_S (S := S) (n := n) _ _ _ _ ?_)
  have hos : (is.map fun i => l.toArray[i]?) = (is.filterMap fun i => l[i]?).map some := by
    clear hf h b5
    induction is with
    | nil => rfl
    | cons i is ih =>
      simp only [List.all_cons, Bool.and_eq_true, decide_eq_true_eq] at b6
      rw [List.map_cons, ih b6.2]
      simp [b6.1]
  have h2 := wpAnyS_takes (Q := Q) b1 b2 b3 b4 hQ hS is _ _ a hos b5 h
  rw [← hf] at h2
  exact h2
theorem wpAnyS_more {fuel F : Nat} {a : Act} {w : World} {l : List Oper} {listed : Array Bool} (is : List Nat)
    (hB : (Region.noSelect l.toArray && Region.sinkB .any l.toArray n && Region.chainB .any l.toArray n && decide (n < l.toArray.size) && takeB .any l.toArray n is listed && decide (F = is.length + fuel) && is.all fun i => decide (i < l.length)) = true)
    (hQ : ∀ c a (d : Nat) v w, Q (.panic c) (a.put (some d) v) w → Q (.panic c) a w) (hS : S w)
    (h : wpTake P l.toArray S (fun a' => wpAnyS P .any l.toArray Q S n fuel (listAll is listed) a' w) (is.filterMap fun i => l[i]?) a) : wpAnyS P .any l.toArray Q S n F listed a w := by
  simp only [Bool.and_eq_true, decide_eq_true_eq] at hB
  obtain ⟨⟨⟨⟨⟨⟨b1, b2⟩, b3⟩, b4⟩, b5⟩, hf⟩, b6⟩ := hB
  have hos : (is.map fun i => l.toArray[i]?) = (is.filterMap fun i => l[i]?).map some := by
    clear hf h b5
    induction is with
    | nil => rfl
    | cons i is ih =>
      simp only [List.all_cons, Bool.and_eq_true, decide_eq_true_eq] at b6
      rw [List.map_cons, ih b6.2]
      simp [b6.1]
  have h2 := wpAnyS_takes (Q := Q) b1 b2 b3 b4 hQ hS is _ _ a hos b5 h
  rw [← hf] at h2
  exact h2
def AllReadyS (P : Program) (md : Region.Mode) (ops : Array Oper) (Q : Exit → Act → World → Prop) (S : World → Prop) (n fuel : Nat) (listed : Array Bool) (a : Act) (w : World) (rs : List Nat) : Prop :=
  ∀ i ∈ rs, wpOp P ops Q i (fun a' w' => (i < n → S w') ∧ wpAnyS P md ops Q S n fuel (listed.setIfInBounds i true) a' w') a w
theorem AllReadyS.nil {fuel : Nat} {listed : Array Bool} {a : Act} {w : World} : AllReadyS P md ops Q S n fuel listed a w [] := fun _ h => by cases h
theorem AllReadyS.cons {fuel : Nat} {listed : Array Bool} {a : Act} {w : World} {i : Nat} {o : Oper} {rs : List Nat} (ho : ops[i]? = some o)
    (h : ∀ K' : Act → World → Prop, (∀ a w, S w → wpAnyS P md ops Q S n fuel (listed.setIfInBounds i true) a w → K' a w) → if Region.wanted o (yielded ops a.tmps) = true then Oper.wp P o a w K' Q else K' (a.put o.dst undef) w)
    (hs : AllReadyS P md ops Q S n fuel listed a w rs) : AllReadyS P md ops Q S n fuel listed a w (i :: rs) := fun j hj => by
  rcases List.mem_cons.1 hj with rfl | hj
  · exact wpOp_step ho (fun K' hK => h K' (fun a w hS hW => hK a w ⟨fun _ => hS, hW⟩))
  · exact hs j hj
theorem AllReadyS.one {fuel : Nat} {listed : Array Bool} {a : Act} {w : World} {i : Nat} {o : Oper} (ho : ops[i]? = some o)
    (h : ∀ K' : Act → World → Prop, (∀ a w, S w → wpAnyS P md ops Q S n fuel (listed.setIfInBounds i true) a w → K' a w) → if Region.wanted o (yielded ops a.tmps) = true then Oper.wp P o a w K' Q else K' (a.put o.dst undef) w) : AllReadyS P md ops Q S n fuel listed a w [i] := AllReadyS.cons ho h AllReadyS.nil
theorem qSa {α : Type _} {l : List α} {i : Nat} {a : α} : l.toArray.setIfInBounds i a = (l.set i a).toArray := List.setIfInBounds_toArray ..
theorem qSb {α : Type _} {a b : α} {l : List α} : (b :: l).set 0 a = a :: l := rfl
theorem qSc {α : Type _} {a b : α} {l : List α} {n : Nat} : (b :: l).set (n + 1) a = b :: l.set n a := rfl
theorem qGa {α : Type _} {a : α} {l : List α} : (a :: l)[0]? = some a := rfl
theorem qGb {α : Type _} {a : α} {l : List α} {n : Nat} : (a :: l)[n + 1]? = l[n]? := rfl
theorem qGc {α : Type _} {l : List α} {i : Nat} : l.toArray[i]? = l[i]? := List.getElem?_toArray ..
theorem qDa {α : Type _} {a : α} {l : List α} {n : Nat} : (a :: l).drop (n + 1) = l.drop n := rfl
theorem qDb {α : Type _} {l : List α} : l.drop 0 = l := rfl
theorem AllReadyS.o {fuel : Nat} {listed : Array Bool} {a : Act} {w : World} {i : Nat} {o : Oper} (h : ∀ K' : Act → World → Prop, (∀ a w, S w → wpAnyS P md ops Q S n fuel (listed.setIfInBounds i true) a w → K' a w) → if Region.wanted o (yielded ops a.tmps) = true then Oper.wp P o a w K' Q else K' (a.put o.dst undef) w) (ho : ops[i]? = some o := by simp only [qGc, qGa, qGb]; rfl) : AllReadyS P md ops Q S n fuel listed a w [i] := AllReadyS.one ho h
theorem wpAnyS_ready {rs : List Nat} {fuel : Nat} {listed : Array Bool} {a : Act} {w : World} (hr : Region.ready md ops listed = rs) (hne : rs ≠ [])
    (h : AllReadyS P md ops Q S n fuel listed a w rs) : wpAnyS P md ops Q S n (fuel + 1) listed a w := ⟨fun h0 => absurd (hr ▸ h0) hne, hr ▸ h⟩
theorem wpAnyS_seq : ∀ (l : List Oper) (k : Nat) (listed : Array Bool) (a : Act) (w : World), n ≤ k → (∀ j, l[j]? = ops[k + j]?) →
    Region.seqB md ops l.length k listed = true → wpList P ops Q l a w → wpAnyS P md ops Q S n l.length listed a w
  | [], _, _, _, _, _, _, hB, h => ⟨by simpa [Region.seqB] using hB, h⟩
  | o :: l, k, listed, a, w, hk, hl, hB, h => by
    have h0 : ops[k]? = some o := by simpa using (hl 0).symm
    simp only [List.length_cons, Region.seqB, Bool.and_eq_true, decide_eq_true_eq] at hB
    refine ⟨fun h1 => (by rw [hB.1] at h1; cases h1), fun i hi => ?_⟩
    rw [hB.1] at hi
    have hik : i = k := by simpa using hi
    subst hik
    have hw : wpOp P ops Q i (wpList P ops Q l) a w := by unfold wpOp; simp only [h0]; exact h
    exact wpOp_mono (fun a' w' h' => ⟨fun h2 => by omega, wpAnyS_seq l (i + 1) _ a' w' (by omega) (fun j => by have := hl (j + 1); simpa [Nat.add_assoc, Nat.add_comm 1 j] using this) hB.2 h'⟩) hw
theorem wpAnyS_tail {l : List Oper} {listed : Array Bool} {a : Act} {w : World} (n g : Nat) (hB : Region.seqB md l.toArray g n listed = true) (hg : (l.drop n).length = g) (h : wpList P l.toArray Q (l.drop n) a w) : wpAnyS P md l.toArray Q S n g listed a w := by
  subst hg
  exact wpAnyS_seq (l.drop n) n listed a w (Nat.le_refl _) (fun j => by simp [List.getElem?_drop]) hB h
end
section
variable {P : Program} {T E : TypeId} {z : Value} {by_ : Nat} {w : World} {xs : List Value} {A : Option Addr} {n c i : Nat} {o : Oper} {a : Act}
section
variable {ops : Array Oper} {K : Act → World → Prop} {Q : Exit → Act → World → Prop} {E' : Prop}
theorem step_make (t : SlV P T E z by_) (hzc : z.cells = #[z]) {lo co : Operand} (hgd : o.guard = none) (ho : o.op = Op.makeSlice T lo co) (hl : a.eval lo = .int .i64 (n : Nat)) (hc : a.eval co = .int .i64 (n : Nat)) (hn : n ≤ 1000000)
    (hK : ∀ g w', Blk w' g E (zcells z n) → Chg [] w w' → g = w.heap.size → K (a.put o.dst (.slice (some ⟨g, 0, none⟩) n n)) w') : if Region.wanted o (yielded ops a.tmps) = true then Oper.wp P o a w K Q else E' := by
  have hw : Region.wanted o (yielded ops a.tmps) = true := by simp [Region.wanted, hgd]
  rw [if_pos hw]
  have hb := t.b
  have hr := run_make_z (P := P) T E z by_ t.s t.i hzc .i64 .i64 n (by have := Nat.mul_le_mul hb hn; omega) (by omega) w
  unfold Oper.wp
  simp [execOp, ho, hl, hc, hr, Result.andThen]
  exact hK _ _ (Blk.new w E _) ((Chg.refl [] w).alloc _) rfl
end
end
end Go.Proofs.YtcpljjacamibeaaGreatDoor
