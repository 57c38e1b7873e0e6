/- Lists of values of one cell: a slice of one is read; laws for regions. Plain theorems on worlds. -/
/- Regions that draw their order: what reads is taken ahead; stores in a forced order stand behind. Plain theorems on regions. -/
/- Steps of a region that draws, for lists of values of one cell: literals, make, reslicings. -/
import Derived.Test.YtcnchgbngcnijaaGreatDoorMRs
import Derived.Deep.RegionLaw
import Derived.Deep.RegionHeld
import Derived.StillTail
import Derived.Laws.MakeOwn
namespace Go.Proofs.YtcnchgbngcnijaaGreatDoor
open Go.RowKit Go.Maps

theorem OwnI.v {E : TypeId} {w : World} {v : Value} {xs : List Int} (h : OwnI E w v xs) : OwnV E w v (xs.map (Value.int .i64)) := ⟨by rw [List.length_map]; exact h.o⟩
theorem OwnV.i {E : TypeId} {w : World} {v : Value} {xs : List Int} (h : OwnV E w v (xs.map (Value.int .i64))) : OwnI E w v xs := ⟨by have := h.o; rwa [List.length_map] at this⟩
section
variable {P : Program} {T E : TypeId} {z : Value} {by_ : Nat} {w w0 : World} {v : Value} {xs : List Value} {A : Option Addr} {n c i : Nat}
theorem run_slice_own (t : SlV P T E z by_) (lo hi mx : Option Value) (l h m : Nat) (hb : (Instr.sliceBounds true n c lo hi mx).run P w = .ok (l, h, m) w) :
    (Instr.sliceAt T (.slice A n c) lo hi mx).run P w = .ok (sliced A l h m 1) w := by
  have he : P.underlying T = some (.slice (P.elem T)) := by unfold Program.elem; rw [t.s]
  have e2 : P.elem T = E := by unfold Program.elem; rw [t.s]
  obtain ⟨i, hi, hz⟩ := Option.map_eq_some_iff.1 t.i
  simp only [Prod.mk.injEq] at hz
  obtain ⟨hz, hs, hb'⟩ := hz
  rw [run_sliceAt_slice w T _ _ _ _ he, run_slice_any w T A n c he, hb]
  simp [Result.andThen, sizeOf, typeInfo, e2, hi, hs]
theorem rd_take (h : OwnV E w0 (.slice A n c) xs) (h1 : ∀ y ∈ xs, y.oneCell' = true) (hi : i ≤ xs.length) : RdV w0 w0.heap.size (sliced A 0 i c 1) (xs.take i) := by
  have h2 := h.take (c' := c) h1 hi
  unfold sliced
  rcases h.o.2 with ⟨e, h0⟩ | ⟨g, cap, cur, e, _⟩
  · injection e with e1 e2 e3
    subst e1
    simpa using h2
  · injection e with e1 e2 e3
    subst e1
    have e4 : (if c = 0 then some (⟨g, 0, none⟩ : Addr) else (some (⟨g, 0, none⟩ : Addr)).map (·.add (0 * 1))) = some ⟨g, 0, none⟩ := by
      split
      · rfl
      · simp [WideShapes.add_plain]
    rw [e4]
    simpa using h2
theorem rd_drop (h : OwnV E w0 (.slice A n c) xs) (h1 : ∀ y ∈ xs, y.oneCell' = true) (hi : i ≤ xs.length) : RdV w0 w0.heap.size (sliced A i n c 1) (xs.drop i) := by
  unfold sliced
  rcases h.o.2 with ⟨e, h0⟩ | ⟨g, cap, cur, e, _, _, hc, _⟩
  · injection e with e1 e2 e3
    subst e1 e2 e3
    have e5 : xs = [] := List.eq_nil_of_length_eq_zero h0
    subst e5
    have e6 : i = 0 := by simpa using hi
    subst e6
    simpa using RdV.none_ w0 w0.heap.size none 0
  · injection e with e1 e2 e3
    subst e1
    by_cases e4 : c = i
    · have e5 : i = xs.length := by omega
      rw [if_pos e4]
      have e6 : xs.drop i = [] := by rw [e5]; exact List.drop_length
      have e7 : n - i = 0 := by omega
      rw [e6, e7]
      exact RdV.none_ _ _ _ _
    · rw [if_neg e4]
      have h3 := h.drop (c' := c - i) (m := n - i) (i := i) h1 (by omega)
      simpa [WideShapes.add_plain] using h3
section
variable {ops : Array Oper} {o : Oper} {a : Act} {K : Act → World → Prop} {Q : Exit → Act → World → Prop} {E' : Prop}
end
end
/-- A field of a block is given a list that the call made. -/
def CatPost (E : TypeId) (W : World) (g : Nat) (t : TypeId) (cs : Array Value) (F : Nat) (ys : List Value) (wd : World) : Prop :=
  ∃ v', OwnV E wd v' ys ∧ (∀ k ∈ fpv v', W.heap.size ≤ k) ∧ Blk wd g t (cs.setIfInBounds F v') ∧ Chg [g] W wd
theorem cat_done {E t : TypeId} {W w3 : World} {g F : Nat} {cs : Array Value} {v : Value} {ys : List Value} (B : Blk W g t cs) (D : Chg [] W w3) (O : OwnV E w3 v ys) (Fv : ∀ k ∈ fpv v, W.heap.size ≤ k) : CatPost E W g t cs F ys (w3.setCell ⟨g, F, none⟩ v) :=
  ⟨v, O.chg ((Chg.refl [g] w3).setCell (.inl (by simp)) _) (fun k hk hm => by
    have e : k = g := by simpa using hm
    have := Fv k hk; have := B.lt; omega), Fv, (D.blk B (by simp)).set_ F v, (D.mono (by simp)).setCell (.inl (by simp)) _⟩
end Go.Proofs.YtcnchgbngcnijaaGreatDoor
namespace Go.Proofs.YtcnchgbngcnijaaGreatDoor
open Go Go.RowKit Go.Maps

section
variable {P : Program} {ops : Array Oper} {Q : Exit → Act → World → Prop} {md : Region.Mode} {S : World → Prop} {n : Nat}
/-- Whatever order is picked: behind each operation below n S holds. -/
def wpAnyS (P : Program) (md : Region.Mode) (ops : Array Oper) (Q : Exit → Act → World → Prop) (S : World → Prop) (n : Nat) : Nat → Array Bool → Act → World → Prop
  | 0, listed, a, w => Region.ready md ops listed = [] ∧ Q .normal a w
  | fuel + 1, listed, a, w =>
    (Region.ready md ops listed = [] → Q .normal a w) ∧
    ∀ i ∈ Region.ready md ops listed, wpOp P ops Q i (fun a' w' => (i < n → S w') ∧ wpAnyS P md ops Q S n fuel (listed.setIfInBounds i true) a' w') a w
theorem wpAny_of_S : ∀ (fuel : Nat) (listed : Array Bool) (a : Act) (w : World), wpAnyS P md ops Q S n fuel listed a w → wpAny P md ops Q fuel listed a w
  | 0, _, _, _, h => h
  | fuel + 1, _, _, _, h => ⟨h.1, fun i hi => wpOp_mono (fun a' w' h' => wpAny_of_S fuel _ a' w' h'.2) (h.2 i hi)⟩
theorem wpAnyS_first {i : Nat} {oi : Oper} {v : Value} (hi : ops[i]? = some oi) (hsel : ∀ (j : Nat) (o : Oper) cs b, ops[j]? = some o → o.op ≠ .select cs b)
    (hQ : ∀ c a w, Q (.panic c) (a.put oi.dst v) w → Q (.panic c) a w)
    (hs : Region.sinkB md ops n = true) (hc : Region.chainB md ops n = true) (hn : n < ops.size) (hin : i < n) :
    ∀ (fuel : Nat) (listed : Array Bool) (a : Act) (w : World), HeadInv md ops n listed →
      (∀ j oj, ops[j]? = some oj → j ≠ i → listed.getD j true = false → (∀ e ∈ oj.after, Region.binds md e = true → e.on ≠ i) → oi.apart ops oj = true) →
      i ∈ Region.ready md ops listed → YieldsIf P ops S oi v a → S w →
      wpAnyS P md ops Q S n fuel (listed.setIfInBounds i true) (a.put oi.dst v) w → wpAnyS P md ops Q S n (fuel + 1) listed a w := by
  intro fuel
  induction fuel with
  | zero =>
    intro listed a w _ _ hr hy hS H
    refine ⟨fun h => (by rw [h] at hr; cases hr), fun j hj => ?_⟩
    by_cases hji : j = i
    · subst hji; exact hy.wpOp hi hS ⟨fun _ => hS, H⟩
    · have := ready_mono hj hji
      rw [H.1] at this
      cases this
  | succ fuel ih =>
    intro listed a w inv hfree hr hy hS H
    have hun := (mem_ready.1 hr).1
    refine ⟨fun h => (by rw [h] at hr; cases hr), fun j hj => ?_⟩
    have hjn : j < n := by
      rcases Nat.lt_or_ge j n with h | h
      · exact h
      · exact absurd hj (tail_waits hs hc hn inv _ i rfl hin hun j h)
    by_cases hji : j = i
    · subst hji; exact hy.wpOp hi hS ⟨fun _ => hS, H⟩
    · have h1 := H.2 j (ready_mono hj hji)
      obtain ⟨hjun, oj, hoj, hall⟩ := mem_ready.1 hj
      have hnot : ∀ e ∈ oj.after, Region.binds md e = true → e.on ≠ i := fun e he hb heq => by
        have h1 := hall e he hb
        rw [heq, getD_both hun] at h1
        cases h1
      have h2 := wpOp_putIf hoj (hfree j oj hoj hji hjun hnot) (fun cs b => hsel i oi cs b hi) (fun cs b => hsel j oj cs b hoj) hQ hy h1
      have hfree' : ∀ k ok, ops[k]? = some ok → k ≠ i → (listed.setIfInBounds j true).getD k true = false →
          (∀ e ∈ ok.after, Region.binds md e = true → e.on ≠ i) → oi.apart ops ok = true := fun k ok hk hki hun hno => by
        refine hfree k ok hk hki ?_ hno
        by_cases hjk : j = k
        · subst hjk; exact hjun
        · rw [getD_set_ne true hjk] at hun; exact hun
      refine wpOp_mono (fun a' w' h3 => ⟨h3.2.1, ih (listed.setIfInBounds j true) a' w' (inv.set hj hjn) hfree' (ready_mono hr (Ne.symm hji)) h3.1 (h3.2.1 hjn) ?_⟩) h2
      rw [Array.setIfInBounds_comm _ _ hji]
      exact h3.2.2
/-- HeadInv as a Bool. -/
def headB (md : Region.Mode) (ops : Array Oper) (n : Nat) (listed : Array Bool) : Bool :=
  decide (listed.size = ops.size) && ((List.range ops.size).all fun j => !listed.getD j false || match ops[j]? with
    | some oj => oj.after.all fun e => !Region.binds md e || listed.getD e.on false
    | none => true) && (List.range ops.size).all fun t => decide (t < n) || !listed.getD t true
theorem headB_spec {listed : Array Bool} (h : headB md ops n listed = true) : HeadInv md ops n listed := by
  unfold headB at h
  simp only [Bool.and_eq_true, decide_eq_true_eq] at h
  obtain ⟨⟨h1, h2⟩, h3⟩ := h
  refine ⟨h1, fun j oj hj hl e he hb => ?_, fun t ht ht2 => ?_⟩
  · have h4 := List.all_eq_true.1 h2 j (List.mem_range.2 (Array.getElem?_eq_some_iff.1 hj).1)
    rw [hl, hj] at h4
    simp only [Bool.not_true, Bool.false_or] at h4
    have h5 := Array.all_eq_true_iff_forall_mem.1 h4 e he
    rw [hb] at h5
    simpa using h5
  · have h4 := List.all_eq_true.1 h3 t (List.mem_range.2 ht2)
    simp only [Bool.or_eq_true, decide_eq_true_eq, Bool.not_eq_true'] at h4
    rcases h4 with h4 | h4
    · omega
    · exact h4
/-- Operations that only read, one behind the other. -/
def wpTake (P : Program) (ops : Array Oper) (S : World → Prop) (R : Act → Prop) : List Oper → Act → Prop
  | [], a => R a
  | o :: rest, a => ∃ v, YieldsIf P ops S o v a ∧ wpTake P ops S R rest (a.put o.dst v)
theorem wpTake_nil {R : Act → Prop} {a : Act} (h : R a) : wpTake P ops S R [] a := h
/-- One of them, what follows behind a variable. -/
theorem wpTake_step {R : Act → Prop} {a : Act} {o : Oper} {rest : List Oper}
    (h : ∀ K : Act → Prop, (∀ a, wpTake P ops S R rest a → K a) → if Region.wanted o (yielded ops a.tmps) = true then ∃ v, (∀ w, S w → (execOp a.eval o).run P w = .ok (.value v) w) ∧ K (a.put o.dst v) else K (a.put o.dst undef)) : wpTake P ops S R (o :: rest) a := by
  have h1 := h _ (fun _ h => h)
  by_cases hw : Region.wanted o (yielded ops a.tmps) = true
  · rw [if_pos hw] at h1
    obtain ⟨v, h2, h3⟩ := h1
    exact ⟨v, .inl ⟨hw, h2⟩, h3⟩
  · rw [if_neg hw] at h1
    exact ⟨undef, .inr ⟨by simpa using hw, rfl⟩, h1⟩
def takeB (md : Region.Mode) (ops : Array Oper) (n : Nat) : List Nat → Array Bool → Bool
  | [], _ => true
  | i :: r, listed => decide (i < n) && headB md ops n listed && (Region.ready md ops listed).contains i && Region.free md ops listed i && takeB md ops n r (listed.setIfInBounds i true)
def listAll : List Nat → Array Bool → Array Bool
  | [], l => l
  | i :: r, l => listAll r (l.setIfInBounds i true)
theorem wpAnyS_takes (hsel : Region.noSelect ops = true) (hs : Region.sinkB md ops n = true) (hc : Region.chainB md ops n = true) (hn : n < ops.size)
    (hQ : ∀ c a (d : Nat) v w, Q (.panic c) (a.put (some d) v) w → Q (.panic c) a w) {fuel : Nat} {w : World} (hS : S w) : ∀ (is : List Nat) (os : List Oper) (listed : Array Bool) (a : Act),
    (is.map fun i => ops[i]?) = os.map some → takeB md ops n is listed = true → wpTake P ops S (fun a' => wpAnyS P md ops Q S n fuel (listAll is listed) a' w) os a →
    wpAnyS P md ops Q S n (is.length + fuel) listed a w
  | [], [], listed, a, _, _, h => by simpa [wpTake, listAll] using h
  | i :: is, o :: os, listed, a, he, hB, h => by
    simp only [List.map_cons, List.cons.injEq] at he
    simp only [takeB, Bool.and_eq_true, decide_eq_true_eq] at hB
    obtain ⟨⟨⟨⟨b1, b2⟩, b3⟩, b4⟩, b5⟩ := hB
    obtain ⟨v, hy, h⟩ := h
    have e : (i :: is).length + fuel = (is.length + fuel) + 1 := by simp only [List.length_cons]; omega
    rw [e]
    exact wpAnyS_first he.1 (Region.noSelect_spec hsel) (fun c a w hp => by cases hd : o.dst <;> rw [hd] at hp <;> first | exact hp | exact hQ c a _ v w hp) hs hc hn b1 _ _ _ _ (headB_spec b2) (Region.free_spec he.1 b4) (by simpa using b3) hy hS
      (wpAnyS_takes hsel hs hc hn hQ hS is os _ _ he.2 b5 h)
  | [], _ :: _, _, _, he, _, _ => by simp at he
  | _ :: _, [], _, _, he, _, _ => by simp at he
/-- The beginning: the reads, then what is left in whatever order. -/
theorem wp_region_takes {id fuel : Nat} {a : Act} {w : World} {l : List Oper} (n : Nat) (S : World → Prop) (is : List Nat) (hm : P.follows .mixedOrders = true)
    (hB : (Region.noSelect l.toArray && Region.sinkB .any l.toArray n && Region.chainB .any l.toArray n && decide (n < l.toArray.size) && takeB .any l.toArray n is (Array.replicate l.toArray.size false) && decide (l.toArray.size = is.length + fuel) && is.all fun i => decide (i < l.length)) = true)
    (hQ : ∀ c a (d : Nat) v w, Q (.panic c) (a.put (some d) v) w → Q (.panic c) a w) (hS : S w.drew)
    (h : wpTake P l.toArray S (fun a' => wpAnyS P .any l.toArray Q S n fuel (listAll is (Array.replicate l.toArray.size false)) a' w.drew) (is.filterMap fun i => l[i]?) a) : (Code.region id l.toArray true).wp P Q a w := by
  simp only [Bool.and_eq_true, decide_eq_true_eq] at hB
  obtain ⟨⟨⟨⟨⟨⟨b1, b2⟩, b3⟩, b4⟩, b5⟩, hf⟩, b6⟩ := hB
  refine wp_region_any hm (wpAny_of_S (S := S) (n := n) _ _ _ _ ?_)
  have hos : (is.map fun i => l.toArray[i]?) = (is.filterMap fun i => l[i]?).map some := by
    clear hf h b5
    induction is with
    | nil => rfl
    | cons i is ih =>
      simp only [List.all_cons, Bool.and_eq_true, decide_eq_true_eq] at b6
      rw [List.map_cons, ih b6.2]
      simp [b6.1]
  have h2 := wpAnyS_takes (Q := Q) b1 b2 b3 b4 hQ hS is _ _ a hos b5 h
  rw [← hf] at h2
  exact h2
/-- On the way: more reads, then what is left. -/
theorem wpAnyS_more {fuel F : Nat} {a : Act} {w : World} {l : List Oper} {listed : Array Bool} (is : List Nat)
    (hB : (Region.noSelect l.toArray && Region.sinkB .any l.toArray n && Region.chainB .any l.toArray n && decide (n < l.toArray.size) && takeB .any l.toArray n is listed && decide (F = is.length + fuel) && is.all fun i => decide (i < l.length)) = true)
    (hQ : ∀ c a (d : Nat) v w, Q (.panic c) (a.put (some d) v) w → Q (.panic c) a w) (hS : S w)
    (h : wpTake P l.toArray S (fun a' => wpAnyS P .any l.toArray Q S n fuel (listAll is listed) a' w) (is.filterMap fun i => l[i]?) a) : wpAnyS P .any l.toArray Q S n F listed a w := by
  simp only [Bool.and_eq_true, decide_eq_true_eq] at hB
  obtain ⟨⟨⟨⟨⟨⟨b1, b2⟩, b3⟩, b4⟩, b5⟩, hf⟩, b6⟩ := hB
  have hos : (is.map fun i => l.toArray[i]?) = (is.filterMap fun i => l[i]?).map some := by
    clear hf h b5
    induction is with
    | nil => rfl
    | cons i is ih =>
      simp only [List.all_cons, Bool.and_eq_true, decide_eq_true_eq] at b6
      rw [List.map_cons, ih b6.2]
      simp [b6.1]
  have h2 := wpAnyS_takes (Q := Q) b1 b2 b3 b4 hQ hS is _ _ a hos b5 h
  rw [← hf] at h2
  exact h2
/-- Each of those that may come up. -/
def AllReadyS (P : Program) (md : Region.Mode) (ops : Array Oper) (Q : Exit → Act → World → Prop) (S : World → Prop) (n fuel : Nat) (listed : Array Bool) (a : Act) (w : World) (rs : List Nat) : Prop :=
  ∀ i ∈ rs, wpOp P ops Q i (fun a' w' => (i < n → S w') ∧ wpAnyS P md ops Q S n fuel (listed.setIfInBounds i true) a' w') a w
theorem AllReadyS.nil {fuel : Nat} {listed : Array Bool} {a : Act} {w : World} : AllReadyS P md ops Q S n fuel listed a w [] := fun _ h => by cases h
theorem AllReadyS.cons {fuel : Nat} {listed : Array Bool} {a : Act} {w : World} {i : Nat} {o : Oper} {rs : List Nat} (ho : ops[i]? = some o)
    (h : ∀ K' : Act → World → Prop, (∀ a w, S w → wpAnyS P md ops Q S n fuel (listed.setIfInBounds i true) a w → K' a w) → if Region.wanted o (yielded ops a.tmps) = true then Oper.wp P o a w K' Q else K' (a.put o.dst undef) w)
    (hs : AllReadyS P md ops Q S n fuel listed a w rs) : AllReadyS P md ops Q S n fuel listed a w (i :: rs) := fun j hj => by
  rcases List.mem_cons.1 hj with rfl | hj
  · exact wpOp_step ho (fun K' hK => h K' (fun a w hS hW => hK a w ⟨fun _ => hS, hW⟩))
  · exact hs j hj
theorem AllReadyS.one {fuel : Nat} {listed : Array Bool} {a : Act} {w : World} {i : Nat} {o : Oper} (ho : ops[i]? = some o)
    (h : ∀ K' : Act → World → Prop, (∀ a w, S w → wpAnyS P md ops Q S n fuel (listed.setIfInBounds i true) a w → K' a w) → if Region.wanted o (yielded ops a.tmps) = true then Oper.wp P o a w K' Q else K' (a.put o.dst undef) w) : AllReadyS P md ops Q S n fuel listed a w [i] := AllReadyS.cons ho h AllReadyS.nil
theorem wpAnyS_ready {rs : List Nat} {fuel : Nat} {listed : Array Bool} {a : Act} {w : World} (hr : Region.ready md ops listed = rs) (hne : rs ≠ [])
    (h : AllReadyS P md ops Q S n fuel listed a w rs) : wpAnyS P md ops Q S n (fuel + 1) listed a w := ⟨fun h0 => absurd (hr ▸ h0) hne, hr ▸ h⟩
/-- What stands behind in a forced order. -/
theorem wpAnyS_seq : ∀ (l : List Oper) (k : Nat) (listed : Array Bool) (a : Act) (w : World), n ≤ k → (∀ j, l[j]? = ops[k + j]?) →
    Region.seqB md ops l.length k listed = true → wpList P ops Q l a w → wpAnyS P md ops Q S n l.length listed a w
  | [], _, _, _, _, _, _, hB, h => ⟨by simpa [Region.seqB] using hB, h⟩
  | o :: l, k, listed, a, w, hk, hl, hB, h => by
    have h0 : ops[k]? = some o := by simpa using (hl 0).symm
    simp only [List.length_cons, Region.seqB, Bool.and_eq_true, decide_eq_true_eq] at hB
    refine ⟨fun h1 => (by rw [hB.1] at h1; cases h1), fun i hi => ?_⟩
    rw [hB.1] at hi
    have hik : i = k := by simpa using hi
    subst hik
    have hw : wpOp P ops Q i (wpList P ops Q l) a w := by unfold wpOp; simp only [h0]; exact h
    exact wpOp_mono (fun a' w' h' => ⟨fun h2 => by omega, wpAnyS_seq l (i + 1) _ a' w' (by omega) (fun j => by have := hl (j + 1); simpa [Nat.add_assoc, Nat.add_comm 1 j] using this) hB.2 h'⟩) hw
theorem wpAnyS_tail {l : List Oper} {listed : Array Bool} {a : Act} {w : World} (n g : Nat) (hB : Region.seqB md l.toArray g n listed = true) (hg : (l.drop n).length = g) (h : wpList P l.toArray Q (l.drop n) a w) : wpAnyS P md l.toArray Q S n g listed a w := by
  subst hg
  exact wpAnyS_seq (l.drop n) n listed a w (Nat.le_refl _) (fun j => by simp [List.getElem?_drop]) hB h
end
end Go.Proofs.YtcnchgbngcnijaaGreatDoor
namespace Go.Proofs.YtcnchgbngcnijaaGreatDoor
open Go Go.RowKit Go.Maps

section
variable {P : Program} {T E : TypeId} {z : Value} {by_ : Nat} {w : World} {xs : List Value} {A : Option Addr} {n c i : Nat} {o : Oper} {a : Act}
theorem run_take_v (t : SlV P T E z by_) (s x : Operand) (ho : o.op = Op.slice T s none (some x) none) (hs : a.eval s = .slice A n c) (hx : a.eval x = .int .i64 (i : Nat)) (hi : i ≤ c) :
    (execOp a.eval o).run P w = .ok (.value (sliced A 0 i c 1)) w := by
  have hr : (Instr.sliceAt T (.slice A n c) none (some (.int .i64 (i : Nat))) none).run P w = .ok (sliced A 0 i c 1) w := run_slice_own t _ _ _ 0 i c (by
    have e1 : ∀ code, (Instr.sliceBound (.int .i64 (i : Nat)) c code).run P w = .ok i w := fun code => by
      rw [run_sliceBound w .i64 (i : Nat) c code (by omega) (by omega), Int.toNat_natCast]
    simp [Instr.sliceBounds, e1])
  simp [execOp, ho, hs, hx, hr, Result.andThen]
theorem run_drop_v (t : SlV P T E z by_) (s x : Operand) (ho : o.op = Op.slice T s (some x) none none) (hs : a.eval s = .slice A n c) (hx : a.eval x = .int .i64 (i : Nat)) (hi : i ≤ n) :
    (execOp a.eval o).run P w = .ok (.value (sliced A i n c 1)) w := by
  have hr : (Instr.sliceAt T (.slice A n c) (some (.int .i64 (i : Nat))) none none).run P w = .ok (sliced A i n c 1) w := run_slice_own t _ _ _ i n c (by
    have e1 : ∀ code, (Instr.sliceBound (.int .i64 (i : Nat)) n code).run P w = .ok i w := fun code => by
      rw [run_sliceBound w .i64 (i : Nat) n code (by omega) (by omega), Int.toNat_natCast]
    simp [Instr.sliceBounds, e1])
  simp [execOp, ho, hs, hx, hr, Result.andThen]
section
variable {ops : Array Oper} {K : Act → World → Prop} {Q : Exit → Act → World → Prop} {E' : Prop}
/-- []T{} -/
theorem step_lit0 (t : SlV P T E z by_) (hgd : o.guard = none) (ho : o.op = Op.buildSlice T 0 #[])
    (hK : ∀ v w', OwnV E w' v [] → Chg [] w w' → (∀ k ∈ fpv v, w.heap.size ≤ k) → K (a.put o.dst v) w') : if Region.wanted o (yielded ops a.tmps) = true then Oper.wp P o a w K Q else E' := by
  have hw : Region.wanted o (yielded ops a.tmps) = true := by simp [Region.wanted, hgd]
  rw [if_pos hw]
  obtain ⟨i, hi, hz⟩ := Option.map_eq_some_iff.1 t.i
  simp only [Prod.mk.injEq] at hz
  obtain ⟨hz, hs, hb⟩ := hz
  have hr : (Instr.buildSlice T 0 #[]).run P w = .ok (.slice (some ⟨w.heap.size, 0, none⟩) 0 0) (w.alloc (.cells #[] E)) := by
    simp [Instr.buildSlice, run_underlying t.s, sizeOf, typeInfo, hi, Instr.fill, newRow, go_sem]
  unfold Oper.wp
  simp [execOp, ho, hr, Result.andThen]
  exact hK _ _ (OwnV.empty E w) ((Chg.refl [] w).alloc _) (fun k hk => by have := fpv_some hk; omega)
/-- []T{x} -/
theorem step_lit1 (t : SlV P T E z by_) {x : Value} {xo : Operand} (hgd : o.guard = none) (ho : o.op = Op.buildSlice T 1 #[(0, xo)]) (hx : a.eval xo = x) (h1 : x.oneCell' = true)
    (hK : ∀ g w', Blk w' g E #[x] → Chg [] w w' → g = w.heap.size → K (a.put o.dst (.slice (some ⟨g, 0, none⟩) 1 1)) w') : if Region.wanted o (yielded ops a.tmps) = true then Oper.wp P o a w K Q else E' := by
  have hw : Region.wanted o (yielded ops a.tmps) = true := by simp [Region.wanted, hgd]
  rw [if_pos hw]
  obtain ⟨i, hi, hz⟩ := Option.map_eq_some_iff.1 t.i
  simp only [Prod.mk.injEq] at hz
  obtain ⟨hz, hs, hb⟩ := hz
  have z1 := t.z1
  have hr : (Instr.buildSlice T 1 #[(0, x)]).run P w = .ok (.slice (some ⟨w.heap.size, 0, none⟩) 1 1) (w.alloc (.cells #[x] E)) := by
    have z2 : ¬ z.cells.size = 0 := by omega
    cases x <;> first | (cases h1; done) | simp [Instr.buildSlice, run_underlying t.s, sizeOf, typeInfo, hi, zeroValue, hz, hs, Instr.fill, newRow, go_sem]
  unfold Oper.wp
  simp [execOp, ho, hx, hr, Result.andThen]
  exact hK _ _ (Blk.new w E #[x]) ((Chg.refl [] w).alloc _) rfl
/-- make([]T, n) -/
theorem step_make (t : SlV P T E z by_) (hzc : z.cells = #[z]) {lo co : Operand} (hgd : o.guard = none) (ho : o.op = Op.makeSlice T lo co) (hl : a.eval lo = .int .i64 (n : Nat)) (hc : a.eval co = .int .i64 (n : Nat)) (hn : n ≤ 1000000)
    (hK : ∀ g w', Blk w' g E (zcells z n) → Chg [] w w' → g = w.heap.size → K (a.put o.dst (.slice (some ⟨g, 0, none⟩) n n)) w') : if Region.wanted o (yielded ops a.tmps) = true then Oper.wp P o a w K Q else E' := by
  have hw : Region.wanted o (yielded ops a.tmps) = true := by simp [Region.wanted, hgd]
  rw [if_pos hw]
  have hb := t.b
  have hr := run_make_z (P := P) T E z by_ t.s t.i hzc .i64 .i64 n (by have := Nat.mul_le_mul hb hn; omega) (by omega) w
  unfold Oper.wp
  simp [execOp, ho, hl, hc, hr, Result.andThen]
  exact hK _ _ (Blk.new w E _) ((Chg.refl [] w).alloc _) rfl
/-- append onto a list that is new since W. -/
theorem step_cat_f {W : World} {B : Nat} {v u : Value} {ys : List Value} (n : Nat) (hn : xs.length + ys.length = n) (hgd : o.guard = none) (s x : Operand)
    (ho : o.op = .call { callee := .builtin .append, args := #[s, x], argTypes := #[T, T] }) (t : SlV P T E z by_) (hs : a.eval s = v) (O : OwnV E w v xs) (D : Chg [] W w) (F : ∀ k ∈ fpv v, W.heap.size ≤ k)
    (hx : a.eval x = u) (U : RdV w B u ys) (hl : n ≤ 1000000)
    (hK : ∀ v' w', OwnV E w' v' (xs ++ ys) → Chg (fpv v) w w' → Chg [] W w' → (∀ k ∈ fpv v', k ∈ fpv v ∨ w.heap.size ≤ k) → (∀ k ∈ fpv v', W.heap.size ≤ k) → K (a.put o.dst v') w') : if Region.wanted o (yielded ops a.tmps) = true then Oper.wp P o a w K Q else E' :=
  step_cat_v n hn hgd s x ho t hs O hx U hl fun A' c' w' O' S => hK _ w' O' S.c (D.newS S.c F) S.f fun k hk => by
    rcases S.f k hk with h1 | h1
    · exact F k h1
    · exact Nat.le_trans D.size h1
end
end
end Go.Proofs.YtcnchgbngcnijaaGreatDoor
