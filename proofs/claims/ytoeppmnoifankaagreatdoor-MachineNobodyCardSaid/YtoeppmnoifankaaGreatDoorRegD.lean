/- Regions that draw their order in functions that defer: as XReg; a slot that names a result is not laid there. -/
import Derived.Test.YtoeppmnoifankaaGreatDoorMOw
import Derived.Defers
namespace Go.Proofs.YtoeppmnoifankaaGreatDoor
open Go Go.RowKit Go.Maps

section
variable {P : Program} {ops : Array Oper} {Q : Exit → Act → World → Prop} {md : Region.Mode} {S : World → Prop} {n : Nat}
theorem wpAnyS_takesD (hsel : Region.noSelect ops = true) (hs : Region.sinkB md ops n = true) (hc : Region.chainB md ops n = true) (hn : n < ops.size) {fuel : Nat} {w : World} (hS : S w) : ∀ (is : List Nat) (os : List Oper) (listed : Array Bool) (a : Act),
    (∀ o ∈ os, ∀ c a v w, Q (.panic c) (a.put o.dst v) w → Q (.panic c) a w) →
    (is.map fun i => ops[i]?) = os.map some → takeB md ops n is listed = true → wpTake P ops S (fun a' => wpAnyS P md ops Q S n fuel (listAll is listed) a' w) os a →
    wpAnyS P md ops Q S n (is.length + fuel) listed a w
  | [], [], listed, a, _, _, _, h => by simpa [wpTake, listAll] using h
  | i :: is, o :: os, listed, a, hQ, he, hB, h => by
    simp only [List.map_cons, List.cons.injEq] at he
    simp only [takeB, Bool.and_eq_true, decide_eq_true_eq] at hB
    obtain ⟨⟨⟨⟨b1, b2⟩, b3⟩, b4⟩, b5⟩ := hB
    obtain ⟨v, hy, h⟩ := h
    have e : (i :: is).length + fuel = (is.length + fuel) + 1 := by simp only [List.length_cons]; omega
    rw [e]
    exact wpAnyS_first he.1 (Region.noSelect_spec hsel) (fun c a w hp => hQ o (by simp) c a v w hp) hs hc hn b1 _ _ _ _ (headB_spec b2) (Region.free_spec he.1 b4) (by simpa using b3) hy hS
      (wpAnyS_takesD hsel hs hc hn hS is os _ _ (fun o' ho' => hQ o' (by simp [ho'])) he.2 b5 h)
  | [], _ :: _, _, _, _, he, _, _ => by simp at he
  | _ :: _, [], _, _, _, he, _, _ => by simp at he
theorem takes_list {l : List Oper} {is : List Nat} (b6 : (is.all fun i => decide (i < l.length)) = true) : (is.map fun i => l.toArray[i]?) = (is.filterMap fun i => l[i]?).map some := by
  induction is with
  | nil => rfl
  | cons i is ih =>
    simp only [List.all_cons, Bool.and_eq_true, decide_eq_true_eq] at b6
    rw [List.map_cons, ih b6.2]
    simp [b6.1]
theorem takes_mem {l : List Oper} {is : List Nat} {o : Oper} (h : o ∈ is.filterMap fun i => l[i]?) : o ∈ l := by
  obtain ⟨i, _, hi⟩ := List.mem_filterMap.1 h
  exact List.mem_of_getElem? hi
theorem wp_region_takesD {id fuel : Nat} {a : Act} {w : World} {l : List Oper} (n : Nat) (S : World → Prop) (is : List Nat) (hm : P.follows .mixedOrders = true)
    (hB : (Region.noSelect l.toArray && Region.sinkB .any l.toArray n && Region.chainB .any l.toArray n && decide (n < l.toArray.size) && takeB .any l.toArray n is (Array.replicate l.toArray.size false) && decide (l.toArray.size = is.length + fuel) && is.all fun i => decide (i < l.length)) = true)
    (hQ : ∀ o ∈ l, ∀ c a v w, Q (.panic c) (a.put o.dst v) w → Q (.panic c) a w) (hS : S w.drew)
    (h : wpTake P l.toArray S (fun a' => wpAnyS P .any l.toArray Q S n fuel (listAll is (Array.replicate l.toArray.size false)) a' w.drew) (is.filterMap fun i => l[i]?) a) : (Code.region id l.toArray true).wp P Q a w := by
  simp only [Bool.and_eq_true, decide_eq_true_eq] at hB
  obtain ⟨⟨⟨⟨⟨⟨b1, b2⟩, b3⟩, b4⟩, b5⟩, hf⟩, b6⟩ := hB
  refine wp_region_any hm (wpAny_of_S (S := S) (n := n) _ _ _ _ ?_)
  have h2 := wpAnyS_takesD (Q := Q) b1 b2 b3 b4 hS is _ _ a (fun o ho => hQ o (takes_mem ho)) (takes_list b6) b5 h
  rw [← hf] at h2
  exact h2
theorem wpAnyS_moreD {fuel F : Nat} {a : Act} {w : World} {l : List Oper} {listed : Array Bool} (is : List Nat)
    (hB : (Region.noSelect l.toArray && Region.sinkB .any l.toArray n && Region.chainB .any l.toArray n && decide (n < l.toArray.size) && takeB .any l.toArray n is listed && decide (F = is.length + fuel) && is.all fun i => decide (i < l.length)) = true)
    (hQ : ∀ o ∈ l, ∀ c a v w, Q (.panic c) (a.put o.dst v) w → Q (.panic c) a w) (hS : S w)
    (h : wpTake P l.toArray S (fun a' => wpAnyS P .any l.toArray Q S n fuel (listAll is listed) a' w) (is.filterMap fun i => l[i]?) a) : wpAnyS P .any l.toArray Q S n F listed a w := by
  simp only [Bool.and_eq_true, decide_eq_true_eq] at hB
  obtain ⟨⟨⟨⟨⟨⟨b1, b2⟩, b3⟩, b4⟩, b5⟩, hf⟩, b6⟩ := hB
  have h2 := wpAnyS_takesD (Q := Q) b1 b2 b3 b4 hS is _ _ a (fun o ho => hQ o (takes_mem ho)) (takes_list b6) b5 h
  rw [← hf] at h2
  exact h2
end
theorem Leaves_congr {P : Program} {fn : Func} {t t' : Array Value} {R : Ending → World → Prop} (h : results fn t = results fn t') : ∀ (ds : List Deferred) (u : FrameMode) (w : World), Leaves P fn t R ds u w → Leaves P fn t' R ds u w
  | [], .returning, w, H => by
    obtain ⟨v, h1, h2⟩ := H
    exact ⟨v, by rw [← h]; exact h1, h2⟩
  | [], .panicking _, _, H => H
  | [], .run, _, H => H
  | d :: ds, u, w, ⟨h1, fv, cap, f, args, h2, h3, h4⟩ => ⟨h1, fv, cap, f, args, h2, h3, h4.mono fun e u' w' H => by
    cases e with
    | returned v => exact Leaves_congr h ds _ _ H
    | panicked c => exact Leaves_congr h ds _ _ H
    | outgrown => exact H⟩
theorem hQ3 {P : Program} {fn : Func} {R : Ending → World → Prop} {p q r : Tmp} {t1 t2 t3 : TypeId} (hres : fn.results = #[.cell p t1, .cell q t2, .cell r t3]) {l : List Oper} (hl : (l.all fun o => decide (o.dst ≠ some p) && decide (o.dst ≠ some q) && decide (o.dst ≠ some r)) = true) :
    ∀ o ∈ l, ∀ c a v w, bodyPostD P fn R (.panic c) (a.put o.dst v) w → bodyPostD P fn R (.panic c) a w := by
  intro o ho c a v w H
  have h1 := List.all_eq_true.1 hl o ho
  simp only [Bool.and_eq_true, decide_eq_true_eq] at h1
  obtain ⟨⟨n1, n2⟩, n3⟩ := h1
  cases hd : o.dst with
  | none => rw [hd] at H; exact H
  | some d =>
    rw [hd] at H n1 n2 n3
    have g : ∀ k, d ≠ k → (a.tmps.setIfInBounds d v)[k]?.getD undef = a.tmps[k]?.getD undef := fun k hk => by
      rw [Array.getElem?_setIfInBounds_ne hk]
    have e : results fn (a.tmps.setIfInBounds d v) = results fn a.tmps := by
      simp only [results, hres]
      simp [g p (fun e => n1 (by rw [e])), g q (fun e => n2 (by rw [e])), g r (fun e => n3 (by rw [e]))]
    exact Leaves_congr e _ _ _ H
end Go.Proofs.YtoeppmnoifankaaGreatDoor
