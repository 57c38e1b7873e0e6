/- A map from integers to any values that the call owns, told by a function. Plain theorems on worlds; no program in sight. -/
import Derived.Test.YtcnchgbngcnijaaGreatDoorMem
import Derived.Maps.OwnOps
import Derived.Maps.OwnSet
namespace Go.Proofs.YtcnchgbngcnijaaGreatDoor
open Go.RowKit Go.Maps

/-- Any value, as it is. -/
def heldE (v : Value) : Option (DataW Value × List MemPlace) := some (.held v, [])
structure VMap (P : Program) (K : TypeId) (w : World) (b n : Nat) (f : Int → Option Value) : Prop where
  ex : ∃ D : DataW Value, w.ownsMap P K heldE b n D ∧ IsMap D ∧ ∀ x, has D (.int .i64 x) = (f x).isSome ∧ ∀ v, f x = some v → ∀ zd, D.atKey (.int .i64 x) zd = .held v
/-- What a map type of the program is. -/
structure VTy (P : Program) (T K E : TypeId) (z : Value) : Prop where
  m : P.underlying T = some (.map K E)
  i : P.underlying K = some (.int .i64)
  z : ∀ w, (zeroValue E).run P w = .ok z w
def putV (f : Int → Option Value) (x : Int) (v : Value) : Int → Option Value := fun y => if y = x then some v else f y
def delV (f : Int → Option Value) (x : Int) : Int → Option Value := fun y => if y = x then none else f y
def Wf64 (x : Int) : Prop := -9223372036854775808 ≤ x ∧ x ≤ 9223372036854775807
theorem Wf64.wf {x : Int} (h : Wf64 x) : (Lit.int .i64 x).wf = true := by
  have e1 : IntKind.i64.min = -9223372036854775808 := by decide
  have e2 : IntKind.i64.max = 9223372036854775807 := by decide
  simp only [Lit.wf, e1, e2, Bool.and_eq_true, decide_eq_true_eq]; exact h
section
variable {P : Program} {T K E : TypeId} {z : Value} {w w' : World} {b n : Nat} {f : Int → Option Value}
theorem VMap.made (w : World) (P : Program) (K : TypeId) : VMap P K (w.alloc (.map #[] 0)) w.heap.size 0 (fun _ => none) :=
  ⟨.map [], World.ownsMap_made _ _ _ _, isMap_empty, fun x => ⟨rfl, fun v h => by cases h⟩⟩
theorem VMap.lt (h : VMap P K w b n f) : b < w.heap.size := let ⟨_, h1, _⟩ := h.ex; h1.lt
theorem VMap.block (h : VMap P K w b n f) (hb : w'.heap[b]? = w.heap[b]?) : VMap P K w' b n f := by
  obtain ⟨D, ⟨es, cl, h1, h2⟩, r⟩ := h.ex
  exact ⟨D, ⟨es, cl, hb.trans h1, h2⟩, r⟩
theorem VMap.chg {S : List Nat} (h : VMap P K w b n f) (c : Chg S w w') (hn : b ∉ S) : VMap P K w' b n f := h.block (c.block b h.lt hn)
theorem VMap.mono (h : VMap P K w b n f) {m : Nat} (hm : n ≤ m) : VMap P K w b m f := let ⟨D, h1, r⟩ := h.ex; ⟨D, h1.mono hm, r⟩
theorem VMap.ext (h : VMap P K w b n f) {g : Int → Option Value} (e : ∀ x, f x = g x) : VMap P K w b n g := by
  have : f = g := funext e
  rw [← this]; exact h
/-- No map is a row of cells. -/
theorem VMap.ne_blk {g : Nat} {t : TypeId} {cs : Array Value} (h : VMap P K w b n f) (hb : Blk w g t cs) : b ≠ g := by
  rintro rfl
  obtain ⟨D, ⟨es, cl, h1, _⟩, _⟩ := h.ex
  unfold Blk at hb
  rw [hb] at h1; cases h1
theorem VMap.look (h : VMap P K w b n f) (t : VTy P T K E z) {x : Int} (hx : Wf64 x) : (Instr.lookup T (.map (some b)) (.int .i64 x) false).run P w = .ok ((f x).getD z) w := by
  obtain ⟨D, ho, hm, hf⟩ := h.ex
  obtain ⟨c, ps, hrun, hat⟩ := ho.lookup (int_keyed t.i) t.m (t.z w) (zd := .held z) (zp := []) rfl (keyOf_int_mk t.i hx.wf)
  rw [hrun]
  obtain ⟨h1, h2⟩ := hf x
  have hc : DataW.held c = D.atKey (.int .i64 x) (.held z) := by simpa [heldE] using congrArg (Option.map Prod.fst) hat
  cases e : f x with
  | none =>
    rw [e] at h1
    rw [atKey_of_not_has h1] at hc
    injection hc with hc
    rw [hc]; rfl
  | some v =>
    rw [h2 v e] at hc
    injection hc with hc
    rw [hc]; rfl
theorem Chg.turned (h : w.mapTurned w' b) : Chg [b] w w' := (Chg.refl _ w).grown h.grown (fun k hk => by injection hk with hk; exact .inl (by simp [hk]))
theorem VMap.put (h : VMap P K w b n f) (t : VTy P T K E z) {x : Int} (hx : Wf64 x) (v : Value) (hn : n < maxLen) :
    ∃ w', (Instr.mapUpdate T (.map (some b)) (.int .i64 x) v).run P w = .ok () w' ∧ VMap P K w' b (n + 1) (putV f x v) ∧ Chg [b] w w' ∧ w'.heap.size = w.heap.size := by
  obtain ⟨D, ho, hm, hf⟩ := h.ex
  obtain ⟨w', hrun, r1, r2⟩ := ho.store (int_keyed t.i) t.m hn (keyOf_int_mk t.i hx.wf) (val := v) (d := .held v) (ps := []) rfl
  refine ⟨w', hrun, ⟨_, r1, hm.put _ _, fun y => ?_⟩, Chg.turned r2, ?_⟩
  · unfold putV
    by_cases e : y = x
    · subst e
      rw [if_pos rfl]
      exact ⟨has_put_same hm (show WideAt.IsKeyLit (Lit.int .i64 y) from trivial) _, fun u hu zd => by injection hu with hu; subst hu; exact atKey_put_same hm (show WideAt.IsKeyLit (Lit.int .i64 y) from trivial) _ _⟩
    · rw [if_neg e]
      have hne : (Lit.int .i64 y) ≠ (Lit.int .i64 x) := by simpa using e
      exact ⟨(has_put_other hne _).trans (hf y).1, fun u hu zd => (atKey_put_other hne _ _).trans ((hf y).2 u hu zd)⟩
  · obtain ⟨es, cl, es', cl', hb, rfl⟩ := r2
    exact Array.size_setIfInBounds
theorem VMap.del (h : VMap P K w b n f) (t : VTy P T K E z) {x : Int} (hx : Wf64 x) (ty : TypeId) :
    ∃ w', (Builtin.delete_ #[T, K] ty #[.map (some b), .int .i64 x]).run P w = .ok (.tuple #[]) w' ∧ VMap P K w' b n (delV f x) ∧ Chg [b] w w' ∧ w'.heap.size = w.heap.size := by
  obtain ⟨D, ho, hm, hf⟩ := h.ex
  obtain ⟨w', hrun, r1, r2⟩ := ho.drop (int_keyed t.i) t.m (keyOf_int_mk t.i hx.wf) ty
  refine ⟨w', hrun, ⟨_, r1, hm.del _, fun y => ?_⟩, Chg.turned r2, ?_⟩
  · unfold delV
    by_cases e : y = x
    · subst e
      rw [if_pos rfl]
      exact ⟨has_del_same, fun u hu => by cases hu⟩
    · rw [if_neg e]
      have hne : (Lit.int .i64 y) ≠ (Lit.int .i64 x) := by simpa using e
      exact ⟨(has_del_other hne).trans (hf y).1, fun u hu zd => (atKey_del_other hne _).trans ((hf y).2 u hu zd)⟩
  · obtain ⟨es, cl, es', cl', hb, rfl⟩ := r2
    exact Array.size_setIfInBounds
end
section
variable {P : Program} {T K E : TypeId} {z : Value} {w : World} {b n : Nat} {f : Int → Option Value}
  {ops : Array Oper} {rest : List Oper} {o : Oper} {a : Act} {Q : Exit → Act → World → Prop}
theorem wpList_vmap_put (hg : o.guard = none) (m x v : Operand) (hop : o.op = Op.mapUpdate T m x v) (h : VMap P K w b n f) (t : VTy P T K E z) (hm : a.eval m = .map (some b)) {k : Int} {u : Value} (hx : a.eval x = .int .i64 k) (hk : Wf64 k) (hv : a.eval v = u) (hn : n < maxLen)
    (hK : ∀ w', VMap P K w' b (n + 1) (putV f k u) → Chg [b] w w' → w'.heap.size = w.heap.size → wpList P ops Q rest (a.put o.dst undef) w') : wpList P ops Q (o :: rest) a w := by
  refine wpList_plain hg fun K' hK' => ?_
  obtain ⟨w', hrun, r1, r2, r3⟩ := h.put t hk u hn
  unfold Oper.wp
  simp [execOp, hop, hm, hx, hv, hrun, Result.andThen]
  exact hK' _ _ (hK w' r1 r2 r3)
end
end Go.Proofs.YtcnchgbngcnijaaGreatDoor
