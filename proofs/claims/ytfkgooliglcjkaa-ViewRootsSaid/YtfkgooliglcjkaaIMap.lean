/- A map from integers to integers that the call owns, told by a function. Plain theorems on worlds; no program in sight. -/
import Derived.Test.YtfkgooliglcjkaaMem
import Derived.Maps.OwnOps
import Derived.Maps.OwnSet
namespace Go.Proofs.Ytfkgooliglcjkaa
open Go.RowKit Go.Maps

structure IMap (P : Program) (K : TypeId) (w : World) (b n : Nat) (f : Int → Option Int) : Prop where
  ex : ∃ D : DataW Unit, w.ownsMap P K (plainElem P K) b n D ∧ IsMap D ∧ ∀ x, has D (.int .i64 x) = (f x).isSome ∧ ∀ v, f x = some v → D.atKey (.int .i64 x) (.lit (.int .i64 0)) = .lit (.int .i64 v)

/-- What an integer type of the program is. -/
structure IntTy (P : Program) (T K : TypeId) : Prop where
  m : P.underlying T = some (.map K K)
  i : P.underlying K = some (.int .i64)
  z : ∀ w, (zeroValue K).run P w = .ok (.int .i64 0) w

def putF (f : Int → Option Int) (x v : Int) : Int → Option Int := fun y => if y = x then some v else f y
def WfI (x : Int) : Prop := -9223372036854775808 ≤ x ∧ x ≤ 9223372036854775807
theorem WfI.wf {x : Int} (h : WfI x) : (Lit.int .i64 x).wf = true := by
  have e1 : IntKind.i64.min = -9223372036854775808 := by decide
  have e2 : IntKind.i64.max = 9223372036854775807 := by decide
  simp only [Lit.wf, e1, e2, Bool.and_eq_true, decide_eq_true_eq]; exact h

section
variable {P : Program} {T K : TypeId} {w w' : World} {b n : Nat} {f : Int → Option Int}
theorem IMap.made (w : World) (P : Program) (K : TypeId) : IMap P K (w.alloc (.map #[] 0)) w.heap.size 0 (fun _ => none) :=
  ⟨.map [], World.ownsMap_made _ _ _ _, isMap_empty, fun x => ⟨rfl, fun v h => by cases h⟩⟩
theorem IMap.lt (h : IMap P K w b n f) : b < w.heap.size := let ⟨_, h1, _⟩ := h.ex; h1.lt
theorem IMap.block (h : IMap P K w b n f) (hb : w'.heap[b]? = w.heap[b]?) : IMap P K w' b n f := by
  obtain ⟨D, ⟨es, cl, h1, h2⟩, r⟩ := h.ex
  exact ⟨D, ⟨es, cl, hb.trans h1, h2⟩, r⟩
theorem IMap.chg {S : List Nat} (h : IMap P K w b n f) (c : Chg S w w') (hn : b ∉ S) : IMap P K w' b n f := h.block (c.block b h.lt hn)
theorem IMap.alloc (h : IMap P K w b n f) (o : Obj) : IMap P K (w.alloc o) b n f := h.chg (S := []) ((Chg.refl _ w).alloc o) (by simp)
theorem IMap.drewN (h : IMap P K w b n f) (k : Nat) : IMap P K (w.drewN k) b n f := h.block rfl
theorem IMap.drew (h : IMap P K w b n f) : IMap P K w.drew b n f := h.block rfl
theorem IMap.mono (h : IMap P K w b n f) {m : Nat} (hm : n ≤ m) : IMap P K w b m f := let ⟨D, h1, r⟩ := h.ex; ⟨D, h1.mono hm, r⟩
theorem IMap.ext (h : IMap P K w b n f) {g : Int → Option Int} (e : ∀ x, f x = g x) : IMap P K w b n g := by
  have : f = g := funext e
  rw [← this]; exact h

theorem IMap.look (h : IMap P K w b n f) (t : IntTy P T K) {x : Int} (hx : WfI x) : (Instr.lookup T (.map (some b)) (.int .i64 x) false).run P w = .ok (.int .i64 ((f x).getD 0)) w := by
  obtain ⟨D, ho, hm, hf⟩ := h.ex
  obtain ⟨c, hrun, hat, _⟩ := ho.lookup_int (int_keyed t.i) t.m t.i (t.z w) (keyOf_int_mk t.i hx.wf)
  rw [hrun]
  obtain ⟨h1, h2⟩ := hf x
  cases e : f x with
  | none =>
    rw [e] at h1
    rw [atKey_of_not_has h1] at hat
    injection hat with hat
    injection hat with _ hat
    rw [← hat]; rfl
  | some v =>
    rw [h2 v e] at hat
    injection hat with hat
    injection hat with _ hat
    rw [← hat]; rfl
theorem IMap.lookOk (h : IMap P K w b n f) (t : IntTy P T K) {x : Int} (hx : WfI x) : (Instr.lookup T (.map (some b)) (.int .i64 x) true).run P w = .ok (.tuple #[.int .i64 ((f x).getD 0), .bool (f x).isSome]) w := by
  obtain ⟨D, ho, hm, hf⟩ := h.ex
  obtain ⟨v, ps, hrun, hv⟩ := ho.look_ok (int_keyed t.i) t.m (t.z w) (plainElem_int t.i (by decide)) (keyOf_int_mk t.i hx.wf)
  obtain ⟨c, rfl, hc, hwc⟩ := plainElem_int_inv t.i hv
  have hat := congrArg Prod.fst hc
  rw [hrun]
  obtain ⟨h1, h2⟩ := hf x
  rw [h1]
  cases e : f x with
  | none =>
    rw [e] at h1
    simp only [atKey_of_not_has h1] at hat
    injection hat with hat
    injection hat with _ hat
    rw [← hat]; rfl
  | some u =>
    simp only [h2 u e] at hat
    injection hat with hat
    injection hat with _ hat
    rw [← hat]; rfl
theorem IMap.put (h : IMap P K w b n f) (t : IntTy P T K) {x v : Int} (hx : WfI x) (hv : WfI v) (hn : n < maxLen) :
    ∃ w', (Instr.mapUpdate T (.map (some b)) (.int .i64 x) (.int .i64 v)).run P w = .ok () w' ∧ IMap P K w' b (n + 1) (putF f x v) ∧ Chg [b] w w' := by
  obtain ⟨D, ho, hm, hf⟩ := h.ex
  obtain ⟨w', hrun, r1, r2⟩ := ho.update (int_keyed t.i) t.m hn (keyOf_int_mk t.i hx.wf) (plainElem_int t.i hv.wf)
  refine ⟨w', hrun, ⟨_, r1, hm.put _ _, fun y => ?_⟩, (Chg.refl _ w).grown r2 (fun k hk => by injection hk with hk; exact .inl (by simp [hk]))⟩
  unfold putF
  by_cases e : y = x
  · subst e
    rw [if_pos rfl]
    exact ⟨has_put_same hm (show WideAt.IsKeyLit (Lit.int .i64 y) from trivial) _, fun u hu => by injection hu with hu; subst hu; exact atKey_put_same hm (show WideAt.IsKeyLit (Lit.int .i64 y) from trivial) _ _⟩
  · rw [if_neg e]
    have hne : (Lit.int .i64 y) ≠ (Lit.int .i64 x) := by simpa using e
    exact ⟨(has_put_other hne _).trans (hf y).1, fun u hu => (atKey_put_other hne _ _).trans ((hf y).2 u hu)⟩
end

section
variable {P : Program} {T K : TypeId} {w : World} {b n : Nat} {f : Int → Option Int}
  {ops : Array Oper} {rest : List Oper} {o : Oper} {a : Act} {Q : Exit → Act → World → Prop}
theorem wpList_imap_look (hg : o.guard = none) (m x : Operand) (hop : o.op = Op.lookup T m x false) (h : IMap P K w b n f) (t : IntTy P T K) (hm : a.eval m = .map (some b)) {k : Int} (hx : a.eval x = .int .i64 k) (hk : WfI k)
    (hK : wpList P ops Q rest (a.put o.dst (.int .i64 ((f k).getD 0))) w) : wpList P ops Q (o :: rest) a w := by
  refine wpList_plain hg fun K' hK' => ?_
  unfold Oper.wp
  simp [execOp, hop, hm, hx, h.look t hk, Result.andThen]
  exact hK' _ _ hK
theorem wpList_imap_lookOk (hg : o.guard = none) (m x : Operand) (hop : o.op = Op.lookup T m x true) (h : IMap P K w b n f) (t : IntTy P T K) (hm : a.eval m = .map (some b)) {k : Int} (hx : a.eval x = .int .i64 k) (hk : WfI k)
    (hK : wpList P ops Q rest (a.put o.dst (.tuple #[.int .i64 ((f k).getD 0), .bool (f k).isSome])) w) : wpList P ops Q (o :: rest) a w := by
  refine wpList_plain hg fun K' hK' => ?_
  unfold Oper.wp
  simp [execOp, hop, hm, hx, h.lookOk t hk, Result.andThen]
  exact hK' _ _ hK
theorem wpList_imap_put (hg : o.guard = none) (m x v : Operand) (hop : o.op = Op.mapUpdate T m x v) (h : IMap P K w b n f) (t : IntTy P T K) (hm : a.eval m = .map (some b)) {k u : Int} (hx : a.eval x = .int .i64 k) (hk : WfI k) (hv : a.eval v = .int .i64 u) (hu : WfI u) (hn : n < maxLen)
    (hK : ∀ w', IMap P K w' b (n + 1) (putF f k u) → Chg [b] w w' → wpList P ops Q rest (a.put o.dst undef) w') : wpList P ops Q (o :: rest) a w := by
  refine wpList_plain hg fun K' hK' => ?_
  obtain ⟨w', hrun, r1, r2⟩ := h.put t hk hu hn
  unfold Oper.wp
  simp [execOp, hop, hm, hx, hv, hrun, Result.andThen]
  exact hK' _ _ (hK w' r1 r2)
theorem wpList_imap_insert (hg : o.guard = none) (m x v : Operand) (hop : o.op = Op.insert T m x v) (h : IMap P K w b n f) (t : IntTy P T K) (hm : a.eval m = .map (some b)) {k u : Int} (hx : a.eval x = .int .i64 k) (hk : WfI k) (hv : a.eval v = .int .i64 u) (hu : WfI u) (hn : n < maxLen)
    (hK : ∀ w', IMap P K w' b (n + 1) (putF f k u) → Chg [b] w w' → wpList P ops Q rest (a.put o.dst undef) w') : wpList P ops Q (o :: rest) a w := by
  refine wpList_plain hg fun K' hK' => ?_
  obtain ⟨w', hrun, r1, r2⟩ := h.put t hk hu hn
  unfold Oper.wp
  simp [execOp, hop, hm, hx, hv, hrun, Result.andThen]
  exact hK' _ _ (hK w' r1 r2)
end
end Go.Proofs.Ytfkgooliglcjkaa
