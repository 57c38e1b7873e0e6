/- The walks of package class. -/
/- The walks of package class: Pages, Slots, Of. -/
/- The walks of the document's Sizes, Size, Of (layer 4). -/
/- The walks of package span. -/
/- The walks of package span: Addr, At, Full, Alloc, Mark. -/
/- The walks of package span: At, Mark. -/
/- The walk of package span: Sweep. -/
/- A map from integers to any values that the call owns, told by a function. Plain theorems on worlds; no program in sight. -/
import Derived.Test.YthjplmminmhiaaaGreatDoorMemJ
import Derived.BigQuiet
import Derived.Deep.LoopGhost
import Derived.Deep.DeepCutAuto
import Derived.Deep.RegionLaw
import Derived.IntWalk
import Derived.Maps.OwnOps
import Derived.Maps.OwnSet
namespace Go.Proofs.YthjplmminmhiaaaGreatDoor
open Go.RowKit

def szL : List Nat := [1, 2, 3, 4, 6, 8, 12, 16, 24, 32, 48, 64, 96, 128, 192, 256]
def pgL : List Nat := [1, 1, 1, 1, 1, 1, 1, 1, 2, 1, 3, 1, 3, 2, 3, 4]
def slL : List Nat := [64, 32, 21, 16, 10, 8, 5, 4, 5, 2, 4, 1, 2, 1, 1, 1]
def szK (k : Nat) : Nat := szL.getD k 0
def pgK (k : Nat) : Nat := pgL.getD k 0
def slK (k : Nat) : Nat := slL.getD k 0
def isK (k : Int) : Prop := 0 ≤ k ∧ k < 16
instance (k : Int) : Decidable (isK k) := inferInstanceAs (Decidable (_ ∧ _))
def szI (k : Int) : Int := if isK k then szK k.toNat else 0
def pgI (k : Int) : Int := if isK k then pgK k.toNat else 0
def slI (k : Int) : Int := if isK k then slK k.toNat else 0
def szA : Array Value := (szL.map fun (n : Nat) => Value.int .i64 (n : Int)).toArray
def NwPost (v : Value) (w : World) (e : Ending) (w' : World) : Prop := e = .returned v ∧ Chg [] w w'
set_option maxHeartbeats 1600000 in
set_option maxRecDepth 100000 in
theorem table_ok (w : World) : Calls Tryz.prog 216 #[] w (NwPost (.agg szA) w) := by
  go_enter Tryz.func216, Tryz.ntmps216
  go_wp2_with fail
  exact ⟨rfl, _, results_cell_row (P := Tryz.prog) (fn := Tryz.f216) rfl _ _ _ _ _ _ _ rfl (heap_alloc_new w _) Tryz.underlying88 (by rfl) (by kernel_rfl), rfl, (Chg.refl [] w).alloc _⟩
set_option maxHeartbeats 1600000 in
set_option maxRecDepth 100000 in
theorem count_ok (w : World) : Calls Tryz.prog 130 #[] w (NwPost (.int .i64 16) w) := by
  go_enter Tryz.func130, Tryz.ntmps130
  go_wp2_with fail
  refine (table_ok w).mono ?_
  rintro e w1 ⟨rfl, c1⟩
  go_wp2_with fail
  go_ret
  exact ⟨rfl, c1⟩
end Go.Proofs.YthjplmminmhiaaaGreatDoor
namespace Go.Proofs.YthjplmminmhiaaaGreatDoor
open Go.RowKit

/-- p pages serve a size s. -/
def fitP (s p : Nat) : Bool := decide (p * 64 % s * 8 ≤ p * 64 - p * 64 % s)
def CpRel (w0 : World) (P : Nat) (gk : Nat) (idx : Value) (w : World) : Prop := ∃ p, gk + p = P + 1 ∧ 1 ≤ p ∧ p ≤ P ∧ idx = .int .i64 (p : Nat) ∧ Chg [] w0 w
end Go.Proofs.YthjplmminmhiaaaGreatDoor
namespace Go.Proofs.YthjplmminmhiaaaGreatDoor
open Go.RowKit

def SzsPost (w : World) (e : Ending) (w' : World) : Prop := e = .returned (.slice (some ⟨w.heap.size, 0, none⟩) 16 16) ∧ Blk w' w.heap.size 3 szA ∧ Chg [] w w'
/-- The class of a size: the least that bears it. -/
def OfSays (n q : Nat) : Prop := q < 16 ∧ n ≤ szK q ∧ ∀ j, j < q → szK j < n
def OfPost (n : Nat) (w : World) (e : Ending) (w' : World) : Prop := ∃ q, OfSays n q ∧ NwPost (.int .i64 (q : Nat)) w e w'
def RoRel (w0 : World) (n : Int) (gk : Nat) (idx : Value) (w : World) : Prop := ∃ k, gk + k = 17 ∧ k ≤ 15 ∧ idx = .int .i64 (k : Nat) ∧ (∀ j, j < k → (szK j : Int) < n) ∧ Chg [] w0 w
end Go.Proofs.YthjplmminmhiaaaGreatDoor
namespace Go.Proofs.YthjplmminmhiaaaGreatDoor
open Go.RowKit

structure Sp where
  first : Nat
  k : Nat
  F : Nat → Bool
  M : Nat → Bool
  fr : Nat
structure SpB where
  g : Nat
  u : Nat
  ua : Nat
  m : Nat
  ma : Nat
def SpB.l (b : SpB) : List Nat := [b.g, b.u, b.ua, b.m, b.ma]
structure IsSp (w : World) (b : SpB) (s : Sp) : Prop where
  hb : Blk w b.g 235 #[.int .i64 s.first, .int .i64 s.k, .pointer (some ⟨b.u, 0, none⟩), .pointer (some ⟨b.m, 0, none⟩), .int .i64 s.fr]
  hu : IsSet w b.u b.ua (slK s.k) s.F
  hm : IsSet w b.m b.ma (slK s.k) s.M
  hk : s.k < 16
  f1 : 1 ≤ s.first
  f2 : s.first ≤ 262144
  fr : s.fr ≤ 64
  ne : b.u ≠ b.m
  ne2 : b.ua ≠ b.ma
section
variable {w w' : World} {b : SpB} {s : Sp}
theorem IsSp.chg {S : List Nat} (h : IsSp w b s) (c : Chg S w w') (hn : ∀ k ∈ b.l, k ∉ S) : IsSp w' b s :=
  ⟨c.blk h.hb (hn _ (by simp [SpB.l])), h.hu.chg c (hn _ (by simp [SpB.l])) (hn _ (by simp [SpB.l])), h.hm.chg c (hn _ (by simp [SpB.l])) (hn _ (by simp [SpB.l])), h.hk, h.f1, h.f2, h.fr, h.ne, h.ne2⟩
theorem IsSp.lt (h : IsSp w b s) : ∀ k ∈ b.l, k < w.heap.size := fun k hk => by
  simp only [SpB.l, List.mem_cons, List.not_mem_nil, or_false] at hk
  rcases hk with rfl | rfl | rfl | rfl | rfl
  · exact h.hb.lt
  · exact h.hu.b.lt
  · exact h.hu.d.lt
  · exact h.hm.b.lt
  · exact h.hm.d.lt
end
/-! New -/
def SnPost (first k : Nat) (w : World) (e : Ending) (w' : World) : Prop := ∃ b : SpB, e = .returned (.tuple #[.pointer (some ⟨b.g, 0, none⟩), .int .i64 0]) ∧ IsSp w' b ⟨first, k, fun _ => false, fun _ => false, 0⟩ ∧ Chg [] w w' ∧ ∀ j ∈ b.l, w.heap.size ≤ j
/-! asks -/
section
variable (w : World) (b : SpB) (s : Sp) (I : IsSp w b s)
include I
end
end Go.Proofs.YthjplmminmhiaaaGreatDoor
namespace Go.Proofs.YthjplmminmhiaaaGreatDoor
open Go.RowKit

def Sp.addr (s : Sp) (i : Nat) : Nat := s.first * 64 + i * szK s.k
section
variable (w : World) (b : SpB) (s : Sp) (I : IsSp w b s)
include I
/-! Full, Alloc -/
def SfPost (s : Sp) (w : World) (e : Ending) (w' : World) : Prop := ∃ r : Int, e = .returned (.bool (decide (r < 0))) ∧ NextSays (slK s.k) (notF s.F) s.fr r ∧ Chg [] w w'
def SaPost (b : SpB) (s : Sp) (black : Bool) (w : World) (e : Ending) (w' : World) : Prop :=
  (e = .returned (.tuple #[.int .i64 0, .bool false]) ∧ (∀ x, s.fr ≤ x → x < slK s.k → s.F x = true) ∧ Chg [] w w') ∨
  ∃ y : Nat, e = .returned (.tuple #[.int .i64 y, .bool true]) ∧ s.fr ≤ y ∧ y < slK s.k ∧ s.F y = false ∧ (∀ x, s.fr ≤ x → x < y → s.F x = true) ∧ IsSp w' b ⟨s.first, s.k, setF s.F y, if black then setF s.M y else s.M, y⟩ ∧ Chg b.l w w'
end
end Go.Proofs.YthjplmminmhiaaaGreatDoor
namespace Go.Proofs.YthjplmminmhiaaaGreatDoor
open Go.RowKit

section
variable (w : World) (b : SpB) (s : Sp) (I : IsSp w b s)
include I
def SkPost (b : SpB) (s : Sp) (i : Nat) (w : World) (e : Ending) (w' : World) : Prop :=
  e = .returned (.bool (s.F i && !(s.M i))) ∧ IsSp w' b ⟨s.first, s.k, s.F, if s.F i then setF s.M i else s.M, s.fr⟩ ∧ Chg b.l w w'
def StPost (i : Nat) (w : World) (e : Ending) (w' : World) : Prop := e = .returned (.tuple #[.int .i64 i, .bool true]) ∧ Chg [] w w'
end
end Go.Proofs.YthjplmminmhiaaaGreatDoor
namespace Go.Proofs.YthjplmminmhiaaaGreatDoor
open Go.RowKit

def SwPost (b : SpB) (s : Sp) (w : World) (e : Ending) (w' : World) : Prop :=
  ∃ v, e = .returned v ∧ OwnI 3 w' v (intsN ((allN s.F (slK s.k)).filter fun i => !(s.M i))) ∧ IsSp w' ⟨b.g, b.m, b.ma, b.u, b.ua⟩ ⟨s.first, s.k, s.M, fun _ => false, 0⟩ ∧ Chg b.l w w' ∧ ∀ j ∈ fpv v, w.heap.size ≤ j
def outTo (M : Nat → Bool) (al : List Nat) (i : Nat) : List Int := intsN ((al.take i).filter fun i => !(M i))
def SwRel1 (w0 : World) (M : Nat → Bool) (al : List Nat) (gk : Nat) (v idx : Value) (w : World) : Prop :=
  ∃ i, gk + i = al.length + 1 ∧ i ≤ al.length ∧ idx = .int .i64 (i : Nat) ∧ OwnI 3 w v (outTo M al i) ∧ Chg [] w0 w ∧ (∀ j ∈ fpv v, w0.heap.size ≤ j)
def clrTo (F : Nat → Bool) (al : List Nat) (i x : Nat) : Bool := F x && !((al.take i).contains x)
def SwRel2 (w0 : World) (u ua n : Nat) (F : Nat → Bool) (al : List Nat) (gk : Nat) (idx : Value) (w : World) : Prop :=
  ∃ i, gk + i = al.length + 1 ∧ i ≤ al.length ∧ idx = .int .i64 (i : Nat) ∧ IsSet w u ua n (clrTo F al i) ∧ Chg [u, ua] w0 w
end Go.Proofs.YthjplmminmhiaaaGreatDoor
namespace Go.Proofs.YthjplmminmhiaaaGreatDoor
open Go.RowKit Go.Maps

/-- Any value, as it is. -/
def heldE (v : Value) : Option (DataW Value × List MemPlace) := some (.held v, [])
structure VMap (P : Program) (K : TypeId) (w : World) (b n : Nat) (f : Int → Option Value) : Prop where
  ex : ∃ D : DataW Value, w.ownsMap P K heldE b n D ∧ IsMap D ∧ ∀ x, has D (.int .i64 x) = (f x).isSome ∧ ∀ v, f x = some v → ∀ zd, D.atKey (.int .i64 x) zd = .held v
/-- What a map type of the program is. -/
structure VTy (P : Program) (T K E : TypeId) (z : Value) : Prop where
  m : P.underlying T = some (.map K E)
  i : P.underlying K = some (.int .i64)
  z : ∀ w, (zeroValue E).run P w = .ok z w
def putV (f : Int → Option Value) (x : Int) (v : Value) : Int → Option Value := fun y => if y = x then some v else f y
def delV (f : Int → Option Value) (x : Int) : Int → Option Value := fun y => if y = x then none else f y
def Wf64 (x : Int) : Prop := -9223372036854775808 ≤ x ∧ x ≤ 9223372036854775807
theorem Wf64.wf {x : Int} (h : Wf64 x) : (Lit.int .i64 x).wf = true := by
  have e1 : IntKind.i64.min = -9223372036854775808 := by decide
  have e2 : IntKind.i64.max = 9223372036854775807 := by decide
  simp only [Lit.wf, e1, e2, Bool.and_eq_true, decide_eq_true_eq]; exact h
section
variable {P : Program} {T K E : TypeId} {z : Value} {w w' : World} {b n : Nat} {f : Int → Option Value}
theorem VMap.made (w : World) (P : Program) (K : TypeId) : VMap P K (w.alloc (.map #[] 0)) w.heap.size 0 (fun _ => none) :=
  ⟨.map [], World.ownsMap_made _ _ _ _, isMap_empty, fun x => ⟨rfl, fun v h => by cases h⟩⟩
theorem VMap.lt (h : VMap P K w b n f) : b < w.heap.size := let ⟨_, h1, _⟩ := h.ex; h1.lt
theorem VMap.block (h : VMap P K w b n f) (hb : w'.heap[b]? = w.heap[b]?) : VMap P K w' b n f := by
  obtain ⟨D, ⟨es, cl, h1, h2⟩, r⟩ := h.ex
  exact ⟨D, ⟨es, cl, hb.trans h1, h2⟩, r⟩
theorem VMap.chg {S : List Nat} (h : VMap P K w b n f) (c : Chg S w w') (hn : b ∉ S) : VMap P K w' b n f := h.block (c.block b h.lt hn)
theorem VMap.look (h : VMap P K w b n f) (t : VTy P T K E z) {x : Int} (hx : Wf64 x) : (Instr.lookup T (.map (some b)) (.int .i64 x) false).run P w = .ok ((f x).getD z) w := by
  obtain ⟨D, ho, hm, hf⟩ := h.ex
  obtain ⟨c, ps, hrun, hat⟩ := ho.lookup (int_keyed t.i) t.m (t.z w) (zd := .held z) (zp := []) rfl (keyOf_int_mk t.i hx.wf)
  rw [hrun]
  obtain ⟨h1, h2⟩ := hf x
  have hc : DataW.held c = D.atKey (.int .i64 x) (.held z) := by simpa [heldE] using congrArg (Option.map Prod.fst) hat
  cases e : f x with
  | none =>
    rw [e] at h1
    rw [atKey_of_not_has h1] at hc
    injection hc with hc
    rw [hc]; rfl
  | some v =>
    rw [h2 v e] at hc
    injection hc with hc
    rw [hc]; rfl
theorem Chg.turned (h : w.mapTurned w' b) : Chg [b] w w' := (Chg.refl _ w).grown h.grown (fun k hk => by injection hk with hk; exact .inl (by simp [hk]))
theorem VMap.put (h : VMap P K w b n f) (t : VTy P T K E z) {x : Int} (hx : Wf64 x) (v : Value) (hn : n < maxLen) :
    ∃ w', (Instr.mapUpdate T (.map (some b)) (.int .i64 x) v).run P w = .ok () w' ∧ VMap P K w' b (n + 1) (putV f x v) ∧ Chg [b] w w' ∧ w'.heap.size = w.heap.size := by
  obtain ⟨D, ho, hm, hf⟩ := h.ex
  obtain ⟨w', hrun, r1, r2⟩ := ho.store (int_keyed t.i) t.m hn (keyOf_int_mk t.i hx.wf) (val := v) (d := .held v) (ps := []) rfl
  refine ⟨w', hrun, ⟨_, r1, hm.put _ _, fun y => ?_⟩, Chg.turned r2, ?_⟩
  · unfold putV
    by_cases e : y = x
    · subst e
      rw [if_pos rfl]
      exact ⟨has_put_same hm (show WideAt.IsKeyLit (Lit.int .i64 y) from trivial) _, fun u hu zd => by injection hu with hu; subst hu; exact atKey_put_same hm (show WideAt.IsKeyLit (Lit.int .i64 y) from trivial) _ _⟩
    · rw [if_neg e]
      have hne : (Lit.int .i64 y) ≠ (Lit.int .i64 x) := by simpa using e
      exact ⟨(has_put_other hne _).trans (hf y).1, fun u hu zd => (atKey_put_other hne _ _).trans ((hf y).2 u hu zd)⟩
  · obtain ⟨es, cl, es', cl', hb, rfl⟩ := r2
    exact Array.size_setIfInBounds
end
section
variable {P : Program} {T K E : TypeId} {z : Value} {w : World} {b n : Nat} {f : Int → Option Value}
  {ops : Array Oper} {rest : List Oper} {o : Oper} {a : Act} {Q : Exit → Act → World → Prop}
theorem wpList_vmap_look (hg : o.guard = none) (m x : Operand) (hop : o.op = Op.lookup T m x false) (h : VMap P K w b n f) (t : VTy P T K E z) (hm : a.eval m = .map (some b)) {k : Int} (hx : a.eval x = .int .i64 k) (hk : Wf64 k)
    (hK : wpList P ops Q rest (a.put o.dst ((f k).getD z)) w) : wpList P ops Q (o :: rest) a w := by
  refine wpList_plain hg fun K' hK' => ?_
  unfold Oper.wp
  simp [execOp, hop, hm, hx, h.look t hk, Result.andThen]
  exact hK' _ _ hK
theorem wpList_vmap_insert (hg : o.guard = none) (m x v : Operand) (hop : o.op = Op.insert T m x v) (h : VMap P K w b n f) (t : VTy P T K E z) (hm : a.eval m = .map (some b)) {k : Int} {u : Value} (hx : a.eval x = .int .i64 k) (hk : Wf64 k) (hv : a.eval v = u) (hn : n < maxLen)
    (hK : ∀ w', VMap P K w' b (n + 1) (putV f k u) → Chg [b] w w' → w'.heap.size = w.heap.size → wpList P ops Q rest (a.put o.dst undef) w') : wpList P ops Q (o :: rest) a w := by
  refine wpList_plain hg fun K' hK' => ?_
  obtain ⟨w', hrun, r1, r2, r3⟩ := h.put t hk u hn
  unfold Oper.wp
  simp [execOp, hop, hm, hx, hv, hrun, Result.andThen]
  exact hK' _ _ (hK w' r1 r2 r3)
end
end Go.Proofs.YthjplmminmhiaaaGreatDoor
