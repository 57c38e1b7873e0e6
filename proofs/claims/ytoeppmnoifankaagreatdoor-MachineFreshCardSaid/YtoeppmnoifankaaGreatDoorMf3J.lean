/- The document's May, of a program that may be. -/
/- A map from integers to any values that the call owns, told by a function. Plain theorems on worlds; no program in sight. -/
/- Package code: what may stand in a part; the reader's next byte. -/
import Derived.Test.YtoeppmnoifankaaGreatDoorMf2
import Derived.Test.YtoeppmnoifankaaGreatDoorMem
import Derived.Maps.OwnOps
import Derived.Maps.OwnSet
import Derived.Test.YtoeppmnoifankaaGreatDoorMcDJ
import Derived.Test.YtoeppmnoifankaaGreatDoorMOw
import Derived.Deep.WholeRow
import Derived.Test.YtoeppmnoifankaaGreatDoorMCl
import Derived.Test.YtoeppmnoifankaaGreatDoorMBitJ
namespace Go.Proofs.YtoeppmnoifankaaGreatDoor
open Go.RowKit Go.Maps

/-- An instruction, where it lies. -/
theorem RdG.ins {w : World} {B i : Nat} {A : Option Addr} {n c : Nat} {l : List Ins} (h : RdG insC 4 w B (.slice A n c) l) {x : Ins} (hx : l[i]? = some x) :
    ∃ b off, A = some ⟨b, off, none⟩ ∧ b < B ∧ w.cell? ⟨b, off + i * 4, none⟩ = some (.int .i64 (x.o : Nat)) ∧ w.cell? ⟨b, off + i * 4 + 1, none⟩ = some (.int .i64 (x.a : Nat)) ∧ w.cell? ⟨b, off + i * 4 + 2, none⟩ = some (.int .i64 (x.b : Nat)) ∧ w.cell? ⟨b, off + i * 4 + 3, none⟩ = some (.int .i64 (x.c : Nat)) := by
  obtain ⟨b, off, e, hb, hc⟩ := h.at_ _ _ _ rfl i x hx
  exact ⟨b, off, e, hb, hc 0 _ rfl, hc 1 _ rfl, hc 2 _ rfl, hc 3 _ rfl⟩
def MayR1 (w0 : World) (n gk : Nat) (idx : Value) (w : World) : Prop := ∃ i : Nat, gk + i = n + 1 ∧ i ≤ n ∧ idx = .int .i64 (i : Nat) ∧ w = w0
def MayR2 (w0 : World) (n gk : Nat) (acc idx : Value) (w : World) : Prop := ∃ i k : Nat, gk + i = n + 1 ∧ i ≤ n ∧ k ≤ i * 64 ∧ acc = .int .i64 (k : Nat) ∧ idx = .int .i64 (i : Nat) ∧ Chg [] w0 w
def MayR3 (w0 : World) (n k0 gk : Nat) (acc idx : Value) (w : World) : Prop := ∃ i : Nat, gk + i = n + 1 ∧ i ≤ n ∧ acc = .int .i64 ((k0 + i : Nat) : Int) ∧ idx = .int .i64 (i : Nat) ∧ Chg [] w0 w
set_option maxHeartbeats 16000000 in
set_option maxRecDepth 100000 in
theorem rmay_ok (w : World) (G : Nat) (v : Value) (vs : List Value) (fs : List (List Ins)) (R : PrR w w.heap.size v vs fs) (hok : OkP G fs) : Calls Tryz.prog 23 #[.agg #[.int .i64 (G : Nat), v]] w (NwPost (.int .i64 0) w) := by
  obtain ⟨A, c, rfl⟩ := R.len
  have g0 : ¬ (G : Int) < 0 := by omega
  have g1 : ¬ (G : Int) > 32 := by have := hok.g; omega
  have g2 : ¬ (fs.length : Int) < 1 := by have := hok.f0; omega
  have g3 : ¬ (fs.length : Int) > 16 := by have := hok.f1; omega
  have KW := fun (w' : World) (i : Ins) (S : Nat) (h : okIns G fs.length S i) => rwrong_ok w' i G fs.length S h
  go_enter Tryz.func23, Tryz.ntmps23
  go_upto_region 1 with fail
  obtain ⟨w1, hw1⟩ : ∃ w1, w1 = w.alloc (.cells #[.int .i64 (G : Nat), .slice A fs.length c] 30) := ⟨_, rfl⟩
  obtain ⟨gP, hgP⟩ : ∃ gP, gP = w.heap.size := ⟨_, rfl⟩
  rw [← hw1, ← hgP]
  have B1 : Blk w1 gP 30 #[.int .i64 (G : Nat), .slice A fs.length c] := by rw [hw1, hgP]; exact Blk.new _ _ _
  have c01 : Chg [] w w1 := by rw [hw1]; exact (Chg.refl [] w).alloc _
  have R1 := R.chg0 c01 (Nat.le_refl _)
  have p0 : w1.cell? ⟨gP, 0, none⟩ = some (.int .i64 (G : Nat)) := B1.cellv 0 rfl
  have p1 : w1.cell? ⟨gP, 1, none⟩ = some (.slice A fs.length c) := B1.cellv 1 rfl
  have H1 := Lib.hid (And.intro R1 (And.intro c01 (And.intro hok (And.intro KW B1)))); clear R R1 c01 hw1 hgP hok KW B1
  go_wp2_with fail
  go_loopg [3] (fs.length + 1) (fun gk idx wr => MayR1 w1 fs.length gk idx wr)
  case atStart => exact ⟨0, by omega, by omega, rfl, rfl⟩
  case round =>
    obtain ⟨i, hgk, hi, rfl, hw⟩ := hrel
    have hw' := hw.symm
    subst hw'
    by_cases hin : i < fs.length
    · obtain ⟨l, b, off, A', c', hl, -, hA, -, hc, -⟩ := H1.out.1.fn hin
      have hs := H1.out.2.2.1.s l (List.mem_of_getElem? hl)
      have h1 : (i : Int) < fs.length := by omega
      have h2 : (0 : Int) ≤ i := by omega
      have h3 : ¬ (l.length : Int) < 1 := by omega
      have h4 : ¬ (l.length : Int) > 64 := by omega
      subst hA
      clear hs hl
      go_wp2_with fail
      go_roundg (fs.length - i)
      case measure => omega
      case rel => exact ⟨i + 1, by omega, by omega, by go_num, rfl⟩
    · have h1 : ¬ (i : Int) < fs.length := by omega
      clear g2 g0 g1
      have g3 : fs.length ≤ 16 := by omega
      go_wp2_with fail
      clear h1 hin hgk hi p0 p1
      go_loopg [4, 5] (fs.length + 1) (fun gk acc idx w2 => MayR2 w1 fs.length gk acc idx w2)
      case atStart => exact ⟨0, 0, by omega, by omega, by omega, rfl, rfl, Chg.refl [] w1⟩
      case round =>
        obtain ⟨j, k, hgk2, hj, hk, rfl, rfl, c2⟩ := hrel
        obtain ⟨w2, hw2⟩ : ∃ w2, w2 = wr := ⟨_, rfl⟩
        subst hw2
        have B2 := c2.blk H1.out.2.2.2.2 (by simp)
        have p0 : w2.cell? ⟨gP, 0, none⟩ = some (.int .i64 (G : Nat)) := B2.cellv 0 rfl
        have p1 : w2.cell? ⟨gP, 1, none⟩ = some (.slice A fs.length c) := B2.cellv 1 rfl
        have R2 := H1.out.1.chg0 c2 (by have := H1.out.2.1.size; omega)
        have H2 := Lib.hid (And.intro c2 (And.intro R2 B2)); clear c2 R2 B2
        by_cases hjn : j < fs.length
        · obtain ⟨l, b, off, A', c', hl, -, hA, -, hc, Rl⟩ := H2.out.2.1.fn hjn
          have hs := H1.out.2.2.1.s l (List.mem_of_getElem? hl)
          have h1 : (j : Int) < fs.length := by omega
          have h2 : (0 : Int) ≤ j := by omega
          have hl64 : l.length ≤ 64 := hs.2.1
          have hk2 : k ≤ 1024 := by omega
          have hb := lt_of_cellM hc
          subst hA
          have H3 := Lib.hid (And.intro hl (And.intro hs Rl)); clear hs hl Rl
          go_wp2_with fail
          go_loopg [4, 6] (l.length + 1) (fun gk acc idx w3 => MayR3 w2 l.length k gk acc idx w3)
          case atStart => exact ⟨0, by omega, by omega, rfl, rfl, Chg.refl [] w2⟩
          case round =>
            obtain ⟨i, hgk3, hi3, rfl, rfl, c3⟩ := hrel
            obtain ⟨w3, hw3⟩ : ∃ w3, w3 = wr := ⟨_, rfl⟩
            subst hw3
            have p0 : w3.cell? ⟨gP, 0, none⟩ = some (.int .i64 (G : Nat)) := c3.cellv H2.out.2.2.lt (by simp) p0
            have p1 : w3.cell? ⟨gP, 1, none⟩ = some (.slice (some ⟨b, off, none⟩) fs.length c) := c3.cellv H2.out.2.2.lt (by simp) p1
            have hc : w3.cell? ⟨b, off + j, none⟩ = some (.slice A' l.length c') := c3.cellv hb (by simp) hc
            by_cases hin : i < l.length
            · have hx := List.getElem?_eq_getElem hin
              obtain ⟨b', off', e', hb', q0, q1, q2, q3⟩ := (H3.out.2.2.chg c3 (by have := H2.out.1.size; have := H1.out.2.1.size; omega) (by simp)).ins hx
              obtain ⟨x, ex⟩ : ∃ x, x = l[i] := ⟨_, rfl⟩
              rw [← ex] at q0 q1 q2 q3
              have hok := H3.out.2.1.2.2 x (by rw [ex]; exact List.getElem_mem hin)
              subst e'
              have h3 : (i : Int) < l.length := by omega
              have h4 : (0 : Int) ≤ i := by omega
              have HC := Lib.hid (And.intro c3 hok); clear c3 hok ex hx
              go_upto_region 15 with fail
              go_still_tail 19, (by kernel_rfl)
              change wpList _ _ _ _ _ w3.drew
              go_wp2_with fail
              refine (H1.out.2.2.2.1 w3.drew x l.length HC.out.2).mono ?_
              rintro e w5 ⟨rfl, c5⟩
              have H5 := Lib.hid (HC.out.1.trans (((Chg.refl [] w3).drew).trans c5)); clear c5
              go_wp2_with fail
              go_roundg (l.length - i)
              case measure => omega
              case rel => exact ⟨i + 1, by omega, by omega, by go_num, by go_num, H5.out⟩
            · have h3 : ¬ (i : Int) < l.length := by omega
              have hii : i = l.length := by omega
              have HC := Lib.hid (And.intro c3 hii); clear c3 hii
              go_wp2_with fail
              go_roundg (fs.length - j)
              case measure => omega
              case rel => exact ⟨j + 1, k + i, by omega, by omega, by omega, by go_num, by go_num, H2.out.1.trans HC.out.1⟩
        · have h1 : ¬ (j : Int) < fs.length := by omega
          clear hjn hgk2
          go_wp2_with fail
          go_ret
          exact ⟨rfl, H1.out.2.1.trans H2.out.1⟩
end Go.Proofs.YtoeppmnoifankaaGreatDoor
namespace Go.Proofs.YtoeppmnoifankaaGreatDoor
open Go.RowKit Go.Maps

/-- Any value, as it is. -/
def heldE (v : Value) : Option (DataW Value × List MemPlace) := some (.held v, [])
structure VMap (P : Program) (K : TypeId) (w : World) (b n : Nat) (f : Int → Option Value) : Prop where
  ex : ∃ D : DataW Value, w.ownsMap P K heldE b n D ∧ IsMap D ∧ ∀ x, has D (.int .i64 x) = (f x).isSome ∧ ∀ v, f x = some v → ∀ zd, D.atKey (.int .i64 x) zd = .held v
/-- What a map type of the program is. -/
structure VTy (P : Program) (T K E : TypeId) (z : Value) : Prop where
  m : P.underlying T = some (.map K E)
  i : P.underlying K = some (.int .i64)
  z : ∀ w, (zeroValue E).run P w = .ok z w
def putV (f : Int → Option Value) (x : Int) (v : Value) : Int → Option Value := fun y => if y = x then some v else f y
def delV (f : Int → Option Value) (x : Int) : Int → Option Value := fun y => if y = x then none else f y
def Wf64 (x : Int) : Prop := -9223372036854775808 ≤ x ∧ x ≤ 9223372036854775807
theorem Wf64.wf {x : Int} (h : Wf64 x) : (Lit.int .i64 x).wf = true := by
  have e1 : IntKind.i64.min = -9223372036854775808 := by decide
  have e2 : IntKind.i64.max = 9223372036854775807 := by decide
  simp only [Lit.wf, e1, e2, Bool.and_eq_true, decide_eq_true_eq]; exact h
section
variable {P : Program} {T K E : TypeId} {z : Value} {w w' : World} {b n : Nat} {f : Int → Option Value}
theorem VMap.made (w : World) (P : Program) (K : TypeId) : VMap P K (w.alloc (.map #[] 0)) w.heap.size 0 (fun _ => none) :=
  ⟨.map [], World.ownsMap_made _ _ _ _, isMap_empty, fun x => ⟨rfl, fun v h => by cases h⟩⟩
theorem VMap.lt (h : VMap P K w b n f) : b < w.heap.size := let ⟨_, h1, _⟩ := h.ex; h1.lt
theorem VMap.block (h : VMap P K w b n f) (hb : w'.heap[b]? = w.heap[b]?) : VMap P K w' b n f := by
  obtain ⟨D, ⟨es, cl, h1, h2⟩, r⟩ := h.ex
  exact ⟨D, ⟨es, cl, hb.trans h1, h2⟩, r⟩
theorem VMap.chg {S : List Nat} (h : VMap P K w b n f) (c : Chg S w w') (hn : b ∉ S) : VMap P K w' b n f := h.block (c.block b h.lt hn)
theorem VMap.look (h : VMap P K w b n f) (t : VTy P T K E z) {x : Int} (hx : Wf64 x) : (Instr.lookup T (.map (some b)) (.int .i64 x) false).run P w = .ok ((f x).getD z) w := by
  obtain ⟨D, ho, hm, hf⟩ := h.ex
  obtain ⟨c, ps, hrun, hat⟩ := ho.lookup (int_keyed t.i) t.m (t.z w) (zd := .held z) (zp := []) rfl (keyOf_int_mk t.i hx.wf)
  rw [hrun]
  obtain ⟨h1, h2⟩ := hf x
  have hc : DataW.held c = D.atKey (.int .i64 x) (.held z) := by simpa [heldE] using congrArg (Option.map Prod.fst) hat
  cases e : f x with
  | none =>
    rw [e] at h1
    rw [atKey_of_not_has h1] at hc
    injection hc with hc
    rw [hc]; rfl
  | some v =>
    rw [h2 v e] at hc
    injection hc with hc
    rw [hc]; rfl
theorem Chg.turned (h : w.mapTurned w' b) : Chg [b] w w' := (Chg.refl _ w).grown h.grown (fun k hk => by injection hk with hk; exact .inl (by simp [hk]))
theorem VMap.put (h : VMap P K w b n f) (t : VTy P T K E z) {x : Int} (hx : Wf64 x) (v : Value) (hn : n < maxLen) :
    ∃ w', (Instr.mapUpdate T (.map (some b)) (.int .i64 x) v).run P w = .ok () w' ∧ VMap P K w' b (n + 1) (putV f x v) ∧ Chg [b] w w' ∧ w'.heap.size = w.heap.size := by
  obtain ⟨D, ho, hm, hf⟩ := h.ex
  obtain ⟨w', hrun, r1, r2⟩ := ho.store (int_keyed t.i) t.m hn (keyOf_int_mk t.i hx.wf) (val := v) (d := .held v) (ps := []) rfl
  refine ⟨w', hrun, ⟨_, r1, hm.put _ _, fun y => ?_⟩, Chg.turned r2, ?_⟩
  · unfold putV
    by_cases e : y = x
    · subst e
      rw [if_pos rfl]
      exact ⟨has_put_same hm (show WideAt.IsKeyLit (Lit.int .i64 y) from trivial) _, fun u hu zd => by injection hu with hu; subst hu; exact atKey_put_same hm (show WideAt.IsKeyLit (Lit.int .i64 y) from trivial) _ _⟩
    · rw [if_neg e]
      have hne : (Lit.int .i64 y) ≠ (Lit.int .i64 x) := by simpa using e
      exact ⟨(has_put_other hne _).trans (hf y).1, fun u hu zd => (atKey_put_other hne _ _).trans ((hf y).2 u hu zd)⟩
  · obtain ⟨es, cl, es', cl', hb, rfl⟩ := r2
    exact Array.size_setIfInBounds
end
section
variable {P : Program} {T K E : TypeId} {z : Value} {w : World} {b n : Nat} {f : Int → Option Value}
  {ops : Array Oper} {rest : List Oper} {o : Oper} {a : Act} {Q : Exit → Act → World → Prop}
theorem wpList_vmap_look (hg : o.guard = none) (m x : Operand) (hop : o.op = Op.lookup T m x false) (h : VMap P K w b n f) (t : VTy P T K E z) (hm : a.eval m = .map (some b)) {k : Int} (hx : a.eval x = .int .i64 k) (hk : Wf64 k)
    (hK : wpList P ops Q rest (a.put o.dst ((f k).getD z)) w) : wpList P ops Q (o :: rest) a w := by
  refine wpList_plain hg fun K' hK' => ?_
  unfold Oper.wp
  simp [execOp, hop, hm, hx, h.look t hk, Result.andThen]
  exact hK' _ _ hK
theorem wpList_vmap_insert (hg : o.guard = none) (m x v : Operand) (hop : o.op = Op.insert T m x v) (h : VMap P K w b n f) (t : VTy P T K E z) (hm : a.eval m = .map (some b)) {k : Int} {u : Value} (hx : a.eval x = .int .i64 k) (hk : Wf64 k) (hv : a.eval v = u) (hn : n < maxLen)
    (hK : ∀ w', VMap P K w' b (n + 1) (putV f k u) → Chg [b] w w' → w'.heap.size = w.heap.size → wpList P ops Q rest (a.put o.dst undef) w') : wpList P ops Q (o :: rest) a w := by
  refine wpList_plain hg fun K' hK' => ?_
  obtain ⟨w', hrun, r1, r2, r3⟩ := h.put t hk u hn
  unfold Oper.wp
  simp [execOp, hop, hm, hx, hv, hrun, Result.andThen]
  exact hK' _ _ (hK w' r1 r2 r3)
end
end Go.Proofs.YtoeppmnoifankaaGreatDoor
namespace Go.Proofs.YtoeppmnoifankaaGreatDoor
open Go.RowKit Go.Maps

theorem tyC : VTy Tryz.prog 137 3 3 (.int .i64 0) := ⟨Tryz.underlying137, Tryz.underlying3, fun _ => by kernel_rfl⟩
theorem wpList_vmap_look' {P : Program} {T K E : TypeId} {z : Value} {w : World} {b n : Nat} {f : Int → Option Value} {ops : Array Oper} {rest : List Oper} {o : Oper} {a : Act} {Q : Exit → Act → World → Prop} (hg : o.guard = none) (m x : Operand) (hop : o.op = Op.lookup T m x false) (h : VMap P K w b n f) (t : VTy P T K E z) (hm : a.eval m = .map (some b)) {k : Int} (hx : a.eval x = .int .i64 k) (hk : Wf64 k) {u : Value} (hf : f k = some u)
    (hK : wpList P ops Q rest (a.put o.dst u) w) : wpList P ops Q (o :: rest) a w :=
  wpList_vmap_look hg m x hop h t hm hx hk (by rw [hf]; exact hK)
/-- How many may stand there: a map's look-up. -/
theorem most_at (G F S part : Nat) (hp : part ≤ 6) : (putV (putV (putV (putV (putV (putV (putV (fun _ => none) 0 (Value.int .i64 1)) 1 (Value.int .i64 256)) 2 (Value.int .i64 16)) 3 (Value.int .i64 (G : Nat))) 4 (Value.int .i64 (F : Nat))) 5 (Value.int .i64 (S : Nat))) 6 (Value.int .i64 32)) (part : Nat) = some (Value.int .i64 (mostP G F S part : Nat)) := by
  have : part = 0 ∨ part = 1 ∨ part = 2 ∨ part = 3 ∨ part = 4 ∨ part = 5 ∨ part = 6 := by omega
  rcases this with rfl | rfl | rfl | rfl | rfl | rfl | rfl <;> rfl
set_option maxHeartbeats 1600000 in
set_option maxRecDepth 100000 in
theorem cd_fits (w : World) (G F S part v : Nat) (hp : part ≤ 6) : Calls Tryz.prog 277 #[.agg #[.int .i64 (G : Nat), .int .i64 (F : Nat), .int .i64 (S : Nat)], .int .i64 (part : Nat), .int .i64 (v : Nat)] w (NwPost (.bool (fitsP G F S part v)) w) := by
  have hmm := @run_makeMap Tryz.prog
  go_enter Tryz.func277, Tryz.ntmps277
  go_upto_region 1 with fail
  obtain ⟨w1, hw1⟩ : ∃ w1, w1 = w.alloc (.cells #[.int .i64 (G : Nat), .int .i64 (F : Nat), .int .i64 (S : Nat)] 232) := ⟨_, rfl⟩
  have B : Blk w1 w.heap.size 232 #[.int .i64 (G : Nat), .int .i64 (F : Nat), .int .i64 (S : Nat)] := by rw [hw1]; exact Blk.new _ _ _
  have D : Chg [] w w1 := by rw [hw1]; exact (Chg.refl _ _).alloc _
  rw [← hw1]
  have M := VMap.made w1 Tryz.prog 3
  have hne : w.heap.size ∉ [w1.heap.size] := by have := B.lt; simp; omega
  have hnw : ∀ k ∈ [w1.heap.size], w.heap.size ≤ k := by have := D.size; simpa using this
  have B2 := B.alloc (.map #[] 0)
  have D2 := D.alloc (.map #[] 0)
  clear B D hw1
  have HL := Lib.hid (most_at G F S part hp)
  go_wp2_with (first
    | (at_lookup; refine wpList_vmap_look' rfl _ _ rfl M tyC rfl rfl (by unfold Wf64; omega) HL.out ?_)
    | (refine wpList_vmap_insert rfl _ _ _ rfl M tyC rfl rfl (by unfold Wf64; omega) rfl (by decide) ?_
       intro x1 M1 C1 _
       have M := M1
       have B2 := C1.blk B2 hne
       have k0 := B2.cellv 0 rfl
       have k1 := B2.cellv 1 rfl
       have k2 := B2.cellv 2 rfl
       have D2 := D2.new C1 hnw
       clear C1 M1))
  go_ret
  exact ⟨by simp [fitsP], D2⟩
section
variable {P : Program} {ops : Array Oper} {rest : List Oper} {o : Oper} {a : Act} {Q : Exit → Act → World → Prop} {w w' : World}
theorem wpList_build {T : TypeId} {ps : Array (Nat × Operand)} (hg : o.guard = none) (hop : o.op = Op.build T ps) (v : Value) (hr : (execOp a.eval o).run P w = .ok (.value v) w) (hK : wpList P ops Q rest (a.put o.dst v) w) : wpList P ops Q (o :: rest) a w := by
  refine wpList_plain hg fun K' hK' => ?_
  unfold Oper.wp
  rw [hr]; exact hK' _ _ hK
theorem wpList_store {T : TypeId} {p x : Operand} (hg : o.guard = none) (hop : o.op = Op.store T p x) {ad v : Value} (hp : a.eval p = ad) (hx : a.eval x = v) (hr : (Instr.storeAt T ad v).run P w = .ok () w') (hK : wpList P ops Q rest (a.put o.dst undef) w') : wpList P ops Q (o :: rest) a w := by
  refine wpList_plain hg fun K' hK' => ?_
  unfold Oper.wp
  simp [execOp, hop, hp, hx, hr, Result.andThen]
  exact hK' _ _ hK
end
def partsL : List Value := (ptab.flatMap id).map (Value.int .i64)
def partsV : Value := .agg partsL.toArray
set_option maxHeartbeats 1600000 in
set_option maxRecDepth 100000 in
theorem cd_parts (w : World) : Calls Tryz.prog 276 #[] w (NwPost partsV w) := by
  go_enter Tryz.func276, Tryz.ntmps276
  have hst : ∀ c : Array Value, c.size = 54 → (Instr.storeAt 363 (.pointer (some ⟨w.heap.size, 0, none⟩)) partsV).run Tryz.prog (w.alloc (.cells c 363)) = .ok () (w.alloc (.cells partsL.toArray 363)) := fun c hc =>
    run_storeAt_new w 363 c partsL.toArray (by kernel_rfl) (by rw [hc]; rfl) (by decide +kernel)
  go_upto_region 1 with fail
  go_wp2_with (first
    | (refine wpList_build (T := 363) rfl rfl partsV (by kernel_rfl) ?_)
    | (refine wpList_store (T := 363) rfl rfl rfl rfl (hst _ rfl) ?_))
  obtain ⟨cs, hcs⟩ : ∃ cs, cs = partsL.toArray := ⟨_, rfl⟩
  have hi : (Tryz.prog.info? 363).map (·.size) = some cs.size := by rw [hcs]; kernel_rfl
  have hV : partsV = .agg cs := by rw [hcs]; rfl
  rw [← hcs, hV]
  clear hst hV hcs
  simp only [Act.put, Array.setIfInBounds, List.size_toArray, List.length_cons, List.length_nil]
  have hr := fun tmps hp => results_cell_row (P := Tryz.prog) (fn := Tryz.f276) rfl tmps _ w.heap.size 363 cs _ _ hp (heap_alloc_new w (.cells cs 363)) Tryz.underlying363 rfl hi
  refine ⟨rfl, _, hr _ ?_, ?_⟩
  · rfl
  · exact ⟨rfl, (Chg.refl [] w).alloc _⟩
set_option maxRecDepth 100000 in
theorem run_parts_at (w : World) {o : Nat} (ho : o ≤ 17) {x y z : Int} (h : ptab[o]? = some [x, y, z]) : (Instr.index 363 partsV (.int .i64 (o : Nat))).run Tryz.prog w = .ok (.agg #[.int .i64 x, .int .i64 y, .int .i64 z]) w := by
  have hh : o = 0 ∨ o = 1 ∨ o = 2 ∨ o = 3 ∨ o = 4 ∨ o = 5 ∨ o = 6 ∨ o = 7 ∨ o = 8 ∨ o = 9 ∨ o = 10 ∨ o = 11 ∨ o = 12 ∨ o = 13 ∨ o = 14 ∨ o = 15 ∨ o = 16 ∨ o = 17 := by omega
  rcases hh with rfl | rfl | rfl | rfl | rfl | rfl | rfl | rfl | rfl | rfl | rfl | rfl | rfl | rfl | rfl | rfl | rfl | rfl
  all_goals
    injection h with h; injection h with e1 h; injection h with e2 h; injection h with e3 _
    subst e1 e2 e3
    show _ = _
    kernel_rfl
end Go.Proofs.YtoeppmnoifankaaGreatDoor
