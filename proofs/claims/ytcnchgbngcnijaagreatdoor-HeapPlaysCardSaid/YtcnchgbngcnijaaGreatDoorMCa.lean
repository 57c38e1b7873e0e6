/- The walks of slices.Index, Clone, Grow (of nothing), Concat (of two) at integers. -/
/- Package central: how its rows lie in memory; side, has, last. -/
/- Package central: a step of what the call owns; TakeFull, Take. -/
/- The document's central (treadmillref5): its rows, lists that are read. Plain theorems on worlds. -/
import Derived.Test.YtcnchgbngcnijaaGreatDoorMZ
import Derived.Lib.AppendZerosOnto
import Derived.Deep.CutBlock
import Derived.Test.YtcnchgbngcnijaaGreatDoorMOw
namespace Go.Proofs.YtcnchgbngcnijaaGreatDoor
open Go.RowKit Go.Maps

def LixSays (xs : List Int) (x r : Int) : Prop := (r = -1 ∧ x ∉ xs) ∨ ∃ i : Nat, r = i ∧ xs[i]? = some x ∧ x ∉ xs.take i
def LixRel (xs : List Int) (x : Int) (gk : Nat) (idx : Value) (w0 w : World) : Prop := ∃ i, gk + i = xs.length + 1 ∧ i ≤ xs.length ∧ idx = .int .i64 (i : Nat) ∧ x ∉ xs.take i ∧ w = w0
set_option maxHeartbeats 800000 in
set_option maxRecDepth 100000 in
theorem lindex_ok (w : World) (v : Value) (xs : List Int) (x : Int) (hv : RdI w v xs) : Calls Tryz.prog 132 #[v, .int .i64 x] w fun e w' => ∃ r, LixSays xs x r ∧ QuPost (.int .i64 r) w e w' := by
  obtain ⟨A, c, rfl⟩ := hv.ex
  have hl1 := hv.len
  have HV := Lib.hid hv; clear hv
  go_enter Tryz.func132, Tryz.ntmps132
  go_wp2_with fail
  go_loopg [8] (xs.length + 1) (fun gk idx wr => LixRel xs x gk idx w wr)
  case atStart => exact ⟨0, by omega, by omega, rfl, by simp, rfl⟩
  case round =>
    obtain ⟨i, hgk, hin, rfl, ht, rfl⟩ := hrel
    by_cases e : i < xs.length
    · obtain ⟨y, hy⟩ : ∃ y, xs[i]? = some y := ⟨_, List.getElem?_eq_getElem e⟩
      obtain ⟨b1, o1, rfl, c1⟩ := HV.out.at_ _ _ _ rfl i y hy
      have hi' : (i : Int) < (xs.length : Int) := by omega
      have hi0 : (0 : Int) ≤ (i : Int) := by omega
      have ht2 : y ≠ x → x ∉ xs.take (i + 1) := fun e => by
        rw [take_succ_get hy, List.mem_append]
        rintro (g | g)
        · exact ht g
        · exact e (by simpa using g : x = y).symm
      have HT := Lib.hid (And.intro ht2 (And.intro hy ht)); clear ht2 hy ht
      by_cases exy : x = y
      · have hq : (x == y) = true := by simpa using exy
        have HE := Lib.hid exy; clear exy
        go_wp2_with fail
        go_ret
        exact ⟨(i : Nat), .inr ⟨i, rfl, by rw [HT.out.2.1, HE.out], HT.out.2.2⟩, rfl, rfl⟩
      · have hq : (x == y) = false := by simpa using exy
        have HE := Lib.hid exy; clear exy
        go_wp2_with fail
        go_roundg (xs.length - i)
        case measure => omega
        case rel => exact ⟨i + 1, by omega, by omega, by go_num, HT.out.1 (fun h => HE.out h.symm), rfl⟩
    · obtain rfl : i = xs.length := by omega
      rw [List.take_length] at ht
      have HX := Lib.hid ht; clear ht e hin
      have hi' : ¬ (xs.length : Int) < (xs.length : Int) := by omega
      go_wp2_with fail
      go_ret
      exact ⟨-1, .inl ⟨rfl, HX.out⟩, rfl, rfl⟩
/-- A new list of the call's own. -/
def NwL (xs : List Int) (w : World) (e : Ending) (w' : World) : Prop := ∃ v, e = .returned v ∧ OwnI 3 w' v xs ∧ Chg [] w w' ∧ ∀ k ∈ fpv v, w.heap.size ≤ k
set_option maxHeartbeats 800000 in
set_option maxRecDepth 100000 in
theorem lclone_ok (w : World) (ad : Addr) (c : Nat) (xs : List Int) (hv : SlI w w.heap.size (.slice (some ad) xs.length c) xs) (hl : xs.length ≤ 1000000) : Calls Tryz.prog 133 #[.slice (some ad) xs.length c] w (NwL xs w) := by
  have HV := Lib.hid hv
  clear hv
  have heq : (binOp .eql 33 (.slice (some ad) xs.length c) (.slice none 0 0)).run Tryz.prog w = .ok (.bool false) w := Lib.run_eql_slice_nil w 33 3 (some ad) xs.length c 0 0 slty.s
  go_enter Tryz.func133, Tryz.ntmps133
  go_wp2_with (at_builtin; refine wpList_cat_sl rfl _ _ rfl slty rfl (OwnI.empty _ _) rfl (HV.out.chg ((Chg.refl [] w).alloc _) (Nat.le_refl _) (by simp)) (by simp; omega) ?_; intro A2 c2 w2 O2 s2)
  rw [List.nil_append] at O2
  have e1 : ([] : List Int).length + xs.length = xs.length := by simp
  rw [e1] at O2 s2
  have C2 : Chg [] w w2 := ((Chg.refl [] w).alloc (.cells #[] 3)).new s2.c (fun k hk => by rw [fpv_some hk]; exact Nat.le_refl _)
  have F2 : ∀ k ∈ fpv (.slice A2 xs.length c2), w.heap.size ≤ k := fun k hk => by
    rcases s2.f k hk with h1 | h1
    · rw [fpv_some h1]; exact Nat.le_refl _
    · rw [World.size_alloc] at h1; omega
  have HX := Lib.hid (And.intro O2 (And.intro C2 F2)); clear O2 s2 C2 F2 e1
  go_wp2_with fail
  go_ret
  exact ⟨_, rfl, HX.out.1, HX.out.2.1, HX.out.2.2⟩
set_option maxHeartbeats 800000 in
set_option maxRecDepth 100000 in
theorem lgrow_nil (w : World) (n : Nat) (hn : n ≤ 1000000) : Calls Tryz.prog 160 #[.slice none 0 0, .int .i64 (n : Nat)] w (NwL [] w) := by
  have d0 : ¬ (n : Int) < 0 := by omega
  cases n with
  | zero =>
    go_enter Tryz.func160, Tryz.ntmps160
    go_wp2_with fail
    go_ret
    exact ⟨_, rfl, OwnI.nil _ _, Chg.refl _ _, fun k hk => by simp [fpv, Value.ownBlock] at hk⟩
  | succ n =>
    obtain ⟨i0, hi0, hz0, hz1, hz2⟩ := info_parts slty.i
    obtain ⟨m, hm⟩ : ∃ m, m = n + 1 := ⟨_, rfl⟩
    rw [← hm] at hn d0 ⊢
    have hm1 : 0 < m := by omega
    have d1 : (0 : Int) < (m : Int) := by omega
    obtain ⟨G, hG⟩ : ∃ G, G = grownCap w (0 + m) 0 3 := ⟨_, rfl⟩
    have hGn : 0 + m ≤ G := by rw [hG]; exact grownCap_ge w _ _ _
    have hGm : G ≤ maxLen := by rw [hG]; exact grownCap_le_maxLen w _ _ _ (by unfold maxLen; omega)
    obtain ⟨Z, hZ⟩ : ∃ Z, Z = ([] : List Value).toArray ++ Builtin.zeroCells (Value.int .i64 0).cells m ++ Builtin.zeroCells (Value.int .i64 0).cells (G - (0 + m)) := ⟨_, rfl⟩
    have hZs : Z.size = G := by
      rw [hZ]
      simp [Builtin.zeroCells, Value.cells]
      omega
    have hrz : ∀ ty, (Builtin.append_ #[33, 3] ty #[.slice none 0 0, .int .i64 (m : Nat)]).run Tryz.prog w = .ok (.slice (some ⟨w.heap.size, 0, none⟩) (0 + m) G) (w.drew.alloc (.cells Z 3)) := fun ty => by
      have h := Lib.run_append_grow_zeros (P := Tryz.prog) w 33 3 ty 3 i0 _ .i64 .i64 slty.s Tryz.underlying3 hi0 hz0 none 0 0 [] (by simp [Builtin.firstCells]) m hm1 (by omega) (by omega) (by omega) (by rw [hz2]; omega) (by rw [hz2]; exact growslice_fits (by omega) (by omega))
      rw [← hG, ← hZ] at h
      exact h
    have HZ := Lib.hid (And.intro hZs (And.intro hGm hGn)); clear hZ hG hZs hm hi0 hz0 hz1 hz2
    go_enter Tryz.func160, Tryz.ntmps160
    go_wp2_with (at_builtin; refine Lib.wpList_append_run _ rfl _ _ _ _ rfl _ _ rfl rfl _ _ (hrz _) ?_)
    go_ret
    have O : OwnI 3 (w.alloc (.cells Z 3)) (.slice (some ⟨w.heap.size, 0, none⟩) 0 G) [] :=
      ⟨⟨rfl, .inr ⟨w.heap.size, G, Z, rfl, Nat.zero_le _, heap_alloc_new w _, Nat.zero_le _, HZ.out.2.1, by rw [HZ.out.1, Nat.mul_one], by simp⟩⟩⟩
    exact ⟨_, rfl, O.drew, ((Chg.refl [] w).alloc _).drew, fun k hk => by have : k = w.heap.size := fpv_some hk; omega⟩
theorem wpList_cat_n {P : Program} {T E : TypeId} {w : World} {v u : Value} {xs ys : List Int} {B : Nat} {ops : Array Oper} {rest : List Oper} {o : Oper} {a : Act} {Q : Exit → Act → World → Prop} (n : Nat) (hn : xs.length + ys.length = n) (hgd : o.guard = none) (s x : Operand)
    (ho : o.op = .call { callee := .builtin .append, args := #[s, x], argTypes := #[T, T] }) (t : SlTy P T E) (hs : a.eval s = v) (h : OwnI E w v xs) (hx : a.eval x = u) (hu : SlI w B u ys) (hl : n ≤ 1000000000000)
    (hK : ∀ A' c' w', OwnI E w' (.slice A' n c') (xs ++ ys) → Stp (fpv v) (fpv (.slice A' n c')) w w' → wpList P ops Q rest (a.put o.dst (.slice A' n c')) w') : wpList P ops Q (o :: rest) a w := by
  subst hn
  exact wpList_cat_sl hgd s x ho t hs h hx hu hl hK
def CcRel (w0 : World) (xs ys : List Int) (gk : Nat) (sz idx : Value) (w : World) : Prop :=
  (gk = 3 ∧ idx = .int .i64 0 ∧ sz = .int .i64 0 ∧ w = w0) ∨ (gk = 2 ∧ idx = .int .i64 1 ∧ sz = .int .i64 (xs.length : Nat) ∧ w = w0) ∨ (gk = 1 ∧ idx = .int .i64 2 ∧ sz = .int .i64 (xs.length + ys.length : Nat) ∧ w = w0)
def CdRel (w0 : World) (xs ys : List Int) (gk : Nat) (vn idx : Value) (w : World) : Prop :=
  ∃ zs, OwnI 3 w vn zs ∧ Chg [] w0 w ∧ (∀ k ∈ fpv vn, w0.heap.size ≤ k) ∧ ((gk = 3 ∧ idx = .int .i64 0 ∧ zs = []) ∨ (gk = 2 ∧ idx = .int .i64 1 ∧ zs = xs) ∨ (gk = 1 ∧ idx = .int .i64 2 ∧ zs = xs ++ ys))
set_option maxHeartbeats 1600000 in
set_option maxRecDepth 100000 in
theorem lconcat_ok (w : World) (gs : Nat) (v u : Value) (xs ys : List Int) (B : Blk w gs 33 #[v, u]) (hv : SlI w w.heap.size v xs) (hu : SlI w w.heap.size u ys) (h1 : xs.length ≤ 100000) (h2 : ys.length ≤ 100000) :
    Calls Tryz.prog 128 #[.slice (some ⟨gs, 0, none⟩) 2 2] w (NwL (xs ++ ys) w) := by
  have b0 : w.cell? ⟨gs, 0, none⟩ = some v := B.cellv 0 rfl
  have b1 : w.cell? ⟨gs, 1, none⟩ = some u := B.cellv 1 rfl
  have HB := Lib.hid (And.intro B (And.intro hv hu))
  obtain ⟨Av, cv, rfl⟩ := hv.ex
  obtain ⟨Au, cu, rfl⟩ := hu.ex
  clear B hv hu
  go_enter Tryz.func128, Tryz.ntmps128
  go_wp2_with fail
  go_loopg [3, 11] 3 (fun gk sz idx wr => CcRel w xs ys gk sz idx wr)
  case atStart => exact .inl ⟨rfl, rfl, rfl, rfl⟩
  case round =>
    rcases hrel with ⟨rfl, rfl, rfl, rfl⟩ | ⟨rfl, rfl, rfl, rfl⟩ | ⟨rfl, rfl, rfl, rfl⟩
    · have d1 : ¬ (xs.length : Int) < 0 := by omega
      go_wp2_with fail
      go_roundg 2
      case measure => omega
      case rel => exact .inr (.inl ⟨rfl, by rfl, by go_num, rfl⟩)
    · have d1 : ¬ (xs.length : Int) + (ys.length : Int) < 0 := by omega
      go_wp2_with fail
      go_roundg 1
      case measure => omega
      case rel => exact .inr (.inr ⟨rfl, by rfl, by go_num, rfl⟩)
    · go_wp2_with fail
      obtain ⟨m, hm⟩ : ∃ m, m = xs.length + ys.length := ⟨_, rfl⟩
      have em : (xs.length : Int) + (ys.length : Int) = ((m : Nat) : Int) := by omega
      first | rw [em] | skip
      refine (lgrow_nil _ m (by omega)).mono ?_
      rintro e w1 ⟨vn, rfl, O, c1, f1⟩
      obtain ⟨A1, c9, rfl⟩ := O.slice
      have HG := Lib.hid (And.intro O (And.intro c1 f1)); clear O c1 f1 b0 b1
      clear hm em
      obtain ⟨W0, hW0⟩ : ∃ W0 : World, W0 = wr := ⟨_, rfl⟩
      rw [← hW0] at HG HB
      have HW := Lib.hid hW0
      clear hW0
      go_wp2_with fail
      go_loopg [6, 27] 3 (fun gk vn idx wr => CdRel W0 xs ys gk vn idx wr)
      case atStart => exact ⟨[], HG.out.1, HG.out.2.1, HG.out.2.2, .inl ⟨rfl, rfl, rfl⟩⟩
      case round =>
        clear HG
        obtain ⟨zs, O2, c2, f2, hcase⟩ := hrel
        rcases hcase with ⟨rfl, rfl, hz⟩ | ⟨rfl, rfl, hz⟩ | ⟨rfl, rfl, hz⟩
        · rw [hz] at O2
          have c0 : wr.cell? ⟨gs, 0, none⟩ = some (.slice Av xs.length cv) := c2.cellv HB.out.1.lt (by simp) (HB.out.1.cellv 0 rfl)
          have HO := Lib.hid (And.intro O2 (And.intro c2 f2)); clear O2 c2 f2 hz
          obtain ⟨A3, c3, rfl⟩ := HO.out.1.slice
          go_wp2_with (at_builtin; refine wpList_cat_n (xs.length) (by simp) rfl _ _ rfl slty rfl HO.out.1 rfl (HB.out.2.1.chg HO.out.2.1 (Nat.le_refl _) (by simp)) (by omega) ?_; intro A4 c4 w4 O4 s4)
          have C4 : Chg [] W0 w4 := HO.out.2.1.new s4.c HO.out.2.2
          have F4 : ∀ k ∈ fpv (.slice A4 (xs.length) c4), W0.heap.size ≤ k := fun k hk => (s4.f k hk).elim (HO.out.2.2 k) (fun h => Nat.le_trans HO.out.2.1.size h)
          have HP := Lib.hid (And.intro O4 (And.intro C4 F4)); clear O4 s4 C4 F4
          go_wp2_with fail
          go_roundg 2
          case measure => omega
          case rel => exact ⟨_, HP.out.1, HP.out.2.1, HP.out.2.2, .inr (.inl ⟨rfl, by rfl, by simp⟩)⟩
        · rw [hz] at O2
          have c0 : wr.cell? ⟨gs, 1, none⟩ = some (.slice Au ys.length cu) := c2.cellv HB.out.1.lt (by simp) (HB.out.1.cellv 1 rfl)
          have HO := Lib.hid (And.intro O2 (And.intro c2 f2)); clear O2 c2 f2 hz
          obtain ⟨A3, c3, rfl⟩ := HO.out.1.slice
          go_wp2_with (at_builtin; refine wpList_cat_n (xs.length + ys.length) (by simp) rfl _ _ rfl slty rfl HO.out.1 rfl (HB.out.2.2.chg HO.out.2.1 (Nat.le_refl _) (by simp)) (by omega) ?_; intro A4 c4 w4 O4 s4)
          have C4 : Chg [] W0 w4 := HO.out.2.1.new s4.c HO.out.2.2
          have F4 : ∀ k ∈ fpv (.slice A4 (xs.length + ys.length) c4), W0.heap.size ≤ k := fun k hk => (s4.f k hk).elim (HO.out.2.2 k) (fun h => Nat.le_trans HO.out.2.1.size h)
          have HP := Lib.hid (And.intro O4 (And.intro C4 F4)); clear O4 s4 C4 F4
          go_wp2_with fail
          go_roundg 1
          case measure => omega
          case rel => exact ⟨_, HP.out.1, HP.out.2.1, HP.out.2.2, .inr (.inr ⟨rfl, by rfl, rfl⟩)⟩
        · rw [hz] at O2
          have HO := Lib.hid (And.intro O2 (And.intro c2 f2)); clear O2 c2 f2 hz
          obtain ⟨A3, c3, rfl⟩ := HO.out.1.slice
          go_wp2_with fail
          go_ret
          rw [← HW.out]
          exact ⟨_, rfl, HO.out.1, HO.out.2.1, HO.out.2.2⟩
end Go.Proofs.YtcnchgbngcnijaaGreatDoor
namespace Go.Proofs.YtcnchgbngcnijaaGreatDoor
open Go.RowKit Go.Maps

def ceC (v : Nat → Value) : Array Value := ((List.range 64).map v).toArray
theorem ceC_size (v : Nat → Value) : (ceC v).size = 64 := by unfold ceC; simp
theorem ceC_at (v : Nat → Value) {j : Nat} (h : j < 64) : (ceC v)[j]? = some (v j) := by unfold ceC; simp [h]
def updV {α : Type} (f : Nat → α) (j : Nat) (x : α) : Nat → α := fun i => if i = j then x else f i
theorem updV_same {α : Type} (f : Nat → α) (j : Nat) (x : α) : updV f j x j = x := if_pos rfl
theorem updV_other {α : Type} (f : Nat → α) {i j : Nat} (x : α) (h : i ≠ j) : updV f j x i = f i := if_neg h
theorem ceC_set (v : Nat → Value) {j : Nat} (h : j < 64) (x : Value) : (ceC v).setIfInBounds j x = ceC (updV v j x) := by
  apply Array.ext_getElem?
  intro i
  rw [Array.getElem?_setIfInBounds]
  by_cases e : j = i
  · subst e
    rw [if_pos rfl, if_pos (by rw [ceC_size]; exact h), ceC_at _ h, updV_same]
  · rw [if_neg e]
    by_cases hi : i < 64
    · rw [ceC_at _ hi, ceC_at _ hi, updV_other _ _ (Ne.symm e)]
    · rw [Array.getElem?_eq_none (by rw [ceC_size]; omega), Array.getElem?_eq_none (by rw [ceC_size]; omega)]
/-- The rows of central: 64 lists of the call's own, apart from one another. -/
structure IsCe (w : World) (gc gl : Nat) (v : Nat → Value) (r : Nat → List Nat) : Prop where
  b : Blk w gc 133 #[.slice (some ⟨gl, 0, none⟩) 16 16]
  l : Blk w gl 139 (ceC v)
  o : ∀ j, j < 64 → OwnI 3 w (v j) (intsN (r j))
  d : ∀ i j, i < 64 → j < 64 → i ≠ j → ∀ k ∈ fpv (v i), k ∉ fpv (v j)
/-- Its blocks. -/
def CeF (gc gl : Nat) (v : Nat → Value) (k : Nat) : Prop := k = gc ∨ k = gl ∨ ∃ j, j < 64 ∧ k ∈ fpv (v j)
section
variable {w w' : World} {gc gl : Nat} {v : Nat → Value} {r : Nat → List Nat}
theorem IsCe.chg {S : List Nat} (I : IsCe w gc gl v r) (c : Chg S w w') (hn : ∀ k, CeF gc gl v k → k ∉ S) : IsCe w' gc gl v r :=
  ⟨c.blk I.b (hn _ (.inl rfl)), c.blk I.l (hn _ (.inr (.inl rfl))), fun j hj => (I.o j hj).chg c (fun k hk => hn k (.inr (.inr ⟨j, hj, hk⟩))), I.d⟩
theorem IsCe.chg0 (I : IsCe w gc gl v r) (c : Chg [] w w') : IsCe w' gc gl v r := I.chg c (by simp)
theorem IsCe.cell (I : IsCe w gc gl v r) {j : Nat} (hj : j < 64) : w.cell? ⟨gl, j, none⟩ = some (v j) := I.l.cellv j (ceC_at v hj)
theorem IsCe.ne_gl (I : IsCe w gc gl v r) {j : Nat} (hj : j < 64) : gl ∉ fpv (v j) := fun hm => own_ne (I.o j hj).o I.l (by decide) (mem_fpv.1 hm)
theorem IsCe.ne_gc (I : IsCe w gc gl v r) {j : Nat} (hj : j < 64) : gc ∉ fpv (v j) := fun hm => own_ne (I.o j hj).o I.b (by decide) (mem_fpv.1 hm)
theorem IsCe.ne (I : IsCe w gc gl v r) : gc ≠ gl := I.b.ne_ I.l (by decide)
theorem IsCe.lt (I : IsCe w gc gl v r) {k : Nat} (hk : CeF gc gl v k) : k < w.heap.size := by
  rcases hk with rfl | rfl | ⟨j, hj, hk⟩
  · exact I.b.lt
  · exact I.l.lt
  · exact (I.o j hj).lt hk
/-- One row told anew: a list made out of it, or a new one, then stored in its place. -/
theorem IsCe.set (I : IsCe w gc gl v r) {j : Nat} (hj : j < 64) {u : Value} {xs : List Nat} (s : Stp (fpv (v j)) (fpv u) w w') (O : OwnI 3 w' u (intsN xs)) :
    IsCe (w'.setCell ⟨gl, j, none⟩ u) gc gl (updV v j u) (updV r j xs) := by
  have hgl : gl ∉ fpv (v j) := I.ne_gl hj
  have B1 : Blk w' gl 139 (ceC v) := s.c.blk I.l hgl
  have B2 := B1.set_ j u
  rw [ceC_set v hj] at B2
  have C2 : Chg [gl] w' (w'.setCell ⟨gl, j, none⟩ u) := (Chg.refl [gl] w').setCell (.inl (by simp)) u
  have far : ∀ {k}, k ∈ fpv u → k ≠ gl := fun {k} hk e => by
    rcases s.f k hk with h1 | h1
    · rw [e] at h1; exact hgl h1
    · have := I.l.lt; omega
  refine ⟨C2.blk (s.c.blk I.b (I.ne_gc hj)) (by simp [I.ne]), B2, fun i hi => ?_, fun i i' hi hi' hne k hk hk' => ?_⟩
  · by_cases e : i = j
    · subst e
      rw [updV_same, updV_same]
      exact O.chg C2 (fun k hk hm => far hk (by simpa using hm))
    · rw [updV_other _ _ e, updV_other _ _ e]
      exact ((I.o i hi).chg s.c (fun k hk => I.d i j hi hj e k hk)).chg C2 (fun k hk hm => I.ne_gl hi (by have : k = gl := (by simpa using hm); rw [← this]; exact hk))
  · by_cases e : i = j
    · subst e
      rw [updV_same] at hk
      rw [updV_other _ _ (Ne.symm hne)] at hk'
      rcases s.f k hk with h1 | h1
      · exact I.d i i' hi hi' hne k h1 hk'
      · have := (I.o i' hi').lt hk'; omega
    · rw [updV_other _ _ e] at hk
      by_cases e' : i' = j
      · subst e'
        rw [updV_same] at hk'
        rcases s.f k hk' with h1 | h1
        · exact I.d i i' hi hi' hne k hk h1
        · have := (I.o i hi).lt hk; omega
      · rw [updV_other _ _ e'] at hk'
        exact I.d i i' hi hi' hne k hk hk'
end
set_option maxHeartbeats 400000 in
theorem side_ok (w : World) (b : Bool) : Calls Tryz.prog 121 #[.bool b] w (QuPost (.int .i64 (if b then 1 else 0)) w) := by
  cases b
  all_goals
    go_enter Tryz.func121, Tryz.ntmps121
    go_wp2_with fail
    go_ret
    exact ⟨rfl, rfl⟩
set_option maxHeartbeats 800000 in
theorem has_k (w : World) (gc gl : Nat) (v : Nat → Value) (r : Nat → List Nat) (I : IsCe w gc gl v r) (k : Nat) (hk : k < 16) : Calls Tryz.prog 120 #[.pointer (some ⟨gc, 0, none⟩), .int .i64 (k : Nat)] w (QuPost (.bool true) w) := by
  have b0 : w.cell? ⟨gc, 0, none⟩ = some (.slice (some ⟨gl, 0, none⟩) 16 16) := I.b.cellv 0 rfl
  have h0 : (0 : Int) ≤ (k : Int) := by omega
  have h1 : (k : Int) < 16 := by omega
  clear I
  go_enter Tryz.func120, Tryz.ntmps120
  go_wp2_with fail
  go_ret
  exact ⟨rfl, rfl⟩
set_option maxHeartbeats 800000 in
theorem last_nil (w : World) (p : Addr) (v : Value) (hc : w.cell? p = some v) (O : OwnI 3 w v []) : Calls Tryz.prog 158 #[.pointer (some p)] w (QuPost (.tuple #[.int .i64 0, .bool false]) w) := by
  obtain ⟨A, c, rfl⟩ : ∃ A c, v = .slice A 0 c := O.slice
  clear O
  go_enter Tryz.func158, Tryz.ntmps158
  go_wp2_with fail
  go_ret2
  exact ⟨rfl, rfl⟩
theorem OwnI.pop {E : TypeId} {w : World} {g n c : Nat} {xs : List Int} {x : Int} (h : OwnI E w (.slice (some ⟨g, 0, none⟩) (n + 1) c) (xs ++ [x])) (hn : n = xs.length) : OwnI E w (.slice (some ⟨g, 0, none⟩) n c) xs := by
  subst hn
  rcases h.o.2 with ⟨e, _⟩ | ⟨g', cap, cur, e, hb0, hg, hc, hm, hs, ht⟩
  · simp at e
  · injection e with e1 e2 e3
    injection e1 with e1
    injection e1 with e1
    subst e1 e3
    refine ⟨⟨by simp, .inr ⟨g, c, cur, rfl, hb0, hg, by simp at hc; omega, hm, hs, ?_⟩⟩⟩
    have h2 := congrArg (List.take xs.length) ht
    rw [List.take_take] at h2
    simp at h2
    have h3 : min xs.length (xs.length + 1) = xs.length := by omega
    simpa [h3] using h2
def LsPost (p : Addr) (x : Int) (xs : List Int) (v : Value) (w : World) (e : Ending) (w' : World) : Prop :=
  ∃ u, e = .returned (.tuple #[.int .i64 x, .bool true]) ∧ w' = w.setCell p u ∧ OwnI 3 w u xs ∧ fpv u = fpv v
set_option maxHeartbeats 1600000 in
set_option maxRecDepth 100000 in
theorem last_some (w : World) (p : Addr) (v : Value) (xs : List Int) (x : Int) (hc : w.cell? p = some v) (hf : w.frozen? p = false) (O : OwnI 3 w v (xs ++ [x])) (hl : xs.length ≤ 1000000) : Calls Tryz.prog 158 #[.pointer (some p)] w (LsPost p x xs v w) := by
  obtain ⟨A, c, rfl⟩ := O.slice
  have hx : (xs ++ [x])[xs.length]? = some x := by rw [List.getElem?_append_right (Nat.le_refl _)]; simp
  obtain ⟨g, rfl, c1, -, -⟩ := O.cell hx
  have hcap := O.cap
  have hn : (xs ++ [x]).length = xs.length + 1 := by simp
  rw [hn] at hc hcap O ⊢
  obtain ⟨n, hm⟩ : ∃ n, n = xs.length := ⟨_, rfl⟩
  rw [← hm] at c1 hl hc hcap O ⊢
  have d0 : ¬ (n : Int) + 1 = 0 := by omega
  have d1 : (((n : Int) + 1) == 0) = false := by rw [beq_eq_false_iff_ne]; omega
  have d2 : (0 : Int) ≤ (n : Int) := by omega
  have d3 : (n : Int) < (n : Int) + 1 := by omega
  have d4 : (n : Int) ≤ (c : Int) := by omega
  have HO := Lib.hid (And.intro O (And.intro hm hcap)); clear O hm hx hn
  go_enter Tryz.func158, Tryz.ntmps158
  go_wp2_with fail
  go_ret2
  exact ⟨.slice (some ⟨g, 0, none⟩) n c, rfl, rfl, HO.out.1.pop HO.out.2.1, rfl⟩
end Go.Proofs.YtcnchgbngcnijaaGreatDoor
namespace Go.Proofs.YtcnchgbngcnijaaGreatDoor
open Go.RowKit Go.Maps

/-- From w to w' only blocks of F and new ones change; those of F' are of F or new. -/
structure StP (F F' : Nat → Prop) (w w' : World) : Prop where
  os : w'.os = w.os
  tape : w'.tape = w.tape
  output : w'.output = w.output
  size : w.heap.size ≤ w'.heap.size
  block : ∀ k, k < w.heap.size → ¬ F k → w'.heap[k]? = w.heap[k]?
  fr : ∀ k, F' k → F k ∨ w.heap.size ≤ k
section
variable {F F' F'' : Nat → Prop} {w w' w'' : World}
theorem StP.refl (F : Nat → Prop) (w : World) : StP F F w w := ⟨rfl, rfl, rfl, Nat.le_refl _, fun _ _ _ => rfl, fun _ h => .inl h⟩
theorem StP.of_chg {S : List Nat} (c : Chg S w w') (hS : ∀ k ∈ S, F k ∨ w.heap.size ≤ k) (fr : ∀ k, F' k → F k ∨ w.heap.size ≤ k) : StP F F' w w' :=
  ⟨c.os, c.tape, c.output, c.size, fun k hk hn => c.block k hk (fun hm => by
    rcases hS k hm with h1 | h1
    · exact hn h1
    · omega), fr⟩
theorem StP.trans (s : StP F F' w w') (t : StP F' F'' w' w'') : StP F F'' w w'' :=
  ⟨t.os.trans s.os, t.tape.trans s.tape, t.output.trans s.output, Nat.le_trans s.size t.size, fun k hk hn => (t.block k (Nat.lt_of_lt_of_le hk s.size) (fun hm => by
    rcases s.fr k hm with h1 | h1
    · exact hn h1
    · omega)).trans (s.block k hk hn), fun k hk => by
    rcases t.fr k hk with h1 | h1
    · exact s.fr k h1
    · exact .inr (Nat.le_trans s.size h1)⟩
theorem StP.then0 (s : StP F F' w w') (c : Chg [] w' w'') : StP F F' w w'' := s.trans (StP.of_chg c (by simp) fun _ h => .inl h)
theorem StP.chg (s : StP F F' w w') : ∃ S : List Nat, Chg S w w' ∧ ∀ k ∈ S, F k := by
  classical
  refine ⟨(List.range w.heap.size).filter (fun k => decide (F k)), ⟨s.os, s.tape, s.output, s.size, fun k hk hn => s.block k hk (fun hf => hn ?_)⟩, fun k hk => ?_⟩
  · rw [List.mem_filter, List.mem_range]
    exact ⟨hk, decide_eq_true hf⟩
  · rw [List.mem_filter] at hk
    exact of_decide_eq_true hk.2
end
/-- The rows of central, turned into r'. -/
def CeTo (gc gl : Nat) (v : Nat → Value) (r' : Nat → List Nat) (w w' : World) : Prop := ∃ v', IsCe w' gc gl v' r' ∧ StP (CeF gc gl v) (CeF gc gl v') w w'
theorem CeTo.set {w w' : World} {gc gl : Nat} {v : Nat → Value} {r : Nat → List Nat} (I : IsCe w gc gl v r) {j : Nat} (hj : j < 64) {u : Value} {xs : List Nat} (s : Stp (fpv (v j)) (fpv u) w w') (O : OwnI 3 w' u (intsN xs)) :
    CeTo gc gl v (updV r j xs) w (w'.setCell ⟨gl, j, none⟩ u) := by
  refine ⟨_, I.set hj s O, StP.of_chg (S := gl :: fpv (v j)) ((s.c.mono (fun k hk => .inl (List.mem_cons_of_mem _ hk))).setCell (.inl (by simp)) u) (fun k hk => .inl ?_) (fun k hk => ?_)⟩
  · rcases List.mem_cons.1 hk with h | h
    · exact .inr (.inl h)
    · exact .inr (.inr ⟨j, hj, h⟩)
  · rcases hk with h1 | h1 | ⟨i, hi, h1⟩
    · exact .inl (.inl h1)
    · exact .inl (.inr (.inl h1))
    · by_cases ei : i = j
      · subst ei
        rw [updV_same] at h1
        rcases s.f k h1 with h2 | h2
        · exact .inl (.inr (.inr ⟨i, hi, h2⟩))
        · exact .inr h2
      · rw [updV_other _ _ ei] at h1; exact .inl (.inr (.inr ⟨i, hi, h1⟩))
def LaPost (gc gl : Nat) (v : Nat → Value) (r : Nat → List Nat) (j : Nat) (w : World) (e : Ending) (w' : World) : Prop :=
  (r j = [] ∧ e = .returned (.tuple #[.int .i64 0, .bool false]) ∧ w' = w) ∨ ∃ xs x, r j = xs ++ [x] ∧ e = .returned (.tuple #[.int .i64 (x : Nat), .bool true]) ∧ CeTo gc gl v (updV r j xs) w w'
theorem ce_last (w : World) (gc gl : Nat) (v : Nat → Value) (r : Nat → List Nat) (I : IsCe w gc gl v r) (j : Nat) (hj : j < 64) (hl : (r j).length ≤ 1000000) : Calls Tryz.prog 158 #[.pointer (some ⟨gl, j, none⟩)] w (LaPost gc gl v r j w) := by
  have hc := I.cell hj
  have hf := I.l.frozen j
  have O := I.o j hj
  rcases List.eq_nil_or_concat (r j) with h | ⟨xs, x, h⟩
  · rw [h] at O
    refine (last_nil w ⟨gl, j, none⟩ (v j) hc O).mono ?_
    rintro e w' ⟨rfl, rfl⟩
    exact .inl ⟨h, rfl, rfl⟩
  · rw [List.concat_eq_append] at h
    rw [h] at O hl
    have e1 : intsN (xs ++ [x]) = intsN xs ++ [((x : Nat) : Int)] := by unfold intsN; simp
    rw [e1] at O
    have hl2 : (intsN xs).length ≤ 1000000 := by unfold intsN; rw [List.length_map]; simp at hl; omega
    refine (last_some w ⟨gl, j, none⟩ (v j) (intsN xs) x hc hf O hl2).mono ?_
    rintro e w' ⟨u, rfl, rfl, O', hfp⟩
    have s : Stp (fpv (v j)) (fpv u) w w := by rw [hfp]; exact Stp.refl _ _
    exact .inr ⟨xs, x, h, rfl, CeTo.set I hj s O'⟩
set_option maxHeartbeats 1600000 in
set_option maxRecDepth 100000 in
theorem takefull_ok (w : World) (gc gl : Nat) (v : Nat → Value) (r : Nat → List Nat) (I : IsCe w gc gl v r) (k : Nat) (hk : k < 16) (hl : ∀ j, (r j).length ≤ 1000000) : Calls Tryz.prog 124 #[.pointer (some ⟨gc, 0, none⟩), .int .i64 (k : Nat)] w (LaPost gc gl v r (k * 4 + 3) w) := by
  have b0 : w.cell? ⟨gc, 0, none⟩ = some (.slice (some ⟨gl, 0, none⟩) 16 16) := I.b.cellv 0 rfl
  have h0 : (0 : Int) ≤ (k : Int) := by omega
  have h1 : (k : Int) < 16 := by omega
  have HI := Lib.hid I
  clear I
  go_enter Tryz.func124, Tryz.ntmps124
  go_wp2_with fail
  refine (has_k w gc gl v r HI.out k hk).mono ?_
  rintro e w1 ⟨rfl, rfl⟩
  go_wp2_with fail
  refine (ce_last w1 gc gl v r HI.out (k * 4 + 3) (by omega) (hl _)).mono ?_
  rintro e w2 (⟨hn, rfl, rfl⟩ | ⟨xs, x, hr, rfl, ht⟩)
  · have HN := Lib.hid hn; clear hn
    go_wp2_with fail
    go_ret2
    exact .inl ⟨HN.out, rfl, rfl⟩
  · have HN := Lib.hid (And.intro hr ht); clear hr ht
    go_wp2_with fail
    go_ret2
    exact .inr ⟨xs, x, HN.out.1, rfl, HN.out.2⟩
def TkPost (gc gl : Nat) (v : Nat → Value) (r : Nat → List Nat) (k : Nat) (w : World) (e : Ending) (w' : World) : Prop :=
  (r (k * 4) = [] ∧ r (k * 4 + 2) = [] ∧ e = .returned (.tuple #[.int .i64 0, .bool false, .bool false]) ∧ w' = w) ∨
  (∃ xs x, r (k * 4) = xs ++ [x] ∧ e = .returned (.tuple #[.int .i64 (x : Nat), .bool false, .bool true]) ∧ CeTo gc gl v (updV r (k * 4) xs) w w') ∨
  ∃ xs x, r (k * 4) = [] ∧ r (k * 4 + 2) = xs ++ [x] ∧ e = .returned (.tuple #[.int .i64 (x : Nat), .bool true, .bool true]) ∧ CeTo gc gl v (updV r (k * 4 + 2) xs) w w'
def TkRel (w0 : World) (r : Nat → List Nat) (k gk : Nat) (idx : Value) (w : World) : Prop :=
  w = w0 ∧ ((gk = 3 ∧ idx = .int .i64 0) ∨ (gk = 2 ∧ idx = .int .i64 1 ∧ r (k * 4) = []) ∨ (gk = 1 ∧ idx = .int .i64 2 ∧ r (k * 4) = [] ∧ r (k * 4 + 2) = []))
set_option maxHeartbeats 1600000 in
set_option maxRecDepth 100000 in
theorem take_ok (w : World) (gc gl : Nat) (v : Nat → Value) (r : Nat → List Nat) (I : IsCe w gc gl v r) (k : Nat) (hk : k < 16) (hl : ∀ j, (r j).length ≤ 1000000) : Calls Tryz.prog 123 #[.pointer (some ⟨gc, 0, none⟩), .int .i64 (k : Nat)] w (TkPost gc gl v r k w) := by
  have b0 : w.cell? ⟨gc, 0, none⟩ = some (.slice (some ⟨gl, 0, none⟩) 16 16) := I.b.cellv 0 rfl
  have h0 : (0 : Int) ≤ (k : Int) := by omega
  have h1 : (k : Int) < 16 := by omega
  have HI := Lib.hid I
  clear I
  go_enter Tryz.func123, Tryz.ntmps123
  go_wp2_with fail
  refine (has_k w gc gl v r HI.out k hk).mono ?_
  rintro e w1 ⟨rfl, rfl⟩
  go_wp2_with fail
  go_loopg [14] 3 (fun gk idx wr => TkRel w1 r k gk idx wr)
  case atStart => exact ⟨rfl, .inl ⟨rfl, rfl⟩⟩
  case round =>
    obtain ⟨hw, hcase⟩ := hrel
    subst hw
    rcases hcase with ⟨rfl, rfl⟩ | ⟨rfl, rfl, hn⟩ | ⟨rfl, rfl, hn, hn2⟩
    · go_wp2_with fail
      refine (ce_last _ gc gl v r HI.out (k * 4) (by omega) (hl _)).mono ?_
      rintro e w2 (⟨hn, rfl, rfl⟩ | ⟨xs, x, hr, rfl, ht⟩)
      · have HN := Lib.hid hn; clear hn
        go_wp2_with fail
        go_roundg 2
        case measure => omega
        case rel => exact ⟨rfl, .inr (.inl ⟨rfl, rfl, HN.out⟩)⟩
      · have HN := Lib.hid (And.intro hr ht); clear hr ht
        go_wp2_with fail
        go_ret3
        exact .inr (.inl ⟨xs, x, HN.out.1, rfl, HN.out.2⟩)
    · have HM := Lib.hid hn; clear hn
      go_wp2_with fail
      refine (ce_last _ gc gl v r HI.out (k * 4 + 2) (by omega) (hl _)).mono ?_
      rintro e w2 (⟨hn, rfl, rfl⟩ | ⟨xs, x, hr, rfl, ht⟩)
      · have HN := Lib.hid hn; clear hn
        go_wp2_with fail
        go_roundg 1
        case measure => omega
        case rel => exact ⟨rfl, .inr (.inr ⟨rfl, rfl, HM.out, HN.out⟩)⟩
      · have HN := Lib.hid (And.intro hr ht); clear hr ht
        go_wp2_with fail
        go_ret3
        exact .inr (.inr ⟨xs, x, HM.out, HN.out.1, rfl, HN.out.2⟩)
    · have HM := Lib.hid (And.intro hn hn2); clear hn hn2
      go_wp2_with fail
      go_ret3
      exact .inl ⟨HM.out.1, HM.out.2, rfl, rfl⟩
end Go.Proofs.YtcnchgbngcnijaaGreatDoor
namespace Go.Proofs.YtcnchgbngcnijaaGreatDoor
open Go.RowKit Go.Maps

/-- The block that a slice lies in. -/
def fpa (u : Value) : List Nat := match u with | .slice (some a) _ _ => [a.block] | _ => []
theorem fpa_slice (g off n c : Nat) : fpa (.slice (some ⟨g, off, none⟩) n c) = [g] := rfl
/-- A list that is read, wherever in its block it begins. -/
def RowI (w : World) (u : Value) (xs : List Int) : Prop :=
  ∃ A c, u = .slice A xs.length c ∧ xs.length ≤ c ∧ (A = none → c = 0) ∧ ∀ a, A = some a → ∃ b off, a = ⟨b, off, none⟩ ∧ b < w.heap.size ∧ ∀ i y, xs[i]? = some y → w.cell? ⟨b, off + i, none⟩ = some (.int .i64 y)
section
variable {w w' : World} {u : Value} {xs : List Int}
theorem RowI.nil (w : World) : RowI w (.slice none 0 0) [] := ⟨none, 0, rfl, Nat.le_refl _, fun _ => rfl, fun a h => by cases h⟩
theorem RowI.chg {S : List Nat} (h : RowI w u xs) (c : Chg S w w') (hn : ∀ k ∈ fpa u, k ∉ S) : RowI w' u xs := by
  obtain ⟨A, cc, rfl, h1, h2, h3⟩ := h
  refine ⟨A, cc, rfl, h1, h2, fun a ha => ?_⟩
  obtain ⟨b, off, rfl, hb, hx⟩ := h3 a ha
  subst ha
  exact ⟨b, off, rfl, Nat.lt_of_lt_of_le hb c.size, fun i y hy => c.cellv hb (hn b (by rw [fpa_slice]; simp)) (hx i y hy)⟩
theorem RowI.chg0 (h : RowI w u xs) (c : Chg [] w w') : RowI w' u xs := h.chg c (by simp)
theorem RowI.lt (h : RowI w u xs) {k : Nat} (hk : k ∈ fpa u) : k < w.heap.size := by
  obtain ⟨A, cc, rfl, h1, h2, h3⟩ := h
  cases A with
  | none => simp [fpa] at hk
  | some a =>
    obtain ⟨b, off, rfl, hb, hx⟩ := h3 a rfl
    rw [fpa_slice] at hk
    have e : k = b := by simpa using hk
    subst e; exact hb
theorem RowI.rdv (h : RowI w u xs) : RdV w w.heap.size u (xs.map (Value.int .i64)) := by
  obtain ⟨A, cc, rfl, h1, h2, h3⟩ := h
  refine ⟨⟨A, cc, by rw [List.length_map]⟩, fun A' n' c' e i y hy => ?_, fun y hy => by obtain ⟨_, _, rfl⟩ := List.mem_map.1 hy; rfl⟩
  injection e with e1 e2 e3
  subst e1
  rw [List.getElem?_map] at hy
  obtain ⟨z, hz, rfl⟩ := Option.map_eq_some_iff.1 hy
  cases A with
  | none =>
    have := h2 rfl
    have h4 : xs = [] := List.eq_nil_of_length_eq_zero (by omega)
    rw [h4] at hz; cases hz
  | some a =>
    obtain ⟨b, off, rfl, hb, hx⟩ := h3 a rfl
    exact ⟨b, off, rfl, hb, hx i z hz⟩
theorem RowI.rd (h : RowI w u xs) (hl : xs.length ≤ 1000000) : RdI w u xs := by
  obtain ⟨A, cc, rfl, h1, h2, h3⟩ := h
  refine ⟨⟨A, cc, rfl⟩, by omega, fun A' n' c' e i y hy => ?_⟩
  injection e with e1 e2 e3
  subst e1
  cases A with
  | none =>
    have := h2 rfl
    have h4 : xs = [] := List.eq_nil_of_length_eq_zero (by omega)
    rw [h4] at hy; cases hy
  | some a =>
    obtain ⟨b, off, rfl, hb, hx⟩ := h3 a rfl
    exact ⟨b, off, rfl, hx i y hy⟩
theorem RowI.slice (h : RowI w u xs) : ∃ A c, u = .slice A xs.length c ∧ xs.length ≤ c := by
  obtain ⟨A, cc, rfl, h1, h2, h3⟩ := h
  exact ⟨A, cc, rfl, h1⟩
theorem RowI.cell {A : Option Addr} {n c i : Nat} {y : Int} (h : RowI w (.slice A n c) xs) (hy : xs[i]? = some y) : ∃ b off, A = some ⟨b, off, none⟩ ∧ b < w.heap.size ∧ w.cell? ⟨b, off + i, none⟩ = some (.int .i64 y) := by
  obtain ⟨A', cc, e, h1, h2, h3⟩ := h
  injection e with e1 e2 e3
  subst e1
  cases A with
  | none =>
    have := h2 rfl
    have h4 : xs = [] := List.eq_nil_of_length_eq_zero (by omega)
    rw [h4] at hy; cases hy
  | some a =>
    obtain ⟨b, off, rfl, hb, hx⟩ := h3 a rfl
    exact ⟨b, off, rfl, hb, hx i y hy⟩
theorem RowI.take {A : Option Addr} {n c i : Nat} (h : RowI w (.slice A n c) xs) (hi : i ≤ xs.length) : RowI w (sliced A 0 i c 1) (xs.take i) := by
  obtain ⟨A', cc, e, h1, h2, h3⟩ := h
  injection e with e1 e2 e3
  subst e1 e3
  have hl : (xs.take i).length = i := by rw [List.length_take]; omega
  have ea : (if c = 0 then A else A.map (·.add (0 * 1))) = A := by
    split
    · rfl
    · cases A with
      | none => rfl
      | some a =>
        obtain ⟨b, off, rfl, -, -⟩ := h3 a rfl
        simp [WideShapes.add_plain]
  unfold sliced
  rw [ea]
  refine ⟨A, c, by rw [hl]; rfl, by rw [hl]; omega, h2, fun a ha => ?_⟩
  obtain ⟨b, off, rfl, hb, hx⟩ := h3 a ha
  refine ⟨b, off, rfl, hb, fun j y hy => hx j y ?_⟩
  rw [List.getElem?_take] at hy
  split at hy
  · exact hy
  · cases hy
theorem RowI.drop {A : Option Addr} {n c i : Nat} (h : RowI w (.slice A n c) xs) (hi : i ≤ xs.length) : RowI w (sliced A i n c 1) (xs.drop i) := by
  obtain ⟨A', cc, e, h1, h2, h3⟩ := h
  injection e with e1 e2 e3
  subst e1 e2 e3
  have hl : (xs.drop i).length = xs.length - i := List.length_drop
  unfold sliced
  by_cases hci : c = i
  · rw [if_pos hci]
    have e0 : xs.length = i := by omega
    refine ⟨A, c - i, by rw [hl], by rw [hl]; omega, fun hA => by have := h2 hA; omega, fun a ha => ?_⟩
    obtain ⟨b, off, rfl, hb, hx⟩ := h3 a ha
    refine ⟨b, off, rfl, hb, fun j y hy => ?_⟩
    rw [List.drop_eq_nil_of_le (by omega)] at hy; cases hy
  · rw [if_neg hci]
    refine ⟨_, c - i, by rw [hl], by rw [hl]; omega, fun hA => ?_, fun a ha => ?_⟩
    · cases A with
      | none => have := h2 rfl; omega
      | some a => cases hA
    · cases A with
      | none => cases ha
      | some a' =>
        obtain ⟨b, off, rfl, hb, hx⟩ := h3 a' rfl
        rw [Option.map_some] at ha
        injection ha with ha
        rw [WideShapes.add_plain] at ha
        refine ⟨b, off + i * 1, ha.symm, hb, fun j y hy => ?_⟩
        rw [List.getElem?_drop] at hy
        have := hx (i + j) y hy
        rw [show off + i * 1 + j = off + (i + j) by omega]
        exact this
theorem RowI.fpa_sliced {A : Option Addr} {n c l m s : Nat} (h : RowI w (.slice A n c) xs) {k : Nat} (hk : k ∈ fpa (sliced A l m c s)) : k ∈ fpa (.slice A n c) := by
  obtain ⟨A', cc, e, h1, h2, h3⟩ := h
  injection e with e1 e2 e3
  subst e1
  unfold sliced at hk
  cases A with
  | none => split at hk <;> simp [fpa] at hk
  | some a =>
    obtain ⟨b, off, rfl, -, -⟩ := h3 a rfl
    split at hk
    · exact hk
    · rw [Option.map_some, WideShapes.add_plain] at hk
      exact hk
/-- A list of the call's own is one. -/
theorem OwnI.row (h : OwnI 3 w u xs) : RowI w u xs := by
  rcases h.o.2 with ⟨rfl, h0⟩ | ⟨g, cap, cur, rfl, _, hb, hc, hm, hs, ht⟩
  · have h4 : xs = [] := List.eq_nil_of_length_eq_zero h0
    subst h4; exact RowI.nil w
  · refine ⟨some ⟨g, 0, none⟩, cap, rfl, hc, fun h => (by cases h), fun a ha => ?_⟩
    injection ha with ha
    subst ha
    refine ⟨g, 0, rfl, Blk.lt (t := 3) (cs := cur) hb, fun i y hy => ?_⟩
    rw [Nat.zero_add]
    exact (h.cell hy).elim fun g' hg => by
      obtain ⟨e, hcell, -⟩ := hg
      injection e with e
      injection e with e
      subst e; exact hcell
theorem OwnI.fpa {k : Nat} (h : OwnI 3 w u xs) (hk : k ∈ fpa u) : k ∈ fpv u := by
  rcases h.o.2 with ⟨rfl, _⟩ | ⟨g, cap, cur, rfl, _⟩
  · simp [Go.Proofs.YtcnchgbngcnijaaGreatDoor.fpa] at hk
  · rw [fpa_slice] at hk
    have e : k = g := by simpa using hk
    subst e; simp [fpv, Value.ownBlock]
end
/-- The document's rows. -/
structure IsCr (w : World) (gc : Nat) (v : Nat → Value) (r : Nat → List Nat) : Prop where
  b : Blk w gc 114 (ceC v)
  o : ∀ j, j < 64 → RowI w (v j) (intsN (r j))
  g : ∀ j, j < 64 → gc ∉ fpa (v j)
def CrF (gc : Nat) (v : Nat → Value) (k : Nat) : Prop := k = gc ∨ ∃ j, j < 64 ∧ k ∈ fpa (v j)
section
variable {w w' w'' : World} {gc : Nat} {v : Nat → Value} {r : Nat → List Nat}
theorem IsCr.chg {S : List Nat} (I : IsCr w gc v r) (c : Chg S w w') (hn : ∀ k, CrF gc v k → k ∉ S) : IsCr w' gc v r :=
  ⟨c.blk I.b (hn _ (.inl rfl)), fun j hj => (I.o j hj).chg c (fun k hk => hn k (.inr ⟨j, hj, hk⟩)), I.g⟩
theorem IsCr.chg0 (I : IsCr w gc v r) (c : Chg [] w w') : IsCr w' gc v r := I.chg c (by simp)
theorem IsCr.cell (I : IsCr w gc v r) {j : Nat} (hj : j < 64) : w.cell? ⟨gc, j, none⟩ = some (v j) := I.b.cellv j (ceC_at v hj)
theorem IsCr.lt (I : IsCr w gc v r) {k : Nat} (hk : CrF gc v k) : k < w.heap.size := by
  rcases hk with rfl | ⟨j, hj, hk⟩
  · exact I.b.lt
  · exact (I.o j hj).lt hk
def CrTo (gc : Nat) (v : Nat → Value) (r' : Nat → List Nat) (w w' : World) : Prop := ∃ v', IsCr w' gc v' r' ∧ StP (CrF gc v) (CrF gc v') w w'
/-- One row told anew. -/
theorem CrTo.set (I : IsCr w gc v r) {j : Nat} (hj : j < 64) {u : Value} {xs : List Nat} (c : Chg [] w w') (R : RowI w' u (intsN xs)) (hu : ∀ k ∈ fpa u, k ≠ gc ∧ (CrF gc v k ∨ w.heap.size ≤ k)) :
    CrTo gc v (updV r j xs) w (w'.setCell ⟨gc, j, none⟩ u) := by
  have C2 : Chg [gc] w' (w'.setCell ⟨gc, j, none⟩ u) := (Chg.refl [gc] w').setCell (.inl (by simp)) u
  have B2 := (c.blk I.b (by simp)).set_ j u
  rw [ceC_set v hj] at B2
  refine ⟨updV v j u, ⟨B2, fun i hi => ?_, fun i hi hm => ?_⟩, StP.of_chg (S := [gc]) ((c.mono (by simp)).trans C2) (fun k hk => .inl (.inl (by simpa using hk))) (fun k hk => ?_)⟩
  · by_cases e : i = j
    · subst e
      rw [updV_same, updV_same]
      exact R.chg C2 (fun k hk hm => (hu k hk).1 (by simpa using hm))
    · rw [updV_other _ _ e, updV_other _ _ e]
      exact ((I.o i hi).chg0 c).chg C2 (fun k hk hm => I.g i hi (by have : k = gc := (by simpa using hm); rw [← this]; exact hk))
  · by_cases e : i = j
    · subst e
      rw [updV_same] at hm
      exact (hu gc hm).1 rfl
    · rw [updV_other _ _ e] at hm
      exact I.g i hi hm
  · rcases hk with h1 | ⟨i, hi, h1⟩
    · exact .inl (.inl h1)
    · by_cases e : i = j
      · subst e
        rw [updV_same] at h1
        exact (hu k h1).2
      · rw [updV_other _ _ e] at h1
        exact .inl (.inr ⟨i, hi, h1⟩)
theorem CrTo.chg0 (T : CrTo gc v r w w') (c : Chg [] w' w'') : CrTo gc v r w w'' := by
  obtain ⟨v', I, s⟩ := T
  exact ⟨v', I.chg0 c, s.then0 c⟩
theorem CrTo.after {v' : Nat → Value} {r' : Nat → List Nat} (s : StP (CrF gc v) (CrF gc v') w w') (T : CrTo gc v' r' w' w'') : CrTo gc v r' w w'' := by
  obtain ⟨v2, I, s2⟩ := T
  exact ⟨v2, I, s.trans s2⟩
end
end Go.Proofs.YtcnchgbngcnijaaGreatDoor
