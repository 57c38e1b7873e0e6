/- The walks of slices.Index, Clone, Grow (of nothing), Concat (of two) at integers. -/
import Derived.Test.YtmafiagakoglkaaGreatDoorMZ
import Derived.Lib.AppendZerosOnto
import Derived.Deep.CutBlock
namespace Go.Proofs.YtmafiagakoglkaaGreatDoor
open Go.RowKit Go.Maps

def LixSays (xs : List Int) (x r : Int) : Prop := (r = -1 ∧ x ∉ xs) ∨ ∃ i : Nat, r = i ∧ xs[i]? = some x ∧ x ∉ xs.take i
def LixRel (xs : List Int) (x : Int) (gk : Nat) (idx : Value) (w0 w : World) : Prop := ∃ i, gk + i = xs.length + 1 ∧ i ≤ xs.length ∧ idx = .int .i64 (i : Nat) ∧ x ∉ xs.take i ∧ w = w0
set_option maxHeartbeats 800000 in
set_option maxRecDepth 100000 in
theorem lindex_ok (w : World) (v : Value) (xs : List Int) (x : Int) (hv : RdI w v xs) : Calls Tryz.prog 115 #[v, .int .i64 x] w fun e w' => ∃ r, LixSays xs x r ∧ QuPost (.int .i64 r) w e w' := by
  obtain ⟨A, c, rfl⟩ := hv.ex
  have hl1 := hv.len
  have HV := Lib.hid hv; clear hv
  go_enter Tryz.func115, Tryz.ntmps115
  go_wp2_with fail
  go_loopg [8] (xs.length + 1) (fun gk idx wr => LixRel xs x gk idx w wr)
  case atStart => exact ⟨0, by omega, by omega, rfl, by simp, rfl⟩
  case round =>
    obtain ⟨i, hgk, hin, rfl, ht, rfl⟩ := hrel
    by_cases e : i < xs.length
    · obtain ⟨y, hy⟩ : ∃ y, xs[i]? = some y := ⟨_, List.getElem?_eq_getElem e⟩
      obtain ⟨b1, o1, rfl, c1⟩ := HV.out.at_ _ _ _ rfl i y hy
      have hi' : (i : Int) < (xs.length : Int) := by omega
      have hi0 : (0 : Int) ≤ (i : Int) := by omega
      have ht2 : y ≠ x → x ∉ xs.take (i + 1) := fun e => by
        rw [take_succ_get hy, List.mem_append]
        rintro (g | g)
        · exact ht g
        · exact e (by simpa using g : x = y).symm
      have HT := Lib.hid (And.intro ht2 (And.intro hy ht)); clear ht2 hy ht
      by_cases exy : x = y
      · have hq : (x == y) = true := by simpa using exy
        have HE := Lib.hid exy; clear exy
        go_wp2_with fail
        go_ret
        exact ⟨(i : Nat), .inr ⟨i, rfl, by rw [HT.out.2.1, HE.out], HT.out.2.2⟩, rfl, rfl⟩
      · have hq : (x == y) = false := by simpa using exy
        have HE := Lib.hid exy; clear exy
        go_wp2_with fail
        go_roundg (xs.length - i)
        case measure => omega
        case rel => exact ⟨i + 1, by omega, by omega, by go_num, HT.out.1 (fun h => HE.out h.symm), rfl⟩
    · obtain rfl : i = xs.length := by omega
      rw [List.take_length] at ht
      have HX := Lib.hid ht; clear ht e hin
      have hi' : ¬ (xs.length : Int) < (xs.length : Int) := by omega
      go_wp2_with fail
      go_ret
      exact ⟨-1, .inl ⟨rfl, HX.out⟩, rfl, rfl⟩
/-- A new list of the call's own. -/
def NwL (xs : List Int) (w : World) (e : Ending) (w' : World) : Prop := ∃ v, e = .returned v ∧ OwnI 3 w' v xs ∧ Chg [] w w' ∧ ∀ k ∈ fpv v, w.heap.size ≤ k
set_option maxHeartbeats 800000 in
set_option maxRecDepth 100000 in
theorem lclone_ok (w : World) (ad : Addr) (c : Nat) (xs : List Int) (hv : SlI w w.heap.size (.slice (some ad) xs.length c) xs) (hl : xs.length ≤ 1000000) : Calls Tryz.prog 117 #[.slice (some ad) xs.length c] w (NwL xs w) := by
  have HV := Lib.hid hv
  clear hv
  have heq : (binOp .eql 22 (.slice (some ad) xs.length c) (.slice none 0 0)).run Tryz.prog w = .ok (.bool false) w := Lib.run_eql_slice_nil w 22 3 (some ad) xs.length c 0 0 slty.s
  go_enter Tryz.func117, Tryz.ntmps117
  go_wp2_with (at_builtin; refine wpList_cat_sl rfl _ _ rfl slty rfl (OwnI.empty _ _) rfl (HV.out.chg ((Chg.refl [] w).alloc _) (Nat.le_refl _) (by simp)) (by simp; omega) ?_; intro A2 c2 w2 O2 s2)
  rw [List.nil_append] at O2
  have e1 : ([] : List Int).length + xs.length = xs.length := by simp
  rw [e1] at O2 s2
  have C2 : Chg [] w w2 := ((Chg.refl [] w).alloc (.cells #[] 3)).new s2.c (fun k hk => by rw [fpv_some hk]; exact Nat.le_refl _)
  have F2 : ∀ k ∈ fpv (.slice A2 xs.length c2), w.heap.size ≤ k := fun k hk => by
    rcases s2.f k hk with h1 | h1
    · rw [fpv_some h1]; exact Nat.le_refl _
    · rw [World.size_alloc] at h1; omega
  have HX := Lib.hid (And.intro O2 (And.intro C2 F2)); clear O2 s2 C2 F2 e1
  go_wp2_with fail
  go_ret
  exact ⟨_, rfl, HX.out.1, HX.out.2.1, HX.out.2.2⟩
set_option maxHeartbeats 800000 in
set_option maxRecDepth 100000 in
theorem lgrow_nil (w : World) (n : Nat) (hn : n ≤ 1000000) : Calls Tryz.prog 143 #[.slice none 0 0, .int .i64 (n : Nat)] w (NwL [] w) := by
  have d0 : ¬ (n : Int) < 0 := by omega
  cases n with
  | zero =>
    go_enter Tryz.func143, Tryz.ntmps143
    go_wp2_with fail
    go_ret
    exact ⟨_, rfl, OwnI.nil _ _, Chg.refl _ _, fun k hk => by simp [fpv, Value.ownBlock] at hk⟩
  | succ n =>
    obtain ⟨i0, hi0, hz0, hz1, hz2⟩ := info_parts slty.i
    obtain ⟨m, hm⟩ : ∃ m, m = n + 1 := ⟨_, rfl⟩
    rw [← hm] at hn d0 ⊢
    have hm1 : 0 < m := by omega
    have d1 : (0 : Int) < (m : Int) := by omega
    obtain ⟨G, hG⟩ : ∃ G, G = grownCap w (0 + m) 0 3 := ⟨_, rfl⟩
    have hGn : 0 + m ≤ G := by rw [hG]; exact grownCap_ge w _ _ _
    have hGm : G ≤ maxLen := by rw [hG]; exact grownCap_le_maxLen w _ _ _ (by unfold maxLen; omega)
    obtain ⟨Z, hZ⟩ : ∃ Z, Z = ([] : List Value).toArray ++ Builtin.zeroCells (Value.int .i64 0).cells m ++ Builtin.zeroCells (Value.int .i64 0).cells (G - (0 + m)) := ⟨_, rfl⟩
    have hZs : Z.size = G := by
      rw [hZ]
      simp [Builtin.zeroCells, Value.cells]
      omega
    have hrz : ∀ ty, (Builtin.append_ #[22, 3] ty #[.slice none 0 0, .int .i64 (m : Nat)]).run Tryz.prog w = .ok (.slice (some ⟨w.heap.size, 0, none⟩) (0 + m) G) (w.drew.alloc (.cells Z 3)) := fun ty => by
      have h := Lib.run_append_grow_zeros (P := Tryz.prog) w 22 3 ty 3 i0 _ .i64 .i64 slty.s Tryz.underlying3 hi0 hz0 none 0 0 [] (by simp [Builtin.firstCells]) m hm1 (by omega) (by omega) (by omega) (by rw [hz2]; omega) (by rw [hz2]; exact growslice_fits (by omega) (by omega))
      rw [← hG, ← hZ] at h
      exact h
    have HZ := Lib.hid (And.intro hZs (And.intro hGm hGn)); clear hZ hG hZs hm hi0 hz0 hz1 hz2
    go_enter Tryz.func143, Tryz.ntmps143
    go_wp2_with (at_builtin; refine Lib.wpList_append_run _ rfl _ _ _ _ rfl _ _ rfl rfl _ _ (hrz _) ?_)
    go_ret
    have O : OwnI 3 (w.alloc (.cells Z 3)) (.slice (some ⟨w.heap.size, 0, none⟩) 0 G) [] :=
      ⟨⟨rfl, .inr ⟨w.heap.size, G, Z, rfl, Nat.zero_le _, heap_alloc_new w _, Nat.zero_le _, HZ.out.2.1, by rw [HZ.out.1, Nat.mul_one], by simp⟩⟩⟩
    exact ⟨_, rfl, O.drew, ((Chg.refl [] w).alloc _).drew, fun k hk => by have : k = w.heap.size := fpv_some hk; omega⟩
theorem wpList_cat_n {P : Program} {T E : TypeId} {w : World} {v u : Value} {xs ys : List Int} {B : Nat} {ops : Array Oper} {rest : List Oper} {o : Oper} {a : Act} {Q : Exit → Act → World → Prop} (n : Nat) (hn : xs.length + ys.length = n) (hgd : o.guard = none) (s x : Operand)
    (ho : o.op = .call { callee := .builtin .append, args := #[s, x], argTypes := #[T, T] }) (t : SlTy P T E) (hs : a.eval s = v) (h : OwnI E w v xs) (hx : a.eval x = u) (hu : SlI w B u ys) (hl : n ≤ 1000000000000)
    (hK : ∀ A' c' w', OwnI E w' (.slice A' n c') (xs ++ ys) → Stp (fpv v) (fpv (.slice A' n c')) w w' → wpList P ops Q rest (a.put o.dst (.slice A' n c')) w') : wpList P ops Q (o :: rest) a w := by
  subst hn
  exact wpList_cat_sl hgd s x ho t hs h hx hu hl hK
def CcRel (w0 : World) (xs ys : List Int) (gk : Nat) (sz idx : Value) (w : World) : Prop :=
  (gk = 3 ∧ idx = .int .i64 0 ∧ sz = .int .i64 0 ∧ w = w0) ∨ (gk = 2 ∧ idx = .int .i64 1 ∧ sz = .int .i64 (xs.length : Nat) ∧ w = w0) ∨ (gk = 1 ∧ idx = .int .i64 2 ∧ sz = .int .i64 (xs.length + ys.length : Nat) ∧ w = w0)
def CdRel (w0 : World) (xs ys : List Int) (gk : Nat) (vn idx : Value) (w : World) : Prop :=
  ∃ zs, OwnI 3 w vn zs ∧ Chg [] w0 w ∧ (∀ k ∈ fpv vn, w0.heap.size ≤ k) ∧ ((gk = 3 ∧ idx = .int .i64 0 ∧ zs = []) ∨ (gk = 2 ∧ idx = .int .i64 1 ∧ zs = xs) ∨ (gk = 1 ∧ idx = .int .i64 2 ∧ zs = xs ++ ys))
set_option maxHeartbeats 1600000 in
set_option maxRecDepth 100000 in
theorem lconcat_ok (w : World) (gs : Nat) (v u : Value) (xs ys : List Int) (B : Blk w gs 22 #[v, u]) (hv : SlI w w.heap.size v xs) (hu : SlI w w.heap.size u ys) (h1 : xs.length ≤ 100000) (h2 : ys.length ≤ 100000) :
    Calls Tryz.prog 104 #[.slice (some ⟨gs, 0, none⟩) 2 2] w (NwL (xs ++ ys) w) := by
  have b0 : w.cell? ⟨gs, 0, none⟩ = some v := B.cellv 0 rfl
  have b1 : w.cell? ⟨gs, 1, none⟩ = some u := B.cellv 1 rfl
  have HB := Lib.hid (And.intro B (And.intro hv hu))
  obtain ⟨Av, cv, rfl⟩ := hv.ex
  obtain ⟨Au, cu, rfl⟩ := hu.ex
  clear B hv hu
  go_enter Tryz.func104, Tryz.ntmps104
  go_wp2_with fail
  go_loopg [3, 11] 3 (fun gk sz idx wr => CcRel w xs ys gk sz idx wr)
  case atStart => exact .inl ⟨rfl, rfl, rfl, rfl⟩
  case round =>
    rcases hrel with ⟨rfl, rfl, rfl, rfl⟩ | ⟨rfl, rfl, rfl, rfl⟩ | ⟨rfl, rfl, rfl, rfl⟩
    · have d1 : ¬ (xs.length : Int) < 0 := by omega
      go_wp2_with fail
      go_roundg 2
      case measure => omega
      case rel => exact .inr (.inl ⟨rfl, by rfl, by go_num, rfl⟩)
    · have d1 : ¬ (xs.length : Int) + (ys.length : Int) < 0 := by omega
      go_wp2_with fail
      go_roundg 1
      case measure => omega
      case rel => exact .inr (.inr ⟨rfl, by rfl, by go_num, rfl⟩)
    · go_wp2_with fail
      obtain ⟨m, hm⟩ : ∃ m, m = xs.length + ys.length := ⟨_, rfl⟩
      have em : (xs.length : Int) + (ys.length : Int) = ((m : Nat) : Int) := by omega
      first | rw [em] | skip
      refine (lgrow_nil _ m (by omega)).mono ?_
      rintro e w1 ⟨vn, rfl, O, c1, f1⟩
      obtain ⟨A1, c9, rfl⟩ := O.slice
      have HG := Lib.hid (And.intro O (And.intro c1 f1)); clear O c1 f1 b0 b1
      clear hm em
      obtain ⟨W0, hW0⟩ : ∃ W0 : World, W0 = wr := ⟨_, rfl⟩
      rw [← hW0] at HG HB
      have HW := Lib.hid hW0
      clear hW0
      go_wp2_with fail
      go_loopg [6, 27] 3 (fun gk vn idx wr => CdRel W0 xs ys gk vn idx wr)
      case atStart => exact ⟨[], HG.out.1, HG.out.2.1, HG.out.2.2, .inl ⟨rfl, rfl, rfl⟩⟩
      case round =>
        clear HG
        obtain ⟨zs, O2, c2, f2, hcase⟩ := hrel
        rcases hcase with ⟨rfl, rfl, hz⟩ | ⟨rfl, rfl, hz⟩ | ⟨rfl, rfl, hz⟩
        · rw [hz] at O2
          have c0 : wr.cell? ⟨gs, 0, none⟩ = some (.slice Av xs.length cv) := c2.cellv HB.out.1.lt (by simp) (HB.out.1.cellv 0 rfl)
          have HO := Lib.hid (And.intro O2 (And.intro c2 f2)); clear O2 c2 f2 hz
          obtain ⟨A3, c3, rfl⟩ := HO.out.1.slice
          go_wp2_with (at_builtin; refine wpList_cat_n (xs.length) (by simp) rfl _ _ rfl slty rfl HO.out.1 rfl (HB.out.2.1.chg HO.out.2.1 (Nat.le_refl _) (by simp)) (by omega) ?_; intro A4 c4 w4 O4 s4)
          have C4 : Chg [] W0 w4 := HO.out.2.1.new s4.c HO.out.2.2
          have F4 : ∀ k ∈ fpv (.slice A4 (xs.length) c4), W0.heap.size ≤ k := fun k hk => (s4.f k hk).elim (HO.out.2.2 k) (fun h => Nat.le_trans HO.out.2.1.size h)
          have HP := Lib.hid (And.intro O4 (And.intro C4 F4)); clear O4 s4 C4 F4
          go_wp2_with fail
          go_roundg 2
          case measure => omega
          case rel => exact ⟨_, HP.out.1, HP.out.2.1, HP.out.2.2, .inr (.inl ⟨rfl, by rfl, by simp⟩)⟩
        · rw [hz] at O2
          have c0 : wr.cell? ⟨gs, 1, none⟩ = some (.slice Au ys.length cu) := c2.cellv HB.out.1.lt (by simp) (HB.out.1.cellv 1 rfl)
          have HO := Lib.hid (And.intro O2 (And.intro c2 f2)); clear O2 c2 f2 hz
          obtain ⟨A3, c3, rfl⟩ := HO.out.1.slice
          go_wp2_with (at_builtin; refine wpList_cat_n (xs.length + ys.length) (by simp) rfl _ _ rfl slty rfl HO.out.1 rfl (HB.out.2.2.chg HO.out.2.1 (Nat.le_refl _) (by simp)) (by omega) ?_; intro A4 c4 w4 O4 s4)
          have C4 : Chg [] W0 w4 := HO.out.2.1.new s4.c HO.out.2.2
          have F4 : ∀ k ∈ fpv (.slice A4 (xs.length + ys.length) c4), W0.heap.size ≤ k := fun k hk => (s4.f k hk).elim (HO.out.2.2 k) (fun h => Nat.le_trans HO.out.2.1.size h)
          have HP := Lib.hid (And.intro O4 (And.intro C4 F4)); clear O4 s4 C4 F4
          go_wp2_with fail
          go_roundg 1
          case measure => omega
          case rel => exact ⟨_, HP.out.1, HP.out.2.1, HP.out.2.2, .inr (.inr ⟨rfl, by rfl, rfl⟩)⟩
        · rw [hz] at O2
          have HO := Lib.hid (And.intro O2 (And.intro c2 f2)); clear O2 c2 f2 hz
          obtain ⟨A3, c3, rfl⟩ := HO.out.1.slice
          go_wp2_with fail
          go_ret
          rw [← HW.out]
          exact ⟨_, rfl, HO.out.1, HO.out.2.1, HO.out.2.2⟩
end Go.Proofs.YtmafiagakoglkaaGreatDoor
