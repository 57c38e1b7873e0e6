/- A slice of integers that is read; treadmillref1.Ints, Has (XRdI without the view). -/
/- A slice of integers that lies in memory; a slice laid behind one that is owned; the document's rising lists (cut loose of the view). -/
/- The walk of treadmillref1.Put. -/
import Derived.Test.YtcpljjacamibeaaGreatDoorMemJ
import Derived.BigQuiet
import Derived.Deep.LoopGhost
import Derived.Deep.DeepCutAuto
import Derived.Deep.AppendSrc
import Derived.Deep.RegionHeld3
import Derived.StillTailTactics
namespace Go.Proofs.YtcpljjacamibeaaGreatDoor
set_option maxHeartbeats 16000000
set_option maxRecDepth 100000
open Go.RowKit Go.Maps
structure RdI (w : World) (v : Value) (xs : List Int) : Prop where
  ex : ∃ A c, v = .slice A xs.length c
  len : xs.length ≤ 9223372036854775807
  at_ : ∀ A n c, v = .slice A n c → ∀ i x, xs[i]? = some x → ∃ b off, A = some ⟨b, off, none⟩ ∧ w.cell? ⟨b, off + i, none⟩ = some (.int .i64 x)
theorem take_succ_get {L : List Int} {i : Nat} {a : Int} (h : L[i]? = some a) : L.take (i + 1) = L.take i ++ [a] := by
  obtain ⟨hi, rfl⟩ := List.getElem?_eq_some_iff.1 h
  exact List.take_succ_eq_append_getElem hi
theorem OwnI.rd {E : TypeId} {w : World} {v : Value} {xs : List Int} (h : OwnI E w v xs) : RdI w v xs := by
  refine ⟨h.slice, ?_, fun A n c e i x hx => ?_⟩
  · rcases h.o.2 with ⟨_, h0⟩ | ⟨g, cap, cur, _, _, _, hc, hm, _⟩
    · omega
    · unfold maxLen at hm; omega
  · subst e
    obtain ⟨g, e1, h1, _⟩ := h.cell hx
    exact ⟨g, 0, e1, by rw [Nat.zero_add]; exact h1⟩
theorem RdI.drewN {w : World} {v : Value} {xs : List Int} (h : RdI w v xs) (n : Nat) : RdI (w.drewN n) v xs := ⟨h.ex, h.len, h.at_⟩
def BoolD (b : Bool) (w : World) (e : Ending) (w' : World) : Prop := e = .returned (.bool b) ∧ ∃ n, w' = w.drewN n
def IntsRel (w0 : World) (xs ys : List Int) (gk : Nat) (idx : Value) (w : World) : Prop := ∃ i, gk + i = xs.length + 1 ∧ i ≤ xs.length ∧ idx = .int .i64 (i : Nat) ∧ xs.take i = ys.take i ∧ ∃ n, w = w0.drewN n
theorem drewN_drewN (w : World) (a b : Nat) : (w.drewN a).drewN b = w.drewN (a + b) := by simp [World.drewN, Nat.add_assoc]
theorem rd_of {w w' : World} {v : Value} {xs : List Int} (h : ∃ n, w' = w.drewN n) (hv : RdI w v xs) : RdI w' v xs := by obtain ⟨n, rfl⟩ := h; exact hv.drewN n
theorem drew_of {w w' : World} (h : ∃ n, w' = w.drewN n) (m : Nat) : ∃ n, w'.drewN m = w.drewN n := by obtain ⟨n, rfl⟩ := h; exact ⟨_, drewN_drewN w n m⟩
theorem take_ne {xs ys : List Int} {i : Nat} {x y : Int} (hx : xs[i]? = some x) (hy : ys[i]? = some y) (h : x ≠ y) : xs ≠ ys := by
  rintro rfl
  rw [hx] at hy; injection hy with hy; exact h hy
theorem ints_ok (w : World) (v u : Value) (xs ys : List Int) (hv : RdI w v xs) (hu : RdI w u ys) : Calls Tryz.prog 24 #[v, u] w (BoolD (decide (xs = ys)) w) := by
  obtain ⟨A, c, rfl⟩ := hv.ex
  obtain ⟨B, d, rfl⟩ := hu.ex
  have hl1 := hv.len
  have hl2 := hu.len
  by_cases hne : xs.length = ys.length
  · have hb : ((xs.length : Int) != (ys.length : Int)) = false := by simp [hne]
    have hb' : (xs.length != ys.length) = false := by simp [hne]
    have HV := Lib.hid (And.intro hv (And.intro hu hne)); clear hv hu hne
    go_enter Tryz.func24, Tryz.ntmps24
    go_wp2_with fail
    go_loopg [5] (xs.length + 1) (fun gk idx wr => IntsRel w xs ys gk idx wr)
    case atStart => exact ⟨0, by omega, by omega, rfl, rfl, 0, rfl⟩
    case round =>
      obtain ⟨i, hgk, hin, rfl, ht, hn⟩ := hrel
      have hv := rd_of hn HV.out.1
      have hu := rd_of hn HV.out.2.1
      by_cases e : i < xs.length
      · obtain ⟨x, hx⟩ : ∃ x, xs[i]? = some x := ⟨_, List.getElem?_eq_getElem e⟩
        obtain ⟨y, hy⟩ : ∃ y, ys[i]? = some y := ⟨_, List.getElem?_eq_getElem (by have := HV.out.2.2; omega)⟩
        obtain ⟨b1, o1, rfl, c1⟩ := hv.at_ _ _ _ rfl i x hx
        obtain ⟨b2, o2, rfl, c2⟩ := hu.at_ _ _ _ rfl i y hy
        have HN := Lib.hid hn; clear hn hv hu
        have hi' : (i : Int) < (xs.length : Int) := by omega
        have hi2 : (i : Int) < (ys.length : Int) := by have := HV.out.2.2; omega
        have hi0 : (0 : Int) ≤ (i : Int) := by omega
        have ht2 : x = y → xs.take (i + 1) = ys.take (i + 1) := fun e => by rw [take_succ_get hx, take_succ_get hy, ht, e]
        have HT := Lib.hid (And.intro ht2 (And.intro hx hy)); clear ht2 hx hy ht
        by_cases exy : x = y
        · have hq : (x != y) = false := by simpa using exy
          have HE := Lib.hid exy; clear exy
          go_wp2_with fail
          go_quiet (fail)
          go_wp2_with fail
          go_roundg (xs.length - i)
          case measure => omega
          case rel => exact ⟨i + 1, by omega, by omega, by go_num, HT.out.1 HE.out, drew_of HN.out _⟩
        · have hq : (x != y) = true := by simpa using exy
          have HE := Lib.hid exy; clear exy
          go_wp2_with fail
          go_quiet (fail)
          go_wp2_with fail
          go_ret
          exact ⟨by rw [decide_eq_false (take_ne HT.out.2.1 HT.out.2.2 HE.out)]; rfl, drew_of HN.out _⟩
      · obtain rfl : i = xs.length := by omega
        have hxy : xs = ys := by
          have h1 : xs.take xs.length = xs := List.take_length
          have h2 : ys.take xs.length = ys := by rw [HV.out.2.2]; exact List.take_length
          rw [h1, h2] at ht; exact ht
        have HX := Lib.hid (And.intro hxy hn); clear hxy ht e hgk hin hn hv hu
        have hb3 : ¬ (xs.length : Int) < (xs.length : Int) := by omega
        go_wp2_with fail
        go_ret
        exact ⟨by rw [decide_eq_true HX.out.1]; rfl, HX.out.2⟩
  · have hb : ((xs.length : Int) != (ys.length : Int)) = true := by rw [bne_iff_ne]; omega
    have hb' : (xs.length != ys.length) = true := by rw [bne_iff_ne]; exact hne
    have HN := Lib.hid hne; clear hv hu hne
    go_enter Tryz.func24, Tryz.ntmps24
    go_wp2_with fail
    go_ret
    exact ⟨by rw [decide_eq_false (fun e => HN.out (by rw [e]))]; rfl, 0, rfl⟩
def HasRel (xs : List Int) (x : Int) (idx : Value) : Prop := ∃ i, i ≤ xs.length ∧ idx = .int .i64 (i : Nat) ∧ x ∉ xs.take i
theorem has_ok (w : World) (v : Value) (xs : List Int) (x : Int) (hv : RdI w v xs) : Calls Tryz.prog 314 #[v, .int .i64 x] w fun e w' => e = .returned (.bool (decide (x ∈ xs))) ∧ w' = w := by
  obtain ⟨A, c, rfl⟩ := hv.ex
  have hl1 := hv.len
  have HV := Lib.hid hv; clear hv
  go_enter Tryz.func314, Tryz.ntmps314
  go_wp2_with fail
  go_loop [5] (fun idx => HasRel xs x idx) (fun idx => xs.length - (intOf idx).toNat)
  case atStart => exact ⟨0, by omega, rfl, by simp⟩
  case round =>
    obtain ⟨i, hin, rfl, ht⟩ := hrel
    by_cases e : i < xs.length
    · obtain ⟨y, hy⟩ : ∃ y, xs[i]? = some y := ⟨_, List.getElem?_eq_getElem e⟩
      obtain ⟨b1, o1, rfl, c1⟩ := HV.out.at_ _ _ _ rfl i y hy
      have hi' : (i : Int) < (xs.length : Int) := by omega
      have ht2 : y ≠ x → x ∉ xs.take (i + 1) := fun e => by
        rw [take_succ_get hy, List.mem_append]
        rintro (g | g)
        · exact ht g
        · exact e (by simpa using g : x = y).symm
      have hm := List.mem_of_getElem? hy
      have HT := Lib.hid (And.intro ht2 hm); clear ht2 hm hy ht
      by_cases exy : y = x
      · have hq : (y == x) = true := by simpa using exy
        have HE := Lib.hid exy; clear exy
        go_wp2_with fail
        go_ret
        exact ⟨by rw [decide_eq_true (HE.out ▸ HT.out.2)]; rfl, rfl⟩
      · have hq : (y == x) = false := by simpa using exy
        have HE := Lib.hid exy; clear exy
        go_wp2_with fail
        go_round
        case rel => exact ⟨i + 1, by omega, by go_num, HT.out.1 HE.out⟩
        case measure => simp [intOf]; omega
    · obtain rfl : i = xs.length := by omega
      rw [List.take_length] at ht
      have HX := Lib.hid ht; clear ht e hin
      go_wp2_with fail
      go_ret
      exact ⟨by rw [decide_eq_false HX.out]; rfl, rfl⟩
def Rise (l : List Int) : Prop := l.Pairwise (· < ·)
theorem rise_sorted {ss : List Int} (h : ss.Nodup) : Rise (ss.mergeSort (fun x y => decide (x ≤ y))) := by
  have tr : ∀ a b c : Int, (decide (a ≤ b)) = true → (decide (b ≤ c)) = true → (decide (a ≤ c)) = true := fun a b c h1 h2 => by simp only [decide_eq_true_eq] at *; exact Int.le_trans h1 h2
  have tot : ∀ a b : Int, (decide (a ≤ b) || decide (b ≤ a)) = true := fun a b => by simp only [Bool.or_eq_true, decide_eq_true_eq]; exact Int.le_total a b
  have h1 := List.pairwise_mergeSort (le := fun x y : Int => decide (x ≤ y)) tr tot ss
  have h2 : (ss.mergeSort (fun x y => decide (x ≤ y))).Nodup := (List.mergeSort_perm ss _).nodup_iff.2 h
  exact List.Pairwise.imp₂ (fun a b h3 h4 => by simp only [decide_eq_true_eq] at h3; omega) h1 h2
def WfI (x : Int) : Prop := -9223372036854775808 ≤ x ∧ x ≤ 9223372036854775807
def IntsAt (w : World) (B : Nat) (A : Option Addr) (xs : List Int) : Prop := ∀ i x, xs[i]? = some x → ∃ b off, A = some ⟨b, off, none⟩ ∧ b < B ∧ w.cell? ⟨b, off + i, none⟩ = some (.int .i64 x)
structure SlI (w : World) (B : Nat) (v : Value) (xs : List Int) : Prop where
  ex : ∃ A c, v = .slice A xs.length c
  len : xs.length ≤ maxLen
  at_ : ∀ A n c, v = .slice A n c → IntsAt w B A xs
  wf : ∀ x ∈ xs, WfI x
theorem Chg.then_ {S T : List Nat} {a w w' : World} (h : Chg S a w) (c : Chg T w w') (hT : ∀ k ∈ T, k ∈ S ∨ a.heap.size ≤ k) : Chg S a w' :=
  ⟨c.os.trans h.os, c.tape.trans h.tape, c.output.trans h.output, Nat.le_trans h.size c.size, fun k hk hn =>
    (c.block k (Nat.lt_of_lt_of_le hk h.size) (fun hm => by
      rcases hT k hm with h1 | h1
      · exact hn h1
      · omega)).trans (h.block k hk hn)⟩
theorem Chg.new {T : List Nat} {a w w' : World} (h : Chg [] a w) (c : Chg T w w') (hT : ∀ k ∈ T, a.heap.size ≤ k) : Chg [] a w' := h.then_ c fun k hk => .inr (hT k hk)
section
variable {w w' : World} {B : Nat} {S : List Nat}
theorem IntsAt.chg {A : Option Addr} {xs : List Int} (h : IntsAt w B A xs) (c : Chg S w w') (hB : B ≤ w.heap.size) (hS : ∀ k ∈ S, B ≤ k) : IntsAt w' B A xs := fun i x hx => by
  obtain ⟨b, off, e, hb, hc⟩ := h i x hx
  exact ⟨b, off, e, hb, c.cellv (by omega) (fun hm => by have := hS b hm; omega) hc⟩
theorem SlI.chg {v : Value} {xs : List Int} (h : SlI w B v xs) (c : Chg S w w') (hB : B ≤ w.heap.size) (hS : ∀ k ∈ S, B ≤ k) : SlI w' B v xs :=
  ⟨h.ex, h.len, fun A n cc e => (h.at_ A n cc e).chg c hB hS, h.wf⟩
theorem IntsAt.mono {A : Option Addr} {xs : List Int} (h : IntsAt w B A xs) {B' : Nat} (hB : B ≤ B') : IntsAt w B' A xs := fun i x hx => by
  obtain ⟨b, off, e, hb, hc⟩ := h i x hx
  exact ⟨b, off, e, by omega, hc⟩
theorem SlI.mono {v : Value} {xs : List Int} (h : SlI w B v xs) {B' : Nat} (hB : B ≤ B') : SlI w B' v xs := ⟨h.ex, h.len, fun A n cc e => (h.at_ A n cc e).mono hB, h.wf⟩
theorem SlI.of_own {T : TypeId} {v : Value} {xs : List Int} (h : w.ownsRow 0 T 1 v xs.length (xs.map (Value.int .i64))) (hw : ∀ x ∈ xs, WfI x) (hl : xs.length ≤ maxLen) : SlI w w.heap.size v xs := by
  rcases h.2 with ⟨rfl, h0⟩ | ⟨g, cap, cur, rfl, _, hh, hc, hm, hs, ht⟩
  · have : xs = [] := List.eq_nil_of_length_eq_zero h0
    subst this
    exact ⟨⟨none, 0, rfl⟩, hl, fun A n c e i x hx => by simp at hx, hw⟩
  · refine ⟨⟨_, _, rfl⟩, hl, fun A n c e i x hx => ?_, hw⟩
    injection e with e1 e2 e3
    refine ⟨g, 0, e1.symm, Blk.lt (t := T) (cs := cur) hh, ?_⟩
    rw [Nat.zero_add, Blk.cell (t := T) (cs := cur) hh]
    have h1 : (cur.toList.take (xs.length * 1))[i]? = some (.int .i64 x) := by rw [ht]; simp [hx]
    rw [List.getElem?_take] at h1
    split at h1
    · simpa using h1
    · cases h1
end
theorem SlI.rd {w : World} {B : Nat} {v : Value} {xs : List Int} (h : SlI w B v xs) : RdI w v xs :=
  ⟨h.ex, by have := h.len; unfold maxLen at this; omega, fun A n c e i x hx => by obtain ⟨b, off, e1, _, h1⟩ := h.at_ A n c e i x hx; exact ⟨b, off, e1, h1⟩⟩
section
variable {P : Program} {T E : TypeId} {w w' : World} {v u : Value} {xs ys : List Int} {B : Nat}
theorem OwnI.sl (h : OwnI E w v xs) (hw : ∀ x ∈ xs, WfI x) (hl : xs.length ≤ maxLen) : SlI w w.heap.size v xs := SlI.of_own h.o hw hl
theorem setCells_nil (w : World) (b o : Nat) : w.setCells b o [] = w := rfl
theorem run_cat_sl (t : SlTy P T E) (ty : TypeId) (h : OwnI E w v xs) (hu : SlI w B u ys) (hl : xs.length + ys.length ≤ 1000000000000) :
    ∃ v' w', (Builtin.append_ #[T, T] ty #[v, u]).run P w = .ok v' w' ∧ OwnI E w' v' (xs ++ ys) ∧ Stp (fpv v) (fpv v') w w' := by
  obtain ⟨A, c, rfl⟩ := hu.ex
  have hA := hu.at_ _ _ _ rfl
  obtain ⟨i, hi, hz, hs, hb⟩ := info_parts t.i
  have some_ : ∀ ad : Addr, A = some ad → ∃ v' w', (Builtin.append_ #[T, T] ty #[v, .slice (some ad) ys.length c]).run P w = .ok v' w' ∧ OwnI E w' v' (xs ++ ys) ∧ Stp (fpv v) (fpv v') w w' := by
    rintro ad rfl
    obtain ⟨v', w', hrun, h1, h2, h3, h4⟩ := run_append_own_at (P := P) w 0 T ty E i (.int .i64 0) 1 8 t.s hi hz hs hb rfl (by decide) v xs.length (xs.map (Value.int .i64)) h.o ad ys.length c (ys.map (Value.int .i64)) (by simp)
      (fun j z hj => by
        rw [List.getElem?_map] at hj
        cases hy : ys[j]? with
        | none => rw [hy] at hj; simp at hj
        | some y =>
          rw [hy] at hj
          have e : Value.int .i64 y = z := by simpa using hj
          obtain ⟨b, off, e1, _, hc⟩ := hA j y hy
          injection e1 with e1
          rw [e1, ← e, WideShapes.add_plain]; exact hc)
      (by intro u hu; obtain ⟨z, _, rfl⟩ := List.mem_map.1 hu; rfl) (by unfold maxLen; omega) (by omega) (Nat.zero_le _)
    refine ⟨v', w', hrun, ⟨by simpa using h1⟩, ⟨(Chg.refl (fpv v) w).grown h2 fun k hk => .inl (mem_fpv.2 hk), fun k hk => ?_⟩⟩
    rcases h4 with h4 | h4
    · rw [mem_fpv, h4] at hk; exact .inl (mem_fpv.2 hk)
    · rw [mem_fpv, h4] at hk
      injection hk with hk
      exact .inr (by omega)
  cases A with
  | some ad => exact some_ ad rfl
  | none =>
    have e : ys = [] := by
      cases ys with
      | nil => rfl
      | cons y ys =>
        obtain ⟨b, off, e1, _⟩ := hA 0 y rfl
        cases e1
    subst e
    refine ⟨v, w, ?_, by simpa using h, Stp.refl _ _⟩
    rcases h.o.2 with ⟨rfl, hx⟩ | ⟨g, cap, cur, rfl, _, hg, hc, _, _, _⟩
    · rcases (Src.ofNil (P := P) w (size := 1) t.s c).kind with ⟨e', hk⟩ | hk <;>
        simp [Builtin.append_, run_underlying t.s, sizeOf, typeInfo, hi, Builtin.lenOf, Builtin.firstCells]
    · have := run_append_room_src (P := P) w T T ty E i t.s hi g 0 xs.length cap (.slice none 0 c) 0 [] (Src.ofNil w t.s c) (by simpa using hc) (by simp) (by simp)
      rw [setCells_nil] at this
      exact this
theorem wpList_cat_sl {ops : Array Oper} {rest : List Oper} {o : Oper} {a : Act} {Q : Exit → Act → World → Prop} (hgd : o.guard = none) (s x : Operand)
    (ho : o.op = .call { callee := .builtin .append, args := #[s, x], argTypes := #[T, T] }) (t : SlTy P T E) (hs : a.eval s = v) (h : OwnI E w v xs) (hx : a.eval x = u) (hu : SlI w B u ys) (hl : xs.length + ys.length ≤ 1000000000000)
    (hK : ∀ A' c' w', OwnI E w' (.slice A' (xs.length + ys.length) c') (xs ++ ys) → Stp (fpv v) (fpv (.slice A' (xs.length + ys.length) c')) w w' → wpList P ops Q rest (a.put o.dst (.slice A' (xs.length + ys.length) c')) w') : wpList P ops Q (o :: rest) a w := by
  obtain ⟨v', w', hr, h2, h3⟩ := run_cat_sl t o.type h hu hl
  obtain ⟨A', c', e⟩ := h2.slice
  rw [List.length_append] at e
  subst e
  refine wpList_plain hgd fun K' hK' => ?_
  unfold Oper.wp execOp
  simp only [ho, resolve, invoke, builtin, Sem.run_bind, Sem.run_pure, Result.andThen_ok, List.map_toArray, List.map_cons, List.map_nil, hs, hx, hr]
  exact hK' _ _ (hK A' c' w' h2 h3)
theorem OwnI.empty (E : TypeId) (w : World) : OwnI E (w.alloc (.cells #[] E)) (.slice (some ⟨w.heap.size, 0, none⟩) 0 0) [] :=
  ⟨⟨rfl, .inr ⟨w.heap.size, 0, _, rfl, Nat.zero_le _, heap_alloc_new w _, Nat.le_refl _, by decide, rfl, rfl⟩⟩⟩
theorem OwnI.set_ {g n c q : Nat} (h : OwnI E w (.slice (some ⟨g, 0, none⟩) n c) xs) (_ : q < xs.length) (z : Int) : OwnI E (w.setCell ⟨g, q, none⟩ (.int .i64 z)) (.slice (some ⟨g, 0, none⟩) n c) (xs.set q z) := by
  rcases h.o.2 with ⟨e, _⟩ | ⟨g', cap, cur, e, hb0, hg, hc, hm, hs, ht⟩
  · simp at e
  · injection e with e1 e2 e3
    injection e1 with e1
    injection e1 with e1
    subst e1 e2 e3
    have hb : Blk w g E cur := hg
    refine ⟨⟨by simp, .inr ⟨g, c, cur.setIfInBounds q (.int .i64 z), by simp, Nat.zero_le _, hb.set_ q _, by simpa using hc, hm, by simpa using hs, ?_⟩⟩⟩
    rw [Array.toList_setIfInBounds, List.take_set, List.length_set, ht, List.map_set]
end
def putL : List Int → Int → List Int
  | [], x => [x]
  | y :: l, x => if y < x then y :: putL l x else if y = x then y :: l else x :: y :: l
theorem mem_putL : ∀ {l : List Int} {x y : Int}, y ∈ putL l x ↔ y ∈ l ∨ y = x
  | [], x, y => by simp [putL]
  | a :: l, x, y => by
    unfold putL
    split
    · rw [List.mem_cons, mem_putL, List.mem_cons, or_assoc]
    · split
      · next h => rw [List.mem_cons]
                  constructor
                  · exact .inl
                  · rintro (h1 | h1)
                    · exact h1
                    · exact .inl (by omega)
      · rw [List.mem_cons]; exact Or.comm
theorem len_putL : ∀ (l : List Int) (x : Int), (putL l x).length ≤ l.length + 1
  | [], x => by simp [putL]
  | a :: l, x => by
    unfold putL
    split
    · have := len_putL l x; simp only [List.length_cons]; omega
    · split <;> simp
theorem putL_old : ∀ {l : List Int} {x : Int} {i : Nat}, (∀ j y, j < i → l[j]? = some y → y < x) → l[i]? = some x → putL l x = l
  | [], _, _, _, h => by simp at h
  | a :: l, x, 0, _, h => by
    have e : a = x := by simpa using h
    unfold putL; rw [if_neg (by omega), if_pos e]
  | a :: l, x, i + 1, h1, h => by
    have e := h1 0 a (by omega) rfl
    unfold putL
    rw [if_pos e, putL_old (i := i) (fun j y hj hy => h1 (j + 1) y (by omega) (by simpa using hy)) (by simpa using h)]
theorem putL_new : ∀ {l : List Int} {x : Int} {i : Nat}, i ≤ l.length → (∀ j y, j < i → l[j]? = some y → y < x) → (∀ y, l[i]? = some y → x < y) → putL l x = l.take i ++ x :: l.drop i
  | [], x, i, hi, _, _ => by simp [putL]
  | a :: l, x, 0, _, _, h => by
    have e := h a rfl
    unfold putL; rw [if_neg (by omega), if_neg (by omega)]; rfl
  | a :: l, x, i + 1, hi, h1, h => by
    have e := h1 0 a (by omega) rfl
    unfold putL
    rw [if_pos e, putL_new (i := i) (by simpa using hi) (fun j y hj hy => h1 (j + 1) y (by omega) (by simpa using hy)) (fun y hy => h y (by simpa using hy))]
    rfl
def OncePost (v : Value) (xs : List Int) (w : World) (e : Ending) (w' : World) : Prop := ∃ v', e = .returned v' ∧ OwnI 3 w' v' xs ∧ Stp (fpv v) (fpv v') w w'
theorem slty : SlTy Tryz.prog 37 3 := ⟨Tryz.underlying37, by kernel_rfl⟩
section
variable {P : Program} {T E : TypeId} {w w' : World} {v u : Value} {xs ys : List Int} {B : Nat}
theorem step_cat_sl {ops : Array Oper} {o : Oper} {a : Act} {K : Act → World → Prop} {Q : Exit → Act → World → Prop} {E' : Prop} (hgd : o.guard = none) (s x : Operand)
    (ho : o.op = .call { callee := .builtin .append, args := #[s, x], argTypes := #[T, T] }) (t : SlTy P T E) (hs : a.eval s = v) (h : OwnI E w v xs) (hx : a.eval x = u) (hu : SlI w B u ys) (hl : xs.length + ys.length ≤ 1000000000000)
    (hK : ∀ A' c' w', OwnI E w' (.slice A' (xs.length + ys.length) c') (xs ++ ys) → Stp (fpv v) (fpv (.slice A' (xs.length + ys.length) c')) w w' → K (a.put o.dst (.slice A' (xs.length + ys.length) c')) w') :
    if Region.wanted o (yielded ops a.tmps) = true then Oper.wp P o a w K Q else E' := by
  have hw : Region.wanted o (yielded ops a.tmps) = true := by simp [Region.wanted, hgd]
  rw [if_pos hw]
  obtain ⟨v', w', hr, h2, h3⟩ := run_cat_sl t o.type h hu hl
  obtain ⟨A', c', e⟩ := h2.slice
  rw [List.length_append] at e
  subst e
  unfold Oper.wp execOp
  simp only [ho, resolve, invoke, builtin, Sem.run_bind, Sem.run_pure, Result.andThen_ok, List.map_toArray, List.map_cons, List.map_nil, hs, hx, hr]
  exact hK A' c' w' h2 h3
theorem step_cat_n {ops : Array Oper} {o : Oper} {a : Act} {K : Act → World → Prop} {Q : Exit → Act → World → Prop} {E' : Prop} (hgd : o.guard = none) (s x : Operand)
    (ho : o.op = .call { callee := .builtin .append, args := #[s, x], argTypes := #[T, T] }) (t : SlTy P T E) (hs : a.eval s = v) (h : OwnI E w v xs) (hx : a.eval x = u) (hu : SlI w B u ys) (n : Nat) (hn : xs.length + ys.length = n) (hl : n ≤ 1000000000000)
    (hK : ∀ A' c' w', OwnI E w' (.slice A' n c') (xs ++ ys) → Stp (fpv v) (fpv (.slice A' n c')) w w' → K (a.put o.dst (.slice A' n c')) w') :
    if Region.wanted o (yielded ops a.tmps) = true then Oper.wp P o a w K Q else E' := by
  subst hn; exact step_cat_sl hgd s x ho t hs h hx hu hl hK
theorem OwnI.emptyAt {g : Nat} (hg : g = w.heap.size) : OwnI E (w.alloc (.cells #[] E)) (.slice (some ⟨g, 0, none⟩) 0 0) [] := by subst hg; exact OwnI.empty E w
theorem OwnI.drew (h : OwnI E w v xs) : OwnI E w.drew v xs := ⟨h.o⟩
end
theorem SlI.take {w : World} {B : Nat} {A : Option Addr} {n c c' i : Nat} {xs : List Int} (h : SlI w B (.slice A n c) xs) (hi : i ≤ xs.length) : SlI w B (.slice A i c') (xs.take i) :=
  ⟨⟨A, c', by rw [List.length_take, Nat.min_eq_left hi]⟩, by have := h.len; simp; omega, (fun A' n' cc e j x hx => by
    injection e with e1 e2 e3
    subst e1
    rw [List.getElem?_take] at hx
    split at hx
    · exact h.at_ _ _ _ rfl j x hx
    · cases hx), fun x hx => h.wf x (List.mem_of_mem_take hx)⟩
theorem SlI.drop {w : World} {B : Nat} {g n c c' i m : Nat} {xs : List Int} (h : SlI w B (.slice (some ⟨g, 0, none⟩) n c) xs) (_ : i ≤ xs.length) (hm : m = xs.length - i) : SlI w B (.slice (some ⟨g, i, none⟩) m c') (xs.drop i) :=
  ⟨⟨_, c', by rw [List.length_drop, hm]⟩, by have := h.len; simp; omega, (fun A' n' cc e j x hx => by
    injection e with e1 e2 e3
    rw [List.getElem?_drop] at hx
    obtain ⟨b, off, h1, h2, h3⟩ := h.at_ _ _ _ rfl (i + j) x hx
    injection h1 with h1
    injection h1 with h4 h5
    subst h4 h5
    exact ⟨g, i, e1.symm, h2, by rw [Nat.zero_add] at h3; exact h3⟩), fun x hx => h.wf x (List.mem_of_mem_drop hx)⟩
theorem fpv_some {k g n c : Nat} (h : k ∈ fpv (.slice (some ⟨g, 0, none⟩) n c)) : k = g := by simpa [fpv, Value.ownBlock, eq_comm] using h
theorem SlI.none_ (w : World) (B : Nat) (A : Option Addr) (c : Nat) : SlI w B (.slice A 0 c) [] := ⟨⟨A, c, rfl⟩, by simp, fun _ _ _ _ i x hx => by simp at hx, by simp⟩
theorem SlI.one {w : World} {g : Nat} {x : Int} (h : Blk w g 3 #[.int .i64 x]) (hw : WfI x) : SlI w w.heap.size (.slice (some ⟨g, 0, none⟩) 1 1) [x] :=
  ⟨⟨_, _, rfl⟩, (by simp [maxLen]), (fun A n c e i y hy => by
    injection e with e1 e2 e3
    cases i with
    | zero => have e : x = y := by simpa using hy
              subst e; exact ⟨g, 0, e1.symm, h.lt, h.cellv 0 rfl⟩
    | succ i => simp at hy), by intro y hy; simp at hy; subst hy; exact hw⟩
theorem OwnI.cap {E : TypeId} {w : World} {A : Option Addr} {n c : Nat} {xs : List Int} (h : OwnI E w (.slice A n c) xs) : xs.length ≤ c ∧ c ≤ 9223372036854775807 := by
  rcases h.o.2 with ⟨e, h0⟩ | ⟨g, cap, cur, e, _, _, hc, hm, _⟩
  · injection e with _ _ e; omega
  · injection e with _ _ e; unfold maxLen at hm; omega
def PutRel (xs : List Int) (x : Int) (idx : Value) : Prop := ∃ i, i ≤ xs.length ∧ idx = .int .i64 (i : Nat) ∧ ∀ j y, j < i → xs[j]? = some y → y < x
theorem put_ok (w : World) (v : Value) (xs : List Int) (x : Int) (h : OwnI 3 w v xs) (hw : ∀ y ∈ xs, WfI y) (hx : WfI x) (hl : xs.length ≤ 1000000) : Calls Tryz.prog 119 #[v, .int .i64 x] w (OncePost v (putL xs x) w) := by
  have hsl := h.sl hw (by unfold maxLen; omega)
  obtain ⟨A, c, rfl⟩ := h.slice
  have H := Lib.hid (And.intro h (And.intro hsl (And.intro hw hx))); clear h hsl hw hx
  go_enter Tryz.func119, Tryz.ntmps119
  go_wp2_with fail
  go_loop [5] (fun idx => PutRel xs x idx) (fun idx => xs.length - (intOf idx).toNat)
  case atStart => exact ⟨0, by omega, rfl, fun j y hj => by omega⟩
  case round =>
    obtain ⟨i, hin, rfl, hall⟩ := hrel
    by_cases e : i < xs.length
    · obtain ⟨y, hy⟩ : ∃ y, xs[i]? = some y := ⟨_, List.getElem?_eq_getElem e⟩
      obtain ⟨b1, rfl, c1, hb1, -⟩ := H.out.1.cell hy
      have hi' : (i : Int) < (xs.length : Int) := by omega
      have hi'' : decide (i < xs.length) = true := decide_eq_true e
      have HT := Lib.hid (And.intro hall (And.intro hy hb1)); clear hall hy hb1
      by_cases hyx : y < x
      · go_wp2_with fail
        go_round
        case rel => exact ⟨i + 1, by omega, by go_num, fun j z hj hz => by
          by_cases hji : j = i
          · subst hji; rw [HT.out.2.1] at hz; injection hz with hz; omega
          · exact HT.out.1 j z (by omega) hz⟩
        case measure => simp [intOf]; omega
      · have hyx' : decide (y < x) = false := decide_eq_false hyx
        by_cases hyq : y = x
        · have hq : (y == x) = true := by rw [beq_iff_eq]; exact hyq
          have HE := Lib.hid hyq; clear hyq
          go_wp2_with fail
          go_ret
          exact ⟨_, rfl, by rw [putL_old HT.out.1 (by rw [HT.out.2.1, HE.out])]; exact H.out.1, Stp.refl _ _⟩
        · have hq : (y == x) = false := by rw [beq_eq_false_iff_ne]; exact hyq
          have HE := Lib.hid (by omega : x < y); clear hyq
          go_upto_region 6 with fail
          have hin' : (i : Int) ≤ (xs.length : Int) := by omega
          have h0i : (0 : Int) ≤ (i : Int) := by omega
          have hcap := H.out.1.cap
          have hic : (i : Int) ≤ (c : Int) := by omega
          have hnc : (xs.length : Int) ≤ (c : Int) := by omega
          have hci : ¬ c = i := by omega
          clear hcap
          go_region_held3 (fun w' => Chg [] w w') (first | (go_keep; done) | assumption | exact Chg.refl [] w | exact (Chg.refl [] w).drew | exact Chg.alloc (by assumption) _ | exact (Chg.alloc (by assumption) _).drew | exact Chg.drew (by assumption))
            (first
              | (refine step_cat_n (by rfl) _ _ (by rfl) slty (by rfl) O2 (by rfl) ((H.out.2.1.chg D2 (Nat.le_refl _) (by simp)).drop hin rfl) (xs.length + 1) (by simp; omega) (by omega) ?_; intro A3 k3 w3 O3 S3; have D3 : Chg [] w w3 := Chg.new D2 S3.c F2; have F3 : ∀ k ∈ fpv (.slice A3 (xs.length + 1) k3), w.heap.size ≤ k := (fun k hk => by (rcases S3.f k hk with h1 | h1) <;> first | exact F2 k h1 | (have := D2.size; omega)))
              | (refine step_cat_n (by rfl) _ _ (by rfl) slty (by rfl) (by first | exact O1 | exact O1.drew | exact O1.alloc _ | exact (O1.alloc _).drew) (by rfl) (by first | exact SlI.one X1 H.out.2.2.2 | exact SlI.one (Blk.new _ _ _) H.out.2.2.2 | exact SlI.one (Blk.new _ _ _).drew H.out.2.2.2) (i + 1) (by simp; omega) (by omega) ?_; intro A2 k2 w2 O2 S2; have D2 : Chg [] w w2 := Chg.new ‹Chg [] w _› S2.c F1; have F2 : ∀ k ∈ fpv (.slice A2 (i + 1) k2), w.heap.size ≤ k := (fun k hk => by (rcases S2.f k hk with h1 | h1) <;> first | exact F1 k h1 | (have := D1.size; first | omega | (simp at h1; omega))))
              | (refine step_cat_n (by rfl) _ _ (by rfl) slty (by rfl) (by first | exact OwnI.empty _ _ | exact (OwnI.empty _ _).drew | exact (OwnI.emptyAt (by simp)).drew | exact OwnI.emptyAt (by simp) | exact (OwnI.empty _ _).alloc _ | exact ((OwnI.empty _ _).alloc _).drew) (by rfl) ((H.out.2.1.chg (by assumption : Chg [] w _) (Nat.le_refl _) (by simp)).take hin) i (by simp; omega) (by omega) ?_; intro A1 k1 w1 O1 S1; have D1 : Chg [] w w1 := Chg.new ‹Chg [] w _› S1.c (by intro k hk; have := fpv_some hk; omega); have F1 : ∀ k ∈ fpv (.slice A1 i k1), w.heap.size ≤ k := (fun k hk => by (rcases S1.f k hk with h1 | h1) <;> (first | (have := fpv_some h1; omega) | (simp at h1; omega))); (first | (first | have X1 := S1.c.blk (Blk.new _ 3 #[.int .i64 x]) (fun hm => absurd (fpv_some hm) (by simp)) | have X1 := S1.c.blk (Blk.new _ 3 #[.int .i64 x]).drew (fun hm => absurd (fpv_some hm) (by simp)) | have X1 := S1.c.blk ((Blk.new _ 3 #[.int .i64 x]).alloc _) (fun hm => absurd (fpv_some hm) (by simp)) | have X1 := S1.c.blk ((Blk.new _ 3 #[.int .i64 x]).alloc _).drew (fun hm => absurd (fpv_some hm) (by simp))) <;> (try simp only [World.size_alloc] at X1) | skip)))
          all_goals
            have HF := Lib.hid (And.intro O3 (And.intro D3 F3)); clear O3 D3 F3 O1 S1 D1 F1 O2 S2 D2 F2 S3
            go_wp2_with fail
            go_ret
            exact ⟨_, rfl, by rw [putL_new (by omega) HT.out.1 (fun z hz => by rw [HT.out.2.1] at hz; injection hz with hz; have := HE.out; omega)]; simpa using HF.out.1, ⟨HF.out.2.1.mono (by simp), fun k hk => .inr (HF.out.2.2 k hk)⟩⟩
    · obtain rfl : i = xs.length := by omega
      have hi' : ¬ (xs.length : Int) < (xs.length : Int) := by omega
      have HT := Lib.hid hall; clear hall e hin
      have hcap := H.out.1.cap
      have hnil : A = none → xs = [] ∧ c = 0 := fun e => by
        rcases H.out.1.o.2 with ⟨e1, h0⟩ | ⟨g, cap, cur, e1, _⟩
        · injection e1 with _ _ e3; exact ⟨List.eq_nil_of_length_eq_zero h0, e3⟩
        · injection e1 with e2; rw [e] at e2; cases e2
      have hsome : ∀ ad, A = some ad → ∃ g, ad = ⟨g, 0, none⟩ := fun ad e => by
        rcases H.out.1.o.2 with ⟨e1, h0⟩ | ⟨g, cap, cur, e1, _⟩
        · injection e1 with e2; rw [e] at e2; cases e2
        · injection e1 with e2; rw [e] at e2; injection e2 with e2; exact ⟨g, e2⟩
      cases A with
      | none =>
        obtain ⟨rfl, rfl⟩ := hnil rfl
        clear hnil hsome hcap
        go_upto_region 6 with fail
        go_region_held3 (fun w' => Chg [] w w') (first | (go_keep; done) | assumption | exact Chg.refl [] w | exact (Chg.refl [] w).drew | exact Chg.alloc (by assumption) _ | exact (Chg.alloc (by assumption) _).drew | exact Chg.drew (by assumption))
          (first
            | (refine step_cat_n (by rfl) _ _ (by rfl) slty (by rfl) O2 (by rfl) (by first | exact SlI.none_ _ w.heap.size _ _ | exact (by simp : 0 - 0 = 0) ▸ SlI.none_ _ w.heap.size _ _) (0 + 1) (by simp) (by omega) ?_; intro A3 k3 w3 O3 S3; have D3 : Chg [] w w3 := Chg.new D2 S3.c F2; have F3 : ∀ k ∈ fpv (.slice A3 (0 + 1) k3), w.heap.size ≤ k := (fun k hk => by (rcases S3.f k hk with h1 | h1) <;> first | exact F2 k h1 | (have := D2.size; omega)))
            | (refine step_cat_n (by rfl) _ _ (by rfl) slty (by rfl) (by first | exact O1 | exact O1.drew | exact O1.alloc _ | exact (O1.alloc _).drew) (by rfl) (by first | exact SlI.one X1 H.out.2.2.2 | exact SlI.one (Blk.new _ _ _) H.out.2.2.2 | exact SlI.one (Blk.new _ _ _).drew H.out.2.2.2) (0 + 1) (by simp) (by omega) ?_; intro A2 k2 w2 O2 S2; have D2 : Chg [] w w2 := Chg.new ‹Chg [] w _› S2.c F1; have F2 : ∀ k ∈ fpv (.slice A2 (0 + 1) k2), w.heap.size ≤ k := (fun k hk => by (rcases S2.f k hk with h1 | h1) <;> first | exact F1 k h1 | (have := D1.size; first | omega | (simp at h1; omega))))
            | (refine step_cat_n (by rfl) _ _ (by rfl) slty (by rfl) (by first | exact OwnI.empty _ _ | exact (OwnI.empty _ _).drew | exact (OwnI.emptyAt (by simp)).drew | exact OwnI.emptyAt (by simp) | exact (OwnI.empty _ _).alloc _ | exact ((OwnI.empty _ _).alloc _).drew) (by rfl) ((H.out.2.1.chg (by assumption : Chg [] w _) (Nat.le_refl _) (by simp)).take (Nat.le_refl _)) 0 (by simp) (by omega) ?_; intro A1 k1 w1 O1 S1; have D1 : Chg [] w w1 := Chg.new ‹Chg [] w _› S1.c (by intro k hk; have := fpv_some hk; omega); have F1 : ∀ k ∈ fpv (.slice A1 0 k1), w.heap.size ≤ k := (fun k hk => by (rcases S1.f k hk with h1 | h1) <;> (first | (have := fpv_some h1; omega) | (simp at h1; omega))); (first | (first | have X1 := S1.c.blk (Blk.new _ 3 #[.int .i64 x]) (fun hm => absurd (fpv_some hm) (by simp)) | have X1 := S1.c.blk (Blk.new _ 3 #[.int .i64 x]).drew (fun hm => absurd (fpv_some hm) (by simp)) | have X1 := S1.c.blk ((Blk.new _ 3 #[.int .i64 x]).alloc _) (fun hm => absurd (fpv_some hm) (by simp)) | have X1 := S1.c.blk ((Blk.new _ 3 #[.int .i64 x]).alloc _).drew (fun hm => absurd (fpv_some hm) (by simp))) <;> (try simp only [World.size_alloc] at X1) | skip)))
        all_goals
          have HF := Lib.hid (And.intro O3 (And.intro D3 F3)); clear O3 D3 F3 O1 S1 D1 F1 O2 S2 D2 F2 S3
          go_wp2_with fail
          go_ret
          exact ⟨_, rfl, by rw [putL_new (Nat.le_refl _) HT.out (fun z hz => by simp at hz)]; simpa using HF.out.1, ⟨HF.out.2.1.mono (by simp), fun k hk => .inr (HF.out.2.2 k hk)⟩⟩
      | some ad =>
        obtain ⟨g, rfl⟩ := hsome ad rfl
        clear hnil hsome
        have h0i : (0 : Int) ≤ (xs.length : Int) := by omega
        have hic : (xs.length : Int) ≤ (c : Int) := by omega
        by_cases hcn : c = xs.length
        · obtain rfl := hcn
          clear hcap
          go_upto_region 6 with fail
          go_region_held3 (fun w' => Chg [] w w') (first | (go_keep; done) | assumption | exact Chg.refl [] w | exact (Chg.refl [] w).drew | exact Chg.alloc (by assumption) _ | exact (Chg.alloc (by assumption) _).drew | exact Chg.drew (by assumption))
            (first
              | (refine step_cat_n (by rfl) _ _ (by rfl) slty (by rfl) O2 (by rfl) (by first | exact SlI.none_ _ w.heap.size _ _ | exact (by simp : xs.length - xs.length = 0) ▸ SlI.none_ _ w.heap.size _ _) (xs.length + 1) (by simp) (by omega) ?_; intro A3 k3 w3 O3 S3; have D3 : Chg [] w w3 := Chg.new D2 S3.c F2; have F3 : ∀ k ∈ fpv (.slice A3 (xs.length + 1) k3), w.heap.size ≤ k := (fun k hk => by (rcases S3.f k hk with h1 | h1) <;> first | exact F2 k h1 | (have := D2.size; omega)))
              | (refine step_cat_n (by rfl) _ _ (by rfl) slty (by rfl) (by first | exact O1 | exact O1.drew | exact O1.alloc _ | exact (O1.alloc _).drew) (by rfl) (by first | exact SlI.one X1 H.out.2.2.2 | exact SlI.one (Blk.new _ _ _) H.out.2.2.2 | exact SlI.one (Blk.new _ _ _).drew H.out.2.2.2) (xs.length + 1) (by simp) (by omega) ?_; intro A2 k2 w2 O2 S2; have D2 : Chg [] w w2 := Chg.new ‹Chg [] w _› S2.c F1; have F2 : ∀ k ∈ fpv (.slice A2 (xs.length + 1) k2), w.heap.size ≤ k := (fun k hk => by (rcases S2.f k hk with h1 | h1) <;> first | exact F1 k h1 | (have := D1.size; first | omega | (simp at h1; omega))))
              | (refine step_cat_n (by rfl) _ _ (by rfl) slty (by rfl) (by first | exact OwnI.empty _ _ | exact (OwnI.empty _ _).drew | exact (OwnI.emptyAt (by simp)).drew | exact OwnI.emptyAt (by simp) | exact (OwnI.empty _ _).alloc _ | exact ((OwnI.empty _ _).alloc _).drew) (by rfl) ((H.out.2.1.chg (by assumption : Chg [] w _) (Nat.le_refl _) (by simp)).take (Nat.le_refl _)) xs.length (by simp) (by omega) ?_; intro A1 k1 w1 O1 S1; have D1 : Chg [] w w1 := Chg.new ‹Chg [] w _› S1.c (by intro k hk; have := fpv_some hk; omega); have F1 : ∀ k ∈ fpv (.slice A1 xs.length k1), w.heap.size ≤ k := (fun k hk => by (rcases S1.f k hk with h1 | h1) <;> (first | (have := fpv_some h1; omega) | (simp at h1; omega))); (first | (first | have X1 := S1.c.blk (Blk.new _ 3 #[.int .i64 x]) (fun hm => absurd (fpv_some hm) (by simp)) | have X1 := S1.c.blk (Blk.new _ 3 #[.int .i64 x]).drew (fun hm => absurd (fpv_some hm) (by simp)) | have X1 := S1.c.blk ((Blk.new _ 3 #[.int .i64 x]).alloc _) (fun hm => absurd (fpv_some hm) (by simp)) | have X1 := S1.c.blk ((Blk.new _ 3 #[.int .i64 x]).alloc _).drew (fun hm => absurd (fpv_some hm) (by simp))) <;> (try simp only [World.size_alloc] at X1) | skip)))
          all_goals
            have HF := Lib.hid (And.intro O3 (And.intro D3 F3)); clear O3 D3 F3 O1 S1 D1 F1 O2 S2 D2 F2 S3
            go_wp2_with fail
            go_ret
            exact ⟨_, rfl, by rw [putL_new (Nat.le_refl _) HT.out (fun z hz => by simp at hz)]; simpa using HF.out.1, ⟨HF.out.2.1.mono (by simp), fun k hk => .inr (HF.out.2.2 k hk)⟩⟩
        · clear hcap
          go_upto_region 6 with fail
          go_region_held3 (fun w' => Chg [] w w') (first | (go_keep; done) | assumption | exact Chg.refl [] w | exact (Chg.refl [] w).drew | exact Chg.alloc (by assumption) _ | exact (Chg.alloc (by assumption) _).drew | exact Chg.drew (by assumption))
            (first
              | (refine step_cat_n (by rfl) _ _ (by rfl) slty (by rfl) O2 (by rfl) (by first | exact SlI.none_ _ w.heap.size _ _ | exact (by simp : xs.length - xs.length = 0) ▸ SlI.none_ _ w.heap.size _ _) (xs.length + 1) (by simp) (by omega) ?_; intro A3 k3 w3 O3 S3; have D3 : Chg [] w w3 := Chg.new D2 S3.c F2; have F3 : ∀ k ∈ fpv (.slice A3 (xs.length + 1) k3), w.heap.size ≤ k := (fun k hk => by (rcases S3.f k hk with h1 | h1) <;> first | exact F2 k h1 | (have := D2.size; omega)))
              | (refine step_cat_n (by rfl) _ _ (by rfl) slty (by rfl) (by first | exact O1 | exact O1.drew | exact O1.alloc _ | exact (O1.alloc _).drew) (by rfl) (by first | exact SlI.one X1 H.out.2.2.2 | exact SlI.one (Blk.new _ _ _) H.out.2.2.2 | exact SlI.one (Blk.new _ _ _).drew H.out.2.2.2) (xs.length + 1) (by simp) (by omega) ?_; intro A2 k2 w2 O2 S2; have D2 : Chg [] w w2 := Chg.new ‹Chg [] w _› S2.c F1; have F2 : ∀ k ∈ fpv (.slice A2 (xs.length + 1) k2), w.heap.size ≤ k := (fun k hk => by (rcases S2.f k hk with h1 | h1) <;> first | exact F1 k h1 | (have := D1.size; first | omega | (simp at h1; omega))))
              | (refine step_cat_n (by rfl) _ _ (by rfl) slty (by rfl) (by first | exact OwnI.empty _ _ | exact (OwnI.empty _ _).drew | exact (OwnI.emptyAt (by simp)).drew | exact OwnI.emptyAt (by simp) | exact (OwnI.empty _ _).alloc _ | exact ((OwnI.empty _ _).alloc _).drew) (by rfl) ((H.out.2.1.chg (by assumption : Chg [] w _) (Nat.le_refl _) (by simp)).take (Nat.le_refl _)) xs.length (by simp) (by omega) ?_; intro A1 k1 w1 O1 S1; have D1 : Chg [] w w1 := Chg.new ‹Chg [] w _› S1.c (by intro k hk; have := fpv_some hk; omega); have F1 : ∀ k ∈ fpv (.slice A1 xs.length k1), w.heap.size ≤ k := (fun k hk => by (rcases S1.f k hk with h1 | h1) <;> (first | (have := fpv_some h1; omega) | (simp at h1; omega))); (first | (first | have X1 := S1.c.blk (Blk.new _ 3 #[.int .i64 x]) (fun hm => absurd (fpv_some hm) (by simp)) | have X1 := S1.c.blk (Blk.new _ 3 #[.int .i64 x]).drew (fun hm => absurd (fpv_some hm) (by simp)) | have X1 := S1.c.blk ((Blk.new _ 3 #[.int .i64 x]).alloc _) (fun hm => absurd (fpv_some hm) (by simp)) | have X1 := S1.c.blk ((Blk.new _ 3 #[.int .i64 x]).alloc _).drew (fun hm => absurd (fpv_some hm) (by simp))) <;> (try simp only [World.size_alloc] at X1) | skip)))
          all_goals
            have HF := Lib.hid (And.intro O3 (And.intro D3 F3)); clear O3 D3 F3 O1 S1 D1 F1 O2 S2 D2 F2 S3
            go_wp2_with fail
            go_ret
            exact ⟨_, rfl, by rw [putL_new (Nat.le_refl _) HT.out (fun z hz => by simp at hz)]; simpa using HF.out.1, ⟨HF.out.2.1.mono (by simp), fun k hk => .inr (HF.out.2.2 k hk)⟩⟩
end Go.Proofs.YtcpljjacamibeaaGreatDoor
