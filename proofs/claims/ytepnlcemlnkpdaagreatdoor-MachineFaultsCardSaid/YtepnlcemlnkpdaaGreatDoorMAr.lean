/- The arena: what it is in memory; its frame. Plain theorems on worlds. -/
/- The walks of package arena: slot, Load, Store, Len, Find, Marked, Mark. -/
/- The walks of package arena: Find, Len, Live, Left, Marked, Mark. -/
/- The walk of package arena: Alloc. -/
/- The walks of package arena: New, Span. -/
import Derived.Test.YtepnlcemlnkpdaaGreatDoorMcR2J
import Derived.Test.YtepnlcemlnkpdaaGreatDoorMcCJ
import Derived.Laws.ResultCell
import Derived.Deep.RegionLaw
namespace Go.Proofs.YtepnlcemlnkpdaaGreatDoor
set_option maxHeartbeats 16000000
set_option maxRecDepth 100000
open Go.RowKit
structure Ar where
  n : Nat
  l : List R
  sp : Nat → Option Sp
  ow : Nat → Option Nat
  ob : Nat → Option (List Int)
  live : Nat
structure ArH where
  ga : Nat
  gp : Nat
  v : Value
  bs : Nat
  bo : Nat
  bj : Nat
  B : Nat → SpB
  C : Nat → Nat
  m : Nat
  N : Nat
structure ArOk (N : Nat) (a : Ar) : Prop where
  ok : Okn a.n a.l
  n : a.n ≤ 262144
  top : ∀ id s, a.sp id = some s → id < N
  ow : ∀ id s p, a.sp id = some s → s.first ≤ p → p < s.first + pgK s.k → a.ow p = some id
  pg : ∀ id s, a.sp id = some s → s.k < 16 ∧ 1 ≤ s.first ∧ s.first + pgK s.k ≤ a.n ∧ ∀ p, s.first ≤ p → p < s.first + pgK s.k → ¬ Fr a.l p
  ob : ∀ x, (a.ob x).isSome = true ↔ ∃ id s i, a.sp id = some s ∧ i < slK s.k ∧ s.F i = true ∧ x = s.addr i
  len : ∀ x xs, a.ob x = some xs → 1 ≤ xs.length ∧ xs.length ≤ 256
def natV (f : Nat → Option Value) (x : Int) : Option Value := if 0 ≤ x then f x.toNat else none
def spV (h : ArH) (a : Ar) (id : Nat) : Option Value := (a.sp id).map fun _ => .pointer (some ⟨(h.B id).g, 0, none⟩)
def owV (a : Ar) (p : Nat) : Option Value := (a.ow p).map fun id => .int .i64 (id : Nat)
def obV (h : ArH) (a : Ar) (x : Nat) : Option Value := (a.ob x).map fun xs => .slice (some ⟨h.C x, 0, none⟩) xs.length xs.length
structure ArM (w : World) (h : ArH) (a : Ar) : Prop where
  b : Blk w h.ga 212 #[.pointer (some ⟨h.gp, 0, none⟩), .map (some h.bs), .map (some h.bo), .map (some h.bj), .int .i64 a.live]
  P : IsPg w h.gp a.n h.v a.l
  s : VMap Tryz.prog 3 w h.bs h.m (natV (spV h a))
  o : VMap Tryz.prog 3 w h.bo h.m (natV (owV a))
  j : VMap Tryz.prog 3 w h.bj h.m (natV (obV h a))
  S : ∀ id s, a.sp id = some s → IsSp w (h.B id) s
  O : ∀ x xs, a.ob x = some xs → Blk w (h.C x) 3 (xs.map (Value.int .i64)).toArray
  d1 : ∀ id id' s s', a.sp id = some s → a.sp id' = some s' → id ≠ id' → ∀ k ∈ (h.B id).l, k ∉ (h.B id').l
  d2 : ∀ x x', (a.ob x).isSome = true → (a.ob x').isSome = true → x ≠ x' → h.C x ≠ h.C x'
  m1 : h.bs ≠ h.bo
  m2 : h.bs ≠ h.bj
  m3 : h.bo ≠ h.bj
def ArF (h : ArH) (a : Ar) (k : Nat) : Prop := k = h.ga ∨ k = h.gp ∨ k ∈ fpv h.v ∨ k = h.bs ∨ k = h.bo ∨ k = h.bj ∨ (∃ id s, a.sp id = some s ∧ k ∈ (h.B id).l) ∨ ∃ x, (a.ob x).isSome = true ∧ k = h.C x
def SpT (t : TypeId) : Prop := t = 275 ∨ t = 357 ∨ t = 283
theorem own_far {w : World} {T : TypeId} {size n g : Nat} {v : Value} {xs : List Value} {t : TypeId} {cs : Array Value} (h : w.ownsRow 0 T size v n xs) (hb : Blk w g t cs) (hne : T ≠ t) : g ∉ fpv v := fun hm => own_ne h hb hne (mem_fpv.1 hm)
section
variable {w w' : World} {h : ArH} {a : Ar}
theorem ArM.chg {S : List Nat} (M : ArM w h a) (c : Chg S w w') (hn : ∀ k, ArF h a k → k ∉ S) : ArM w' h a := by
  refine ⟨c.blk M.b (hn _ (.inl rfl)), ⟨c.blk M.P.b (hn _ (.inr (.inl rfl))), own_chg M.P.o c fun k hk => hn _ (.inr (.inr (.inl (mem_fpv.2 hk))))⟩, M.s.chg c (hn _ (.inr (.inr (.inr (.inl rfl))))), M.o.chg c (hn _ (.inr (.inr (.inr (.inr (.inl rfl)))))), M.j.chg c (hn _ (.inr (.inr (.inr (.inr (.inr (.inl rfl)))))))
    , fun id s hs => (M.S id s hs).chg c fun k hk => hn _ (.inr (.inr (.inr (.inr (.inr (.inr (.inl ⟨id, s, hs, hk⟩))))))), fun x xs hx => c.blk (M.O x xs hx) (hn _ (.inr (.inr (.inr (.inr (.inr (.inr (.inr ⟨x, by rw [hx]; rfl, rfl⟩)))))))), M.d1, M.d2, M.m1, M.m2, M.m3⟩
theorem ArM.chg0 (M : ArM w h a) (c : Chg [] w w') : ArM w' h a := M.chg c (by simp)
theorem ArM.lt (M : ArM w h a) : ∀ k, ArF h a k → k < w.heap.size := fun k hk => by
  rcases hk with rfl | rfl | hk | rfl | rfl | rfl | ⟨id, s, hs, hk⟩ | ⟨x, hx, rfl⟩
  · exact M.b.lt
  · exact M.P.b.lt
  · exact own_lt M.P.o (mem_fpv.1 hk)
  · exact M.s.lt
  · exact M.o.lt
  · exact M.j.lt
  · exact (M.S id s hs).lt k hk
  · obtain ⟨xs, hxs⟩ := Option.isSome_iff_exists.1 hx
    exact (M.O x xs hxs).lt
end
def updF {α : Type} (f : Nat → Option α) (i : Nat) (v : Option α) (x : Nat) : Option α := if x = i then v else f x
section
variable {w w' : World} {h : ArH} {a : Ar}
end
structure StA (h : ArH) (a : Ar) (h' : ArH) (a' : Ar) (w w' : World) : Prop where
  os : w'.os = w.os
  tape : w'.tape = w.tape
  output : w'.output = w.output
  size : w.heap.size ≤ w'.heap.size
  block : ∀ k, k < w.heap.size → ¬ ArF h a k → w'.heap[k]? = w.heap[k]?
  fr : ∀ k, ArF h' a' k → ArF h a k ∨ w.heap.size ≤ k
section
variable {h h' h'' : ArH} {a a' a'' : Ar} {w w' w'' : World}
end
theorem tyJ : VTy Tryz.prog 207 3 37 (.slice none 0 0) := ⟨Tryz.underlying207, Tryz.underlying3, fun _ => by kernel_rfl⟩
def obI (a : Ar) (x : Int) : Option (List Int) := if 0 ≤ x then a.ob x.toNat else none
theorem obV_I (h : ArH) (a : Ar) (x : Int) : natV (obV h a) x = (obI a x).map fun xs => .slice (some ⟨h.C x.toNat, 0, none⟩) xs.length xs.length := by
  unfold natV obI obV
  split <;> rfl
def slotV (h : ArH) (a : Ar) (x i : Int) : Value := match obI a x with
  | none => .pointer none
  | some xs => if 0 ≤ i ∧ i < xs.length then .pointer (some ⟨h.C x.toNat, i.toNat, none⟩) else .pointer none
def slotC (a : Ar) (x i : Int) : Int := match obI a x with
  | none => 4
  | some xs => if 0 ≤ i ∧ i < xs.length then 0 else 2
def loadV (a : Ar) (x i : Int) : Int := match obI a x with
  | none => 0
  | some xs => if 0 ≤ i ∧ i < xs.length then xs.getD i.toNat 0 else 0
def putA (a : Ar) (x i v : Int) : Ar := if slotC a x i = 0 then { a with ob := updF a.ob x.toNat ((a.ob x.toNat).map fun xs => xs.set i.toNat v) } else a
section
variable (h : ArH) (a : Ar)
theorem slot_some {x i : Int} (hc : slotC a x i = 0) : ∃ xs q, 0 ≤ x ∧ a.ob x.toNat = some xs ∧ i = ((q : Nat) : Int) ∧ q < xs.length ∧ slotV h a x i = .pointer (some ⟨h.C x.toNat, q, none⟩) ∧ loadV a x i = xs.getD q 0 := by
  unfold slotC at hc
  unfold slotV loadV
  cases ho : obI a x with
  | none => rw [ho] at hc; cases hc
  | some xs =>
    rw [ho] at hc
    simp only at hc ⊢
    by_cases hi : 0 ≤ i ∧ i < xs.length
    · rw [if_pos hi, if_pos hi]
      have hx : 0 ≤ x := by
        unfold obI at ho
        by_cases hx : 0 ≤ x
        · exact hx
        · rw [if_neg hx] at ho; cases ho
      unfold obI at ho
      rw [if_pos hx] at ho
      exact ⟨xs, i.toNat, hx, ho, by omega, by omega, rfl, rfl⟩
    · rw [if_neg hi] at hc; cases hc
theorem slot_none {x i : Int} (hc : slotC a x i ≠ 0) : slotV h a x i = .pointer none ∧ loadV a x i = 0 := by
  unfold slotC at hc
  unfold slotV loadV
  cases ho : obI a x with
  | none => exact ⟨rfl, rfl⟩
  | some xs =>
    rw [ho] at hc
    simp only at hc ⊢
    by_cases hi : 0 ≤ i ∧ i < xs.length
    · rw [if_pos hi] at hc; exact absurd rfl hc
    · rw [if_neg hi, if_neg hi]; exact ⟨rfl, rfl⟩
end
def PsPost (h : ArH) (a : Ar) (x i v : Int) (w : World) (e : Ending) (w' : World) : Prop := e = .returned (.int .i64 (slotC a x i)) ∧ ArM w' h (putA a x i v) ∧ StA h a h (putA a x i v) w w'
section
variable (w : World) (h : ArH) (a : Ar) (M : ArM w h a)
include M
theorem slot_ok (x i : Int) (hx : Wf64 x) : Calls Tryz.prog 292 #[.pointer (some ⟨h.ga, 0, none⟩), .int .i64 x, .int .i64 i] w (NwPost (.tuple #[slotV h a x i, .int .i64 (slotC a x i)]) w) := by
  have b3 : w.cell? ⟨h.ga, 3, none⟩ = some (.map (some h.bj)) := M.b.cellv 3 rfl
  have hl := M.j.look tyJ hx
  rw [obV_I] at hl
  cases ho : obI a x with
  | none =>
    rw [ho] at hl
    have hl' : (Instr.lookup 207 (.map (some h.bj)) (.int .i64 x) false).run Tryz.prog w = .ok (.slice none 0 0) w := hl
    have hnil := Lib.run_eql_slice_nil (P := Tryz.prog) w 37 3 none 0 0 0 0 Tryz.underlying37
    have e1 : slotV h a x i = .pointer none := by unfold slotV; rw [ho]
    have e2 : slotC a x i = 4 := by unfold slotC; rw [ho]
    have HO := Lib.hid (And.intro e1 e2); clear ho hl M e1 e2
    go_enter Tryz.func292, Tryz.ntmps292
    go_wp2_with fail
    go_ret2
    exact ⟨by rw [HO.out.1, HO.out.2]; rfl, Chg.refl _ _⟩
  | some xs =>
    rw [ho] at hl
    have hl' : (Instr.lookup 207 (.map (some h.bj)) (.int .i64 x) false).run Tryz.prog w = .ok (.slice (some ⟨h.C x.toNat, 0, none⟩) xs.length xs.length) w := hl
    have hnil := Lib.run_eql_slice_nil (P := Tryz.prog) w 37 3 (some ⟨h.C x.toNat, 0, none⟩) xs.length xs.length 0 0 Tryz.underlying37
    by_cases hi : 0 ≤ i ∧ i < xs.length
    · have e1 : slotV h a x i = .pointer (some ⟨h.C x.toNat, i.toNat, none⟩) := by unfold slotV; rw [ho]; exact if_pos hi
      have e2 : slotC a x i = 0 := by unfold slotC; rw [ho]; exact if_pos hi
      obtain ⟨cx, hcx⟩ : ∃ cx, cx = h.C x.toNat := ⟨_, rfl⟩
      rw [← hcx] at hl' hnil e1
      obtain ⟨q, rfl⟩ : ∃ q : Nat, i = q := ⟨i.toNat, by omega⟩
      have hq : (q : Int) < (xs.length : Int) := hi.2
      have hq2 : q < xs.length := by omega
      have hq0 : (0 : Int) ≤ (q : Int) := by omega
      have HO := Lib.hid (And.intro e1 e2); clear ho hl M e1 e2 hcx hi
      go_enter Tryz.func292, Tryz.ntmps292
      go_wp2_with fail
      go_ret2
      exact ⟨by rw [HO.out.1, HO.out.2]; simp, Chg.refl _ _⟩
    · have e1 : slotV h a x i = .pointer none := by unfold slotV; rw [ho]; exact if_neg hi
      have e2 : slotC a x i = 2 := by unfold slotC; rw [ho]; exact if_neg hi
      generalize h.C x.toNat = cx at hl' hnil
      have HO := Lib.hid (And.intro e1 e2); clear ho hl M e1 e2
      by_cases h0 : i < 0
      · have d0 : decide (i < 0) = true := decide_eq_true h0
        go_enter Tryz.func292, Tryz.ntmps292
        go_wp2_with fail
        go_ret2
        exact ⟨by rw [HO.out.1, HO.out.2]; rfl, Chg.refl _ _⟩
      · have d0 : decide (i < 0) = false := decide_eq_false h0
        have h1 : ¬ i < (xs.length : Int) := fun h1 => hi ⟨by omega, h1⟩
        have d1 : decide ((xs.length : Int) ≤ i) = true := decide_eq_true (by omega)
        have h2 : (xs.length : Int) ≤ i := by omega
        clear hi
        go_enter Tryz.func292, Tryz.ntmps292
        go_wp2_with fail
        go_ret2
        exact ⟨by rw [HO.out.1, HO.out.2]; rfl, Chg.refl _ _⟩
theorem ob_cell {x q : Nat} {xs : List Int} (ho : a.ob x = some xs) (hq : q < xs.length) : w.cell? ⟨h.C x, q, none⟩ = some (.int .i64 (xs.getD q 0)) := by
  refine (M.O x xs ho).cellv q ?_
  rw [List.getElem?_toArray, List.getElem?_map, List.getElem?_eq_getElem hq, List.getD_eq_getElem?_getD, List.getElem?_eq_getElem hq]; rfl
theorem load_ok (x i : Int) (hx : Wf64 x) : Calls Tryz.prog 237 #[.pointer (some ⟨h.ga, 0, none⟩), .int .i64 x, .int .i64 i] w (NwPost (.tuple #[.int .i64 (loadV a x i), .int .i64 (slotC a x i)]) w) := by
  have HM := Lib.hid M
  go_enter Tryz.func237, Tryz.ntmps237
  go_wp2_with fail
  refine (slot_ok w h a M x i hx).mono ?_
  rintro e w1 ⟨rfl, c1⟩
  clear M
  by_cases hc : slotC a x i = 0
  · obtain ⟨xs, q, hx0, ho, hiq, hq, e1, e2⟩ := slot_some h a hc
    have hcell : w1.cell? ⟨h.C x.toNat, q, none⟩ = some (.int .i64 (xs.getD q 0)) := ob_cell w1 h a (HM.out.chg0 c1) ho hq
    rw [e1, hc]
    generalize xs.getD q 0 = z at hcell e2
    have HC := Lib.hid (And.intro c1 (And.intro hc e2)); clear c1 hc e1 e2 ho hiq
    go_wp2_with fail
    go_ret2
    exact ⟨by rw [HC.out.2.1, HC.out.2.2]; rfl, HC.out.1⟩
  · obtain ⟨e1, e2⟩ := slot_none h a hc
    rw [e1]
    obtain ⟨z, hz⟩ : ∃ z, z = slotC a x i := ⟨_, rfl⟩
    rw [← hz] at hc ⊢
    have hc1 : (z != 0) = true := by rw [bne_iff_ne]; exact hc
    have HC := Lib.hid (And.intro c1 (And.intro hz e2)); clear c1 hc e1 e2 hz
    go_wp2_with fail
    go_ret2
    exact ⟨by rw [← HC.out.2.1, HC.out.2.2]; rfl, HC.out.1⟩
end
theorem results_cell_tmp_row {P : Program} {fn : Func} {p u : Tmp} {ty : TypeId} (h : fn.results = #[.cell p ty, .tmp u]) (tmps : Array Value) (w : World) (g : Nat) (t : TypeId) (cs : Array Value) (fr : Nat × Nat) (d : TypeDesc)
    (hp : tmps.getD p undef = .pointer (some ⟨g, 0, none⟩)) (hg : w.heap[g]? = some (.cells cs t fr))
    (hu : P.underlying ty = some d) (hd : (match d with | .struct _ | .array _ _ => true | _ => false) = true) (hi : (P.info? ty).map (·.size) = some cs.size) :
    (results fn tmps).run P w = .ok (.tuple #[.agg cs, tmps.getD u undef]) w := by
  have hp' : tmps[p]?.getD undef = .pointer (some ⟨g, 0, none⟩) := by simpa using hp
  rw [results_cell_tmp h]
  simp [hp', asAddr, run_loadVar_row w g t ty cs fr d hg hu hd hi, Result.andThen]
def At (a : Ar) (x : Int) (id i : Nat) : Prop := ∃ s, a.sp id = some s ∧ i < slK s.k ∧ s.F i = true ∧ x = ((s.addr i : Nat) : Int)
section
variable (w : World) (h : ArH) (a : Ar) (M : ArM w h a)
include M
def FdPost (a : Ar) (x : Int) (w : World) (e : Ending) (w' : World) : Prop :=
  Chg [] w w' ∧ ((obI a x = none ∧ e = .returned (.tuple #[.agg #[.int .i64 0, .int .i64 0], .bool false])) ∨ ∃ id i, (obI a x).isSome = true ∧ At a x id i ∧ e = .returned (.tuple #[.agg #[.int .i64 (id : Nat), .int .i64 (i : Nat)], .bool true]))
theorem alive_ok : Calls Tryz.prog 65 #[.pointer (some ⟨h.ga, 0, none⟩)] w (QuPost (.int .i64 (a.live : Nat)) w) := by
  have b4 : w.cell? ⟨h.ga, 4, none⟩ = some (.int .i64 (a.live : Nat)) := M.b.cellv 4 rfl
  go_enter Tryz.func65, Tryz.ntmps65
  go_wp2_with fail
  go_ret
  exact ⟨rfl, rfl⟩
def MdPost (a : Ar) (x : Int) (w : World) (e : Ending) (w' : World) : Prop :=
  Chg [] w w' ∧ ((obI a x = none ∧ e = .returned (.bool false)) ∨ ∃ id i s, (obI a x).isSome = true ∧ a.sp id = some s ∧ i < slK s.k ∧ s.F i = true ∧ x = ((s.addr i : Nat) : Int) ∧ e = .returned (.bool (s.M i)))
def markS (s : Sp) (i : Nat) : Sp := ⟨s.first, s.k, s.F, setF s.M i, s.fr⟩
def MkPost (h : ArH) (a : Ar) (x : Int) (w : World) (e : Ending) (w' : World) : Prop :=
  (obI a x = none ∧ e = .returned (.bool false) ∧ Chg [] w w') ∨ ∃ id i s, (obI a x).isSome = true ∧ a.sp id = some s ∧ i < slK s.k ∧ s.F i = true ∧ x = ((s.addr i : Nat) : Int) ∧ e = .returned (.bool (!(s.M i))) ∧ ArM w' h { a with sp := updF a.sp id (some (markS s i)) } ∧ Chg (h.B id).l w w'
end
section
variable {P : Program} {T K E : TypeId} {z : Value} {w : World} {b n : Nat} {f : Int → Option Value}
end
noncomputable def putW (P : Program) (T : TypeId) (b : Nat) (k : Int) (u : Value) (W : World) : World :=
  open Classical in if h : ∃ w', (Instr.mapUpdate T (.map (some b)) (.int .i64 k) u).run P W = .ok () w' then Classical.choose h else W
def OKM (P : Program) (K : TypeId) (b : Nat) (W : World) : Prop := ∃ n f, n ≤ 1000002 ∧ VMap P K W b n f
def spI (a : Ar) (id : Int) : Option Sp := if 0 ≤ id then a.sp id.toNat else none
def allocS (s : Sp) (y : Nat) (black : Bool) : Sp := ⟨s.first, s.k, setF s.F y, if black then setF s.M y else s.M, y⟩
def allocA (a : Ar) (id : Nat) (s : Sp) (y n : Nat) (black : Bool) : Ar :=
  { a with sp := updF a.sp id (some (allocS s y black)), ob := updF a.ob (s.addr y) (some (List.replicate n 0)), live := a.live + szK s.k }
def newH (h : ArH) (x gx : Nat) : ArH := { h with C := fun z => if z = x then gx else h.C z, m := h.m + 1 }
def intAt (g o : Nat) (W : World) : Int := match W.cell? ⟨g, o, none⟩ with | some (.int _ v) => v | _ => 0
def AaPost (h : ArH) (a : Ar) (id n : Int) (black : Bool) (w : World) (e : Ending) (w' : World) : Prop :=
  (∃ c : Int, e = .returned (.tuple #[.int .i64 0, .int .i64 c]) ∧ Chg [] w w' ∧ ((spI a id = none ∧ c = 4) ∨ ∃ s, spI a id = some s ∧ (((n < 1 ∨ (szK s.k : Int) < n) ∧ c = 1) ∨ (1 ≤ n ∧ n ≤ szK s.k ∧ (∀ x, s.fr ≤ x → x < slK s.k → s.F x = true) ∧ c = 3)))) ∨
  ∃ s y h', 0 ≤ id ∧ a.sp id.toNat = some s ∧ 1 ≤ n ∧ n ≤ szK s.k ∧ s.fr ≤ y ∧ y < slK s.k ∧ s.F y = false ∧ (∀ x, s.fr ≤ x → x < y → s.F x = true) ∧ e = .returned (.tuple #[.int .i64 (s.addr y : Nat), .int .i64 0]) ∧ h'.N = h.N ∧ h'.ga = h.ga ∧ h'.m ≤ h.m + 1 ∧ ArM w' h' (allocA a id.toNat s y n.toNat black) ∧ StA h a h' (allocA a id.toNat s y n.toNat black) w w'
section
variable (w : World) (h : ArH) (a : Ar) (M : ArM w h a)
include M
end
def newA (n : Nat) : Ar := ⟨n, newL n, fun _ => none, fun _ => none, fun _ => none, 0⟩
theorem newA_ok (N n : Nat) (h1 : 1 ≤ n) (h2 : n ≤ 262144) : ArOk N (newA n) :=
  ⟨newL_ok n h1, h2, fun _ _ h => by simp [newA] at h, fun _ _ _ h => by simp [newA] at h, fun _ _ h => by simp [newA] at h, fun x => ⟨fun h => by simp [newA] at h, fun ⟨_, _, _, h, _⟩ => by simp [newA] at h⟩, fun _ _ h => by simp [newA] at h⟩
def AnPost (n : Nat) (w : World) (e : Ending) (w' : World) : Prop := ∃ h : ArH, e = .returned (.tuple #[.pointer (some ⟨h.ga, 0, none⟩), .int .i64 0]) ∧ ArM w' h (newA n) ∧ Chg [] w w' ∧ (∀ k, ArF h (newA n) k → w.heap.size ≤ k) ∧ h.m = 0 ∧ h.N = 0
theorem natV_none : natV (fun _ => none) = fun _ => none := by funext x; unfold natV; split <;> rfl
theorem anew_ok (w : World) (n : Nat) (h4 : 4 ≤ n) (hn : n ≤ 262144) : Calls Tryz.prog 95 #[.int .i64 ((n * 64 : Nat) : Int)] w (AnPost n w) := by
  obtain ⟨z, hz⟩ : ∃ z, z = n * 64 := ⟨_, rfl⟩
  have d1 : decide ((z : Int) < 256) = false := decide_eq_false (by omega)
  have d2 : decide ((16777216 : Int) < (z : Int)) = false := decide_eq_false (by omega)
  have e1 : (z : Int).tmod 64 = 0 := by rw [Int.tmod_eq_emod_of_nonneg (by omega)]; omega
  have e2 : (z : Int).tdiv 64 = (n : Int) := by rw [Int.tdiv_eq_ediv_of_nonneg (by omega)]; omega
  have d3 : ¬ (z : Int) < 256 := by omega
  have d4 : ¬ (16777216 : Int) < (z : Int) := by omega
  have hew : IntKind.i64.wrap (n : Int) = (n : Int) := IntWalk.i64_in _ (by omega)
  rw [← hz]
  clear hz
  have hmm := @run_makeMap Tryz.prog
  go_enter Tryz.func95, Tryz.ntmps95
  go_wp2_with fail
  refine (new_ok w (n : Int)).mono ?_
  rintro e w1 ⟨g, v, rfl, I, c1, f1⟩
  rw [show newN (n : Int) = n by unfold newN; omega] at I
  have HI := Lib.hid (And.intro I (And.intro c1 f1)); clear I c1 f1
  go_wp2_with fail
  go_ret2
  have I := HI.out.1
  have m1 := VMap.made w1 Tryz.prog 3
  have C1 := (Chg.refl [] w1).alloc (.map #[] 0)
  have m2 := VMap.made (w1.alloc (.map #[] 0)) Tryz.prog 3
  have C2 := (Chg.refl [] (w1.alloc (.map #[] 0))).alloc (.map #[] 0)
  have m3 := VMap.made ((w1.alloc (.map #[] 0)).alloc (.map #[] 0)) Tryz.prog 3
  have C3 := (Chg.refl [] ((w1.alloc (.map #[] 0)).alloc (.map #[] 0))).alloc (.map #[] 0)
  have z1 : (w1.alloc (.map #[] 0)).heap.size = w1.heap.size + 1 := World.size_alloc _ _
  have z2 : ((w1.alloc (.map #[] 0)).alloc (.map #[] 0)).heap.size = w1.heap.size + 1 + 1 := by rw [World.size_alloc, z1]
  have z3 : (((w1.alloc (.map #[] 0)).alloc (.map #[] 0)).alloc (.map #[] 0)).heap.size = w1.heap.size + 1 + 1 + 1 := by rw [World.size_alloc, z2]
  rw [z1] at m2
  rw [z2] at m3
  obtain ⟨w4, hw4⟩ : ∃ w4, w4 = ((w1.alloc (.map #[] 0)).alloc (.map #[] 0)).alloc (.map #[] 0) := ⟨_, rfl⟩
  rw [← hw4] at m3 C3 z3 ⊢
  have B4 := Blk.new w4 212 #[.pointer (some ⟨g, 0, none⟩), .map (some w1.heap.size), .map (some (w1.heap.size + 1)), .map (some (w1.heap.size + 1 + 1)), .int .i64 0]
  have C4 := (Chg.refl [] w4).alloc (.cells #[.pointer (some ⟨g, 0, none⟩), .map (some w1.heap.size), .map (some (w1.heap.size + 1)), .map (some (w1.heap.size + 1 + 1)), .int .i64 0] 212)
  have hs := HI.out.2.1.size
  rw [z3] at B4
  have nn1 : natV (spV ⟨w1.heap.size + 1 + 1 + 1, g, v, w1.heap.size, w1.heap.size + 1, w1.heap.size + 1 + 1, fun _ => ⟨0, 0, 0, 0, 0⟩, fun _ => 0, 0, 0⟩ (newA n)) = fun _ => none := natV_none
  have nn2 : natV (owV (newA n)) = fun _ => none := natV_none
  have nn3 : natV (obV ⟨w1.heap.size + 1 + 1 + 1, g, v, w1.heap.size, w1.heap.size + 1, w1.heap.size + 1 + 1, fun _ => ⟨0, 0, 0, 0, 0⟩, fun _ => 0, 0, 0⟩ (newA n)) = fun _ => none := natV_none
  have Ia := (((I.chg0 C1).chg0 C2).chg0 C3).chg0 C4
  refine ⟨⟨w1.heap.size + 1 + 1 + 1, g, v, w1.heap.size, w1.heap.size + 1, w1.heap.size + 1 + 1, fun _ => ⟨0, 0, 0, 0, 0⟩, fun _ => 0, 0, 0⟩, rfl, ⟨B4, Ia, ?_, ?_, ?_, fun id s h => by simp [newA] at h, fun x xs h => by simp [newA] at h, fun _ _ _ _ h => by simp [newA] at h, fun _ _ h => by simp [newA] at h, by show w1.heap.size ≠ w1.heap.size + 1; omega, by show w1.heap.size ≠ w1.heap.size + 1 + 1; omega, by show w1.heap.size + 1 ≠ w1.heap.size + 1 + 1; omega⟩, (((HI.out.2.1.trans C1).trans C2).trans C3).trans C4, fun k hk => ?_, rfl, rfl⟩
  · rw [nn1]; exact ((m1.chg C2 (by simp)).chg C3 (by simp)).chg C4 (by simp)
  · rw [nn2]; exact (m2.chg C3 (by simp)).chg C4 (by simp)
  · rw [nn3]; exact m3.chg C4 (by simp)
  · rcases hk with h1 | h1 | h1 | h1 | h1 | h1 | ⟨_, _, h1, _⟩ | ⟨x, h1, _⟩
    · rw [h1]; show w.heap.size ≤ w1.heap.size + 1 + 1 + 1; omega
    · rw [h1]; exact HI.out.2.2 g (List.mem_cons_self ..)
    · exact HI.out.2.2 k (List.mem_cons_of_mem _ h1)
    · rw [h1]; exact hs
    · rw [h1]; show w.heap.size ≤ w1.heap.size + 1; omega
    · rw [h1]; show w.heap.size ≤ w1.heap.size + 1 + 1; omega
    · simp [newA] at h1
    · simp [newA] at h1
end Go.Proofs.YtepnlcemlnkpdaaGreatDoor
