/- The arena: what it is in memory; its frame. Plain theorems on worlds. -/
/- The walks of package arena: slot, Load, Store, Len, Find, Marked, Mark. -/
/- The walks of package arena: Find, Len, Live, Left, Marked, Mark. -/
/- The walk of package arena: Alloc. -/
/- The walks of package arena: New, Span. -/
/- The walk of package arena: Span. -/
/- The walk of package arena: Span. -/
/- The arena: a span swept, an object gone, a span gone, an owner gone. Plain theorems on worlds. -/
/- The walk of package arena: Sweep. -/
/- The arena: its invariant is kept by each op. Plain theorems. -/
/- The arena's ops, as to a state that a law carries along. -/
/- The walk of package arena: Drop of a span that has objects. -/
/- The walks of package arena: Class, Full. -/
/- The walk of the document's Pages (layer 4). -/
/- told of layer 7. -/
/- The walk of treadmillref1.Slots. -/
import Derived.Test.YtcpljjacamibeaaGreatDoorMClJ
import Derived.Laws.ResultCell
import Derived.Deep.RegionLaw
import Derived.IntWalk
namespace Go.Proofs.YtcpljjacamibeaaGreatDoor
set_option maxHeartbeats 16000000
set_option maxRecDepth 100000
open Go.RowKit
structure Ar where
  n : Nat
  l : List R
  sp : Nat → Option Sp
  ow : Nat → Option Nat
  ob : Nat → Option (List Int)
  live : Nat
structure ArH where
  ga : Nat
  gp : Nat
  v : Value
  bs : Nat
  bo : Nat
  bj : Nat
  B : Nat → SpB
  C : Nat → Nat
  m : Nat
  N : Nat
structure ArOk (N : Nat) (a : Ar) : Prop where
  ok : Okn a.n a.l
  n : a.n ≤ 262144
  top : ∀ id s, a.sp id = some s → id < N
  ow : ∀ id s p, a.sp id = some s → s.first ≤ p → p < s.first + pgK s.k → a.ow p = some id
  pg : ∀ id s, a.sp id = some s → s.k < 16 ∧ 1 ≤ s.first ∧ s.first + pgK s.k ≤ a.n ∧ ∀ p, s.first ≤ p → p < s.first + pgK s.k → ¬ Fr a.l p
  ob : ∀ x, (a.ob x).isSome = true ↔ ∃ id s i, a.sp id = some s ∧ i < slK s.k ∧ s.F i = true ∧ x = s.addr i
  len : ∀ x xs, a.ob x = some xs → 1 ≤ xs.length ∧ xs.length ≤ 256
def natV (f : Nat → Option Value) (x : Int) : Option Value := if 0 ≤ x then f x.toNat else none
def spV (h : ArH) (a : Ar) (id : Nat) : Option Value := (a.sp id).map fun _ => .pointer (some ⟨(h.B id).g, 0, none⟩)
def owV (a : Ar) (p : Nat) : Option Value := (a.ow p).map fun id => .int .i64 (id : Nat)
def obV (h : ArH) (a : Ar) (x : Nat) : Option Value := (a.ob x).map fun xs => .slice (some ⟨h.C x, 0, none⟩) xs.length xs.length
theorem natV_nat (f : Nat → Option Value) (x : Nat) : natV f (x : Nat) = f x := by unfold natV; rw [if_pos (by omega)]; simp
structure ArM (w : World) (h : ArH) (a : Ar) : Prop where
  b : Blk w h.ga 187 #[.pointer (some ⟨h.gp, 0, none⟩), .map (some h.bs), .map (some h.bo), .map (some h.bj), .int .i64 a.live]
  P : IsPg w h.gp a.n h.v a.l
  s : VMap Tryz.prog 3 w h.bs h.m (natV (spV h a))
  o : VMap Tryz.prog 3 w h.bo h.m (natV (owV a))
  j : VMap Tryz.prog 3 w h.bj h.m (natV (obV h a))
  S : ∀ id s, a.sp id = some s → IsSp w (h.B id) s
  O : ∀ x xs, a.ob x = some xs → Blk w (h.C x) 3 (xs.map (Value.int .i64)).toArray
  d1 : ∀ id id' s s', a.sp id = some s → a.sp id' = some s' → id ≠ id' → ∀ k ∈ (h.B id).l, k ∉ (h.B id').l
  d2 : ∀ x x', (a.ob x).isSome = true → (a.ob x').isSome = true → x ≠ x' → h.C x ≠ h.C x'
  m1 : h.bs ≠ h.bo
  m2 : h.bs ≠ h.bj
  m3 : h.bo ≠ h.bj
def ArF (h : ArH) (a : Ar) (k : Nat) : Prop := k = h.ga ∨ k = h.gp ∨ k ∈ fpv h.v ∨ k = h.bs ∨ k = h.bo ∨ k = h.bj ∨ (∃ id s, a.sp id = some s ∧ k ∈ (h.B id).l) ∨ ∃ x, (a.ob x).isSome = true ∧ k = h.C x
def SpT (t : TypeId) : Prop := t = 270 ∨ t = 341 ∨ t = 290
theorem own_far {w : World} {T : TypeId} {size n g : Nat} {v : Value} {xs : List Value} {t : TypeId} {cs : Array Value} (h : w.ownsRow 0 T size v n xs) (hb : Blk w g t cs) (hne : T ≠ t) : g ∉ fpv v := fun hm => own_ne h hb hne (mem_fpv.1 hm)
section
variable {w w' : World} {h : ArH} {a : Ar}
theorem ArM.chg {S : List Nat} (M : ArM w h a) (c : Chg S w w') (hn : ∀ k, ArF h a k → k ∉ S) : ArM w' h a := by
  refine ⟨c.blk M.b (hn _ (.inl rfl)), ⟨c.blk M.P.b (hn _ (.inr (.inl rfl))), own_chg M.P.o c fun k hk => hn _ (.inr (.inr (.inl (mem_fpv.2 hk))))⟩, M.s.chg c (hn _ (.inr (.inr (.inr (.inl rfl))))), M.o.chg c (hn _ (.inr (.inr (.inr (.inr (.inl rfl)))))), M.j.chg c (hn _ (.inr (.inr (.inr (.inr (.inr (.inl rfl)))))))
    , fun id s hs => (M.S id s hs).chg c fun k hk => hn _ (.inr (.inr (.inr (.inr (.inr (.inr (.inl ⟨id, s, hs, hk⟩))))))), fun x xs hx => c.blk (M.O x xs hx) (hn _ (.inr (.inr (.inr (.inr (.inr (.inr (.inr ⟨x, by rw [hx]; rfl, rfl⟩)))))))), M.d1, M.d2, M.m1, M.m2, M.m3⟩
theorem ArM.chg0 (M : ArM w h a) (c : Chg [] w w') : ArM w' h a := M.chg c (by simp)
theorem ArM.lt (M : ArM w h a) : ∀ k, ArF h a k → k < w.heap.size := fun k hk => by
  rcases hk with rfl | rfl | hk | rfl | rfl | rfl | ⟨id, s, hs, hk⟩ | ⟨x, hx, rfl⟩
  · exact M.b.lt
  · exact M.P.b.lt
  · exact own_lt M.P.o (mem_fpv.1 hk)
  · exact M.s.lt
  · exact M.o.lt
  · exact M.j.lt
  · exact (M.S id s hs).lt k hk
  · obtain ⟨xs, hxs⟩ := Option.isSome_iff_exists.1 hx
    exact (M.O x xs hxs).lt
end
def updF {α : Type} (f : Nat → Option α) (i : Nat) (v : Option α) (x : Nat) : Option α := if x = i then v else f x
section
variable {w w' : World} {h : ArH} {a : Ar}
end
structure StA (h : ArH) (a : Ar) (h' : ArH) (a' : Ar) (w w' : World) : Prop where
  os : w'.os = w.os
  tape : w'.tape = w.tape
  output : w'.output = w.output
  size : w.heap.size ≤ w'.heap.size
  block : ∀ k, k < w.heap.size → ¬ ArF h a k → w'.heap[k]? = w.heap[k]?
  fr : ∀ k, ArF h' a' k → ArF h a k ∨ w.heap.size ≤ k
section
variable {h h' h'' : ArH} {a a' a'' : Ar} {w w' w'' : World}
end
theorem tyS : VTy Tryz.prog 184 3 192 (.pointer none) := ⟨Tryz.underlying184, Tryz.underlying3, fun _ => by kernel_rfl⟩
theorem tyO : VTy Tryz.prog 185 3 3 (.int .i64 0) := ⟨Tryz.underlying185, Tryz.underlying3, fun _ => by kernel_rfl⟩
theorem tyJ : VTy Tryz.prog 182 3 37 (.slice none 0 0) := ⟨Tryz.underlying182, Tryz.underlying3, fun _ => by kernel_rfl⟩
def obI (a : Ar) (x : Int) : Option (List Int) := if 0 ≤ x then a.ob x.toNat else none
theorem obV_I (h : ArH) (a : Ar) (x : Int) : natV (obV h a) x = (obI a x).map fun xs => .slice (some ⟨h.C x.toNat, 0, none⟩) xs.length xs.length := by
  unfold natV obI obV
  split <;> rfl
def slotV (h : ArH) (a : Ar) (x i : Int) : Value := match obI a x with
  | none => .pointer none
  | some xs => if 0 ≤ i ∧ i < xs.length then .pointer (some ⟨h.C x.toNat, i.toNat, none⟩) else .pointer none
def slotC (a : Ar) (x i : Int) : Int := match obI a x with
  | none => 4
  | some xs => if 0 ≤ i ∧ i < xs.length then 0 else 2
def loadV (a : Ar) (x i : Int) : Int := match obI a x with
  | none => 0
  | some xs => if 0 ≤ i ∧ i < xs.length then xs.getD i.toNat 0 else 0
def putA (a : Ar) (x i v : Int) : Ar := if slotC a x i = 0 then { a with ob := updF a.ob x.toNat ((a.ob x.toNat).map fun xs => xs.set i.toNat v) } else a
section
variable (h : ArH) (a : Ar)
end
def PsPost (h : ArH) (a : Ar) (x i v : Int) (w : World) (e : Ending) (w' : World) : Prop := e = .returned (.int .i64 (slotC a x i)) ∧ ArM w' h (putA a x i v) ∧ StA h a h (putA a x i v) w w'
section
variable (w : World) (h : ArH) (a : Ar) (M : ArM w h a)
include M
end
theorem results_cell_tmp_row {P : Program} {fn : Func} {p u : Tmp} {ty : TypeId} (h : fn.results = #[.cell p ty, .tmp u]) (tmps : Array Value) (w : World) (g : Nat) (t : TypeId) (cs : Array Value) (fr : Nat × Nat) (d : TypeDesc)
    (hp : tmps.getD p undef = .pointer (some ⟨g, 0, none⟩)) (hg : w.heap[g]? = some (.cells cs t fr))
    (hu : P.underlying ty = some d) (hd : (match d with | .struct _ | .array _ _ => true | _ => false) = true) (hi : (P.info? ty).map (·.size) = some cs.size) :
    (results fn tmps).run P w = .ok (.tuple #[.agg cs, tmps.getD u undef]) w := by
  have hp' : tmps[p]?.getD undef = .pointer (some ⟨g, 0, none⟩) := by simpa using hp
  rw [results_cell_tmp h]
  simp [hp', asAddr, run_loadVar_row w g t ty cs fr d hg hu hd hi, Result.andThen]
def At (a : Ar) (x : Int) (id i : Nat) : Prop := ∃ s, a.sp id = some s ∧ i < slK s.k ∧ s.F i = true ∧ x = ((s.addr i : Nat) : Int)
theorem ArOk.find {N : Nat} {a : Ar} (ok : ArOk N a) {x : Int} {xs : List Int} (ho : obI a x = some xs) : ∃ id i s, a.sp id = some s ∧ i < slK s.k ∧ s.F i = true ∧ x = ((s.addr i : Nat) : Int) ∧ a.ow (x.toNat / 64) = some id ∧ s.addr i / 64 = x.toNat / 64 ∧ id < N := by
  unfold obI at ho
  by_cases hx : 0 ≤ x
  · rw [if_pos hx] at ho
    obtain ⟨id, s, i, h1, h2, h3, h4⟩ := (ok.ob x.toNat).1 (by rw [ho]; rfl)
    have hk := (ok.pg id s h1).1
    have h5 := sl_sz hk h2
    have h6 := (kF hk).2.2.1
    refine ⟨id, i, s, h1, h2, h3, by omega, ?_, by rw [h4], ok.top id s h1⟩
    refine ok.ow id s _ h1 ?_ ?_ <;> rw [h4] <;> unfold Sp.addr
    · omega
    · rw [Nat.add_mul] at h5; omega
  · rw [if_neg hx] at ho; cases ho
section
variable (w : World) (h : ArH) (a : Ar) (M : ArM w h a)
include M
def FdPost (a : Ar) (x : Int) (w : World) (e : Ending) (w' : World) : Prop :=
  Chg [] w w' ∧ ((obI a x = none ∧ e = .returned (.tuple #[.agg #[.int .i64 0, .int .i64 0], .bool false])) ∨ ∃ id i, (obI a x).isSome = true ∧ At a x id i ∧ e = .returned (.tuple #[.agg #[.int .i64 (id : Nat), .int .i64 (i : Nat)], .bool true]))
theorem find_ok (ok : ArOk h.N a) (hN : h.N ≤ 1000000) (x : Int) (hx : Wf64 x) : Calls Tryz.prog 97 #[.pointer (some ⟨h.ga, 0, none⟩), .int .i64 x] w (FdPost a x w) := by
  have C0 := (Chg.refl [] w).alloc (.cells #[.int .i64 0, .int .i64 0] 189)
  have HM := Lib.hid (And.intro (M.chg0 C0) (And.intro C0 (Blk.new w 189 #[.int .i64 0, .int .i64 0]))); clear C0 M
  go_enter Tryz.func97, Tryz.ntmps97
  go_upto_region 1 with fail
  obtain ⟨W, hW⟩ : ∃ W, W = (w.alloc (.cells #[.int .i64 0, .int .i64 0] 189)) := ⟨_, rfl⟩
  obtain ⟨gr, hgr⟩ : ∃ gr, gr = w.heap.size := ⟨_, rfl⟩
  rw [← hW, ← hgr] at HM ⊢
  have hg0 := Lib.hid hgr
  clear hW
  have M := HM.out.1
  have b3 : W.cell? ⟨h.ga, 3, none⟩ = some (.map (some h.bj)) := M.b.cellv 3 rfl
  have hl := M.j.look tyJ hx
  rw [obV_I] at hl
  cases ho : obI a x with
  | none =>
    rw [ho] at hl
    have hl' : (Instr.lookup 182 (.map (some h.bj)) (.int .i64 x) false).run Tryz.prog W = .ok (.slice none 0 0) W := hl
    have hnil := Lib.run_eql_slice_nil (P := Tryz.prog) W 37 3 none 0 0 0 0 Tryz.underlying37
    have c0 : W.cell? ⟨gr, 0, none⟩ = some (.int .i64 0) := HM.out.2.2.cellv 0 rfl
    have c1 : W.cell? ⟨gr, 1, none⟩ = some (.int .i64 0) := HM.out.2.2.cellv 1 rfl
    have f0 := HM.out.2.2.frozen 0
    have f1 := HM.out.2.2.frozen 1
    have HO := Lib.hid ho; clear ho hl M hgr ok
    go_wp2_with fail
    exact ⟨rfl, _, results_cell_tmp_row (P := Tryz.prog) (fn := Tryz.f97) rfl _ _ gr 189 _ _ _ rfl ((HM.out.2.2.setv 0 (.int .i64 0) rfl).setv 1 (.int .i64 0) rfl) Tryz.underlying189 rfl (by kernel_rfl), ((HM.out.2.1.setCell (p := ⟨gr, 0, none⟩) (.inr (by show w.heap.size ≤ gr; have := hg0.out; omega)) _).setCell (p := ⟨gr, 1, none⟩) (.inr (by show w.heap.size ≤ gr; have := hg0.out; omega)) _), .inl ⟨HO.out, rfl⟩⟩
  | some xs =>
    rw [ho] at hl
    have hl' : (Instr.lookup 182 (.map (some h.bj)) (.int .i64 x) false).run Tryz.prog W = .ok (.slice (some ⟨h.C x.toNat, 0, none⟩) xs.length xs.length) W := hl
    have hnil := Lib.run_eql_slice_nil (P := Tryz.prog) W 37 3 (some ⟨h.C x.toNat, 0, none⟩) xs.length xs.length 0 0 Tryz.underlying37
    obtain ⟨id, i, s, h1, h2, h3, h4, h5, h6, h7⟩ := ok.find ho
    have hx0 : 0 ≤ x := by omega
    have b1 : W.cell? ⟨h.ga, 1, none⟩ = some (.map (some h.bs)) := M.b.cellv 1 rfl
    have b2 : W.cell? ⟨h.ga, 2, none⟩ = some (.map (some h.bo)) := M.b.cellv 2 rfl
    have hd : x.tdiv 64 = ((x.toNat / 64 : Nat) : Int) := by rw [Int.tdiv_eq_ediv_of_nonneg hx0]; omega
    have hd2 : x / 64 = ((x.toNat / 64 : Nat) : Int) := by omega
    have hlo : (Instr.lookup 185 (.map (some h.bo)) (.int .i64 ((x.toNat / 64 : Nat) : Int)) false).run Tryz.prog W = .ok (.int .i64 (id : Nat)) W := by
      have := M.o.look tyO (x := ((x.toNat / 64 : Nat) : Int)) (by have := hx.2; unfold Wf64; omega)
      rw [natV_nat] at this
      unfold owV at this
      rw [h5] at this
      exact this
    have hls : (Instr.lookup 184 (.map (some h.bs)) (.int .i64 (id : Nat)) false).run Tryz.prog W = .ok (.pointer (some ⟨(h.B id).g, 0, none⟩)) W := by
      have := M.s.look tyS (x := (id : Int)) (by unfold Wf64; omega)
      rw [natV_nat] at this
      unfold spV at this
      rw [h1] at this
      exact this
    have I := M.S id s h1
    have c0 : W.cell? ⟨gr, 0, none⟩ = some (.int .i64 0) := HM.out.2.2.cellv 0 rfl
    have c1 : W.cell? ⟨gr, 1, none⟩ = some (.int .i64 0) := HM.out.2.2.cellv 1 rfl
    obtain ⟨xd, hxd⟩ : ∃ xd, xd = x.toNat / 64 := ⟨_, rfl⟩
    rw [← hxd] at hd hd2 hlo
    have hxb : (xd : Int) ≤ 1000000000000000000 := by have := hx.2; omega
    have hxw : wrap64 (xd : Int) = (xd : Int) := by rw [wrap64_small (by omega) (by omega)]
    generalize h.C x.toNat = cx at hl' hnil
    have HO := Lib.hid (And.intro (And.intro h1 (And.intro h2 (And.intro h3 h4))) (And.intro I (by rw [ho]; rfl : (obI a x).isSome = true))); clear ho hl M h1 h2 h3 h4 h5 h6 h7 I hxd ok hgr
    go_wp2_with fail
    rw [HO.out.1.2.2.2]
    refine (sat_ok W (h.B id) s HO.out.2.1 i HO.out.1.2.1).mono ?_
    rintro e w2 ⟨rfl, C2⟩
    have B2 := C2.blk HM.out.2.2 (by simp)
    have c0 : w2.cell? ⟨gr, 0, none⟩ = some (.int .i64 0) := B2.cellv 0 rfl
    have c1 : w2.cell? ⟨gr, 1, none⟩ = some (.int .i64 0) := B2.cellv 1 rfl
    have f0 := B2.frozen 0
    have f1 := B2.frozen 1
    have HB := Lib.hid (And.intro B2 (HM.out.2.1.trans C2)); clear B2 C2
    go_wp2_with fail
    exact ⟨rfl, _, results_cell_tmp_row (P := Tryz.prog) (fn := Tryz.f97) rfl _ _ gr 189 _ _ _ rfl ((HB.out.1.setv 0 (.int .i64 (id : Nat)) rfl).setv 1 (.int .i64 (i : Nat)) rfl) Tryz.underlying189 rfl (by kernel_rfl), ((HB.out.2.setCell (p := ⟨gr, 0, none⟩) (.inr (by show w.heap.size ≤ gr; have := hg0.out; omega)) _).setCell (p := ⟨gr, 1, none⟩) (.inr (by show w.heap.size ≤ gr; have := hg0.out; omega)) _), .inr ⟨id, i, HO.out.2.2, ⟨s, HO.out.1⟩, rfl⟩⟩
theorem alive_ok : Calls Tryz.prog 68 #[.pointer (some ⟨h.ga, 0, none⟩)] w (QuPost (.int .i64 (a.live : Nat)) w) := by
  have b4 : w.cell? ⟨h.ga, 4, none⟩ = some (.int .i64 (a.live : Nat)) := M.b.cellv 4 rfl
  go_enter Tryz.func68, Tryz.ntmps68
  go_wp2_with fail
  go_ret
  exact ⟨rfl, rfl⟩
def MdPost (a : Ar) (x : Int) (w : World) (e : Ending) (w' : World) : Prop :=
  Chg [] w w' ∧ ((obI a x = none ∧ e = .returned (.bool false)) ∨ ∃ id i s, (obI a x).isSome = true ∧ a.sp id = some s ∧ i < slK s.k ∧ s.F i = true ∧ x = ((s.addr i : Nat) : Int) ∧ e = .returned (.bool (s.M i)))
theorem amarked_ok (ok : ArOk h.N a) (hN : h.N ≤ 1000000) (x : Int) (hx : Wf64 x) : Calls Tryz.prog 47 #[.pointer (some ⟨h.ga, 0, none⟩), .int .i64 x] w (MdPost a x w) := by
  have HM := Lib.hid M
  go_enter Tryz.func47, Tryz.ntmps47
  go_wp2_with fail
  refine (find_ok w h a M ok hN x hx).mono ?_
  rintro e w1 ⟨c1, ⟨ho, rfl⟩ | ⟨id, i, ho, ⟨s, h1, h2, h3, h4⟩, rfl⟩⟩
  · have HC := Lib.hid (And.intro c1 ho); clear c1 ho M ok
    go_upto_region 2 with fail
    have C2 := HC.out.1.alloc (.cells #[.int .i64 0, .int .i64 0] 189)
    have H2 := Lib.hid C2; clear C2
    generalize w1.alloc (.cells #[.int .i64 0, .int .i64 0] 189) = W at H2 ⊢
    go_quiet (fail)
    go_wp2_with fail
    go_ret
    exact ⟨H2.out.drewN _, .inl ⟨HC.out.2, rfl⟩⟩
  · have hid := ok.top id s h1
    have HC := Lib.hid (And.intro (And.intro h1 (And.intro h2 (And.intro h3 h4))) (And.intro c1 ho)); clear c1 ho M ok h1 h2 h3 h4
    go_upto_region 2 with fail
    have C2 := HC.out.2.1.alloc (.cells #[.int .i64 (id : Nat), .int .i64 (i : Nat)] 189)
    have BB := Blk.new w1 189 #[.int .i64 (id : Nat), .int .i64 (i : Nat)]
    have H2 := Lib.hid (And.intro C2 BB); clear C2 BB
    generalize w1.alloc (.cells #[.int .i64 (id : Nat), .int .i64 (i : Nat)] 189) = W at H2 ⊢
    generalize w1.heap.size = gb at H2 ⊢
    have M2 := (HM.out.chg0 H2.out.1).chg0 ((Chg.refl [] W).drew)
    have k1 : Chg [] W W.drew := (Chg.refl [] W).drew
    have b1 : W.drew.cell? ⟨h.ga, 1, none⟩ = some (.map (some h.bs)) := M2.b.cellv 1 rfl
    have q0 : W.drew.cell? ⟨gb, 0, none⟩ = some (.int .i64 (id : Nat)) := H2.out.2.drew.cellv 0 rfl
    have q1 : W.drew.cell? ⟨gb, 1, none⟩ = some (.int .i64 (i : Nat)) := H2.out.2.drew.cellv 1 rfl
    have hls : (Instr.lookup 184 (.map (some h.bs)) (.int .i64 (id : Nat)) false).run Tryz.prog W.drew = .ok (.pointer (some ⟨(h.B id).g, 0, none⟩)) W.drew := by
      have := M2.s.look tyS (x := (id : Int)) (by unfold Wf64; omega)
      rw [natV_nat] at this
      unfold spV at this
      rw [HC.out.1.1] at this
      exact this
    have HI := Lib.hid (M2.S id s HC.out.1.1); clear M2
    go_region_held3 (fun w' => w'.cell? ⟨h.ga, 1, none⟩ = some (.map (some h.bs)) ∧ w'.cell? ⟨gb, 0, none⟩ = some (.int .i64 (id : Nat)) ∧ w'.cell? ⟨gb, 1, none⟩ = some (.int .i64 (i : Nat)) ∧ Chg [] W w') (go_keep)
      (first | (go_at_call 98; refine (smarked_ok _ (h.B id) s HI.out i).mono ?_; rintro e w' ⟨rfl, rfl⟩))
    rw [hasI_nat HC.out.1.2.1]
    have H3 := Lib.hid (H2.out.1.trans k1)
    go_wp2_with fail
    go_ret
    exact ⟨H3.out, .inr ⟨id, i, s, HC.out.2.2, HC.out.1.1, HC.out.1.2.1, HC.out.1.2.2.1, HC.out.1.2.2.2, rfl⟩⟩
def markS (s : Sp) (i : Nat) : Sp := ⟨s.first, s.k, s.F, setF s.M i, s.fr⟩
def MkPost (h : ArH) (a : Ar) (x : Int) (w : World) (e : Ending) (w' : World) : Prop :=
  (obI a x = none ∧ e = .returned (.bool false) ∧ Chg [] w w') ∨ ∃ id i s, (obI a x).isSome = true ∧ a.sp id = some s ∧ i < slK s.k ∧ s.F i = true ∧ x = ((s.addr i : Nat) : Int) ∧ e = .returned (.bool (!(s.M i))) ∧ ArM w' h { a with sp := updF a.sp id (some (markS s i)) } ∧ Chg (h.B id).l w w'
end
section
variable {P : Program} {T K E : TypeId} {z : Value} {w : World} {b n : Nat} {f : Int → Option Value}
end
noncomputable def putW (P : Program) (T : TypeId) (b : Nat) (k : Int) (u : Value) (W : World) : World :=
  open Classical in if h : ∃ w', (Instr.mapUpdate T (.map (some b)) (.int .i64 k) u).run P W = .ok () w' then Classical.choose h else W
def OKM (P : Program) (K : TypeId) (b : Nat) (W : World) : Prop := ∃ n f, n ≤ 1000002 ∧ VMap P K W b n f
def spI (a : Ar) (id : Int) : Option Sp := if 0 ≤ id then a.sp id.toNat else none
def allocS (s : Sp) (y : Nat) (black : Bool) : Sp := ⟨s.first, s.k, setF s.F y, if black then setF s.M y else s.M, y⟩
def allocA (a : Ar) (id : Nat) (s : Sp) (y n : Nat) (black : Bool) : Ar :=
  { a with sp := updF a.sp id (some (allocS s y black)), ob := updF a.ob (s.addr y) (some (List.replicate n 0)), live := a.live + szK s.k }
def newH (h : ArH) (x gx : Nat) : ArH := { h with C := fun z => if z = x then gx else h.C z, m := h.m + 1 }
def intAt (g o : Nat) (W : World) : Int := match W.cell? ⟨g, o, none⟩ with | some (.int _ v) => v | _ => 0
def AaPost (h : ArH) (a : Ar) (id n : Int) (black : Bool) (w : World) (e : Ending) (w' : World) : Prop :=
  (∃ c : Int, e = .returned (.tuple #[.int .i64 0, .int .i64 c]) ∧ Chg [] w w' ∧ ((spI a id = none ∧ c = 4) ∨ ∃ s, spI a id = some s ∧ (((n < 1 ∨ (szK s.k : Int) < n) ∧ c = 1) ∨ (1 ≤ n ∧ n ≤ szK s.k ∧ (∀ x, s.fr ≤ x → x < slK s.k → s.F x = true) ∧ c = 3)))) ∨
  ∃ s y h', 0 ≤ id ∧ a.sp id.toNat = some s ∧ 1 ≤ n ∧ n ≤ szK s.k ∧ s.fr ≤ y ∧ y < slK s.k ∧ s.F y = false ∧ (∀ x, s.fr ≤ x → x < y → s.F x = true) ∧ e = .returned (.tuple #[.int .i64 (s.addr y : Nat), .int .i64 0]) ∧ h'.N = h.N ∧ h'.ga = h.ga ∧ h'.m ≤ h.m + 1 ∧ ArM w' h' (allocA a id.toNat s y n.toNat black) ∧ StA h a h' (allocA a id.toNat s y n.toNat black) w w'
section
variable (w : World) (h : ArH) (a : Ar) (M : ArM w h a)
include M
end
def newA (n : Nat) : Ar := ⟨n, newL n, fun _ => none, fun _ => none, fun _ => none, 0⟩
theorem newA_ok (N n : Nat) (h1 : 1 ≤ n) (h2 : n ≤ 262144) : ArOk N (newA n) :=
  ⟨newL_ok n h1, h2, fun _ _ h => by simp [newA] at h, fun _ _ _ h => by simp [newA] at h, fun _ _ h => by simp [newA] at h, fun x => ⟨fun h => by simp [newA] at h, fun ⟨_, _, _, h, _⟩ => by simp [newA] at h⟩, fun _ _ h => by simp [newA] at h⟩
def AnPost (n : Nat) (w : World) (e : Ending) (w' : World) : Prop := ∃ h : ArH, e = .returned (.tuple #[.pointer (some ⟨h.ga, 0, none⟩), .int .i64 0]) ∧ ArM w' h (newA n) ∧ Chg [] w w' ∧ (∀ k, ArF h (newA n) k → w.heap.size ≤ k) ∧ h.m = 0 ∧ h.N = 0
theorem natV_none : natV (fun _ => none) = fun _ => none := by funext x; unfold natV; split <;> rfl
theorem anew_ok (w : World) (n : Nat) (h4 : 4 ≤ n) (hn : n ≤ 262144) : Calls Tryz.prog 107 #[.int .i64 ((n * 64 : Nat) : Int)] w (AnPost n w) := by
  obtain ⟨z, hz⟩ : ∃ z, z = n * 64 := ⟨_, rfl⟩
  have d1 : decide ((z : Int) < 256) = false := decide_eq_false (by omega)
  have d2 : decide ((16777216 : Int) < (z : Int)) = false := decide_eq_false (by omega)
  have e1 : (z : Int).tmod 64 = 0 := by rw [Int.tmod_eq_emod_of_nonneg (by omega)]; omega
  have e2 : (z : Int).tdiv 64 = (n : Int) := by rw [Int.tdiv_eq_ediv_of_nonneg (by omega)]; omega
  have d3 : ¬ (z : Int) < 256 := by omega
  have d4 : ¬ (16777216 : Int) < (z : Int) := by omega
  have hew : IntKind.i64.wrap (n : Int) = (n : Int) := IntWalk.i64_in _ (by omega)
  rw [← hz]
  clear hz
  have hmm := @run_makeMap Tryz.prog
  go_enter Tryz.func107, Tryz.ntmps107
  go_wp2_with fail
  refine (new_ok w (n : Int)).mono ?_
  rintro e w1 ⟨g, v, rfl, I, c1, f1⟩
  rw [show newN (n : Int) = n by unfold newN; omega] at I
  have HI := Lib.hid (And.intro I (And.intro c1 f1)); clear I c1 f1
  go_wp2_with fail
  go_ret2
  have I := HI.out.1
  have m1 := VMap.made w1 Tryz.prog 3
  have C1 := (Chg.refl [] w1).alloc (.map #[] 0)
  have m2 := VMap.made (w1.alloc (.map #[] 0)) Tryz.prog 3
  have C2 := (Chg.refl [] (w1.alloc (.map #[] 0))).alloc (.map #[] 0)
  have m3 := VMap.made ((w1.alloc (.map #[] 0)).alloc (.map #[] 0)) Tryz.prog 3
  have C3 := (Chg.refl [] ((w1.alloc (.map #[] 0)).alloc (.map #[] 0))).alloc (.map #[] 0)
  have z1 : (w1.alloc (.map #[] 0)).heap.size = w1.heap.size + 1 := World.size_alloc _ _
  have z2 : ((w1.alloc (.map #[] 0)).alloc (.map #[] 0)).heap.size = w1.heap.size + 1 + 1 := by rw [World.size_alloc, z1]
  have z3 : (((w1.alloc (.map #[] 0)).alloc (.map #[] 0)).alloc (.map #[] 0)).heap.size = w1.heap.size + 1 + 1 + 1 := by rw [World.size_alloc, z2]
  rw [z1] at m2
  rw [z2] at m3
  obtain ⟨w4, hw4⟩ : ∃ w4, w4 = ((w1.alloc (.map #[] 0)).alloc (.map #[] 0)).alloc (.map #[] 0) := ⟨_, rfl⟩
  rw [← hw4] at m3 C3 z3 ⊢
  have B4 := Blk.new w4 187 #[.pointer (some ⟨g, 0, none⟩), .map (some w1.heap.size), .map (some (w1.heap.size + 1)), .map (some (w1.heap.size + 1 + 1)), .int .i64 0]
  have C4 := (Chg.refl [] w4).alloc (.cells #[.pointer (some ⟨g, 0, none⟩), .map (some w1.heap.size), .map (some (w1.heap.size + 1)), .map (some (w1.heap.size + 1 + 1)), .int .i64 0] 187)
  have hs := HI.out.2.1.size
  rw [z3] at B4
  have nn1 : natV (spV ⟨w1.heap.size + 1 + 1 + 1, g, v, w1.heap.size, w1.heap.size + 1, w1.heap.size + 1 + 1, fun _ => ⟨0, 0, 0, 0, 0⟩, fun _ => 0, 0, 0⟩ (newA n)) = fun _ => none := natV_none
  have nn2 : natV (owV (newA n)) = fun _ => none := natV_none
  have nn3 : natV (obV ⟨w1.heap.size + 1 + 1 + 1, g, v, w1.heap.size, w1.heap.size + 1, w1.heap.size + 1 + 1, fun _ => ⟨0, 0, 0, 0, 0⟩, fun _ => 0, 0, 0⟩ (newA n)) = fun _ => none := natV_none
  have Ia := (((I.chg0 C1).chg0 C2).chg0 C3).chg0 C4
  refine ⟨⟨w1.heap.size + 1 + 1 + 1, g, v, w1.heap.size, w1.heap.size + 1, w1.heap.size + 1 + 1, fun _ => ⟨0, 0, 0, 0, 0⟩, fun _ => 0, 0, 0⟩, rfl, ⟨B4, Ia, ?_, ?_, ?_, fun id s h => by simp [newA] at h, fun x xs h => by simp [newA] at h, fun _ _ _ _ h => by simp [newA] at h, fun _ _ h => by simp [newA] at h, by show w1.heap.size ≠ w1.heap.size + 1; omega, by show w1.heap.size ≠ w1.heap.size + 1 + 1; omega, by show w1.heap.size + 1 ≠ w1.heap.size + 1 + 1; omega⟩, (((HI.out.2.1.trans C1).trans C2).trans C3).trans C4, fun k hk => ?_, rfl, rfl⟩
  · rw [nn1]; exact ((m1.chg C2 (by simp)).chg C3 (by simp)).chg C4 (by simp)
  · rw [nn2]; exact (m2.chg C3 (by simp)).chg C4 (by simp)
  · rw [nn3]; exact m3.chg C4 (by simp)
  · rcases hk with h1 | h1 | h1 | h1 | h1 | h1 | ⟨_, _, h1, _⟩ | ⟨x, h1, _⟩
    · rw [h1]; show w.heap.size ≤ w1.heap.size + 1 + 1 + 1; omega
    · rw [h1]; exact HI.out.2.2 g (List.mem_cons_self ..)
    · exact HI.out.2.2 k (List.mem_cons_of_mem _ h1)
    · rw [h1]; exact hs
    · rw [h1]; show w.heap.size ≤ w1.heap.size + 1; omega
    · rw [h1]; show w.heap.size ≤ w1.heap.size + 1 + 1; omega
    · simp [newA] at h1
    · simp [newA] at h1
def pgH (h : ArH) (v : Value) : ArH := { h with v := v }
def spanH (h : ArH) (id : Nat) (b : SpB) : ArH := { h with B := fun j => if j = id then b else h.B j, m := h.m + 1 }
def owH (h : ArH) : ArH := { h with m := h.m + 1 }
def spanA (a : Ar) (l' : List R) (id q f : Nat) : Ar := { a with l := l', sp := updF a.sp id (some ⟨f, q, fun _ => false, fun _ => false, 0⟩), ow := fun p => if f ≤ p ∧ p < f + pgK q then some id else a.ow p }
def ApPost (h : ArH) (a : Ar) (k : Int) (w : World) (e : Ending) (w' : World) : Prop :=
  (¬ isK k ∧ e = .returned (.tuple #[.int .i64 0, .int .i64 1]) ∧ Chg [] w w') ∨
  ∃ q : Nat, k = q ∧ q < 16 ∧ ∃ x c l', AllocSays a.l (pgK q : Nat) x c l' ∧
    ((c ≠ 0 ∧ e = .returned (.tuple #[.int .i64 0, .int .i64 c]) ∧ ∃ h' : ArH, ArM w' h' { a with l := l' } ∧ StA h a h' { a with l := l' } w w' ∧ h'.m = h.m ∧ h'.N = h.N ∧ h'.ga = h.ga) ∨
     (c = 0 ∧ ∃ (f id : Nat) (h' : ArH), x = f ∧ a.sp id = none ∧ (∀ j, j < id → a.sp j ≠ none) ∧ e = .returned (.tuple #[.int .i64 (id : Nat), .int .i64 0]) ∧ ArM w' h' (spanA a l' id q f) ∧ StA h a h' (spanA a l' id q f) w w' ∧ h'.m ≤ h.m + 6 ∧ h'.N = h.N ∧ h'.ga = h.ga))
def IdRel (w0 : World) (a : Ar) (N : Nat) (gk : Nat) (idx : Value) (w : World) : Prop := ∃ i, gk + i = N + 1 ∧ i ≤ N ∧ idx = .int .i64 (i : Nat) ∧ (∀ j, j < i → a.sp j ≠ none) ∧ w = w0
def owT (a : Ar) (f t id p : Nat) : Option Nat := if f ≤ p ∧ p < f + t then some id else a.ow p
def owHn (h : ArH) (t : Nat) : ArH := { h with m := h.m + t }
def OwRel (w0 : World) (h0 h4 : ArH) (a0 a4 : Ar) (f id P : Nat) (gk : Nat) (idx : Value) (w : World) : Prop :=
  ∃ t, gk + t = P + 1 ∧ t ≤ P ∧ idx = .int .i64 (t : Nat) ∧ ArM w (owHn h4 t) { a4 with ow := owT a4 f t id } ∧ StA h0 a0 (owHn h4 t) { a4 with ow := owT a4 f t id } w0 w
def turnH (h : ArH) (id : Nat) (b : SpB) : ArH := { h with B := fun j => if j = id then b else h.B j }
def sweptL (s : Sp) : List Nat := (allN s.F (slK s.k)).filter fun i => !(s.M i)
def addrT (s : Sp) (i : Nat) : List Nat := ((sweptL s).take i).map s.addr
def obT (a : Ar) (s : Sp) (i x : Nat) : Option (List Int) := if x ∈ addrT s i then none else a.ob x
def sweptS (s : Sp) : Sp := ⟨s.first, s.k, s.M, fun _ => false, 0⟩
def sweptB (b : SpB) : SpB := ⟨b.g, b.m, b.ma, b.u, b.ua⟩
def sweepA (a : Ar) (id : Nat) (s : Sp) (i : Nat) : Ar := { a with sp := updF a.sp id (some (sweptS s)), ob := obT a s i, live := a.live - i * szK s.k }
def AwPost (h : ArH) (a : Ar) (id : Int) (w : World) (e : Ending) (w' : World) : Prop :=
  (spI a id = none ∧ e = .returned (.tuple #[.slice none 0 0, .int .i64 4]) ∧ Chg [] w w') ∨
  ∃ s v, 0 ≤ id ∧ a.sp id.toNat = some s ∧ e = .returned (.tuple #[v, .int .i64 0]) ∧ OwnI 3 w' v (intsN ((sweptL s).map s.addr)) ∧ (∀ k ∈ fpv v, w.heap.size ≤ k) ∧ (∀ k ∈ fpv v, ¬ ArF (turnH h id.toNat (sweptB (h.B id.toNat))) (sweepA a id.toNat s (sweptL s).length) k) ∧ ArM w' (turnH h id.toNat (sweptB (h.B id.toNat))) (sweepA a id.toNat s (sweptL s).length) ∧ StA h a (turnH h id.toNat (sweptB (h.B id.toNat))) (sweepA a id.toNat s (sweptL s).length) w w'
def AwRel (w0 : World) (h h1 : ArH) (a : Ar) (id : Nat) (s : Sp) (vl : Value) (gk : Nat) (v idx : Value) (w : World) : Prop :=
  ∃ i, gk + i = (sweptL s).length + 1 ∧ i ≤ (sweptL s).length ∧ idx = .int .i64 (i : Nat) ∧ OwnI 3 w v (intsN (addrT s i)) ∧ OwnI 3 w vl (intsN (sweptL s)) ∧ (∀ k ∈ fpv v, w0.heap.size ≤ k ∧ k ∉ fpv vl) ∧ (∀ k ∈ fpv v, ∀ k' , ArF h1 (sweepA a id s i) k' → k ≠ k') ∧ (∀ k ∈ fpv vl, ∀ k', ArF h1 (sweepA a id s i) k' → k ≠ k') ∧ ArM w h1 (sweepA a id s i) ∧ StA h a h1 (sweepA a id s i) w0 w
def spW (o : Option Sp) : Nat := match o with | none => 0 | some s => cntF s.F (slK s.k) * szK s.k
def livN (f : Nat → Option Sp) : Nat → Nat
  | 0 => 0
  | n + 1 => livN f n + spW (f n)
theorem livN_more {f : Nat → Option Sp} {N : Nat} (h : ∀ j, N ≤ j → f j = none) : ∀ {M : Nat}, N ≤ M → livN f M = livN f N
  | 0, hm => by have : N = 0 := by omega
                rw [this]
  | M + 1, hm => by
    by_cases e : N = M + 1
    · rw [e]
    · rw [livN, livN_more h (M := M) (by omega), h M (by omega)]; rfl
structure ArI (N : Nat) (a : Ar) : Prop where
  ok : ArOk N a
  mf : ∀ id s i, a.sp id = some s → s.M i = true → s.F i = true
  fz : ∀ id s i, a.sp id = some s → slK s.k ≤ i → s.F i = false
  lv : a.live = livN a.sp N
theorem Sp.addr_page {s : Sp} {i : Nat} (hk : s.k < 16) (hi : i < slK s.k) : s.first ≤ s.addr i / 64 ∧ s.addr i / 64 < s.first + pgK s.k := by
  have h5 := sl_sz hk hi
  have h6 := (kF hk).2.2.1
  rw [Nat.add_mul] at h5
  unfold Sp.addr
  omega
theorem Sp.addr_inj {s : Sp} {i j : Nat} (hk : s.k < 16) (h : s.addr i = s.addr j) : i = j := by
  have h6 := (kF hk).2.2.1
  unfold Sp.addr at h
  exact Nat.eq_of_mul_eq_mul_right (by omega : 0 < szK s.k) (by omega)
theorem ArOk.other {N : Nat} {a : Ar} (ok : ArOk N a) {id id' i i' : Nat} {s t : Sp} (hs : a.sp id = some s) (ht : a.sp id' = some t) (hi : i < slK s.k) (hi' : i' < slK t.k) (h : s.addr i = t.addr i') : id = id' := by
  have p1 := Sp.addr_page (ok.pg id s hs).1 hi
  have p2 := Sp.addr_page (ok.pg id' t ht).1 hi'
  have o1 := ok.ow id s _ hs p1.1 p1.2
  have o2 := ok.ow id' t _ ht p2.1 p2.2
  rw [h, o2] at o1
  injection o1 with o1
  exact o1.symm
theorem newA_I (N n : Nat) (h1 : 1 ≤ n) (h2 : n ≤ 262144) : ArI N (newA n) := by
  refine ⟨newA_ok N n h1 h2, fun _ _ _ h => by simp [newA] at h, fun _ _ _ h => by simp [newA] at h, ?_⟩
  have : livN (newA n).sp N = livN (newA n).sp 0 := livN_more (fun j _ => rfl) (Nat.zero_le _)
  rw [this]; rfl
/-! Alloc -/
/-! Store -/
/-! Mark -/
/-! Sweep -/
/-! Span -/
theorem ArM.nn {w : World} {h : ArH} {a : Ar} (M : ArM w h a) (N : Nat) : ArM w { h with N := N } a := ⟨M.b, M.P, M.s, M.o, M.j, M.S, M.O, M.d1, M.d2, M.m1, M.m2, M.m3⟩
structure ArS (w0 w : World) (g : Nat) (h : ArH) (a : Ar) (N b : Nat) : Prop where
  M : ArM w h a
  I : ArI N a
  far : ∀ k, ArF h a k → w0.heap.size ≤ k
  c : Chg [] w0 w
  ga : h.ga = g
  m : h.m ≤ b
section
variable {w0 w w' : World} {g N b : Nat} {h h' : ArH} {a a' : Ar}
theorem ArS.chg0 (S : ArS w0 w g h a N b) (c : Chg [] w w') : ArS w0 w' g h a N b := ⟨S.M.chg0 c, S.I, S.far, S.c.trans c, S.ga, S.m⟩
end
def SpPost (w0 w : World) (g : Nat) (h : ArH) (a : Ar) (N b : Nat) (q : Nat) (e : Ending) (w' : World) : Prop :=
  ∃ x c l', AllocSays a.l (pgK q : Nat) x c l' ∧
    ((c ≠ 0 ∧ e = .returned (.tuple #[.int .i64 0, .int .i64 c]) ∧ ∃ h', ArS w0 w' g h' a N b ∧ StA h a h' a w w') ∨
     (c = 0 ∧ ∃ (f id : Nat) (h' : ArH), x = f ∧ a.sp id = none ∧ (∀ j, j < id → a.sp j ≠ none) ∧ id ≤ N ∧ e = .returned (.tuple #[.int .i64 (id : Nat), .int .i64 0]) ∧ ArS w0 w' g h' (spanA a l' id q f) (N + 1) (b + 6) ∧ StA h a h' (spanA a l' id q f) w w'))
def AlPost' (w0 w : World) (g : Nat) (h : ArH) (a : Ar) (N b : Nat) (id n : Int) (black : Bool) (e : Ending) (w' : World) : Prop :=
  (∃ c : Int, e = .returned (.tuple #[.int .i64 0, .int .i64 c]) ∧ ArS w0 w' g h a N b ∧ Chg [] w w' ∧ ((spI a id = none ∧ c = 4) ∨ ∃ s, spI a id = some s ∧ (((n < 1 ∨ (szK s.k : Int) < n) ∧ c = 1) ∨ (1 ≤ n ∧ n ≤ szK s.k ∧ (∀ x, s.fr ≤ x → x < slK s.k → s.F x = true) ∧ c = 3)))) ∨
  ∃ s y h', 0 ≤ id ∧ a.sp id.toNat = some s ∧ 1 ≤ n ∧ n ≤ szK s.k ∧ s.fr ≤ y ∧ y < slK s.k ∧ s.F y = false ∧ (∀ x, s.fr ≤ x → x < y → s.F x = true) ∧ e = .returned (.tuple #[.int .i64 (s.addr y : Nat), .int .i64 0]) ∧ ArS w0 w' g h' (allocA a id.toNat s y n.toNat black) N (b + 1) ∧ StA h a h' (allocA a id.toNat s y n.toNat black) w w'
section
variable {w0 w : World} {g N b : Nat} {h : ArH} {a : Ar} (S : ArS w0 w g h a N b)
include S
theorem s_live : Calls Tryz.prog 68 #[.pointer (some ⟨g, 0, none⟩)] w (QuPost (.int .i64 (a.live : Nat)) w) := by
  have h1 := alive_ok w h a S.M
  rwa [S.ga] at h1
theorem s_marked (hN : N ≤ 1000000) {id i : Nat} {s : Sp} (hs : a.sp id = some s) (hi : i < slK s.k) (hF : s.F i = true) : Calls Tryz.prog 47 #[.pointer (some ⟨g, 0, none⟩), .int .i64 (s.addr i : Nat)] w (NwPost (.bool (s.M i)) w) := by
  have hk := S.I.ok.pg id s hs
  have hn := S.I.ok.n
  have hp := Sp.addr_page hk.1 hi
  have h1 := amarked_ok w { h with N := N } a (S.M.nn N) S.I.ok hN (s.addr i : Nat) (by unfold Wf64; omega)
  have e : ({ h with N := N } : ArH).ga = g := S.ga
  rw [e] at h1
  refine h1.mono ?_
  rintro e w' ⟨c, ⟨ho, -⟩ | ⟨id', i', s', -, hs', hi', hF', hx, he⟩⟩
  · have h2 := (S.I.ok.ob (s.addr i)).2 ⟨id, s, i, hs, hi, hF, rfl⟩
    unfold obI at ho
    rw [if_pos (by omega), Int.toNat_natCast] at ho
    rw [ho] at h2; cases h2
  · have hx2 : s.addr i = s'.addr i' := by omega
    have e1 := S.I.ok.other hs hs' hi hi' hx2
    subst e1
    rw [hs] at hs'; injection hs' with hs'; subst hs'
    have e2 := Sp.addr_inj hk.1 hx2
    subst e2
    exact ⟨he, c⟩
end
section
variable {w0 w : World} {g N b : Nat} {h : ArH} {a : Ar} (S : ArS w0 w g h a N b)
include S
end
def fullS (s : Sp) : Prop := ∀ x, s.fr ≤ x → x < slK s.k → s.F x = true
def afPost (a : Ar) (id : Int) (w : World) (e : Ending) (w' : World) : Prop := ∃ bo, e = .returned (.bool bo) ∧ Chg [] w w' ∧ (bo = true ↔ ∀ s, spI a id = some s → fullS s)
section
variable {w0 w : World} {g N b : Nat} {h : ArH} {a : Ar} (S : ArS w0 w g h a N b)
include S
end
def fitR (s p : Nat) : Bool := decide (s ≤ p * 64 ∧ p * 64 % s * 8 ≤ p * 64)
def RpRel (w0 : World) (P gk : Nat) (idx : Value) (w : World) : Prop := ∃ p, gk + p = P + 1 ∧ 1 ≤ p ∧ p ≤ P ∧ idx = .int .i64 (p : Nat) ∧ Chg [] w0 w
theorem s_new (w : World) (n : Nat) (z : Int) (hz : z = ((n * 64 : Nat) : Int)) (h4 : 4 ≤ n) (hn : n ≤ 262144) : Calls Tryz.prog 107 #[.int .i64 z] w fun e w' => ∃ g h, e = .returned (.tuple #[.pointer (some ⟨g, 0, none⟩), .int .i64 0]) ∧ ArS w w' g h (newA n) 0 0 := by
  subst hz
  refine (anew_ok w n h4 hn).mono ?_
  rintro e w' ⟨h, he, M, c, far, hm, -⟩
  exact ⟨h.ga, h, he, M, newA_I 0 n (by omega) hn, far, c, rfl, by omega⟩
def spn (f q : Nat) : Sp := ⟨f, q, fun _ => false, fun _ => false, 0⟩
def TdPost (w : World) (e : Ending) (w' : World) : Prop := e = .returned (.bool true) ∧ Chg [] w w'
open Go.RowKit Go.Maps
end Go.Proofs.YtcpljjacamibeaaGreatDoor
