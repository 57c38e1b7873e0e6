/- The arena: what it is in memory; its frame. Plain theorems on worlds. -/
/- The walks of package arena: slot, Load, Store, Len, Find, Marked, Mark. -/
/- The walks of package arena: Find, Len, Live, Left, Marked, Mark. -/
/- The walk of package arena: Alloc. -/
/- The walks of package arena: New, Span. -/
import Derived.Test.YtcnchgbngcnijaaGreatDoorMSp
import Derived.Test.YtcnchgbngcnijaaGreatDoorVMap
import Derived.Test.YtcnchgbngcnijaaGreatDoorMPb
import Derived.Laws.ResultCell
import Derived.Deep.RegionLaw
namespace Go.Proofs.YtcnchgbngcnijaaGreatDoor
open Go.RowKit

/-- An arena: pages and their free runs; spans by id; whose a page is; objects by address; words that live. -/
structure Ar where
  n : Nat
  l : List R
  sp : Nat → Option Sp
  ow : Nat → Option Nat
  ob : Nat → Option (List Int)
  live : Nat
/-- Where it lies. -/
structure ArH where
  ga : Nat
  gp : Nat
  v : Value
  bs : Nat
  bo : Nat
  bj : Nat
  B : Nat → SpB
  C : Nat → Nat
  m : Nat
  N : Nat
structure ArOk (N : Nat) (a : Ar) : Prop where
  ok : Okn a.n a.l
  n : a.n ≤ 262144
  top : ∀ id s, a.sp id = some s → id < N
  ow : ∀ id s p, a.sp id = some s → s.first ≤ p → p < s.first + pgK s.k → a.ow p = some id
  pg : ∀ id s, a.sp id = some s → s.k < 16 ∧ 1 ≤ s.first ∧ s.first + pgK s.k ≤ a.n ∧ ∀ p, s.first ≤ p → p < s.first + pgK s.k → ¬ Fr a.l p
  ob : ∀ x, (a.ob x).isSome = true ↔ ∃ id s i, a.sp id = some s ∧ i < slK s.k ∧ s.F i = true ∧ x = s.addr i
  len : ∀ x xs, a.ob x = some xs → 1 ≤ xs.length ∧ xs.length ≤ 256
/-- What the maps tell. -/
def natV (f : Nat → Option Value) (x : Int) : Option Value := if 0 ≤ x then f x.toNat else none
def spV (h : ArH) (a : Ar) (id : Nat) : Option Value := (a.sp id).map fun _ => .pointer (some ⟨(h.B id).g, 0, none⟩)
def owV (a : Ar) (p : Nat) : Option Value := (a.ow p).map fun id => .int .i64 (id : Nat)
def obV (h : ArH) (a : Ar) (x : Nat) : Option Value := (a.ob x).map fun xs => .slice (some ⟨h.C x, 0, none⟩) xs.length xs.length
theorem natV_nat (f : Nat → Option Value) (x : Nat) : natV f (x : Nat) = f x := by unfold natV; rw [if_pos (by omega)]; simp
theorem natV_put (f : Nat → Option Value) (x : Nat) (u : Value) (y : Int) : putV (natV f) (x : Nat) u y = natV (fun z => if z = x then some u else f z) y := by
  unfold putV natV
  by_cases h : 0 ≤ y
  · rw [if_pos h, if_pos h]
    by_cases e : y = (x : Int)
    · rw [if_pos e]; show _ = if y.toNat = x then _ else _; rw [if_pos (by omega)]
    · rw [if_neg e]; show _ = if y.toNat = x then _ else _; rw [if_neg (by omega)]
  · rw [if_neg h, if_neg h, if_neg (by omega)]
theorem natV_del (f : Nat → Option Value) (x : Nat) (y : Int) : delV (natV f) (x : Nat) y = natV (fun z => if z = x then none else f z) y := by
  unfold delV natV
  by_cases h : 0 ≤ y
  · rw [if_pos h, if_pos h]
    by_cases e : y = (x : Int)
    · rw [if_pos e]; show _ = if y.toNat = x then _ else _; rw [if_pos (by omega)]
    · rw [if_neg e]; show _ = if y.toNat = x then _ else _; rw [if_neg (by omega)]
  · rw [if_neg h, if_neg h, if_neg (by omega)]
structure ArM (w : World) (h : ArH) (a : Ar) : Prop where
  b : Blk w h.ga 79 #[.pointer (some ⟨h.gp, 0, none⟩), .map (some h.bs), .map (some h.bo), .map (some h.bj), .int .i64 a.live]
  P : IsPg w h.gp a.n h.v a.l
  s : VMap Tryz.prog 3 w h.bs h.m (natV (spV h a))
  o : VMap Tryz.prog 3 w h.bo h.m (natV (owV a))
  j : VMap Tryz.prog 3 w h.bj h.m (natV (obV h a))
  S : ∀ id s, a.sp id = some s → IsSp w (h.B id) s
  O : ∀ x xs, a.ob x = some xs → Blk w (h.C x) 3 (xs.map (Value.int .i64)).toArray
  d1 : ∀ id id' s s', a.sp id = some s → a.sp id' = some s' → id ≠ id' → ∀ k ∈ (h.B id).l, k ∉ (h.B id').l
  d2 : ∀ x x', (a.ob x).isSome = true → (a.ob x').isSome = true → x ≠ x' → h.C x ≠ h.C x'
  m1 : h.bs ≠ h.bo
  m2 : h.bs ≠ h.bj
  m3 : h.bo ≠ h.bj
/-- Its blocks. -/
def ArF (h : ArH) (a : Ar) (k : Nat) : Prop := k = h.ga ∨ k = h.gp ∨ k ∈ fpv h.v ∨ k = h.bs ∨ k = h.bo ∨ k = h.bj ∨ (∃ id s, a.sp id = some s ∧ k ∈ (h.B id).l) ∨ ∃ x, (a.ob x).isSome = true ∧ k = h.C x
/-- Types that the blocks of a span have. -/
def SpT (t : TypeId) : Prop := t = 145 ∨ t = 166 ∨ t = 167
theorem IsSp.far {w : World} {b : SpB} {s : Sp} (h : IsSp w b s) {g : Nat} {t : TypeId} {cs : Array Value} (hb : Blk w g t cs) (ht : ¬ SpT t) : g ∉ b.l := fun hm => by
  simp only [SpB.l, List.mem_cons, List.not_mem_nil, or_false] at hm
  have n1 : 145 ≠ t := fun e => ht (.inl e.symm)
  have n2 : 166 ≠ t := fun e => ht (.inr (.inl e.symm))
  have n3 : 167 ≠ t := fun e => ht (.inr (.inr e.symm))
  rcases hm with e | e | e | e | e
  · exact h.hb.ne_ hb n1 e.symm
  · exact h.hu.b.ne_ hb n2 e.symm
  · exact h.hu.d.ne_ hb n3 e.symm
  · exact h.hm.b.ne_ hb n2 e.symm
  · exact h.hm.d.ne_ hb n3 e.symm
theorem VMap.far {P : Program} {K : TypeId} {w : World} {m n : Nat} {f : Int → Option Value} (h : VMap P K w m n f) {b : SpB} {s : Sp} (I : IsSp w b s) : m ∉ b.l := fun hm => by
  simp only [SpB.l, List.mem_cons, List.not_mem_nil, or_false] at hm
  rcases hm with e | e | e | e | e
  · exact h.ne_blk I.hb e
  · exact h.ne_blk I.hu.b e
  · exact h.ne_blk I.hu.d e
  · exact h.ne_blk I.hm.b e
  · exact h.ne_blk I.hm.d e
theorem own_far {w : World} {T : TypeId} {size n g : Nat} {v : Value} {xs : List Value} {t : TypeId} {cs : Array Value} (h : w.ownsRow 0 T size v n xs) (hb : Blk w g t cs) (hne : T ≠ t) : g ∉ fpv v := fun hm => own_ne h hb hne (mem_fpv.1 hm)
section
variable {w w' : World} {h : ArH} {a : Ar}
theorem ArM.chg {S : List Nat} (M : ArM w h a) (c : Chg S w w') (hn : ∀ k, ArF h a k → k ∉ S) : ArM w' h a := by
  refine ⟨c.blk M.b (hn _ (.inl rfl)), ⟨c.blk M.P.b (hn _ (.inr (.inl rfl))), own_chg M.P.o c fun k hk => hn _ (.inr (.inr (.inl (mem_fpv.2 hk))))⟩, M.s.chg c (hn _ (.inr (.inr (.inr (.inl rfl))))), M.o.chg c (hn _ (.inr (.inr (.inr (.inr (.inl rfl)))))), M.j.chg c (hn _ (.inr (.inr (.inr (.inr (.inr (.inl rfl)))))))
    , fun id s hs => (M.S id s hs).chg c fun k hk => hn _ (.inr (.inr (.inr (.inr (.inr (.inr (.inl ⟨id, s, hs, hk⟩))))))), fun x xs hx => c.blk (M.O x xs hx) (hn _ (.inr (.inr (.inr (.inr (.inr (.inr (.inr ⟨x, by rw [hx]; rfl, rfl⟩)))))))), M.d1, M.d2, M.m1, M.m2, M.m3⟩
theorem ArM.chg0 (M : ArM w h a) (c : Chg [] w w') : ArM w' h a := M.chg c (by simp)
theorem ArM.lt (M : ArM w h a) : ∀ k, ArF h a k → k < w.heap.size := fun k hk => by
  rcases hk with rfl | rfl | hk | rfl | rfl | rfl | ⟨id, s, hs, hk⟩ | ⟨x, hx, rfl⟩
  · exact M.b.lt
  · exact M.P.b.lt
  · exact own_lt M.P.o (mem_fpv.1 hk)
  · exact M.s.lt
  · exact M.o.lt
  · exact M.j.lt
  · exact (M.S id s hs).lt k hk
  · obtain ⟨xs, hxs⟩ := Option.isSome_iff_exists.1 hx
    exact (M.O x xs hxs).lt
end
/-- One span turned. -/
def updF {α : Type} (f : Nat → Option α) (i : Nat) (v : Option α) (x : Nat) : Option α := if x = i then v else f x
theorem updF_same {α : Type} (f : Nat → Option α) (i : Nat) (v : Option α) : updF f i v i = v := if_pos rfl
theorem updF_other {α : Type} (f : Nat → Option α) {i x : Nat} (v : Option α) (h : x ≠ i) : updF f i v x = f x := if_neg h
section
variable {w w' : World} {h : ArH} {a : Ar}
theorem ArM.span {id : Nat} {s s' : Sp} (M : ArM w h a) (hs : a.sp id = some s) (I : IsSp w' (h.B id) s') (c : Chg (h.B id).l w w') : ArM w' h { a with sp := updF a.sp id (some s') } := by
  have J := M.S id s hs
  have e : spV h { a with sp := updF a.sp id (some s') } = spV h a := by
    funext x
    unfold spV updF
    by_cases e : x = id
    · subst e; simp [hs]
    · simp [e]
  refine ⟨c.blk M.b (J.far M.b (by unfold SpT; decide)), ⟨c.blk M.P.b (J.far M.P.b (by unfold SpT; decide)), own_chg M.P.o c fun k hk hm => ?_⟩, ?_, M.o.chg c (M.o.far J), M.j.chg c (M.j.far J), fun i t ht => ?_, fun x xs hx => c.blk (M.O x xs hx) (J.far (M.O x xs hx) (by unfold SpT; decide)), fun i i' t t' ht ht' hne => ?_, M.d2, M.m1, M.m2, M.m3⟩
  · simp only [SpB.l, List.mem_cons, List.not_mem_nil, or_false] at hm
    rcases hm with rfl | rfl | rfl | rfl | rfl
    · exact own_far M.P.o J.hb (by decide) (mem_fpv.2 hk)
    · exact own_far M.P.o J.hu.b (by decide) (mem_fpv.2 hk)
    · exact own_far M.P.o J.hu.d (by decide) (mem_fpv.2 hk)
    · exact own_far M.P.o J.hm.b (by decide) (mem_fpv.2 hk)
    · exact own_far M.P.o J.hm.d (by decide) (mem_fpv.2 hk)
  · rw [e]; exact M.s.chg c (M.s.far J)
  · by_cases e : i = id
    · subst e
      have : some s' = some t := by rw [← ht]; exact (updF_same _ _ _).symm
      injection this with this
      rw [← this]; exact I
    · have ht2 : a.sp i = some t := by rw [← ht]; exact (updF_other _ _ e).symm
      exact (M.S i t ht2).chg c (fun k hk hm => M.d1 i id t s ht2 hs e k hk hm)
  · have get : ∀ i t, updF a.sp id (some s') i = some t → ∃ t2, a.sp i = some t2 := fun i t ht => by
      by_cases e : i = id
      · exact ⟨s, by rw [e]; exact hs⟩
      · exact ⟨t, by rw [← ht]; exact (updF_other _ _ e).symm⟩
    obtain ⟨t2, h2⟩ := get i t ht
    obtain ⟨t3, h3⟩ := get i' t' ht'
    exact M.d1 i i' t2 t3 h2 h3 hne
end
/-- A step of the arena. -/
structure StA (h : ArH) (a : Ar) (h' : ArH) (a' : Ar) (w w' : World) : Prop where
  os : w'.os = w.os
  tape : w'.tape = w.tape
  output : w'.output = w.output
  size : w.heap.size ≤ w'.heap.size
  block : ∀ k, k < w.heap.size → ¬ ArF h a k → w'.heap[k]? = w.heap[k]?
  fr : ∀ k, ArF h' a' k → ArF h a k ∨ w.heap.size ≤ k
section
variable {h h' h'' : ArH} {a a' a'' : Ar} {w w' w'' : World}
theorem StA.of_chg {S : List Nat} (c : Chg S w w') (hS : ∀ k ∈ S, ArF h a k ∨ w.heap.size ≤ k) (fr : ∀ k, ArF h' a' k → ArF h a k ∨ w.heap.size ≤ k) : StA h a h' a' w w' :=
  ⟨c.os, c.tape, c.output, c.size, fun k hk hn => c.block k hk (fun hm => by
    rcases hS k hm with h1 | h1
    · exact hn h1
    · omega), fr⟩
theorem StA.same (c : Chg [] w w') : StA h a h a w w' := StA.of_chg c (by simp) fun _ hk => .inl hk
theorem StA.trans (s : StA h a h' a' w w') (t : StA h' a' h'' a'' w' w'') : StA h a h'' a'' w w'' :=
  ⟨t.os.trans s.os, t.tape.trans s.tape, t.output.trans s.output, Nat.le_trans s.size t.size, fun k hk hn => (t.block k (Nat.lt_of_lt_of_le hk s.size) (fun hm => by
    rcases s.fr k hm with h1 | h1
    · exact hn h1
    · omega)).trans (s.block k hk hn), fun k hk => by
    rcases t.fr k hk with h1 | h1
    · exact s.fr k h1
    · exact .inr (Nat.le_trans s.size h1)⟩
end
end Go.Proofs.YtcnchgbngcnijaaGreatDoor
namespace Go.Proofs.YtcnchgbngcnijaaGreatDoor
open Go.RowKit

theorem tyS : VTy Tryz.prog 76 3 92 (.pointer none) := ⟨Tryz.underlying76, Tryz.underlying3, fun _ => by kernel_rfl⟩
theorem tyO : VTy Tryz.prog 38 3 3 (.int .i64 0) := ⟨Tryz.underlying38, Tryz.underlying3, fun _ => by kernel_rfl⟩
theorem tyJ : VTy Tryz.prog 77 3 33 (.slice none 0 0) := ⟨Tryz.underlying77, Tryz.underlying3, fun _ => by kernel_rfl⟩
def obI (a : Ar) (x : Int) : Option (List Int) := if 0 ≤ x then a.ob x.toNat else none
theorem obV_I (h : ArH) (a : Ar) (x : Int) : natV (obV h a) x = (obI a x).map fun xs => .slice (some ⟨h.C x.toNat, 0, none⟩) xs.length xs.length := by
  unfold natV obI obV
  split <;> rfl
def slotV (h : ArH) (a : Ar) (x i : Int) : Value := match obI a x with
  | none => .pointer none
  | some xs => if 0 ≤ i ∧ i < xs.length then .pointer (some ⟨h.C x.toNat, i.toNat, none⟩) else .pointer none
def slotC (a : Ar) (x i : Int) : Int := match obI a x with
  | none => 4
  | some xs => if 0 ≤ i ∧ i < xs.length then 0 else 2
def loadV (a : Ar) (x i : Int) : Int := match obI a x with
  | none => 0
  | some xs => if 0 ≤ i ∧ i < xs.length then xs.getD i.toNat 0 else 0
/-- A slot told anew. -/
def putA (a : Ar) (x i v : Int) : Ar := if slotC a x i = 0 then { a with ob := updF a.ob x.toNat ((a.ob x.toNat).map fun xs => xs.set i.toNat v) } else a
section
variable (h : ArH) (a : Ar)
end
def PsPost (h : ArH) (a : Ar) (x i v : Int) (w : World) (e : Ending) (w' : World) : Prop := e = .returned (.int .i64 (slotC a x i)) ∧ ArM w' h (putA a x i v) ∧ StA h a h (putA a x i v) w w'
section
variable (w : World) (h : ArH) (a : Ar) (M : ArM w h a)
include M
end
end Go.Proofs.YtcnchgbngcnijaaGreatDoor
namespace Go.Proofs.YtcnchgbngcnijaaGreatDoor
open Go.RowKit

theorem results_cell_tmp_row {P : Program} {fn : Func} {p u : Tmp} {ty : TypeId} (h : fn.results = #[.cell p ty, .tmp u]) (tmps : Array Value) (w : World) (g : Nat) (t : TypeId) (cs : Array Value) (fr : Nat × Nat) (d : TypeDesc)
    (hp : tmps.getD p undef = .pointer (some ⟨g, 0, none⟩)) (hg : w.heap[g]? = some (.cells cs t fr))
    (hu : P.underlying ty = some d) (hd : (match d with | .struct _ | .array _ _ => true | _ => false) = true) (hi : (P.info? ty).map (·.size) = some cs.size) :
    (results fn tmps).run P w = .ok (.tuple #[.agg cs, tmps.getD u undef]) w := by
  have hp' : tmps[p]?.getD undef = .pointer (some ⟨g, 0, none⟩) := by simpa using hp
  rw [results_cell_tmp h]
  simp [hp', asAddr, run_loadVar_row w g t ty cs fr d hg hu hd hi, Result.andThen]
/-- Where an object is. -/
def At (a : Ar) (x : Int) (id i : Nat) : Prop := ∃ s, a.sp id = some s ∧ i < slK s.k ∧ s.F i = true ∧ x = ((s.addr i : Nat) : Int)
theorem ArOk.find {N : Nat} {a : Ar} (ok : ArOk N a) {x : Int} {xs : List Int} (ho : obI a x = some xs) : ∃ id i s, a.sp id = some s ∧ i < slK s.k ∧ s.F i = true ∧ x = ((s.addr i : Nat) : Int) ∧ a.ow (x.toNat / 64) = some id ∧ s.addr i / 64 = x.toNat / 64 ∧ id < N := by
  unfold obI at ho
  by_cases hx : 0 ≤ x
  · rw [if_pos hx] at ho
    obtain ⟨id, s, i, h1, h2, h3, h4⟩ := (ok.ob x.toNat).1 (by rw [ho]; rfl)
    have hk := (ok.pg id s h1).1
    have h5 := sl_sz hk h2
    have h6 := (kF hk).2.2.1
    refine ⟨id, i, s, h1, h2, h3, by omega, ?_, by rw [h4], ok.top id s h1⟩
    refine ok.ow id s _ h1 ?_ ?_ <;> rw [h4] <;> unfold Sp.addr
    · omega
    · rw [Nat.add_mul] at h5; omega
  · rw [if_neg hx] at ho; cases ho
section
variable (w : World) (h : ArH) (a : Ar) (M : ArM w h a)
include M
def FdPost (a : Ar) (x : Int) (w : World) (e : Ending) (w' : World) : Prop :=
  Chg [] w w' ∧ ((obI a x = none ∧ e = .returned (.tuple #[.agg #[.int .i64 0, .int .i64 0], .bool false])) ∨ ∃ id i, (obI a x).isSome = true ∧ At a x id i ∧ e = .returned (.tuple #[.agg #[.int .i64 (id : Nat), .int .i64 (i : Nat)], .bool true]))
set_option maxHeartbeats 1600000 in
set_option maxRecDepth 100000 in
theorem find_ok (ok : ArOk h.N a) (hN : h.N ≤ 1000000) (x : Int) (hx : Wf64 x) : Calls Tryz.prog 31 #[.pointer (some ⟨h.ga, 0, none⟩), .int .i64 x] w (FdPost a x w) := by
  have C0 := (Chg.refl [] w).alloc (.cells #[.int .i64 0, .int .i64 0] 55)
  have HM := Lib.hid (And.intro (M.chg0 C0) (And.intro C0 (Blk.new w 55 #[.int .i64 0, .int .i64 0]))); clear C0 M
  go_enter Tryz.func31, Tryz.ntmps31
  go_upto_region 1 with fail
  obtain ⟨W, hW⟩ : ∃ W, W = (w.alloc (.cells #[.int .i64 0, .int .i64 0] 55)) := ⟨_, rfl⟩
  obtain ⟨gr, hgr⟩ : ∃ gr, gr = w.heap.size := ⟨_, rfl⟩
  rw [← hW, ← hgr] at HM ⊢
  have hg0 := Lib.hid hgr
  clear hW
  have M := HM.out.1
  have b3 : W.cell? ⟨h.ga, 3, none⟩ = some (.map (some h.bj)) := M.b.cellv 3 rfl
  have hl := M.j.look tyJ hx
  rw [obV_I] at hl
  cases ho : obI a x with
  | none =>
    rw [ho] at hl
    have hl' : (Instr.lookup 77 (.map (some h.bj)) (.int .i64 x) false).run Tryz.prog W = .ok (.slice none 0 0) W := hl
    have hnil := Lib.run_eql_slice_nil (P := Tryz.prog) W 33 3 none 0 0 0 0 Tryz.underlying33
    have c0 : W.cell? ⟨gr, 0, none⟩ = some (.int .i64 0) := HM.out.2.2.cellv 0 rfl
    have c1 : W.cell? ⟨gr, 1, none⟩ = some (.int .i64 0) := HM.out.2.2.cellv 1 rfl
    have f0 := HM.out.2.2.frozen 0
    have f1 := HM.out.2.2.frozen 1
    have HO := Lib.hid ho; clear ho hl M hgr ok
    go_wp2_with fail
    exact ⟨rfl, _, results_cell_tmp_row (P := Tryz.prog) (fn := Tryz.f31) rfl _ _ gr 55 _ _ _ rfl ((HM.out.2.2.setv 0 (.int .i64 0) rfl).setv 1 (.int .i64 0) rfl) Tryz.underlying55 rfl (by kernel_rfl), ((HM.out.2.1.setCell (p := ⟨gr, 0, none⟩) (.inr (by show w.heap.size ≤ gr; have := hg0.out; omega)) _).setCell (p := ⟨gr, 1, none⟩) (.inr (by show w.heap.size ≤ gr; have := hg0.out; omega)) _), .inl ⟨HO.out, rfl⟩⟩
  | some xs =>
    rw [ho] at hl
    have hl' : (Instr.lookup 77 (.map (some h.bj)) (.int .i64 x) false).run Tryz.prog W = .ok (.slice (some ⟨h.C x.toNat, 0, none⟩) xs.length xs.length) W := hl
    have hnil := Lib.run_eql_slice_nil (P := Tryz.prog) W 33 3 (some ⟨h.C x.toNat, 0, none⟩) xs.length xs.length 0 0 Tryz.underlying33
    obtain ⟨id, i, s, h1, h2, h3, h4, h5, h6, h7⟩ := ok.find ho
    have hx0 : 0 ≤ x := by omega
    have b1 : W.cell? ⟨h.ga, 1, none⟩ = some (.map (some h.bs)) := M.b.cellv 1 rfl
    have b2 : W.cell? ⟨h.ga, 2, none⟩ = some (.map (some h.bo)) := M.b.cellv 2 rfl
    have hd : x.tdiv 64 = ((x.toNat / 64 : Nat) : Int) := by rw [Int.tdiv_eq_ediv_of_nonneg hx0]; omega
    have hd2 : x / 64 = ((x.toNat / 64 : Nat) : Int) := by omega
    have hlo : (Instr.lookup 38 (.map (some h.bo)) (.int .i64 ((x.toNat / 64 : Nat) : Int)) false).run Tryz.prog W = .ok (.int .i64 (id : Nat)) W := by
      have := M.o.look tyO (x := ((x.toNat / 64 : Nat) : Int)) (by have := hx.2; unfold Wf64; omega)
      rw [natV_nat] at this
      unfold owV at this
      rw [h5] at this
      exact this
    have hls : (Instr.lookup 76 (.map (some h.bs)) (.int .i64 (id : Nat)) false).run Tryz.prog W = .ok (.pointer (some ⟨(h.B id).g, 0, none⟩)) W := by
      have := M.s.look tyS (x := (id : Int)) (by unfold Wf64; omega)
      rw [natV_nat] at this
      unfold spV at this
      rw [h1] at this
      exact this
    have I := M.S id s h1
    have c0 : W.cell? ⟨gr, 0, none⟩ = some (.int .i64 0) := HM.out.2.2.cellv 0 rfl
    have c1 : W.cell? ⟨gr, 1, none⟩ = some (.int .i64 0) := HM.out.2.2.cellv 1 rfl
    obtain ⟨xd, hxd⟩ : ∃ xd, xd = x.toNat / 64 := ⟨_, rfl⟩
    rw [← hxd] at hd hd2 hlo
    have hxb : (xd : Int) ≤ 1000000000000000000 := by have := hx.2; omega
    have hxw : wrap64 (xd : Int) = (xd : Int) := by rw [wrap64_small (by omega) (by omega)]
    generalize h.C x.toNat = cx at hl' hnil
    have HO := Lib.hid (And.intro (And.intro h1 (And.intro h2 (And.intro h3 h4))) (And.intro I (by rw [ho]; rfl : (obI a x).isSome = true))); clear ho hl M h1 h2 h3 h4 h5 h6 h7 I hxd ok hgr
    go_wp2_with fail
    rw [HO.out.1.2.2.2]
    refine (sat_ok W (h.B id) s HO.out.2.1 i HO.out.1.2.1).mono ?_
    rintro e w2 ⟨rfl, C2⟩
    have B2 := C2.blk HM.out.2.2 (by simp)
    have c0 : w2.cell? ⟨gr, 0, none⟩ = some (.int .i64 0) := B2.cellv 0 rfl
    have c1 : w2.cell? ⟨gr, 1, none⟩ = some (.int .i64 0) := B2.cellv 1 rfl
    have f0 := B2.frozen 0
    have f1 := B2.frozen 1
    have HB := Lib.hid (And.intro B2 (HM.out.2.1.trans C2)); clear B2 C2
    go_wp2_with fail
    exact ⟨rfl, _, results_cell_tmp_row (P := Tryz.prog) (fn := Tryz.f31) rfl _ _ gr 55 _ _ _ rfl ((HB.out.1.setv 0 (.int .i64 (id : Nat)) rfl).setv 1 (.int .i64 (i : Nat)) rfl) Tryz.underlying55 rfl (by kernel_rfl), ((HB.out.2.setCell (p := ⟨gr, 0, none⟩) (.inr (by show w.heap.size ≤ gr; have := hg0.out; omega)) _).setCell (p := ⟨gr, 1, none⟩) (.inr (by show w.heap.size ≤ gr; have := hg0.out; omega)) _), .inr ⟨id, i, HO.out.2.2, ⟨s, HO.out.1⟩, rfl⟩⟩
set_option maxHeartbeats 1600000 in
set_option maxRecDepth 100000 in
theorem alive_ok : Calls Tryz.prog 18 #[.pointer (some ⟨h.ga, 0, none⟩)] w (QuPost (.int .i64 (a.live : Nat)) w) := by
  have b4 : w.cell? ⟨h.ga, 4, none⟩ = some (.int .i64 (a.live : Nat)) := M.b.cellv 4 rfl
  go_enter Tryz.func18, Tryz.ntmps18
  go_wp2_with fail
  go_ret
  exact ⟨rfl, rfl⟩
set_option maxHeartbeats 1600000 in
set_option maxRecDepth 100000 in
theorem aleft_ok (hl : a.l.length ≤ 1000000) (hs : sumR a.l ≤ 1000000) : Calls Tryz.prog 20 #[.pointer (some ⟨h.ga, 0, none⟩)] w (NwPost (.int .i64 (sumR a.l : Nat)) w) := by
  have b0 : w.cell? ⟨h.ga, 0, none⟩ = some (.pointer (some ⟨h.gp, 0, none⟩)) := M.b.cellv 0 rfl
  go_enter Tryz.func20, Tryz.ntmps20
  go_wp2_with fail
  refine (left_ok w _ _ _ _ M.P hl hs).mono ?_
  rintro e w1 ⟨rfl, c1⟩
  have HC := Lib.hid c1; clear c1
  go_wp2_with fail
  go_ret
  exact ⟨rfl, HC.out⟩
def MdPost (a : Ar) (x : Int) (w : World) (e : Ending) (w' : World) : Prop :=
  Chg [] w w' ∧ ((obI a x = none ∧ e = .returned (.bool false)) ∨ ∃ id i s, (obI a x).isSome = true ∧ a.sp id = some s ∧ i < slK s.k ∧ s.F i = true ∧ x = ((s.addr i : Nat) : Int) ∧ e = .returned (.bool (s.M i)))
def markS (s : Sp) (i : Nat) : Sp := ⟨s.first, s.k, s.F, setF s.M i, s.fr⟩
def MkPost (h : ArH) (a : Ar) (x : Int) (w : World) (e : Ending) (w' : World) : Prop :=
  (obI a x = none ∧ e = .returned (.bool false) ∧ Chg [] w w') ∨ ∃ id i s, (obI a x).isSome = true ∧ a.sp id = some s ∧ i < slK s.k ∧ s.F i = true ∧ x = ((s.addr i : Nat) : Int) ∧ e = .returned (.bool (!(s.M i))) ∧ ArM w' h { a with sp := updF a.sp id (some (markS s i)) } ∧ Chg (h.B id).l w w'
set_option maxHeartbeats 1600000 in
set_option maxRecDepth 100000 in
theorem amark_ok (ok : ArOk h.N a) (hN : h.N ≤ 1000000) (x : Int) (hx : Wf64 x) : Calls Tryz.prog 26 #[.pointer (some ⟨h.ga, 0, none⟩), .int .i64 x] w (MkPost h a x w) := by
  have HM := Lib.hid M
  go_enter Tryz.func26, Tryz.ntmps26
  go_wp2_with fail
  refine (find_ok w h a M ok hN x hx).mono ?_
  rintro e w1 ⟨c1, ⟨ho, rfl⟩ | ⟨id, i, ho, ⟨s, h1, h2, h3, h4⟩, rfl⟩⟩
  · have HC := Lib.hid (And.intro c1 ho); clear c1 ho M ok
    go_upto_region 2 with fail
    have C2 := HC.out.1.alloc (.cells #[.int .i64 0, .int .i64 0] 55)
    have H2 := Lib.hid C2; clear C2
    generalize w1.alloc (.cells #[.int .i64 0, .int .i64 0] 55) = W at H2 ⊢
    go_quiet (fail)
    go_wp2_with fail
    go_ret
    exact .inl ⟨HC.out.2, rfl, H2.out.drewN _⟩
  · have hid := ok.top id s h1
    have HC := Lib.hid (And.intro (And.intro h1 (And.intro h2 (And.intro h3 h4))) (And.intro c1 ho)); clear c1 ho M ok h1 h2 h3 h4
    go_upto_region 2 with fail
    have C2 := HC.out.2.1.alloc (.cells #[.int .i64 (id : Nat), .int .i64 (i : Nat)] 55)
    have BB := Blk.new w1 55 #[.int .i64 (id : Nat), .int .i64 (i : Nat)]
    have H2 := Lib.hid (And.intro C2 BB); clear C2 BB
    generalize w1.alloc (.cells #[.int .i64 (id : Nat), .int .i64 (i : Nat)] 55) = W at H2 ⊢
    generalize w1.heap.size = gb at H2 ⊢
    have k1 : Chg [] W W.drew := (Chg.refl [] W).drew
    have M2 := (HM.out.chg0 H2.out.1).chg0 k1
    have b1 : W.drew.cell? ⟨h.ga, 1, none⟩ = some (.map (some h.bs)) := M2.b.cellv 1 rfl
    have q0 : W.drew.cell? ⟨gb, 0, none⟩ = some (.int .i64 (id : Nat)) := H2.out.2.drew.cellv 0 rfl
    have q1 : W.drew.cell? ⟨gb, 1, none⟩ = some (.int .i64 (i : Nat)) := H2.out.2.drew.cellv 1 rfl
    have hls : (Instr.lookup 76 (.map (some h.bs)) (.int .i64 (id : Nat)) false).run Tryz.prog W.drew = .ok (.pointer (some ⟨(h.B id).g, 0, none⟩)) W.drew := by
      have := M2.s.look tyS (x := (id : Int)) (by unfold Wf64; omega)
      rw [natV_nat] at this
      unfold spV at this
      rw [HC.out.1.1] at this
      exact this
    have HI := Lib.hid (And.intro (M2.S id s HC.out.1.1) (And.intro M2 (H2.out.1.trans k1))); clear M2
    go_region_held3 (fun w' => w'.cell? ⟨h.ga, 1, none⟩ = some (.map (some h.bs)) ∧ w'.cell? ⟨gb, 0, none⟩ = some (.int .i64 (id : Nat)) ∧ w'.cell? ⟨gb, 1, none⟩ = some (.int .i64 (i : Nat))) (go_keep)
      (first | (go_at_call 77; refine (smark_ok _ (h.B id) s HI.out.1 i HC.out.1.2.1).mono ?_; rintro e w' ⟨rfl, I5, C5⟩; have H5 := Lib.hid (And.intro I5 C5); have B5 := C5.blk HI.out.2.1.b (HI.out.1.far HI.out.2.1.b (by unfold SpT; decide)); have G5 := C5.blk H2.out.2.drew (HI.out.1.far H2.out.2.drew (by unfold SpT; decide)); have z1 : w'.cell? ⟨h.ga, 1, none⟩ = some (.map (some h.bs)) := B5.cellv 1 rfl; have z2 : w'.cell? ⟨gb, 0, none⟩ = some (.int .i64 (id : Nat)) := G5.cellv 0 rfl; have z3 : w'.cell? ⟨gb, 1, none⟩ = some (.int .i64 (i : Nat)) := G5.cellv 1 rfl; clear B5 G5))
    have hF := HC.out.1.2.2.1
    have eF : (s.F i && !(s.M i)) = !(s.M i) := by rw [hF]; rfl
    have eM : (if s.F i then setF s.M i else s.M) = setF s.M i := by rw [hF]; rfl
    rw [eF]
    have H6 := Lib.hid (And.intro (ArM.span HI.out.2.1 HC.out.1.1 (s' := markS s i) (by have := H5.out.1; rw [eM] at this; exact this) H5.out.2) ((HI.out.2.2.mono (by simp)).trans H5.out.2)); clear hF eF eM H5
    go_wp2_with fail
    go_ret
    exact .inr ⟨id, i, s, HC.out.2.2, HC.out.1.1, HC.out.1.2.1, HC.out.1.2.2.1, HC.out.1.2.2.2, rfl, H6.out.1, H6.out.2⟩
end
end Go.Proofs.YtcnchgbngcnijaaGreatDoor
namespace Go.Proofs.YtcnchgbngcnijaaGreatDoor
open Go.RowKit

section
variable {P : Program} {T K E : TypeId} {z : Value} {w : World} {b n : Nat} {f : Int → Option Value}
end
/-- A map turned, as a function of the world. -/
noncomputable def putW (P : Program) (T : TypeId) (b : Nat) (k : Int) (u : Value) (W : World) : World :=
  open Classical in if h : ∃ w', (Instr.mapUpdate T (.map (some b)) (.int .i64 k) u).run P W = .ok () w' then Classical.choose h else W
theorem putW_says {P : Program} {T K E : TypeId} {z : Value} {W : World} {b n : Nat} {f : Int → Option Value} (h : VMap P K W b n f) (t : VTy P T K E z) {k : Int} (hk : Wf64 k) (u : Value) (hn : n < maxLen) :
    (Instr.mapUpdate T (.map (some b)) (.int .i64 k) u).run P W = .ok () (putW P T b k u W) ∧ VMap P K (putW P T b k u W) b (n + 1) (putV f k u) ∧ Chg [b] W (putW P T b k u W) ∧ (putW P T b k u W).heap.size = W.heap.size := by
  obtain ⟨w', hrun, r1, r2, r3⟩ := h.put t hk u hn
  have hex : ∃ w', (Instr.mapUpdate T (.map (some b)) (.int .i64 k) u).run P W = .ok () w' := ⟨w', hrun⟩
  have e : putW P T b k u W = w' := by
    unfold putW
    rw [dif_pos hex]
    have h1 := hrun.symm.trans (Classical.choose_spec hex)
    injection h1 with _ h1
    exact h1.symm
  rw [e]
  exact ⟨hrun, r1, r2, r3⟩
def OKM (P : Program) (K : TypeId) (b : Nat) (W : World) : Prop := ∃ n f, n ≤ 1000002 ∧ VMap P K W b n f
theorem VMap.okm {P : Program} {K : TypeId} {b n : Nat} {W : World} {f : Int → Option Value} (h : VMap P K W b n f) (hn : n ≤ 1000002) : OKM P K b W := ⟨n, f, hn, h⟩
theorem OKM.chg {P : Program} {K : TypeId} {b : Nat} {W W' : World} (h : OKM P K b W) (c : Chg [] W W') : OKM P K b W' := by
  obtain ⟨n, f, hn, h⟩ := h
  exact ⟨n, f, hn, h.chg c (by simp)⟩
theorem OKM.run {P : Program} {T K E : TypeId} {z : Value} {b : Nat} {W : World} (h : OKM P K b W) (t : VTy P T K E z) {k : Int} (hk : Wf64 k) (u : Value) : (Instr.mapUpdate T (.map (some b)) (.int .i64 k) u).run P W = .ok () (putW P T b k u W) := by
  obtain ⟨n, f, hn, h⟩ := h
  exact (putW_says h t hk u (by unfold maxLen; omega)).1
theorem keep_put {P : Program} {T K E : TypeId} {z : Value} {b m g o : Nat} {w3 W : World} {f : Int → Option Value} {k : Int} {v : Value} (c : Chg [] w3 W) (h : VMap P K w3 b m f) (t : VTy P T K E z) (hk : Wf64 k) (hm : m ≤ 1000001) (u : Value) (hc : w3.cell? ⟨g, o, none⟩ = some v) (hne : g ≠ b) :
    (putW P T b k u W).cell? ⟨g, o, none⟩ = some v ∧ OKM P K b (putW P T b k u W) := by
  have hz := putW_says (h.chg c (by simp)) t hk u (by unfold maxLen; omega)
  exact ⟨((c.mono (by simp)).trans hz.2.2.1).cellv (lt_of_cell hc) (by simp [hne]) hc, hz.2.1.okm (by omega)⟩
def spI (a : Ar) (id : Int) : Option Sp := if 0 ≤ id then a.sp id.toNat else none
theorem spV_I (h : ArH) (a : Ar) (id : Int) : natV (spV h a) id = (spI a id).map fun _ => .pointer (some ⟨(h.B id.toNat).g, 0, none⟩) := by
  unfold natV spI spV
  split <;> rfl
def allocS (s : Sp) (y : Nat) (black : Bool) : Sp := ⟨s.first, s.k, setF s.F y, if black then setF s.M y else s.M, y⟩
def allocA (a : Ar) (id : Nat) (s : Sp) (y n : Nat) (black : Bool) : Ar :=
  { a with sp := updF a.sp id (some (allocS s y black)), ob := updF a.ob (s.addr y) (some (List.replicate n 0)), live := a.live + szK s.k }
theorem zc_rep (q : Nat) : zcells (.int .i64 0) q = ((List.replicate q (0 : Int)).map (Value.int .i64)).toArray := by rw [zcells_list, List.map_replicate]
def newH (h : ArH) (x gx : Nat) : ArH := { h with C := fun z => if z = x then gx else h.C z, m := h.m + 1 }
theorem ArM.newob {w w' : World} {h : ArH} {a : Ar} (M : ArM w h a) {x gx : Nat} {xs : List Int} (hgx : w.heap.size ≤ gx) (Bx : Blk w' gx 3 (xs.map (Value.int .i64)).toArray)
    (Vx : VMap Tryz.prog 3 w' h.bj (h.m + 1) (putV (natV (obV h a)) (x : Nat) (.slice (some ⟨gx, 0, none⟩) xs.length xs.length))) (c : Chg [h.bj] w w') : ArM w' (newH h x gx) { a with ob := updF a.ob x (some xs) } := by
  have nb : ∀ {g : Nat} {t : TypeId} {cs : Array Value}, Blk w g t cs → g ∉ [h.bj] := fun hb hm => M.j.ne_blk hb (by simpa using hm : _ = _).symm
  have ec : ∀ y, y ≠ x → (newH h x gx).C y = h.C y := fun y hy => if_neg hy
  have lt : ∀ y, (a.ob y).isSome = true → h.C y < w.heap.size := fun y hy => by
    obtain ⟨ys, hys⟩ := Option.isSome_iff_exists.1 hy
    exact (M.O y ys hys).lt
  have es : spV (newH h x gx) { a with ob := updF a.ob x (some xs) } = spV h a := rfl
  have eo : owV { a with ob := updF a.ob x (some xs) } = owV a := rfl
  refine ⟨c.blk M.b (nb M.b), ⟨c.blk M.P.b (nb M.P.b), own_chg M.P.o c fun k hk hm => ?_⟩, ?_, ?_, Vx.ext fun y => ?_, fun id s hs => (M.S id s hs).chg c (fun k hk hm => ?_), fun y ys hy => ?_, M.d1, fun y y' hy hy' hne => ?_, M.m1, M.m2, M.m3⟩
  · have e : k = h.bj := by simpa using hm
    have hk2 : h.v.ownBlock = some k := hk
    rcases M.P.o.2 with ⟨e1, _⟩ | ⟨g', cap, cur, e1, _, hh, _⟩
    · rw [e1] at hk2; simp [Value.ownBlock] at hk2
    · rw [e1] at hk2
      have e2 : g' = k := by simpa [Value.ownBlock] using hk2
      exact M.j.ne_blk (t := 119) hh (by rw [e2, e])
  · rw [es]; exact (M.s.chg c (by simp [newH, M.m2])).mono (Nat.le_succ _)
  · rw [eo]; exact (M.o.chg c (by simp [newH, M.m3])).mono (Nat.le_succ _)
  · rw [natV_put]
    congr 1
    funext z
    unfold obV updF
    by_cases e : z = x
    · subst e; simp [newH]
    · simp [e, newH]
  · have e : k = h.bj := by simpa using hm
    exact M.j.far (M.S id s hs) (by rw [← e]; exact hk)
  · by_cases e : y = x
    · subst e
      have h2 : some xs = some ys := by rw [← hy]; exact (updF_same _ _ _).symm
      injection h2 with h2
      rw [← h2]
      have : (newH h y gx).C y = gx := if_pos rfl
      rw [this]; exact Bx
    · have h2 : a.ob y = some ys := by rw [← hy]; exact (updF_other _ _ e).symm
      rw [ec y e]
      exact c.blk (M.O y ys h2) (nb (M.O y ys h2))
  · have get : ∀ y, y ≠ x → (updF a.ob x (some xs) y).isSome = true → (a.ob y).isSome = true := fun y e hy => by rwa [updF_other _ _ e] at hy
    have hx : (newH h x gx).C x = gx := if_pos rfl
    by_cases e : y = x
    · have e' : y' ≠ x := fun e2 => hne (e.trans e2.symm)
      rw [e, hx, ec y' e']
      have := lt y' (get y' e' hy')
      omega
    · rw [ec y e]
      by_cases e' : y' = x
      · rw [e', hx]
        have := lt y (get y e hy)
        omega
      · rw [ec y' e']
        exact M.d2 y y' (get y e hy) (get y' e' hy') hne
theorem ArM.turnLive {w w' : World} {h : ArH} {a : Ar} (M : ArM w h a) {v : Nat} (B : Blk w' h.ga 79 #[.pointer (some ⟨h.gp, 0, none⟩), .map (some h.bs), .map (some h.bo), .map (some h.bj), .int .i64 v]) (c : Chg [h.ga] w w') : ArM w' h { a with live := v } := by
  have nb : ∀ {g : Nat} {t : TypeId} {cs : Array Value}, Blk w g t cs → 79 ≠ t → g ∉ [h.ga] := fun hb hne hm => M.b.ne_ hb hne (by simpa using hm : _ = _).symm
  refine ⟨B, ⟨c.blk M.P.b (nb M.P.b (by decide)), own_chg M.P.o c fun k hk hm => ?_⟩, M.s.chg c (fun hm => M.s.ne_blk M.b (by simpa using hm)), M.o.chg c (fun hm => M.o.ne_blk M.b (by simpa using hm)), M.j.chg c (fun hm => M.j.ne_blk M.b (by simpa using hm)), fun id s hs => (M.S id s hs).chg c (fun k hk hm => ?_), fun x xs hx => c.blk (M.O x xs hx) (nb (M.O x xs hx) (by decide)), M.d1, M.d2, M.m1, M.m2, M.m3⟩
  · have e : k = h.ga := by simpa using hm
    exact own_far M.P.o M.b (by decide) (by rw [← e]; exact mem_fpv.2 hk)
  · have e : k = h.ga := by simpa using hm
    exact (M.S id s hs).far M.b (by unfold SpT; decide) (by rw [← e]; exact hk)
/-- The integer in a cell, as a function of the world. -/
def intAt (g o : Nat) (W : World) : Int := match W.cell? ⟨g, o, none⟩ with | some (.int _ v) => v | _ => 0
def AaPost (h : ArH) (a : Ar) (id n : Int) (black : Bool) (w : World) (e : Ending) (w' : World) : Prop :=
  (∃ c : Int, e = .returned (.tuple #[.int .i64 0, .int .i64 c]) ∧ Chg [] w w' ∧ ((spI a id = none ∧ c = 4) ∨ ∃ s, spI a id = some s ∧ (((n < 1 ∨ (szK s.k : Int) < n) ∧ c = 1) ∨ (1 ≤ n ∧ n ≤ szK s.k ∧ (∀ x, s.fr ≤ x → x < slK s.k → s.F x = true) ∧ c = 3)))) ∨
  ∃ s y h', 0 ≤ id ∧ a.sp id.toNat = some s ∧ 1 ≤ n ∧ n ≤ szK s.k ∧ s.fr ≤ y ∧ y < slK s.k ∧ s.F y = false ∧ (∀ x, s.fr ≤ x → x < y → s.F x = true) ∧ e = .returned (.tuple #[.int .i64 (s.addr y : Nat), .int .i64 0]) ∧ h'.N = h.N ∧ h'.ga = h.ga ∧ h'.m ≤ h.m + 1 ∧ ArM w' h' (allocA a id.toNat s y n.toNat black) ∧ StA h a h' (allocA a id.toNat s y n.toNat black) w w'
section
variable (w : World) (h : ArH) (a : Ar) (M : ArM w h a)
include M
set_option maxHeartbeats 3200000 in
set_option maxRecDepth 100000 in
theorem aalloc_ok (T : Tab w) (hm : h.m ≤ 1000000) (hlive : a.live ≤ 100000000) (id n : Int) (hid : Wf64 id) (black : Bool) : Calls Tryz.prog 46 #[.pointer (some ⟨h.ga, 0, none⟩), .int .i64 id, .int .i64 n, .bool black] w (AaPost h a id n black w) := by
  have b1 : w.cell? ⟨h.ga, 1, none⟩ = some (.map (some h.bs)) := M.b.cellv 1 rfl
  have hl := M.s.look tyS hid
  rw [spV_I] at hl
  cases ho : spI a id with
  | none =>
    rw [ho] at hl
    have hl' : (Instr.lookup 76 (.map (some h.bs)) (.int .i64 id) false).run Tryz.prog w = .ok (.pointer none) w := hl
    have HO := Lib.hid ho; clear ho hl M
    go_enter Tryz.func46, Tryz.ntmps46
    go_wp2_with fail
    go_ret2
    exact .inl ⟨4, rfl, Chg.refl _ _, .inl ⟨HO.out, rfl⟩⟩
  | some s =>
    rw [ho] at hl
    have hl' : (Instr.lookup 76 (.map (some h.bs)) (.int .i64 id) false).run Tryz.prog w = .ok (.pointer (some ⟨(h.B id.toNat).g, 0, none⟩)) w := hl
    have hid0 : 0 ≤ id := by
      unfold spI at ho
      by_cases h0 : 0 ≤ id
      · exact h0
      · rw [if_neg h0] at ho; cases ho
    have hs : a.sp id.toNat = some s := by unfold spI at ho; rwa [if_pos hid0] at ho
    have I := M.S _ s hs
    have hk := I.hk
    obtain ⟨j, rfl⟩ : ∃ j : Nat, id = j := ⟨id.toNat, by omega⟩
    rw [Int.toNat_natCast] at hl' hs I
    have HO := Lib.hid (And.intro ho (And.intro M (And.intro hs (And.intro I T)))); clear ho hl M hs I T
    go_enter Tryz.func46, Tryz.ntmps46
    by_cases hn1 : n < 1
    · have d1 : decide (n < 1) = true := decide_eq_true hn1
      have HN := Lib.hid hn1
      go_wp2_with fail
      go_ret2
      exact .inl ⟨1, rfl, Chg.refl _ _, .inr ⟨s, HO.out.1, .inl ⟨.inl HN.out, rfl⟩⟩⟩
    · have d1 : decide (n < 1) = false := decide_eq_false hn1
      go_wp2_with fail
      refine (sclass_ok w (h.B j) s HO.out.2.2.2.1).mono ?_
      rintro e w1 ⟨rfl, rfl⟩
      go_wp2_with fail
      refine (size_k w1 s.k hk).mono ?_
      rintro e w2 ⟨rfl, c2⟩
      have HC := Lib.hid c2; clear c2
      by_cases hn2 : (szK s.k : Int) < n
      · have d2 : decide ((szK s.k : Int) < n) = true := decide_eq_true hn2
        have HN := Lib.hid hn2
        go_wp2_with fail
        go_ret2
        exact .inl ⟨1, rfl, HC.out, .inr ⟨s, HO.out.1, .inl ⟨.inr HN.out, rfl⟩⟩⟩
      · have d2 : decide ((szK s.k : Int) < n) = false := decide_eq_false hn2
        obtain ⟨q, rfl⟩ : ∃ q : Nat, n = q := ⟨n.toNat, by omega⟩
        have hq1 : 1 ≤ q := by omega
        have hq2 : q ≤ szK s.k := by omega
        go_wp2_with fail
        refine (salloc_ok w2 (h.B j) s (HO.out.2.2.2.1.chg0 HC.out) (HO.out.2.2.2.2.chg HC.out (by simp)) black).mono ?_
        rintro e w3 (⟨rfl, hfull, c3⟩ | ⟨y, rfl, hy1, hy2, hy3, hy4, I3, C3⟩)
        · have H3 := Lib.hid (And.intro hfull (HC.out.trans c3)); clear hfull c3
          go_wp2_with fail
          go_ret2
          exact .inl ⟨3, rfl, H3.out.2, .inr ⟨s, HO.out.1, .inr ⟨by omega, by omega, H3.out.1, rfl⟩⟩⟩
        · have M3 := ArM.span (HO.out.2.1.chg0 HC.out) HO.out.2.2.1 (s' := allocS s y black) I3 C3
          have I4 : IsSp w3 (h.B j) (allocS s y black) := I3
          obtain ⟨s', hs'⟩ : ∃ s', s' = allocS s y black := ⟨_, rfl⟩
          rw [← hs'] at M3 I4
          have ha' : s'.addr y = s.addr y := by rw [hs']; rfl
          have hk' : s'.k = s.k := by rw [hs']; rfl
          have hf' : s'.first = s.first := by rw [hs']; rfl
          have H3 := Lib.hid (And.intro M3 (And.intro ((HC.out.mono (by simp)).trans C3) (And.intro (And.intro hy1 (And.intro hy3 hy4)) I4))); clear M3 C3 I3 I4 hy1 hy3 hy4
          have HS := Lib.hid (And.intro hs' (And.intro ha' (And.intro hk' hf'))); clear hs' ha' hk' hf'
          go_upto_region 11 with fail
          go_cut [42] from 43 to 50 (fun _ wd => ∃ gx, w3.heap.size ≤ gx ∧ Blk wd gx 3 (zcells (.int .i64 0) q) ∧ VMap Tryz.prog 3 wd h.bj (h.m + 1) (putV (natV (obV h { a with sp := updF a.sp j (some s') })) (s'.addr y : Nat) (.slice (some ⟨gx, 0, none⟩) q q)) ∧ Chg [h.bj] w3 wd)
          case first =>
            have hmk : ∀ W : World, (Instr.makeSlice 33 (.int .i64 (q : Nat)) (.int .i64 (q : Nat))).run Tryz.prog W = .ok (.slice (some ⟨W.heap.size, 0, none⟩) q q) (W.alloc (.cells (zcells (.int .i64 0) q) 3)) := fun W => run_make_z (P := Tryz.prog) 33 3 (.int .i64 0) 8 Tryz.underlying33 (by kernel_rfl) rfl .i64 .i64 q (by have := (kF hk).2.2.2.1; omega) (by have := (kF hk).2.2.2.1; omega) W
            have hq256 : q ≤ 256 := by have := (kF hk).2.2.2.1; omega
            have hq0 : (0 : Int) ≤ (q : Int) := by omega
            have hq3 : (q : Int) ≤ 256 := by omega
            have hq4 : ¬ (q : Int) < 0 := by omega
            have hadd : s'.addr y ≤ 100000000 := by
              have h1 := H3.out.2.2.2.f2
              have h2 := sl_sz hk hy2
              have h3 := (kF hk).2.2.2.2.2.1
              rw [HS.out.2.1]
              rw [HS.out.2.2.2] at h1
              unfold Sp.addr
              rw [Nat.add_mul] at h2
              omega
            have b3 : w3.cell? ⟨h.ga, 3, none⟩ = some (.map (some h.bj)) := H3.out.1.b.cellv 3 rfl
            have k1 : Chg [] w3 w3.drew := (Chg.refl [] w3).drew
            have hga := H3.out.1.b.lt
            have hwf : Wf64 ((s'.addr y : Nat) : Int) := by unfold Wf64; omega
            have hput : ∀ (W : World) (u : Value), OKM Tryz.prog 3 h.bj W → (Instr.mapUpdate 77 (.map (some h.bj)) (.int .i64 ((s'.addr y : Nat) : Int)) u).run Tryz.prog W = .ok () (putW Tryz.prog 77 h.bj (s'.addr y : Nat) u W) := fun W u hW => hW.run tyJ hwf u
            have hok0 : OKM Tryz.prog 3 h.bj w3 := H3.out.1.j.okm (by omega)
            have hgj : h.ga ≠ h.bj := fun e => H3.out.1.j.ne_blk H3.out.1.b e.symm
            have HW := Lib.hid hwf
            clear hwf
            go_region_held3 (fun w' => w'.cell? ⟨h.ga, 3, none⟩ = some (.map (some h.bj)) ∧ OKM Tryz.prog 3 h.bj w')
              (first
                | exact ⟨b3, hok0⟩
                | ((refine ⟨(Chg.cellv (S := []) (a := w3) ?_ hga (by simp) b3), (hok0.chg ?_)⟩ <;> repeat (first | assumption | exact Chg.refl [] w3 | refine Chg.alloc ?_ _ | refine Chg.drew ?_)); done)
                | exact keep_put (by repeat (first | assumption | exact Chg.refl [] w3 | refine Chg.alloc ?_ _ | refine Chg.drew ?_)) H3.out.1.j tyJ HW.out (by omega) _ b3 hgj)
              (first
                | (go_at_call 97; refine (saddr_ok _ (h.B j) _ (H3.out.2.2.2.chg0 (by repeat (first | assumption | exact Chg.refl [] w3 | refine Chg.alloc ?_ _ | refine Chg.drew ?_))) y (by rw [HS.out.2.2.1]; exact hy2)).mono ?_; rintro e w' ⟨rfl, C⟩; have D := Chg.trans (S := []) (a := w3) (by repeat (first | assumption | exact Chg.refl [] w3 | refine Chg.alloc ?_ _ | refine Chg.drew ?_)) C; have z1 : w'.cell? ⟨h.ga, 3, none⟩ = some (.map (some h.bj)) := D.cellv hga (by simp) b3; have z2 := hok0.chg D; (first | have X1 := C.blk (Blk.new _ 3 (zcells (.int .i64 0) q)) (by simp) | have X1 := C.blk (Blk.new _ 3 (zcells (.int .i64 0) q)).drew (by simp) | skip)))
            · have hz := putW_says (H3.out.1.j.chg (S := []) (Chg.alloc D (.cells (zcells (.int .i64 0) q) 3)) (by simp)) tyJ HW.out (.slice (some ⟨w'.heap.size, 0, none⟩) q q) (by unfold maxLen; omega)
              have hb := hz.2.2.1.blk (Blk.new w' 3 (zcells (.int .i64 0) q)) (fun hm => (H3.out.1.j.chg (S := []) (Chg.alloc D (.cells (zcells (.int .i64 0) q) 3)) (by simp)).ne_blk (Blk.new w' 3 (zcells (.int .i64 0) q)) (by simpa using hm : _ = _).symm)
              have HZ := Lib.hid (And.intro D.size (And.intro hb (And.intro hz.2.1 (((Chg.alloc D (.cells (zcells (.int .i64 0) q) 3)).mono (T := [h.bj]) (by simp)).trans hz.2.2.1)))); clear hz hb
              go_wp2_with fail
              go_meet
              exact ⟨_, HZ.out⟩
            · have hz := putW_says (H3.out.1.j.chg (S := []) D (by simp)) tyJ HW.out (.slice (some ⟨w3.heap.size, 0, none⟩) q q) (by unfold maxLen; omega)
              have hb := hz.2.2.1.blk X1 (fun hm => (H3.out.1.j.chg (S := []) D (by simp)).ne_blk X1 (by simpa using hm : _ = _).symm)
              have HZ := Lib.hid (And.intro (Nat.le_refl w3.heap.size) (And.intro hb (And.intro hz.2.1 ((D.mono (T := [h.bj]) (by simp)).trans hz.2.2.1)))); clear hz hb
              go_wp2_with fail
              go_meet
              exact ⟨_, HZ.out⟩
          case rest =>
            obtain ⟨gx, hgx, Bx, Vx, Cx⟩ := hcut
            obtain ⟨w5, rfl⟩ : ∃ W : World, W = wc := ⟨_, rfl⟩
            rw [zc_rep] at Bx
            have hlq : (List.replicate q (0 : Int)).length = q := List.length_replicate
            have M5 := H3.out.1.newob (x := s'.addr y) (gx := gx) (xs := List.replicate q 0) hgx Bx (by rw [hlq]; exact Vx) Cx
            have I5 := H3.out.2.2.2.chg Cx (fun k hk hm => H3.out.1.j.far H3.out.2.2.2 (by have e : k = h.bj := (by simpa using hm); rw [← e]; exact hk))
            have H5 := Lib.hid (And.intro M5 (And.intro I5 (And.intro hgx (H3.out.2.1.mono (T := h.bj :: (h.B j).l) (by intro k hk; left; simp [hk]) |>.trans (Cx.mono (by intro k hk; left; have e : k = h.bj := (by simpa using hk); simp [e])))))); clear M5 I5 Bx Vx Cx hgx hlq
            go_upto_region 12 with fail
            go_cut [51] from 52 to 61 (fun _ wd => Blk wd h.ga 79 #[.pointer (some ⟨h.gp, 0, none⟩), .map (some h.bs), .map (some h.bo), .map (some h.bj), .int .i64 ((a.live + szK s.k : Nat) : Int)] ∧ Chg [h.ga] w5 wd)
            case first =>
              have hsz := (kF hk).2.2.2.1
              have hga := H5.out.1.b.lt
              have k1 : Chg [] w5 w5.drew := (Chg.refl [] w5).drew
              have k0 : Chg [] w5 w5 := Chg.refl [] w5
              have b4 : w5.drew.cell? ⟨h.ga, 4, none⟩ = some (.int .i64 (a.live : Nat)) := H5.out.1.b.drew.cellv 4 rfl
              have f4 := H5.out.1.b.drew.frozen 4
              go_region_law
                (first
                  | (rw [if_pos (by rfl)]; go_simp; go_at_call 95; refine (sclass_ok _ (h.B j) _ (H5.out.2.1.chg0 (by assumption))).mono ?_; rintro e w' ⟨rfl, rfl⟩; dsimp only; rw [HS.out.2.2.1])
                  | (rw [if_pos (by rfl)]; go_simp; go_at_call 91; refine (size_k _ s.k hk).mono ?_; rintro e w' ⟨rfl, C⟩; dsimp only; have D := Chg.trans (S := []) (a := w5) (by assumption) C; have z1 : w'.cell? ⟨h.ga, 4, none⟩ = some (.int .i64 (a.live : Nat)) := D.cellv hga (by simp) (H5.out.1.b.cellv 4 rfl); have z2 : w'.frozen? ⟨h.ga, 4, none⟩ = false := (D.blk H5.out.1.b (by simp)).frozen 4))
              all_goals (have hb := (D.blk H5.out.1.b (by simp)).setv 4 (.int .i64 ((a.live + szK s.k : Nat) : Int)) rfl)
              all_goals (have HZ := Lib.hid (And.intro hb ((D.mono (T := [h.ga]) (by simp)).setCell (p := ⟨h.ga, 4, none⟩) (.inl (by simp)) (.int .i64 ((a.live + szK s.k : Nat) : Int)))); clear hb)
              all_goals rw [show IntKind.i64.wrap ((a.live : Int) + (szK s.k : Int)) = ((a.live + szK s.k : Nat) : Int) by rw [IntWalk.i64_in _ (by omega)]; omega]
              all_goals go_wp2_with fail
              all_goals (go_meet; exact HZ.out)
            case rest =>
              obtain ⟨B6, C6⟩ := hcut
              obtain ⟨w6, rfl⟩ : ∃ W : World, W = wc := ⟨_, rfl⟩
              have M6 := H5.out.1.turnLive B6 C6
              have I6 := H5.out.2.1.chg C6 (fun k hk hm => H5.out.2.1.far H5.out.1.b (by unfold SpT; decide) (by have e : k = h.ga := (by simpa using hm); show h.ga ∈ (h.B j).l; rw [← e]; exact hk))
              have Call := (H5.out.2.2.2.mono (T := h.ga :: h.bj :: (h.B j).l) (by intro k hk; left; simp only [List.mem_cons] at hk ⊢; exact .inr hk)).trans (C6.mono (T := h.ga :: h.bj :: (h.B j).l) (by intro k hk; left; have e : k = h.ga := (by simpa using hk); simp [e]))
              have H6 := Lib.hid (And.intro M6 (And.intro I6 Call)); clear M6 I6 Call B6 C6
              go_wp2_with fail
              refine (saddr_ok w6 (h.B j) _ H6.out.2.1 y (by rw [HS.out.2.2.1]; exact hy2)).mono ?_
              rintro e w7 ⟨rfl, c7⟩
              have H7 := Lib.hid c7; clear c7
              rw [HS.out.2.1]
              go_wp2_with fail
              go_ret2
              have hj : ((j : Nat) : Int).toNat = j := Int.toNat_natCast j
              have hqn : ((q : Nat) : Int).toNat = q := Int.toNat_natCast q
              have eA : ({ a with sp := updF a.sp j (some s'), ob := updF a.ob (s'.addr y) (some (List.replicate q 0)), live := a.live + szK s.k } : Ar) = allocA a ((j : Nat) : Int).toNat s y ((q : Nat) : Int).toNat black := by
                unfold allocA
                rw [hj, hqn, HS.out.2.1, HS.out.1]
              refine .inr ⟨s, y, newH h (s'.addr y) gx, by omega, by rw [hj]; exact HO.out.2.2.1, by omega, by omega, H3.out.2.2.1.1, hy2, H3.out.2.2.1.2.1, H3.out.2.2.1.2.2, rfl, rfl, rfl, Nat.le_refl _, by rw [← eA]; exact H6.out.1.chg0 H7.out, ?_⟩
              refine StA.of_chg (H6.out.2.2.trans (H7.out.mono (by simp))) (fun k hk => .inl ?_) (fun k hk => ?_)
              · simp only [List.mem_cons] at hk
                rcases hk with h1 | h1 | h1
                · exact .inl h1
                · exact .inr (.inr (.inr (.inr (.inr (.inl h1)))))
                · exact .inr (.inr (.inr (.inr (.inr (.inr (.inl ⟨j, s, HO.out.2.2.1, h1⟩))))))
              · rw [← eA] at hk
                rcases hk with h1 | h1 | h1 | h1 | h1 | h1 | ⟨i2, t, ht, h1⟩ | ⟨x, hx, h1⟩
                · exact .inl (.inl h1)
                · exact .inl (.inr (.inl h1))
                · exact .inl (.inr (.inr (.inl h1)))
                · exact .inl (.inr (.inr (.inr (.inl h1))))
                · exact .inl (.inr (.inr (.inr (.inr (.inl h1)))))
                · exact .inl (.inr (.inr (.inr (.inr (.inr (.inl h1))))))
                · refine .inl (.inr (.inr (.inr (.inr (.inr (.inr (.inl ?_)))))))
                  by_cases e : i2 = j
                  · exact ⟨j, s, HO.out.2.2.1, by rw [← e]; exact h1⟩
                  · exact ⟨i2, t, by rw [← ht]; exact (updF_other _ _ e).symm, h1⟩
                · by_cases e : x = s'.addr y
                  · right
                    rw [h1, e]
                    have e2 : (newH h (s'.addr y) gx).C (s'.addr y) = gx := if_pos rfl
                    rw [e2]
                    have h3 := H3.out.2.1.size
                    have h4 := H5.out.2.2.1
                    omega
                  · refine .inl (.inr (.inr (.inr (.inr (.inr (.inr (.inr ⟨x, ?_, ?_⟩)))))))
                    · have hx2 : (updF a.ob (s'.addr y) (some (List.replicate q 0)) x).isSome = true := hx
                      rwa [updF_other _ _ e] at hx2
                    · rw [h1]; exact if_neg e
end
end Go.Proofs.YtcnchgbngcnijaaGreatDoor
namespace Go.Proofs.YtcnchgbngcnijaaGreatDoor
open Go.RowKit

def newA (n : Nat) : Ar := ⟨n, newL n, fun _ => none, fun _ => none, fun _ => none, 0⟩
theorem newA_ok (N n : Nat) (h1 : 1 ≤ n) (h2 : n ≤ 262144) : ArOk N (newA n) :=
  ⟨newL_ok n h1, h2, fun _ _ h => by simp [newA] at h, fun _ _ _ h => by simp [newA] at h, fun _ _ h => by simp [newA] at h, fun x => ⟨fun h => by simp [newA] at h, fun ⟨_, _, _, h, _⟩ => by simp [newA] at h⟩, fun _ _ h => by simp [newA] at h⟩
def AnPost (n : Nat) (w : World) (e : Ending) (w' : World) : Prop := ∃ h : ArH, e = .returned (.tuple #[.pointer (some ⟨h.ga, 0, none⟩), .int .i64 0]) ∧ ArM w' h (newA n) ∧ Chg [] w w' ∧ (∀ k, ArF h (newA n) k → w.heap.size ≤ k) ∧ h.m = 0 ∧ h.N = 0
theorem natV_none : natV (fun _ => none) = fun _ => none := by funext x; unfold natV; split <;> rfl
set_option maxHeartbeats 1600000 in
set_option maxRecDepth 100000 in
theorem anew_ok (w : World) (n : Nat) (h4 : 4 ≤ n) (hn : n ≤ 262144) : Calls Tryz.prog 10 #[.int .i64 ((n * 64 : Nat) : Int)] w (AnPost n w) := by
  obtain ⟨z, hz⟩ : ∃ z, z = n * 64 := ⟨_, rfl⟩
  have d1 : decide ((z : Int) < 256) = false := decide_eq_false (by omega)
  have d2 : decide ((16777216 : Int) < (z : Int)) = false := decide_eq_false (by omega)
  have e1 : (z : Int).tmod 64 = 0 := by rw [Int.tmod_eq_emod_of_nonneg (by omega)]; omega
  have e2 : (z : Int).tdiv 64 = (n : Int) := by rw [Int.tdiv_eq_ediv_of_nonneg (by omega)]; omega
  have d3 : ¬ (z : Int) < 256 := by omega
  have d4 : ¬ (16777216 : Int) < (z : Int) := by omega
  have hew : IntKind.i64.wrap (n : Int) = (n : Int) := IntWalk.i64_in _ (by omega)
  rw [← hz]
  clear hz
  have hmm := @run_makeMap Tryz.prog
  go_enter Tryz.func10, Tryz.ntmps10
  go_wp2_with fail
  refine (new_ok w (n : Int)).mono ?_
  rintro e w1 ⟨g, v, rfl, I, c1, f1⟩
  rw [show newN (n : Int) = n by unfold newN; omega] at I
  have HI := Lib.hid (And.intro I (And.intro c1 f1)); clear I c1 f1
  go_wp2_with fail
  go_ret2
  have I := HI.out.1
  have m1 := VMap.made w1 Tryz.prog 3
  have C1 := (Chg.refl [] w1).alloc (.map #[] 0)
  have m2 := VMap.made (w1.alloc (.map #[] 0)) Tryz.prog 3
  have C2 := (Chg.refl [] (w1.alloc (.map #[] 0))).alloc (.map #[] 0)
  have m3 := VMap.made ((w1.alloc (.map #[] 0)).alloc (.map #[] 0)) Tryz.prog 3
  have C3 := (Chg.refl [] ((w1.alloc (.map #[] 0)).alloc (.map #[] 0))).alloc (.map #[] 0)
  have z1 : (w1.alloc (.map #[] 0)).heap.size = w1.heap.size + 1 := World.size_alloc _ _
  have z2 : ((w1.alloc (.map #[] 0)).alloc (.map #[] 0)).heap.size = w1.heap.size + 1 + 1 := by rw [World.size_alloc, z1]
  have z3 : (((w1.alloc (.map #[] 0)).alloc (.map #[] 0)).alloc (.map #[] 0)).heap.size = w1.heap.size + 1 + 1 + 1 := by rw [World.size_alloc, z2]
  rw [z1] at m2
  rw [z2] at m3
  obtain ⟨w4, hw4⟩ : ∃ w4, w4 = ((w1.alloc (.map #[] 0)).alloc (.map #[] 0)).alloc (.map #[] 0) := ⟨_, rfl⟩
  rw [← hw4] at m3 C3 z3 ⊢
  have B4 := Blk.new w4 79 #[.pointer (some ⟨g, 0, none⟩), .map (some w1.heap.size), .map (some (w1.heap.size + 1)), .map (some (w1.heap.size + 1 + 1)), .int .i64 0]
  have C4 := (Chg.refl [] w4).alloc (.cells #[.pointer (some ⟨g, 0, none⟩), .map (some w1.heap.size), .map (some (w1.heap.size + 1)), .map (some (w1.heap.size + 1 + 1)), .int .i64 0] 79)
  have hs := HI.out.2.1.size
  rw [z3] at B4
  have nn1 : natV (spV ⟨w1.heap.size + 1 + 1 + 1, g, v, w1.heap.size, w1.heap.size + 1, w1.heap.size + 1 + 1, fun _ => ⟨0, 0, 0, 0, 0⟩, fun _ => 0, 0, 0⟩ (newA n)) = fun _ => none := natV_none
  have nn2 : natV (owV (newA n)) = fun _ => none := natV_none
  have nn3 : natV (obV ⟨w1.heap.size + 1 + 1 + 1, g, v, w1.heap.size, w1.heap.size + 1, w1.heap.size + 1 + 1, fun _ => ⟨0, 0, 0, 0, 0⟩, fun _ => 0, 0, 0⟩ (newA n)) = fun _ => none := natV_none
  have Ia := (((I.chg0 C1).chg0 C2).chg0 C3).chg0 C4
  refine ⟨⟨w1.heap.size + 1 + 1 + 1, g, v, w1.heap.size, w1.heap.size + 1, w1.heap.size + 1 + 1, fun _ => ⟨0, 0, 0, 0, 0⟩, fun _ => 0, 0, 0⟩, rfl, ⟨B4, Ia, ?_, ?_, ?_, fun id s h => by simp [newA] at h, fun x xs h => by simp [newA] at h, fun _ _ _ _ h => by simp [newA] at h, fun _ _ h => by simp [newA] at h, by show w1.heap.size ≠ w1.heap.size + 1; omega, by show w1.heap.size ≠ w1.heap.size + 1 + 1; omega, by show w1.heap.size + 1 ≠ w1.heap.size + 1 + 1; omega⟩, (((HI.out.2.1.trans C1).trans C2).trans C3).trans C4, fun k hk => ?_, rfl, rfl⟩
  · rw [nn1]; exact ((m1.chg C2 (by simp)).chg C3 (by simp)).chg C4 (by simp)
  · rw [nn2]; exact (m2.chg C3 (by simp)).chg C4 (by simp)
  · rw [nn3]; exact m3.chg C4 (by simp)
  · rcases hk with h1 | h1 | h1 | h1 | h1 | h1 | ⟨_, _, h1, _⟩ | ⟨x, h1, _⟩
    · rw [h1]; show w.heap.size ≤ w1.heap.size + 1 + 1 + 1; omega
    · rw [h1]; exact HI.out.2.2 g (List.mem_cons_self ..)
    · exact HI.out.2.2 k (List.mem_cons_of_mem _ h1)
    · rw [h1]; exact hs
    · rw [h1]; show w.heap.size ≤ w1.heap.size + 1; omega
    · rw [h1]; show w.heap.size ≤ w1.heap.size + 1 + 1; omega
    · simp [newA] at h1
    · simp [newA] at h1
end Go.Proofs.YtcnchgbngcnijaaGreatDoor
