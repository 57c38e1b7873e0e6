/- A list of integers that the call owns: append of one. Plain theorems on worlds; no program in sight. -/
/- The walks of package view: places. -/
/- The walks of package view: Roots. -/
/- Sorting a list of integers that the call owns: the library's contract in this proof's words. -/
/- package view's walk: plain laws. -/
/- The walks of package view: walk. -/
/- Ways in a view: the least of the shortest ones, level by level. Plain laws; no program in sight. -/
/- Ways in a view: more plain laws. -/
/- A list of integers that the call owns: one of one element; one behind another. Plain theorems on worlds; no program in sight. -/
/- The walks of package view: Path. -/
/- The walks of package view: Reach, Lost, White, Find; class.Of, class.Size; Words. -/
/- The walks of package view: Find, Words; class.Of, class.Size. -/
/- Package class: table, Count, Size, Of. -/
/- The walks of package view: Words. -/
/- The walks of view.Same: its parts. -/
/- The walk of view.Same. -/
/- The walks of package audit: lost, work, white, numbers, marked. -/
/- A rising list with a number, once; the document's walk along all names. Plain. -/
import Derived.Test.YtcpljjacamibeaaGreatDoorVvVwJ
import Derived.Maps.AppendAt
import Derived.Test.YtcpljjacamibeaaGreatDoorMemJ
import Derived.Test.YtcpljjacamibeaaGreatDoorMZ
import Derived.Carry
import Derived.Deep.LoopGhost
import Derived.Outline
import Derived.Test.YtcpljjacamibeaaGreatDoorShelf
import Derived.Deep.DeepCutAuto
import Derived.Deep.RegionHeld3
import Derived.BigQuiet
import Derived.ChangeKeysEq
namespace Go.Proofs.YtcpljjacamibeaaGreatDoor
set_option maxHeartbeats 16000000
set_option maxRecDepth 100000
open Go.RowKit Go.Maps
section
variable {P : Program} {T E : TypeId} {w w' : World} {v : Value} {xs : List Int}
theorem IMap.ne_blk {K : TypeId} {b n g : Nat} {f : Int → Option Int} {t : TypeId} {cs : Array Value} (h : IMap P K w b n f) (hb : Blk w g t cs) : b ≠ g := by
  rintro rfl
  obtain ⟨D, ⟨es, cl, h1, _⟩, _⟩ := h.ex
  unfold Blk at hb
  rw [h1] at hb
  injection hb with hb
  cases hb
theorem OwnI.ne_blk {g : Nat} {t : TypeId} {cs : Array Value} (h : OwnI E w v xs) (hb : Blk w g t cs) (hne : E ≠ t) : g ∉ fpv v := fun hm => own_ne h.o hb hne (mem_fpv.1 hm)
end
def NewI (xs : List Int) (w : World) (e : Ending) (w' : World) : Prop := ∃ v, e = .returned v ∧ OwnI 3 w' v xs ∧ Chg [] w w' ∧ ∀ k ∈ fpv v, w.heap.size ≤ k
theorem ity : IntTy Tryz.prog 185 3 := ⟨Tryz.underlying185, Tryz.underlying3, fun _ => by kernel_rfl⟩
def atF (V : Vw) (a : Int) : Option Int := (V.at_ a).map fun k => (k : Int)
def seenF (l : List Int) (x : Int) : Option Int := if x = 0 ∨ x ∈ l then some 1 else none
structure RtI (bm bo b : Nat) (w : World) (v : Value) (l : List Int) (N : Nat) : Prop where
  bm : Blk w bm 185 #[.map (some b)]
  bo : Blk w bo 37 #[v]
  m : IMap Tryz.prog 3 w b N (seenF l)
  o : OwnI 3 w v l
def AddPost (bm bo b N : Nat) (v : Value) (l xs : List Int) (w : World) (e : Ending) (w' : World) : Prop :=
  e = .returned (.tuple #[]) ∧ ∃ v', RtI bm bo b w' v' (xs.foldl addOnce l) (N + xs.length) ∧ Stp ([bo, b] ++ fpv v) ([bo, b] ++ fpv v') w w'
theorem fold_succ {xs : List Int} {i : Nat} {x : Int} (h : xs[i]? = some x) (l : List Int) : (xs.take (i + 1)).foldl addOnce l = addOnce ((xs.take i).foldl addOnce l) x := by
  obtain ⟨hi, rfl⟩ := List.getElem?_eq_some_iff.1 h
  rw [List.take_succ_eq_append_getElem hi, List.foldl_append]; rfl
theorem len_addOnce (l : List Int) (x : Int) : (addOnce l x).length ≤ l.length + 1 := by unfold addOnce; split <;> simp
theorem len_foldOnce : ∀ (xs l : List Int), (xs.foldl addOnce l).length ≤ l.length + xs.length
  | [], _ => Nat.le_refl _
  | x :: xs, l => by have := len_foldOnce xs (addOnce l x); have := len_addOnce l x; simp only [List.foldl_cons, List.length_cons]; omega
structure Small (V : Vw) : Prop where
  n : V.names.length ≤ 1000000
  g : V.gs.length ≤ 1000000
  o : V.objects.length ≤ 1000000
def Vw.saidTo (V : Vw) (i : Nat) : List Int := V.globals ++ ((V.gs.take i).filter fun g => g.state != 5).flatMap (·.stack)
theorem saidTo_succ {V : Vw} {i : Nat} {g : Gr} (h : V.gs[i]? = some g) : V.saidTo (i + 1) = V.saidTo i ++ if g.state = 5 then [] else g.stack := by
  obtain ⟨hi, rfl⟩ := List.getElem?_eq_some_iff.1 h
  unfold Vw.saidTo
  rw [List.take_succ_eq_append_getElem hi, List.filter_append, List.flatMap_append, List.append_assoc]
  by_cases e : V.gs[i].state = 5 <;> simp [e]
theorem saidTo_all (V : Vw) : V.saidTo V.gs.length = V.said := by unfold Vw.saidTo Vw.said; rw [List.take_length]
def srt (xs : List Int) : List Int := xs.mergeSort fun x y => decide (x ≤ y)
structure WkL (V : Vw) (L : List Int) (i : Nat) : Prop where
  nd : L.Nodup
  r : ∀ x ∈ L, Rch V x
  roots : ∀ x ∈ V.said, x ≠ 0 → x ∈ L
  done : ∀ a ∈ L.take i, ∀ k o, V.at_ a = some k → V.objects[k]? = some o → ∀ x ∈ o.slots, x ≠ 0 → x ∈ L
  le : i ≤ L.length
def thereL (V : Vw) (l : List Int) : List Int := l.filter fun a => (V.at_ a).isSome
def lostL (V : Vw) (l : List Int) : List Int := l.filter fun a => !(V.at_ a).isSome
theorem at_lt {V : Vw} {a : Int} {k : Nat} (h : V.at_ a = some k) : ∃ o, V.objects[k]? = some o ∧ o.addr = a := by
  unfold Vw.at_ at h
  obtain ⟨hk, h1, _⟩ := List.findIdx?_eq_some_iff_getElem.1 h
  exact ⟨_, List.getElem?_eq_getElem hk, by simpa using h1⟩
/-! Memory. -/
structure WkM (w0 : World) (V : Vw) (bV bA bS : Nat) (cV : Array Value) (w : World) (v2 v3 v5 : Value) (th lo L : List Int) (N : Nat) : Prop where
  A : IMap Tryz.prog 3 w bA V.objects.length (atF V)
  S : IMap Tryz.prog 3 w bS N (seenF L)
  o2 : OwnI 3 w v2 th
  o3 : OwnI 3 w v3 lo
  o5 : OwnI 3 w v5 L
  V : Blk w bV 41 cV
  d23 : ∀ k ∈ fpv v2, k ∉ fpv v3
  d25 : ∀ k ∈ fpv v2, k ∉ fpv v5
  d35 : ∀ k ∈ fpv v3, k ∉ fpv v5
  dA : bA ≠ bS
  c : Chg [] w0 w
  f2 : ∀ k ∈ fpv v2, w0.heap.size ≤ k
  f3 : ∀ k ∈ fpv v3, w0.heap.size ≤ k
  f5 : ∀ k ∈ fpv v5, w0.heap.size ≤ k
  fS : w0.heap.size ≤ bS
section
variable {w0 w w' : World} {V : Vw} {bV bA bS N : Nat} {cV : Array Value} {v2 v3 v5 v' : Value} {th lo L : List Int}
theorem only1 {k b : Nat} (h : k ∈ [b]) : k = b := by simpa using h
end
theorem VwAt.names_wf {w : World} {B : Nat} {v : Value} {V : Vw} (h : VwAt w B v V) : ∀ x ∈ V.names, WfI x := by
  obtain ⟨g, A1, c1, A2, c2, _, h1, h2, h3, _, _⟩ := h.ex
  intro x hx
  unfold Vw.names Vw.said at hx
  rcases List.mem_append.1 hx with hx | hx
  · rcases List.mem_append.1 hx with hx | hx
    · exact h1.wf x hx
    · obtain ⟨q, hq, hxq⟩ := List.mem_flatMap.1 hx
      obtain ⟨i, hi⟩ := List.getElem?_of_mem (List.mem_filter.1 hq).1
      obtain ⟨_, _, _, _, _, _, _, _, hs, _⟩ := h2.at_ i q hi
      exact hs.wf x hxq
  · obtain ⟨q, hq, hxq⟩ := List.mem_flatMap.1 hx
    obtain ⟨i, hi⟩ := List.getElem?_of_mem hq
    obtain ⟨_, _, _, _, _, _, _, _, hs, _⟩ := h3.at_ i q hi
    exact hs.wf x hxq
theorem mem_len_flat {α : Type} (f : α → List Int) : ∀ {l : List α} {x : α}, x ∈ l → (f x).length ≤ (l.flatMap f).length
  | y :: l, x, h => by
    rw [List.flatMap_cons, List.length_append]
    rcases List.mem_cons.1 h with rfl | h
    · omega
    · have := mem_len_flat f h; omega
theorem slots_le {V : Vw} (hS : Small V) {k : Nat} {o : Ob} (ho : V.objects[k]? = some o) : o.slots.length ≤ 1000000 := by
  have h1 := hS.n
  unfold Vw.names at h1
  have := mem_len_flat (fun o : Ob => o.slots) (List.mem_of_getElem? ho)
  rw [List.length_append] at h1; omega
def lexLt : List Int → List Int → Prop
  | a :: p, b :: q => a < b ∨ (a = b ∧ lexLt p q)
  | _, _ => False
def Vw.slotsAt (V : Vw) (a : Int) : List Int := match V.at_ a with
  | some k => match V.objects[k]? with
    | some o => o.slots
    | none => []
  | none => []
inductive Way (V : Vw) : List Int → Int → Prop
  | root {x : Int} : x ∈ V.said → x ≠ 0 → Way V [x] x
  | step {p : List Int} {a x : Int} : Way V p a → x ∈ V.slotsAt a → x ≠ 0 → Way V (p ++ [x]) x
def LeastWay (V : Vw) (p : List Int) (x : Int) : Prop := Way V p x ∧ ∀ q, Way V q x → q ≠ p → p.length < q.length ∨ (p.length = q.length ∧ lexLt p q)
structure ChainF (F : Int → Option Int) (p : List Int) : Prop where
  st : ∀ i a b, p[i]? = some a → p[i + 1]? = some b → F b = some a
  hd : ∀ r, p[0]? = some r → F r = none
structure PthL (V : Vw) (n : Nat) (F : Int → Option Int) (W : List (List Int × Int)) (S : List Int) : Prop where
  lv : ∀ q ∈ W, LeastWay V q.1 q.2 ∧ q.1.length = n + 1
  all : ∀ p x, Way V p x → p.length = n + 1 → (∀ q, Way V q x → n + 1 ≤ q.length) → ∃ p', (p', x) ∈ W
  so : W.Pairwise fun a b => lexLt a.1 b.1
  seen : ∀ x, (x ∈ V.rootsL ∨ (F x).isSome = true) ↔ ∃ p, Way V p x ∧ p.length ≤ n + 1
  ss : ∀ x, x ∈ S ↔ (x ∈ V.rootsL ∨ (F x).isSome = true)
  nd : S.Nodup
  ch : ∀ q ∈ W, ChainF F q.1
  len : n ≤ S.length ∧ (W ≠ [] → n + 1 ≤ S.length)
structure PthN (V : Vw) (F0 : Int → Option Int) (W : List (List Int × Int)) (D : List Int × Int → Int → Prop) (F : Int → Option Int) (N : List (List Int × Int)) : Prop where
  sub : ∀ e b, D e b → e ∈ W ∧ b ∈ V.slotsAt e.2
  f0 : ∀ x, (F0 x).isSome = true → F x = F0 x
  fx : ∀ x, (F x).isSome = true ↔ (F0 x).isSome = true ∨ ∃ q ∈ N, q.2 = x
  nn : ∀ q ∈ N, ∃ e, D e q.2 ∧ q.1 = e.1 ++ [q.2] ∧ q.2 ≠ 0 ∧ q.2 ∉ V.rootsL ∧ F0 q.2 = none ∧ F q.2 = some e.2 ∧ ∀ e', D e' q.2 → e.1 = e'.1 ∨ lexLt e.1 e'.1
  cp : ∀ e b, D e b → b = 0 ∨ b ∈ V.rootsL ∨ (F0 b).isSome = true ∨ ∃ q ∈ N, q.2 = b
  so : N.Pairwise fun a b => lexLt a.1 b.1
  nd : (N.map (·.2)).Nodup
section
variable {V : Vw} {n : Nat} {F0 F : Int → Option Int} {W N : List (List Int × Int)} {S : List Int} {D : List Int × Int → Int → Prop} {c : List Int × Int} {b : Int}
end
section
variable {P : Program} {T E : TypeId} {w w' : World} {v : Value} {xs ys : List Int}
end
section
variable {P : Program} {T K : TypeId} {w : World} {b n : Nat} {f : Int → Option Int}
  {ops : Array Oper} {rest : List Oper} {o : Oper} {a : Act} {Q : Exit → Act → World → Prop}
theorem wpList_imap_val (hg : o.guard = none) (m x : Operand) (hop : o.op = Op.lookup T m x false) (h : IMap P K w b n f) (t : IntTy P T K) (hm : a.eval m = .map (some b)) {k u : Int} (hx : a.eval x = .int .i64 k) (hk : WfI k) (hf : f k = some u)
    (hK : wpList P ops Q rest (a.put o.dst (.int .i64 u)) w) : wpList P ops Q (o :: rest) a w := by
  refine wpList_imap_look hg m x hop h t hm hx hk ?_
  rw [hf]; exact hK
theorem wpList_imap_nil (hg : o.guard = none) (m x : Operand) (hop : o.op = Op.lookup T m x false) (h : IMap P K w b n f) (t : IntTy P T K) (hm : a.eval m = .map (some b)) {k : Int} (hx : a.eval x = .int .i64 k) (hk : WfI k) (hf : f k = none)
    (hK : wpList P ops Q rest (a.put o.dst (.int .i64 0)) w) : wpList P ops Q (o :: rest) a w := by
  refine wpList_imap_look hg m x hop h t hm hx hk ?_
  rw [hf]; exact hK
end
structure PtM (w0 : World) (V : Vw) (bV bA bF : Nat) (cV : Array Value) (w : World) (v7 : Value) (L : List Int) (F : Int → Option Int) (N : Nat) : Prop where
  A : IMap Tryz.prog 3 w bA V.objects.length (atF V)
  m : IMap Tryz.prog 3 w bF N F
  o : OwnI 3 w v7 L
  V : Blk w bV 41 cV
  dA : bA ≠ bF
  c : Chg [] w0 w
  f : ∀ k ∈ fpv v7, w0.heap.size ≤ k
  fF : w0.heap.size ≤ bF
section
variable {w0 w w' w1 : World} {V : Vw} {bV bA bF N M : Nat} {cV : Array Value} {v v' : Value} {L L' : List Int} {F F' : Int → Option Int}
end
structure PtM2 (w0 : World) (V : Vw) (bV bA bF : Nat) (cV : Array Value) (w : World) (v7 v8 : Value) (L T : List Int) (F : Int → Option Int) (N : Nat) : Prop where
  I : PtM w0 V bV bA bF cV w v7 L F N
  o : OwnI 3 w v8 T
  d : ∀ k ∈ fpv v7, k ∉ fpv v8
  f : ∀ k ∈ fpv v8, w0.heap.size ≤ k
section
variable {w0 w w' w1 : World} {V : Vw} {bV bA bF N M : Nat} {cV : Array Value} {v v' u u' : Value} {L L' T T' : List Int} {F F' : Int → Option Int}
end
def ReachPost (V : Vw) (w : World) (e : Ending) (w' : World) : Prop := ∃ l, IsRch V l ∧ NewI l w e w'
def LostPost (V : Vw) (w : World) (e : Ending) (w' : World) : Prop := ∃ l, IsLost V l ∧ NewI l w e w'
def vwBox (V : Vw) (A0 : Option Addr) (c0 : Nat) (A1 : Option Addr) (c1 : Nat) (A2 : Option Addr) (c2 : Nat) : Array Value := #[.int .i64 V.phase, .int .i64 V.cycle, .int .i64 V.clock, .slice A0 V.globals.length c0, .slice A1 V.gs.length c1, .slice A2 V.objects.length c2, .int .i64 V.grey, .int .i64 V.notes, .int .i64 V.roots]
def Vw.markedAt (V : Vw) (a : Int) : Bool := match V.at_ a with
  | some k => match V.objects[k]? with
    | some o => o.marked
    | none => false
  | none => false
def whiteL (V : Vw) (l : List Int) : List Int := l.filter fun a => !V.markedAt a
def WhitePost (V : Vw) (w : World) (e : Ending) (w' : World) : Prop := ∃ l, IsRch V l ∧ NewI (whiteL V l) w e w'
theorem markedAt_of {V : Vw} {a : Int} {k : Nat} {o : Ob} (h1 : V.at_ a = some k) (h2 : V.objects[k]? = some o) : V.markedAt a = o.marked := by unfold Vw.markedAt; rw [h1]; simp only [h2]
theorem lt_of_cell' {w : World} {b off : Nat} {v : Value} (h : w.cell? ⟨b, off, none⟩ = some v) : b < w.heap.size := by
  rcases Nat.lt_or_ge b w.heap.size with hlt | hge
  · exact hlt
  · simp [World.cell?, Array.getElem?_eq_none hge] at h
/-! Find -/
def FdPostV (b : Bool) (w : World) (e : Ending) (w' : World) : Prop := e = .returned (.bool b) ∧ Chg [] w w'
open Go.RowKit
def clsL : List Nat := [1, 2, 3, 4, 6, 8, 12, 16, 24, 32, 48, 64, 96, 128, 192, 256]
def clsN (n : Nat) : Nat := (clsL.takeWhile fun s => decide (s < n)).length
def clsOf (n : Int) : Int := if 1 ≤ n ∧ n ≤ 256 then (clsN n.toNat : Int) else -1
def clsSz (k : Int) : Int := if 0 ≤ k ∧ k < 16 then (clsL.getD k.toNat 0 : Nat) else 0
theorem cls_top : ∀ k : Fin 16, 1 ≤ clsL.getD k.val 0 ∧ clsL.getD k.val 0 ≤ 256 := by decide
theorem cls_topN {k : Nat} (hk : k < 16) : 1 ≤ clsL.getD k 0 ∧ clsL.getD k 0 ≤ 256 := cls_top ⟨k, hk⟩
theorem takeWhile_len {p : Nat → Bool} : ∀ {l : List Nat} {k : Nat}, (∀ j, j < k → p (l.getD j 0) = true) → k < l.length → p (l.getD k 0) = false → (l.takeWhile p).length = k
  | [], _, _, h, _ => by simp at h
  | x :: l, 0, _, _, h => by simp at h; simp [h]
  | x :: l, k + 1, h1, h2, h3 => by
    have h0 : p x = true := by simpa using h1 0 (by omega)
    have ih := takeWhile_len (p := p) (l := l) (k := k) (fun j hj => by simpa using h1 (j + 1) (by omega)) (by simpa using h2) (by simpa using h3)
    simp [h0, ih]
theorem clsN_eq {n k : Nat} (hk : k < 16) (h1 : ∀ j, j < k → clsL.getD j 0 < n) (h2 : n ≤ clsL.getD k 0) : clsN n = k :=
  takeWhile_len (fun j hj => decide_eq_true (h1 j hj)) hk (decide_eq_false (by omega))
def CtPostV (x : Int) (w : World) (e : Ending) (w' : World) : Prop := e = .returned (.int .i64 x) ∧ Chg [] w w'
theorem clsSz_in {k : Nat} (h : k < 16) : clsSz k = (clsL.getD k 0 : Nat) := by unfold clsSz; rw [if_pos ⟨by omega, by omega⟩]; simp
theorem clsSz_out {k : Int} (h : k < 0 ∨ 16 ≤ k) : clsSz k = 0 := by unfold clsSz; rw [if_neg (by omega)]
theorem clsOf_found {n : Int} {k : Nat} (h0 : 1 ≤ n) (hk : k < 16) (h1 : ∀ j, j < k → (clsL.getD j 0 : Int) < n) (h2 : n ≤ (clsL.getD k 0 : Nat)) : clsOf n = k := by
  have h3 := cls_topN hk
  unfold clsOf
  rw [if_pos ⟨h0, by omega⟩, clsN_eq hk (fun j hj => by have := h1 j hj; omega) (by omega)]
def owN (n : Nat) : Nat := if 1 ≤ n ∧ n ≤ 256 then clsL.getD (clsN n) 0 else 0
theorem clsN_le {n : Nat} (h : n ≤ 256) : clsN n ≤ 15 := by
  unfold clsN
  rcases Nat.lt_or_ge 15 (clsL.takeWhile fun s => decide (s < n)).length with hlt | hge
  · exfalso
    have h1 := List.takeWhile_prefix (fun s => decide (s < n)) (l := clsL)
    have h2 : (clsL.takeWhile fun s => decide (s < n)).length ≤ 16 := h1.length_le
    have h3 : clsL.takeWhile (fun s => decide (s < n)) = clsL := h1.eq_of_length (by show _ = 16; omega)
    have h4 := List.all_takeWhile (l := clsL) (p := fun s => decide (s < n))
    rw [h3] at h4
    have h5 := List.all_eq_true.1 h4 256 (by decide)
    have := of_decide_eq_true h5
    omega
  · exact hge
theorem clsOf_no {n : Nat} (h : ¬ (1 ≤ n ∧ n ≤ 256)) : clsOf (n : Int) = -1 ∧ owN n = 0 := by
  unfold clsOf owN
  exact ⟨if_neg (by omega), if_neg h⟩
theorem clsOf_yes {n : Nat} (h : 1 ≤ n ∧ n ≤ 256) : ∃ k : Nat, k < 16 ∧ clsOf (n : Int) = k ∧ clsSz k = owN n := by
  refine ⟨clsN n, by have := clsN_le h.2; omega, ?_, ?_⟩
  · unfold clsOf; rw [if_pos (by omega)]; simp
  · rw [clsSz_in (by have := clsN_le h.2; omega)]; unfold owN; rw [if_pos h]
theorem take_sn {α : Type} {L : List α} {i : Nat} {a : α} (h : L[i]? = some a) : L.take (i + 1) = L.take i ++ [a] := by
  obtain ⟨hi, rfl⟩ := List.getElem?_eq_some_iff.1 h
  exact List.take_succ_eq_append_getElem hi
theorem boxC {w : World} {V : Vw} {A0 : Option Addr} {c0 : Nat} {A1 : Option Addr} {c1 : Nat} {A2 : Option Addr} {c2 b : Nat} (h : Blk w b 41 (vwBox V A0 c0 A1 c1 A2 c2)) :
    w.cell? ⟨b, 0, none⟩ = some (.int .i64 V.phase) ∧ w.cell? ⟨b, 1, none⟩ = some (.int .i64 V.cycle) ∧ w.cell? ⟨b, 2, none⟩ = some (.int .i64 V.clock) ∧ w.cell? ⟨b, 3, none⟩ = some (.slice A0 V.globals.length c0) ∧ w.cell? ⟨b, 4, none⟩ = some (.slice A1 V.gs.length c1) ∧
    w.cell? ⟨b, 5, none⟩ = some (.slice A2 V.objects.length c2) ∧ w.cell? ⟨b, 6, none⟩ = some (.int .i64 V.grey) ∧ w.cell? ⟨b, 7, none⟩ = some (.int .i64 V.notes) ∧ w.cell? ⟨b, 8, none⟩ = some (.int .i64 V.roots) :=
  ⟨h.cellv 0 rfl, h.cellv 1 rfl, h.cellv 2 rfl, h.cellv 3 rfl, h.cellv 4 rfl, h.cellv 5 rfl, h.cellv 6 rfl, h.cellv 7 rfl, h.cellv 8 rfl⟩
open Classical in
noncomputable def brkLost (V : Vw) : Bool := decide (∃ x, Rch V x ∧ (V.at_ x).isSome = false)
open Classical in
noncomputable def brkWh (V : Vw) : Bool := decide (∃ x, (Rch V x ∧ (V.at_ x).isSome = true) ∧ V.markedAt x = false)
noncomputable def brkWhite (V : Vw) : Bool := V.phase == 2 && brkWh V
def brkWork (V : Vw) : Bool := ((V.phase != 1) && ((V.grey != 0) || ((V.notes != 0) || (V.roots != 0)))) || (decide (V.grey < 0) || (decide (V.notes < 0) || decide (V.roots < 0)))
def numB (V : Vw) : Bool := decide (V.phase < 0) || (decide (3 < V.phase) || (decide (V.cycle < 0) || decide (V.clock < 0)))
def brkNum (V : Vw) : Bool := (V.gs.any fun g => g.stack.length != 16) || numB V
def brkMk (V : Vw) : Bool := V.phase == 0 && V.objects.any fun o => o.marked
theorem brkLost_of {V : Vw} {l : List Int} (h : IsLost V l) : brkLost V = decide (0 < l.length) := by
  unfold brkLost
  rw [decide_eq_decide]
  constructor
  · rintro ⟨x, hx⟩; exact List.length_pos_of_mem ((h.m x).2 hx)
  · intro hl; exact ⟨l[0], (h.m _).1 (List.getElem_mem hl)⟩
theorem brkWhite_of {V : Vw} {l : List Int} (hp : V.phase = 2) (h : IsRch V l) : brkWhite V = decide (0 < (whiteL V l).length) := by
  unfold brkWhite brkWh
  rw [show (V.phase == 2) = true by rw [beq_iff_eq]; exact hp, Bool.true_and, decide_eq_decide]
  constructor
  · rintro ⟨x, hx, hm⟩
    refine List.length_pos_of_mem (a := x) ?_
    unfold whiteL
    rw [List.mem_filter, hm]
    exact ⟨(h.m x).2 hx, rfl⟩
  · intro hl
    have hm := List.getElem_mem hl
    generalize (whiteL V l)[0] = x at hm
    unfold whiteL at hm
    obtain ⟨h1, h2⟩ := List.mem_filter.1 hm
    exact ⟨x, (h.m x).1 h1, by simpa using h2⟩
theorem brkWhite_no {V : Vw} (hp : ¬ V.phase = 2) : brkWhite V = false := by
  unfold brkWhite
  rw [show (V.phase == 2) = false by rw [beq_eq_false_iff_ne]; exact hp]; rfl
theorem tri (x : Int) : ((x != 0) = false ∧ ¬ x < 0 ∧ decide (x < 0) = false) ∨ ((x != 0) = true ∧ x < 0 ∧ decide (x < 0) = true) ∨ ((x != 0) = true ∧ ¬ x < 0 ∧ decide (x < 0) = false) := by
  rcases Int.lt_trichotomy x 0 with h | h | h
  · exact .inr (.inl ⟨by rw [bne_iff_ne]; omega, h, decide_eq_true h⟩)
  · exact .inl ⟨by rw [bne_eq_false_iff_eq]; exact h, by omega, decide_eq_false (by omega)⟩
  · exact .inr (.inr ⟨by rw [bne_iff_ne]; omega, by omega, decide_eq_false (by omega)⟩)
theorem one_ (x : Int) : (x != 1) = false ∨ (x != 1) = true := by cases (x != 1) <;> simp
def AnyRel {α : Type} (w0 : World) (p : α → Bool) (xs : List α) (gk : Nat) (idx : Value) (w : World) : Prop :=
  ∃ i, gk + i = xs.length + 1 ∧ i ≤ xs.length ∧ idx = .int .i64 (i : Nat) ∧ (xs.take i).any p = false ∧ Chg [] w0 w
theorem any_no {α : Type} {p : α → Bool} {xs : List α} {i : Nat} {x : α} (h : (xs.take i).any p = false) (hx : xs[i]? = some x) (hp : p x = false) : (xs.take (i + 1)).any p = false := by
  rw [take_sn hx, List.any_append, h]; simp [hp]
theorem any_yes {α : Type} {p : α → Bool} {xs : List α} {i : Nat} {x : α} (hx : xs[i]? = some x) (hp : p x = true) : xs.any p = true := List.any_eq_true.2 ⟨x, List.mem_of_getElem? hx, hp⟩
theorem rising_putLV : ∀ {l : List Int} {x : Int}, Rising l → Rising (putL l x)
  | [], x, _ => by simp [putL, Rising]
  | a :: l, x, h => by
    have h1 := List.pairwise_cons.1 h
    unfold putL
    split
    · next h2 => exact List.pairwise_cons.2 ⟨fun b hb => by
        rcases mem_putL.1 hb with h3 | h3
        · exact h1.1 b h3
        · omega, rising_putLV h1.2⟩
    · split
      · exact h
      · exact List.pairwise_cons.2 ⟨fun b hb => by
          rcases List.mem_cons.1 hb with h3 | h3
          · omega
          · have := h1.1 b h3; omega, h⟩
structure RwL (V : Vw) (P : Int → Prop) (l : List Nat) (lost : List Int) : Prop where
  nd : l.Nodup
  so : ∀ p ∈ l, ∃ a, Rch V a ∧ V.at_ a = some p
  lr : Rising lost
  ls : ∀ x ∈ lost, Rch V x ∧ V.at_ x = none
  co : ∀ x, P x → x ≠ 0 → (∃ p ∈ l, V.at_ x = some p) ∨ x ∈ lost
section
variable {V : Vw} {P : Int → Prop} {l : List Nat} {lost : List Int} {x : Int}
theorem RwL.start (V : Vw) : RwL V (fun _ => False) [] [] := ⟨List.nodup_nil, by simp, List.Pairwise.nil, by simp, fun _ h => h.elim⟩
theorem RwL.congr {Q : Int → Prop} (h : RwL V P l lost) (e : ∀ x, x ≠ 0 → Q x → P x) : RwL V Q l lost := ⟨h.nd, h.so, h.lr, h.ls, fun x hx h0 => h.co x (e x h0 hx) h0⟩
theorem RwL.zero (h : RwL V P l lost) (hx : x = 0) : RwL V (fun y => P y ∨ y = x) l lost := h.congr fun y h0 hy => by
  rcases hy with hy | hy
  · exact hy
  · exact absurd (hy.trans hx) h0
theorem RwL.lost_ (h : RwL V P l lost) (hx : Rch V x) (ha : V.at_ x = none) : RwL V (fun y => P y ∨ y = x) l (putL lost x) :=
  ⟨h.nd, h.so, rising_putLV h.lr, fun y hy => by
    rcases mem_putL.1 hy with h1 | rfl
    · exact h.ls y h1
    · exact ⟨hx, ha⟩, fun y hy h0 => by
    rcases hy with hy | rfl
    · rcases h.co y hy h0 with h1 | h1
      · exact .inl h1
      · exact .inr (mem_putL.2 (.inl h1))
    · exact .inr (mem_putL.2 (.inr rfl))⟩
theorem RwL.old {p : Nat} (h : RwL V P l lost) (ha : V.at_ x = some p) (hp : p ∈ l) : RwL V (fun y => P y ∨ y = x) l lost :=
  ⟨h.nd, h.so, h.lr, h.ls, fun y hy h0 => by
    rcases hy with hy | rfl
    · exact h.co y hy h0
    · exact .inl ⟨p, hp, ha⟩⟩
theorem RwL.new {p : Nat} (h : RwL V P l lost) (hx : Rch V x) (ha : V.at_ x = some p) (hp : p ∉ l) : RwL V (fun y => P y ∨ y = x) (l ++ [p]) lost :=
  ⟨by rw [List.nodup_append]; exact ⟨h.nd, by simp, fun a hal b hb => by simp at hb; subst hb; rintro rfl; exact hp hal⟩, fun q hq => by
    rcases List.mem_append.1 hq with h1 | h1
    · exact h.so q h1
    · rw [List.mem_singleton.1 h1]; exact ⟨x, hx, ha⟩, h.lr, h.ls, fun y hy h0 => by
    rcases hy with hy | rfl
    · rcases h.co y hy h0 with ⟨q, h1, h2⟩ | h1
      · exact .inl ⟨q, List.mem_append_left _ h1, h2⟩
      · exact .inr h1
    · exact .inl ⟨p, by simp, ha⟩⟩
structure IsPls (V : Vw) (l : List Nat) : Prop where
  nd : l.Nodup
  m : ∀ p, p ∈ l ↔ ∃ a, Rch V a ∧ V.at_ a = some p
theorem RwL.fin (h : RwL V P l lost) (h1 : ∀ x ∈ V.said, x ≠ 0 → P x) (h2 : ∀ p ∈ l, ∀ o, V.objects[p]? = some o → ∀ x ∈ o.slots, x ≠ 0 → P x) : IsPls V l ∧ IsLost V lost := by
  have main : ∀ x, Rch V x → (∃ p ∈ l, V.at_ x = some p) ∨ x ∈ lost := by
    intro x hx
    induction hx with
    | root g1 g2 => exact h.co _ (h1 _ g1 g2) g2
    | @step a x k o ha g1 g2 g3 g4 ih =>
      rcases ih with ⟨p, hp, e⟩ | hl
      · rw [g1] at e; injection e with e; subst e
        exact h.co _ (h2 _ hp o g2 _ g3 g4) g4
      · have := (h.ls _ hl).2; rw [g1] at this; cases this
  refine ⟨⟨h.nd, fun p => ⟨h.so p, ?_⟩⟩, ⟨h.lr, fun x => ⟨fun hx => ?_, ?_⟩⟩⟩
  · rintro ⟨a, ha, e⟩
    rcases main a ha with ⟨q, hq, e'⟩ | hl
    · rw [e] at e'; injection e' with e'; subst e'; exact hq
    · have := (h.ls _ hl).2; rw [e] at this; cases this
  · obtain ⟨a, b⟩ := h.ls x hx; exact ⟨a, by rw [b]; rfl⟩
  · rintro ⟨hx, hn⟩
    rcases main x hx with ⟨q, hq, e⟩ | hl
    · rw [e] at hn; cases hn
    · exact hl
theorem IsPls.lt (h : IsPls V l) {p : Nat} (hp : p ∈ l) : ∃ o, V.objects[p]? = some o ∧ V.at_ o.addr = some p ∧ Rch V o.addr := by
  obtain ⟨a, ha, e⟩ := (h.m p).1 hp
  have e0 := e
  unfold Vw.at_ at e
  obtain ⟨hlt, hp1, _⟩ := List.findIdx?_eq_some_iff_getElem.1 e
  have hpa : V.objects[p].addr = a := by simpa using hp1
  exact ⟨V.objects[p], List.getElem?_eq_getElem hlt, by rw [hpa]; exact e0, by rw [hpa]; exact ha⟩
def addrAt (V : Vw) (p : Nat) : Int := match V.objects[p]? with | some o => o.addr | none => 0
theorem addrAt_of {p : Nat} {o : Ob} (h : V.objects[p]? = some o) : addrAt V p = o.addr := by unfold addrAt; rw [h]
theorem isRch_of_pls (h : IsPls V l) {out : List Int} (hr : Rising out) (hm : ∀ x, x ∈ out ↔ ∃ p ∈ l, addrAt V p = x) : IsRch V out := by
  refine ⟨hr, fun x => ?_⟩
  rw [hm]
  constructor
  · rintro ⟨p, hp, rfl⟩
    obtain ⟨o, ho, ha, hx⟩ := h.lt hp
    rw [addrAt_of ho]
    exact ⟨hx, by rw [ha]; rfl⟩
  · rintro ⟨hx, hs⟩
    cases e : V.at_ x with
    | none => rw [e] at hs; cases hs
    | some p =>
      have hp := (h.m p).2 ⟨x, hx, e⟩
      refine ⟨p, hp, ?_⟩
      unfold Vw.at_ at e
      obtain ⟨hlt, hp1, _⟩ := List.findIdx?_eq_some_iff_getElem.1 e
      rw [addrAt_of (List.getElem?_eq_getElem hlt)]
      simpa using hp1
end
end Go.Proofs.YtcpljjacamibeaaGreatDoor
