/- A view as it lies in memory, and as it reads. Plain theorems on worlds; no program in sight. -/
import Derived.Test.YtfkgooliglcjkaaIMap
namespace Go.Proofs.Ytfkgooliglcjkaa
open Go.RowKit

structure Ob where
  addr : Int
  slots : List Int
  marked : Bool
  deriving DecidableEq
structure Gr where
  state : Int
  p : Int
  stack : List Int
  deriving DecidableEq
structure Vw where
  phase : Int
  cycle : Int
  clock : Int
  globals : List Int
  gs : List Gr
  objects : List Ob
  grey : Int
  notes : Int
  roots : Int
  deriving DecidableEq

/-- The integers xs lie behind A, below B. -/
def IntsAt (w : World) (B : Nat) (A : Option Addr) (xs : List Int) : Prop := ∀ i x, xs[i]? = some x → ∃ b off, A = some ⟨b, off, none⟩ ∧ b < B ∧ w.cell? ⟨b, off + i, none⟩ = some (.int .i64 x)
/-- A slice of integers. -/
structure SlI (w : World) (B : Nat) (v : Value) (xs : List Int) : Prop where
  ex : ∃ A c, v = .slice A xs.length c
  len : xs.length ≤ maxLen
  at_ : ∀ A n c, v = .slice A n c → IntsAt w B A xs
  wf : ∀ x ∈ xs, WfI x
structure ObsAt (w : World) (B : Nat) (A : Option Addr) (os : List Ob) : Prop where
  at_ : ∀ i o, os[i]? = some o → ∃ b off s, A = some ⟨b, off, none⟩ ∧ b < B ∧ w.cell? ⟨b, off + i * 3, none⟩ = some (.int .i64 o.addr) ∧ w.cell? ⟨b, off + i * 3 + 1, none⟩ = some s ∧ w.cell? ⟨b, off + i * 3 + 2, none⟩ = some (.bool o.marked) ∧ SlI w B s o.slots ∧ WfI o.addr
structure GrsAt (w : World) (B : Nat) (A : Option Addr) (gs : List Gr) : Prop where
  at_ : ∀ i g, gs[i]? = some g → ∃ b off s, A = some ⟨b, off, none⟩ ∧ b < B ∧ w.cell? ⟨b, off + i * 3, none⟩ = some (.int .i64 g.state) ∧ w.cell? ⟨b, off + i * 3 + 1, none⟩ = some (.int .i64 g.p) ∧ w.cell? ⟨b, off + i * 3 + 2, none⟩ = some s ∧ SlI w B s g.stack ∧ WfI g.state ∧ WfI g.p
/-- A view by value. -/
structure VwAt (w : World) (B : Nat) (v : Value) (V : Vw) : Prop where
  ex : ∃ g A1 c1 A2 c2, v = .agg #[.int .i64 V.phase, .int .i64 V.cycle, .int .i64 V.clock, g, .slice A1 V.gs.length c1, .slice A2 V.objects.length c2, .int .i64 V.grey, .int .i64 V.notes, .int .i64 V.roots] ∧
    SlI w B g V.globals ∧ GrsAt w B A1 V.gs ∧ ObsAt w B A2 V.objects ∧ V.gs.length ≤ maxLen ∧ V.objects.length ≤ maxLen
  wf : WfI V.phase ∧ WfI V.cycle ∧ WfI V.clock ∧ WfI V.grey ∧ WfI V.notes ∧ WfI V.roots

theorem Chg.then_ {S T : List Nat} {a w w' : World} (h : Chg S a w) (c : Chg T w w') (hT : ∀ k ∈ T, k ∈ S ∨ a.heap.size ≤ k) : Chg S a w' :=
  ⟨c.os.trans h.os, c.tape.trans h.tape, c.output.trans h.output, Nat.le_trans h.size c.size, fun k hk hn =>
    (c.block k (Nat.lt_of_lt_of_le hk h.size) (fun hm => by
      rcases hT k hm with h1 | h1
      · exact hn h1
      · omega)).trans (h.block k hk hn)⟩
theorem Chg.new {T : List Nat} {a w w' : World} (h : Chg [] a w) (c : Chg T w w') (hT : ∀ k ∈ T, a.heap.size ≤ k) : Chg [] a w' := h.then_ c fun k hk => .inr (hT k hk)
section
variable {w w' : World} {B : Nat} {S : List Nat}
theorem IntsAt.chg {A : Option Addr} {xs : List Int} (h : IntsAt w B A xs) (c : Chg S w w') (hB : B ≤ w.heap.size) (hS : ∀ k ∈ S, B ≤ k) : IntsAt w' B A xs := fun i x hx => by
  obtain ⟨b, off, e, hb, hc⟩ := h i x hx
  exact ⟨b, off, e, hb, c.cellv (by omega) (fun hm => by have := hS b hm; omega) hc⟩
theorem SlI.chg {v : Value} {xs : List Int} (h : SlI w B v xs) (c : Chg S w w') (hB : B ≤ w.heap.size) (hS : ∀ k ∈ S, B ≤ k) : SlI w' B v xs :=
  ⟨h.ex, h.len, fun A n cc e => (h.at_ A n cc e).chg c hB hS, h.wf⟩
theorem ObsAt.chg {A : Option Addr} {os : List Ob} (h : ObsAt w B A os) (c : Chg S w w') (hB : B ≤ w.heap.size) (hS : ∀ k ∈ S, B ≤ k) : ObsAt w' B A os := ⟨fun i o ho => by
  obtain ⟨b, off, s, e, hb, h1, h2, h3, h4, h5⟩ := h.at_ i o ho
  have hn : b ∉ S := fun hm => by have := hS b hm; omega
  exact ⟨b, off, s, e, hb, c.cellv (by omega) hn h1, c.cellv (by omega) hn h2, c.cellv (by omega) hn h3, h4.chg c hB hS, h5⟩⟩
theorem GrsAt.chg {A : Option Addr} {gs : List Gr} (h : GrsAt w B A gs) (c : Chg S w w') (hB : B ≤ w.heap.size) (hS : ∀ k ∈ S, B ≤ k) : GrsAt w' B A gs := ⟨fun i o ho => by
  obtain ⟨b, off, s, e, hb, h1, h2, h3, h4, h5⟩ := h.at_ i o ho
  have hn : b ∉ S := fun hm => by have := hS b hm; omega
  exact ⟨b, off, s, e, hb, c.cellv (by omega) hn h1, c.cellv (by omega) hn h2, c.cellv (by omega) hn h3, h4.chg c hB hS, h5⟩⟩
theorem VwAt.chg {v : Value} {V : Vw} (h : VwAt w B v V) (c : Chg S w w') (hB : B ≤ w.heap.size) (hS : ∀ k ∈ S, B ≤ k) : VwAt w' B v V := by
  obtain ⟨g, A1, c1, A2, c2, e, h1, h2, h3, h4, h5⟩ := h.ex
  exact ⟨⟨g, A1, c1, A2, c2, e, h1.chg c hB hS, h2.chg c hB hS, h3.chg c hB hS, h4, h5⟩, h.wf⟩
theorem IntsAt.mono {A : Option Addr} {xs : List Int} (h : IntsAt w B A xs) {B' : Nat} (hB : B ≤ B') : IntsAt w B' A xs := fun i x hx => by
  obtain ⟨b, off, e, hb, hc⟩ := h i x hx
  exact ⟨b, off, e, by omega, hc⟩
theorem SlI.mono {v : Value} {xs : List Int} (h : SlI w B v xs) {B' : Nat} (hB : B ≤ B') : SlI w B' v xs := ⟨h.ex, h.len, fun A n cc e => (h.at_ A n cc e).mono hB, h.wf⟩
theorem ObsAt.mono {A : Option Addr} {os : List Ob} (h : ObsAt w B A os) {B' : Nat} (hB : B ≤ B') : ObsAt w B' A os := ⟨fun i o ho => by
  obtain ⟨b, off, s, e, hb, h1, h2, h3, h4, h5⟩ := h.at_ i o ho
  exact ⟨b, off, s, e, by omega, h1, h2, h3, h4.mono hB, h5⟩⟩
theorem GrsAt.mono {A : Option Addr} {gs : List Gr} (h : GrsAt w B A gs) {B' : Nat} (hB : B ≤ B') : GrsAt w B' A gs := ⟨fun i o ho => by
  obtain ⟨b, off, s, e, hb, h1, h2, h3, h4, h5⟩ := h.at_ i o ho
  exact ⟨b, off, s, e, by omega, h1, h2, h3, h4.mono hB, h5⟩⟩
theorem VwAt.mono {v : Value} {V : Vw} (h : VwAt w B v V) {B' : Nat} (hB : B ≤ B') : VwAt w B' v V := by
  obtain ⟨g, A1, c1, A2, c2, e, h1, h2, h3, h4, h5⟩ := h.ex
  exact ⟨⟨g, A1, c1, A2, c2, e, h1.mono hB, h2.mono hB, h3.mono hB, h4, h5⟩, h.wf⟩
/-- A row that the call owns reads as a slice. -/
theorem SlI.of_own {T : TypeId} {v : Value} {xs : List Int} (h : w.ownsRow 0 T 1 v xs.length (xs.map (Value.int .i64))) (hw : ∀ x ∈ xs, WfI x) (hl : xs.length ≤ maxLen) : SlI w w.heap.size v xs := by
  rcases h.2 with ⟨rfl, h0⟩ | ⟨g, cap, cur, rfl, _, hh, hc, hm, hs, ht⟩
  · have : xs = [] := List.eq_nil_of_length_eq_zero h0
    subst this
    exact ⟨⟨none, 0, rfl⟩, hl, fun A n c e i x hx => by simp at hx, hw⟩
  · refine ⟨⟨_, _, rfl⟩, hl, fun A n c e i x hx => ?_, hw⟩
    injection e with e1 e2 e3
    refine ⟨g, 0, e1.symm, Blk.lt (t := T) (cs := cur) hh, ?_⟩
    rw [Nat.zero_add, Blk.cell (t := T) (cs := cur) hh]
    have h1 : (cur.toList.take (xs.length * 1))[i]? = some (.int .i64 x) := by rw [ht]; simp [hx]
    rw [List.getElem?_take] at h1
    split at h1
    · simpa using h1
    · cases h1
end

/-! What views say: plain. -/
def addOnce (l : List Int) (x : Int) : List Int := if x = 0 ∨ x ∈ l then l else l ++ [x]
def Vw.said (V : Vw) : List Int := V.globals ++ (V.gs.filter fun g => g.state != 5).flatMap (·.stack)
def Vw.rootsL (V : Vw) : List Int := V.said.foldl addOnce []
def Vw.at_ (V : Vw) (a : Int) : Option Nat := V.objects.findIdx? fun o => o.addr == a
theorem mem_addOnce {l : List Int} {x y : Int} : y ∈ addOnce l x ↔ y ∈ l ∨ (y = x ∧ x ≠ 0) := by
  unfold addOnce
  split
  · next h =>
    constructor
    · exact .inl
    · rintro (h1 | ⟨rfl, h1⟩)
      · exact h1
      · rcases h with h | h
        · exact absurd h h1
        · exact h
  · next h =>
    rw [List.mem_append, List.mem_singleton]
    constructor
    · rintro (h1 | rfl)
      · exact .inl h1
      · exact .inr ⟨rfl, fun e => h (.inl e)⟩
    · rintro (h1 | ⟨rfl, _⟩)
      · exact .inl h1
      · exact .inr rfl
theorem mem_foldOnce : ∀ (xs l : List Int) (y : Int), y ∈ xs.foldl addOnce l ↔ y ∈ l ∨ (y ∈ xs ∧ y ≠ 0)
  | [], l, y => by simp
  | x :: xs, l, y => by
    rw [List.foldl_cons, mem_foldOnce xs, mem_addOnce, List.mem_cons]
    constructor
    · rintro ((h | ⟨rfl, h⟩) | ⟨h, h2⟩)
      · exact .inl h
      · exact .inr ⟨.inl rfl, h⟩
      · exact .inr ⟨.inr h, h2⟩
    · rintro (h | ⟨rfl | h, h2⟩)
      · exact .inl (.inl h)
      · exact .inl (.inr ⟨rfl, h2⟩)
      · exact .inr ⟨h, h2⟩
theorem nodup_addOnce {l : List Int} {x : Int} (h : l.Nodup) : (addOnce l x).Nodup := by
  unfold addOnce
  split
  · exact h
  · next hc =>
    rw [List.nodup_append]
    exact ⟨h, by simp, fun a ha b hb => by simp at hb; subst hb; rintro rfl; exact hc (.inr ha)⟩
theorem nodup_foldOnce : ∀ (xs l : List Int), l.Nodup → (xs.foldl addOnce l).Nodup
  | [], _, h => h
  | _ :: xs, _, h => nodup_foldOnce xs _ (nodup_addOnce h)
theorem mem_rootsL {V : Vw} {y : Int} : y ∈ V.rootsL ↔ y ∈ V.said ∧ y ≠ 0 := by unfold Vw.rootsL; rw [mem_foldOnce]; simp

/-- What can be reached. -/
inductive Rch (V : Vw) : Int → Prop
  | root {x : Int} : x ∈ V.said → x ≠ 0 → Rch V x
  | step {a x : Int} {k : Nat} {o : Ob} : Rch V a → V.at_ a = some k → V.objects[k]? = some o → x ∈ o.slots → x ≠ 0 → Rch V x
theorem Rch.ne {V : Vw} {x : Int} (h : Rch V x) : x ≠ 0 := by cases h <;> assumption
def Rising (l : List Int) : Prop := l.Pairwise (· < ·)
/-- The reached objects; what is named but no object. -/
structure IsRch (V : Vw) (l : List Int) : Prop where
  s : Rising l
  m : ∀ x, x ∈ l ↔ Rch V x ∧ (V.at_ x).isSome = true
structure IsLost (V : Vw) (l : List Int) : Prop where
  s : Rising l
  m : ∀ x, x ∈ l ↔ Rch V x ∧ (V.at_ x).isSome = false
theorem rising_uniq : ∀ {l l' : List Int}, Rising l → Rising l' → (∀ x, x ∈ l ↔ x ∈ l') → l = l'
  | [], [], _, _, _ => rfl
  | [], y :: t, _, _, h => absurd ((h y).2 (List.mem_cons_self ..)) (by simp)
  | y :: t, [], _, _, h => absurd ((h y).1 (List.mem_cons_self ..)) (by simp)
  | x :: s, y :: t, h1, h2, h => by
    have a1 := List.pairwise_cons.1 h1
    have a2 := List.pairwise_cons.1 h2
    have e : x = y := by
      rcases List.mem_cons.1 ((h x).1 (List.mem_cons_self ..)) with e | e
      · exact e
      · rcases List.mem_cons.1 ((h y).2 (List.mem_cons_self ..)) with e' | e'
        · exact e'.symm
        · have := a1.1 y e'; have := a2.1 x e; omega
    subst e
    congr 1
    refine rising_uniq a1.2 a2.2 fun z => ?_
    have hz := h z
    rw [List.mem_cons, List.mem_cons] at hz
    constructor
    · intro q
      rcases hz.1 (.inr q) with e | e
      · subst e; have := a1.1 z q; omega
      · exact e
    · intro q
      rcases hz.2 (.inr q) with e | e
      · subst e; have := a2.1 z q; omega
      · exact e
theorem IsRch.uniq {V : Vw} {l l' : List Int} (h : IsRch V l) (h' : IsRch V l') : l = l' := rising_uniq h.s h'.s fun x => (h.m x).trans (h'.m x).symm
theorem IsLost.uniq {V : Vw} {l l' : List Int} (h : IsLost V l) (h' : IsLost V l') : l = l' := rising_uniq h.s h'.s fun x => (h.m x).trans (h'.m x).symm

/-- All that is named. -/
def Vw.names (V : Vw) : List Int := V.said ++ V.objects.flatMap (·.slots)
theorem Rch.named {V : Vw} {x : Int} (h : Rch V x) : x ∈ V.names := by
  unfold Vw.names
  rw [List.mem_append]
  cases h with
  | root h _ => exact .inl h
  | step _ _ ho hx _ => exact .inr (List.mem_flatMap.2 ⟨_, List.mem_of_getElem? ho, hx⟩)
theorem nodup_le : ∀ {l m : List Int}, l.Nodup → (∀ x ∈ l, x ∈ m) → l.length ≤ m.length
  | [], _, _, _ => Nat.zero_le _
  | x :: l, m, h, hs => by
    have h1 := List.nodup_cons.1 h
    have hx := hs x (List.mem_cons_self ..)
    have := nodup_le (l := l) (m := m.erase x) h1.2 (fun y hy => (List.mem_erase_of_ne (by rintro rfl; exact h1.1 hy)).2 (hs y (List.mem_cons_of_mem _ hy)))
    rw [List.length_erase_of_mem hx] at this
    have := List.length_pos_of_mem hx
    simp only [List.length_cons]; omega
end Go.Proofs.Ytfkgooliglcjkaa
