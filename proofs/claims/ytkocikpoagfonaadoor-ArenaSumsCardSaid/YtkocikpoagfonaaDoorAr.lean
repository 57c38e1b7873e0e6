/- The arena: what it is in memory; its frame. Plain theorems on worlds. -/
import Derived.Test.YtkocikpoagfonaaDoorSp4
import Derived.Test.YtkocikpoagfonaaDoorVMap
import Derived.Test.YtkocikpoagfonaaDoorPgRest
namespace Go.Proofs.YtkocikpoagfonaaDoor
open Go.RowKit

/-- An arena: pages and their free runs; spans by id; whose a page is; objects by address; words that live. -/
structure Ar where
  n : Nat
  l : List R
  sp : Nat → Option Sp
  ow : Nat → Option Nat
  ob : Nat → Option (List Int)
  live : Nat
/-- Where it lies. -/
structure ArH where
  ga : Nat
  gp : Nat
  v : Value
  bs : Nat
  bo : Nat
  bj : Nat
  B : Nat → SpB
  C : Nat → Nat
  m : Nat
  N : Nat
structure ArOk (N : Nat) (a : Ar) : Prop where
  ok : Okn a.n a.l
  n : a.n ≤ 262144
  top : ∀ id s, a.sp id = some s → id < N
  ow : ∀ id s p, a.sp id = some s → s.first ≤ p → p < s.first + pgK s.k → a.ow p = some id
  pg : ∀ id s, a.sp id = some s → s.k < 16 ∧ 1 ≤ s.first ∧ s.first + pgK s.k ≤ a.n ∧ ∀ p, s.first ≤ p → p < s.first + pgK s.k → ¬ Fr a.l p
  ob : ∀ x, (a.ob x).isSome = true ↔ ∃ id s i, a.sp id = some s ∧ i < slK s.k ∧ s.F i = true ∧ x = s.addr i
  len : ∀ x xs, a.ob x = some xs → 1 ≤ xs.length ∧ xs.length ≤ 256
/-- What the maps tell. -/
def natV (f : Nat → Option Value) (x : Int) : Option Value := if 0 ≤ x then f x.toNat else none
def spV (h : ArH) (a : Ar) (id : Nat) : Option Value := (a.sp id).map fun _ => .pointer (some ⟨(h.B id).g, 0, none⟩)
def owV (a : Ar) (p : Nat) : Option Value := (a.ow p).map fun id => .int .i64 (id : Nat)
def obV (h : ArH) (a : Ar) (x : Nat) : Option Value := (a.ob x).map fun xs => .slice (some ⟨h.C x, 0, none⟩) xs.length xs.length
theorem natV_nat (f : Nat → Option Value) (x : Nat) : natV f (x : Nat) = f x := by unfold natV; rw [if_pos (by omega)]; simp
theorem natV_put (f : Nat → Option Value) (x : Nat) (u : Value) (y : Int) : putV (natV f) (x : Nat) u y = natV (fun z => if z = x then some u else f z) y := by
  unfold putV natV
  by_cases h : 0 ≤ y
  · rw [if_pos h, if_pos h]
    by_cases e : y = (x : Int)
    · rw [if_pos e]; show _ = if y.toNat = x then _ else _; rw [if_pos (by omega)]
    · rw [if_neg e]; show _ = if y.toNat = x then _ else _; rw [if_neg (by omega)]
  · rw [if_neg h, if_neg h, if_neg (by omega)]
theorem natV_del (f : Nat → Option Value) (x : Nat) (y : Int) : delV (natV f) (x : Nat) y = natV (fun z => if z = x then none else f z) y := by
  unfold delV natV
  by_cases h : 0 ≤ y
  · rw [if_pos h, if_pos h]
    by_cases e : y = (x : Int)
    · rw [if_pos e]; show _ = if y.toNat = x then _ else _; rw [if_pos (by omega)]
    · rw [if_neg e]; show _ = if y.toNat = x then _ else _; rw [if_neg (by omega)]
  · rw [if_neg h, if_neg h, if_neg (by omega)]
structure ArM (w : World) (h : ArH) (a : Ar) : Prop where
  b : Blk w h.ga 54 #[.pointer (some ⟨h.gp, 0, none⟩), .map (some h.bs), .map (some h.bo), .map (some h.bj), .int .i64 a.live]
  P : IsPg w h.gp a.n h.v a.l
  s : VMap Tryd.prog 3 w h.bs h.m (natV (spV h a))
  o : VMap Tryd.prog 3 w h.bo h.m (natV (owV a))
  j : VMap Tryd.prog 3 w h.bj h.m (natV (obV h a))
  S : ∀ id s, a.sp id = some s → IsSp w (h.B id) s
  O : ∀ x xs, a.ob x = some xs → Blk w (h.C x) 3 (xs.map (Value.int .i64)).toArray
  d1 : ∀ id id' s s', a.sp id = some s → a.sp id' = some s' → id ≠ id' → ∀ k ∈ (h.B id).l, k ∉ (h.B id').l
  d2 : ∀ x x', (a.ob x).isSome = true → (a.ob x').isSome = true → x ≠ x' → h.C x ≠ h.C x'
  m1 : h.bs ≠ h.bo
  m2 : h.bs ≠ h.bj
  m3 : h.bo ≠ h.bj
/-- Its blocks. -/
def ArF (h : ArH) (a : Ar) (k : Nat) : Prop := k = h.ga ∨ k = h.gp ∨ k ∈ fpv h.v ∨ k = h.bs ∨ k = h.bo ∨ k = h.bj ∨ (∃ id s, a.sp id = some s ∧ k ∈ (h.B id).l) ∨ ∃ x, (a.ob x).isSome = true ∧ k = h.C x
/-- Types that the blocks of a span have. -/
def SpT (t : TypeId) : Prop := t = 85 ∨ t = 99 ∨ t = 100
theorem IsSp.far {w : World} {b : SpB} {s : Sp} (h : IsSp w b s) {g : Nat} {t : TypeId} {cs : Array Value} (hb : Blk w g t cs) (ht : ¬ SpT t) : g ∉ b.l := fun hm => by
  simp only [SpB.l, List.mem_cons, List.not_mem_nil, or_false] at hm
  have n1 : 85 ≠ t := fun e => ht (.inl e.symm)
  have n2 : 99 ≠ t := fun e => ht (.inr (.inl e.symm))
  have n3 : 100 ≠ t := fun e => ht (.inr (.inr e.symm))
  rcases hm with e | e | e | e | e
  · exact h.hb.ne_ hb n1 e.symm
  · exact h.hu.b.ne_ hb n2 e.symm
  · exact h.hu.d.ne_ hb n3 e.symm
  · exact h.hm.b.ne_ hb n2 e.symm
  · exact h.hm.d.ne_ hb n3 e.symm
theorem VMap.far {P : Program} {K : TypeId} {w : World} {m n : Nat} {f : Int → Option Value} (h : VMap P K w m n f) {b : SpB} {s : Sp} (I : IsSp w b s) : m ∉ b.l := fun hm => by
  simp only [SpB.l, List.mem_cons, List.not_mem_nil, or_false] at hm
  rcases hm with e | e | e | e | e
  · exact h.ne_blk I.hb e
  · exact h.ne_blk I.hu.b e
  · exact h.ne_blk I.hu.d e
  · exact h.ne_blk I.hm.b e
  · exact h.ne_blk I.hm.d e
theorem own_far {w : World} {T : TypeId} {size n g : Nat} {v : Value} {xs : List Value} {t : TypeId} {cs : Array Value} (h : w.ownsRow 0 T size v n xs) (hb : Blk w g t cs) (hne : T ≠ t) : g ∉ fpv v := fun hm => own_ne h hb hne (mem_fpv.1 hm)
section
variable {w w' : World} {h : ArH} {a : Ar}
theorem ArM.chg {S : List Nat} (M : ArM w h a) (c : Chg S w w') (hn : ∀ k, ArF h a k → k ∉ S) : ArM w' h a := by
  refine ⟨c.blk M.b (hn _ (.inl rfl)), ⟨c.blk M.P.b (hn _ (.inr (.inl rfl))), own_chg M.P.o c fun k hk => hn _ (.inr (.inr (.inl (mem_fpv.2 hk))))⟩, M.s.chg c (hn _ (.inr (.inr (.inr (.inl rfl))))), M.o.chg c (hn _ (.inr (.inr (.inr (.inr (.inl rfl)))))), M.j.chg c (hn _ (.inr (.inr (.inr (.inr (.inr (.inl rfl)))))))
    , fun id s hs => (M.S id s hs).chg c fun k hk => hn _ (.inr (.inr (.inr (.inr (.inr (.inr (.inl ⟨id, s, hs, hk⟩))))))), fun x xs hx => c.blk (M.O x xs hx) (hn _ (.inr (.inr (.inr (.inr (.inr (.inr (.inr ⟨x, by rw [hx]; rfl, rfl⟩)))))))), M.d1, M.d2, M.m1, M.m2, M.m3⟩
theorem ArM.chg0 (M : ArM w h a) (c : Chg [] w w') : ArM w' h a := M.chg c (by simp)
theorem ArM.lt (M : ArM w h a) : ∀ k, ArF h a k → k < w.heap.size := fun k hk => by
  rcases hk with rfl | rfl | hk | rfl | rfl | rfl | ⟨id, s, hs, hk⟩ | ⟨x, hx, rfl⟩
  · exact M.b.lt
  · exact M.P.b.lt
  · exact own_lt M.P.o (mem_fpv.1 hk)
  · exact M.s.lt
  · exact M.o.lt
  · exact M.j.lt
  · exact (M.S id s hs).lt k hk
  · obtain ⟨xs, hxs⟩ := Option.isSome_iff_exists.1 hx
    exact (M.O x xs hxs).lt
end
/-- One span turned. -/
def updF {α : Type} (f : Nat → Option α) (i : Nat) (v : Option α) (x : Nat) : Option α := if x = i then v else f x
theorem updF_same {α : Type} (f : Nat → Option α) (i : Nat) (v : Option α) : updF f i v i = v := if_pos rfl
theorem updF_other {α : Type} (f : Nat → Option α) {i x : Nat} (v : Option α) (h : x ≠ i) : updF f i v x = f x := if_neg h
section
variable {w w' : World} {h : ArH} {a : Ar}
theorem ArM.span {id : Nat} {s s' : Sp} (M : ArM w h a) (hs : a.sp id = some s) (I : IsSp w' (h.B id) s') (c : Chg (h.B id).l w w') : ArM w' h { a with sp := updF a.sp id (some s') } := by
  have J := M.S id s hs
  have e : spV h { a with sp := updF a.sp id (some s') } = spV h a := by
    funext x
    unfold spV updF
    by_cases e : x = id
    · subst e; simp [hs]
    · simp [e]
  refine ⟨c.blk M.b (J.far M.b (by unfold SpT; decide)), ⟨c.blk M.P.b (J.far M.P.b (by unfold SpT; decide)), own_chg M.P.o c fun k hk hm => ?_⟩, ?_, M.o.chg c (M.o.far J), M.j.chg c (M.j.far J), fun i t ht => ?_, fun x xs hx => c.blk (M.O x xs hx) (J.far (M.O x xs hx) (by unfold SpT; decide)), fun i i' t t' ht ht' hne => ?_, M.d2, M.m1, M.m2, M.m3⟩
  · simp only [SpB.l, List.mem_cons, List.not_mem_nil, or_false] at hm
    rcases hm with rfl | rfl | rfl | rfl | rfl
    · exact own_far M.P.o J.hb (by decide) (mem_fpv.2 hk)
    · exact own_far M.P.o J.hu.b (by decide) (mem_fpv.2 hk)
    · exact own_far M.P.o J.hu.d (by decide) (mem_fpv.2 hk)
    · exact own_far M.P.o J.hm.b (by decide) (mem_fpv.2 hk)
    · exact own_far M.P.o J.hm.d (by decide) (mem_fpv.2 hk)
  · rw [e]; exact M.s.chg c (M.s.far J)
  · by_cases e : i = id
    · subst e
      have : some s' = some t := by rw [← ht]; exact (updF_same _ _ _).symm
      injection this with this
      rw [← this]; exact I
    · have ht2 : a.sp i = some t := by rw [← ht]; exact (updF_other _ _ e).symm
      exact (M.S i t ht2).chg c (fun k hk hm => M.d1 i id t s ht2 hs e k hk hm)
  · have get : ∀ i t, updF a.sp id (some s') i = some t → ∃ t2, a.sp i = some t2 := fun i t ht => by
      by_cases e : i = id
      · exact ⟨s, by rw [e]; exact hs⟩
      · exact ⟨t, by rw [← ht]; exact (updF_other _ _ e).symm⟩
    obtain ⟨t2, h2⟩ := get i t ht
    obtain ⟨t3, h3⟩ := get i' t' ht'
    exact M.d1 i i' t2 t3 h2 h3 hne
end
/-- A step of the arena. -/
structure StA (h : ArH) (a : Ar) (h' : ArH) (a' : Ar) (w w' : World) : Prop where
  os : w'.os = w.os
  tape : w'.tape = w.tape
  output : w'.output = w.output
  size : w.heap.size ≤ w'.heap.size
  block : ∀ k, k < w.heap.size → ¬ ArF h a k → w'.heap[k]? = w.heap[k]?
  fr : ∀ k, ArF h' a' k → ArF h a k ∨ w.heap.size ≤ k
section
variable {h h' h'' : ArH} {a a' a'' : Ar} {w w' w'' : World}
theorem StA.of_chg {S : List Nat} (c : Chg S w w') (hS : ∀ k ∈ S, ArF h a k ∨ w.heap.size ≤ k) (fr : ∀ k, ArF h' a' k → ArF h a k ∨ w.heap.size ≤ k) : StA h a h' a' w w' :=
  ⟨c.os, c.tape, c.output, c.size, fun k hk hn => c.block k hk (fun hm => by
    rcases hS k hm with h1 | h1
    · exact hn h1
    · omega), fr⟩
theorem StA.same (c : Chg [] w w') : StA h a h a w w' := StA.of_chg c (by simp) fun _ hk => .inl hk
theorem StA.trans (s : StA h a h' a' w w') (t : StA h' a' h'' a'' w' w'') : StA h a h'' a'' w w'' :=
  ⟨t.os.trans s.os, t.tape.trans s.tape, t.output.trans s.output, Nat.le_trans s.size t.size, fun k hk hn => (t.block k (Nat.lt_of_lt_of_le hk s.size) (fun hm => by
    rcases s.fr k hm with h1 | h1
    · exact hn h1
    · omega)).trans (s.block k hk hn), fun k hk => by
    rcases t.fr k hk with h1 | h1
    · exact s.fr k h1
    · exact .inr (Nat.le_trans s.size h1)⟩
end
end Go.Proofs.YtkocikpoagfonaaDoor
