/- Words for memory: a block that is known whole; only some blocks have changed. Plain theorems on worlds; no program in sight. -/
import Derived.Test.YtoeppmnoifankaaGreatDoorRows
import Derived.WalkKit
import Derived.WalkSpells
import Derived.WalkLawsBesides
import Derived.Lib.Hide
import Derived.Deep.QuietTactic
import Derived.BigQuiet
import Derived.Lib.SliceRun
import Derived.Laws.IdiomCopy
import Derived.Deep.OwnRows
namespace Go.Proofs.YtoeppmnoifankaaGreatDoor
open Go.RowKit

def Blk (w : World) (g : Nat) (t : TypeId) (cs : Array Value) : Prop := w.heap[g]? = some (.cells cs t (0, 0))

section
variable {w w' : World} {g : Nat} {t : TypeId} {cs : Array Value}
theorem Blk.lt (h : Blk w g t cs) : g < w.heap.size := by
  rcases Nat.lt_or_ge g w.heap.size with hlt | hge
  · exact hlt
  · unfold Blk at h; rw [Array.getElem?_eq_none hge] at h; cases h
theorem Blk.cell (h : Blk w g t cs) (i : Nat) : w.cell? ⟨g, i, none⟩ = cs[i]? := cell_of_row w g i cs t (0, 0) h
theorem Blk.cellv (h : Blk w g t cs) (i : Nat) {v : Value} (hv : cs[i]? = some v) : w.cell? ⟨g, i, none⟩ = some v := (h.cell i).trans hv
theorem Blk.frozen (h : Blk w g t cs) (i : Nat) : w.frozen? ⟨g, i, none⟩ = false := by
  unfold Blk at h
  simp [World.frozen?, h]
theorem Blk.new (w : World) (t : TypeId) (cs : Array Value) : Blk (w.alloc (.cells cs t)) w.heap.size t cs := heap_alloc_new w _
theorem Blk.drew (h : Blk w g t cs) : Blk w.drew g t cs := h
theorem Blk.alloc (h : Blk w g t cs) (o : Obj) : Blk (w.alloc o) g t cs := (Below.heap_alloc w o g h.lt).trans h
theorem Blk.set_ (h : Blk w g t cs) (i : Nat) (u : Value) : Blk (w.setCell ⟨g, i, none⟩ u) g t (cs.setIfInBounds i u) := by
  unfold Blk at h ⊢
  simp [World.setCell, Array.getElem?_modify, h]
theorem Blk.setv (h : Blk w g t cs) (i : Nat) (u : Value) {cs' : Array Value} (e : cs.setIfInBounds i u = cs') : Blk (w.setCell ⟨g, i, none⟩ u) g t cs' := by
  rw [← e]; exact h.set_ i u
theorem Blk.far (h : Blk w g t cs) {p : Addr} (hp : g ≠ p.block) (u : Value) : Blk (w.setCell p u) g t cs := (Below.heap_setCell w p u g hp).trans h
theorem Blk.ne_ {g' : Nat} {t' : TypeId} {cs' : Array Value} (h : Blk w g t cs) (h' : Blk w g' t' cs') (hne : t ≠ t') : g ≠ g' := by
  rintro rfl
  unfold Blk at h h'
  rw [h] at h'
  injection h' with h'
  injection h' with _ ht
  exact hne ht
end

/-- Only the blocks of S (and new ones) may have changed. -/
structure Chg (S : List Nat) (w w' : World) : Prop where
  os : w'.os = w.os
  tape : w'.tape = w.tape
  output : w'.output = w.output
  size : w.heap.size ≤ w'.heap.size
  block : ∀ k, k < w.heap.size → k ∉ S → w'.heap[k]? = w.heap[k]?

section
variable {S : List Nat} {a b w w' : World}
theorem Chg.refl (S : List Nat) (w : World) : Chg S w w := ⟨rfl, rfl, rfl, Nat.le_refl _, fun _ _ _ => rfl⟩
theorem Chg.trans {S : List Nat} {a b c : World} (h : Chg S a b) (k : Chg S b c) : Chg S a c :=
  ⟨k.os.trans h.os, k.tape.trans h.tape, k.output.trans h.output, Nat.le_trans h.size k.size,
    fun i hi hn => (k.block i (Nat.lt_of_lt_of_le hi h.size) hn).trans (h.block i hi hn)⟩
theorem Chg.mono {S T : List Nat} (h : Chg S a b) (hs : ∀ k ∈ S, k ∈ T ∨ a.heap.size ≤ k) : Chg T a b :=
  ⟨h.os, h.tape, h.output, h.size, fun k hk hn => h.block k hk (fun hm => by
    rcases hs k hm with h1 | h1
    · exact hn h1
    · omega)⟩
theorem Chg.drew (h : Chg S a w) : Chg S a w.drew := ⟨h.os, h.tape, h.output, h.size, h.block⟩
theorem Chg.drewN (h : Chg S a w) (n : Nat) : Chg S a (w.drewN n) := ⟨h.os, h.tape, h.output, h.size, h.block⟩
theorem Chg.alloc (h : Chg S a w) (o : Obj) : Chg S a (w.alloc o) :=
  h.trans ⟨rfl, rfl, rfl, by simp, fun k hk _ => Below.heap_alloc _ _ _ hk⟩
theorem Chg.setCell (h : Chg S a w) {p : Addr} (hp : p.block ∈ S ∨ a.heap.size ≤ p.block) (u : Value) : Chg S a (w.setCell p u) :=
  ⟨h.os, h.tape, h.output, by simpa [World.setCell] using h.size, fun k hk hn => (Below.heap_setCell _ _ _ _ (by
    rintro rfl
    rcases hp with hp | hp
    · exact hn hp
    · omega)).trans (h.block k hk hn)⟩
theorem Chg.grown {row : Option Nat} (h : Chg S a w) (hg : w.grownBy w' row) (hr : ∀ k, row = some k → k ∈ S ∨ a.heap.size ≤ k) : Chg S a w' :=
  ⟨hg.os.trans h.os, hg.tape.trans h.tape, hg.output.trans h.output, Nat.le_trans h.size hg.size, fun k hk hn =>
    (hg.block k (Nat.lt_of_lt_of_le hk h.size) (fun e => by
      rcases hr k e.symm with h1 | h1
      · exact hn h1
      · omega)).trans (h.block k hk hn)⟩
theorem Chg.below {B : Nat} (h : Chg S a w) (hB : B ≤ a.heap.size) (hs : ∀ k ∈ S, B ≤ k) : Below B a w :=
  ⟨h.os, h.tape, h.output, h.size, fun k hk => h.block k (by omega) (fun hm => by have := hs k hm; omega)⟩
theorem Chg.blk {g : Nat} {t : TypeId} {cs : Array Value} (h : Chg S a w) (hb : Blk a g t cs) (hn : g ∉ S) : Blk w g t cs :=
  (h.block g hb.lt hn).trans hb
theorem Chg.lt {k : Nat} (h : Chg S a w) (hk : k < a.heap.size) : k < w.heap.size := Nat.lt_of_lt_of_le hk h.size
end

section
variable {S : List Nat} {a w : World} {b : Nat} {t : TypeId}
/-- What a block holds behind a run of stores. -/
def putAll (cs : Array Value) : Nat → List Value → Array Value
  | _, [] => cs
  | o, v :: vs => putAll (cs.setIfInBounds o v) (o + 1) vs
end

/-- n cells of one value. -/
def zcells (v : Value) (n : Nat) : Array Value := Array.replicate n v
theorem zcells_list (v : Value) (n : Nat) : zcells v n = (List.replicate n v).toArray := by simp [zcells]
theorem madeCells_z (v : Value) (n : Nat) : madeCells #[v] n = zcells v n := by
  apply Array.ext_getElem?
  intro i
  simp only [madeCells, zcells]
  by_cases h : i < n <;> simp [h, Nat.mod_one]
theorem run_make_z {P : Program} (t e : TypeId) (z : Value) (bytes : Nat) (ht : P.underlying t = some (.slice e)) (hinfo : (P.info? e).map (fun i => (i.zero, i.size, i.bytes)) = some (some z, 1, bytes)) (hz1 : z.cells = #[z])
    (kl kc : IntKind) (n : Nat) (hbytes : bytes * n ≤ 281474976710656) (h63 : n ≤ 9223372036854775807) (w : World) :
    (Instr.makeSlice t (.int kl (n : Int)) (.int kc (n : Int))).run P w = .ok (.slice (some ⟨w.heap.size, 0, none⟩) n n) (w.alloc (.cells (zcells z n) e)) := by
  rw [← madeCells_z]; exact run_make_row' t e z bytes ht hinfo hz1 kl kc n hbytes h63 w

theorem Chg.cellv {S : List Nat} {a w : World} (h : Chg S a w) {b off : Nat} {v : Value} (hb : b < a.heap.size) (hn : b ∉ S) (hc : a.cell? ⟨b, off, none⟩ = some v) : w.cell? ⟨b, off, none⟩ = some v :=
  (World.cell?_of_block (w := a) (a := ⟨b, off, none⟩) (h.block b hb hn)).trans hc
theorem size_setCell (w : World) (a : Addr) (v : Value) : (w.setCell a v).heap.size = w.heap.size := by simp [World.setCell]
/-! A row that a slice owns: 'ownsRow' (the library's own word), its block known whole. -/
section
variable {w w' : World} {T : TypeId} {size n : Nat} {v : Value} {xs : List Value}
theorem own_open (h : w.ownsRow 0 T size v n xs) (hn : 0 < n) : ∃ g cap rest, v = .slice (some ⟨g, 0, none⟩) n cap ∧ Blk w g T (xs ++ rest).toArray ∧ xs.length + rest.length = cap * size ∧ n ≤ cap ∧ cap ≤ maxLen ∧ xs.length = n * size := by
  rcases h.2 with ⟨_, h0⟩ | ⟨g, cap, cur, rfl, _, hb, hc, hm, hs, ht⟩
  · omega
  · refine ⟨g, cap, cur.toList.drop (n * size), rfl, ?_, ?_, hc, hm, h.1⟩
    · have e : xs ++ cur.toList.drop (n * size) = cur.toList := by rw [← ht]; exact List.take_append_drop _ _
      rw [e]; exact hb
    · have e : (xs ++ cur.toList.drop (n * size)).length = cur.toList.length := by rw [← ht, List.take_append_drop]
      rw [List.length_append] at e
      rw [e, Array.length_toList, hs]
theorem own_mk {g cap : Nat} {rest : List Value} (hb : Blk w g T (xs ++ rest).toArray) (hl : xs.length + rest.length = cap * size) (hc : n ≤ cap) (hm : cap ≤ maxLen) (hx : xs.length = n * size) :
    w.ownsRow 0 T size (.slice (some ⟨g, 0, none⟩) n cap) n xs :=
  ⟨hx, .inr ⟨g, cap, _, rfl, Nat.zero_le _, hb, hc, hm, by simp [hl], by simp only [List.toList_toArray]; rw [← hx]; exact List.take_left⟩⟩
theorem own_chg {S : List Nat} (h : w.ownsRow 0 T size v n xs) (hc : Chg S w w') (hn : ∀ k, v.ownBlock = some k → k ∉ S) : w'.ownsRow 0 T size v n xs := by
  refine ⟨h.1, ?_⟩
  rcases h.2 with h0 | ⟨g, cap, cur, rfl, hb, hg, r⟩
  · exact .inl h0
  · exact .inr ⟨g, cap, cur, rfl, hb, Chg.blk hc hg (hn g rfl), r⟩
theorem own_lt (h : w.ownsRow 0 T size v n xs) {k : Nat} (hk : v.ownBlock = some k) : k < w.heap.size := (h.lt k hk).2
theorem own_ne {g : Nat} {t : TypeId} {cs : Array Value} (h : w.ownsRow 0 T size v n xs) (hg : Blk w g t cs) (hne : T ≠ t) : v.ownBlock ≠ some g := by
  rcases h.2 with ⟨rfl, _⟩ | ⟨g', cap, cur, rfl, _, hh, _⟩
  · simp [Value.ownBlock]
  · intro he
    have e : g' = g := by simpa [Value.ownBlock] using he
    subst e
    exact Blk.ne_ (t := T) hh hg hne rfl
end
/-- The footprint of a slice. -/
def fpv (v : Value) : List Nat := v.ownBlock.toList
theorem mem_fpv {v : Value} {k : Nat} : k ∈ fpv v ↔ v.ownBlock = some k := by
  unfold fpv; cases v.ownBlock <;> simp [eq_comm]
/-- A step of something that owned the blocks fp and owns the blocks fq now. -/
structure Stp (fp fq : List Nat) (w w' : World) : Prop where
  c : Chg fp w w'
  f : ∀ k ∈ fq, k ∈ fp ∨ w.heap.size ≤ k
theorem Stp.refl (fp : List Nat) (w : World) : Stp fp fp w w := ⟨Chg.refl _ _, fun _ h => .inl h⟩
end Go.Proofs.YtoeppmnoifankaaGreatDoor
