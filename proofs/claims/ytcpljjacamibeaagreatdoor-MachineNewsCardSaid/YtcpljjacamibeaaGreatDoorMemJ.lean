/- Words for memory: a block that is known whole; only some blocks have changed. Plain theorems on worlds; no program in sight. -/
/- Words of 64 bits that say which numbers are in a set. Plain laws; no program in sight. -/
/- The walks of package bits: sets of at most 64 numbers, in one word. -/
/- The walks of package bits: Next; math/bits.TrailingZeros64. -/
/- A list of integers that the call owns: append of one (no map, no view). Plain theorems on worlds; no program in sight. -/
/- The walk of package bits: All. -/
import Derived.Test.YtcpljjacamibeaaGreatDoorRows
import Derived.WalkKit
import Derived.WalkSpells
import Derived.WalkLawsBesides
import Derived.Lib.Hide
import Derived.Deep.QuietTactic
import Derived.BigQuiet
import Derived.Lib.SliceRun
import Derived.Laws.IdiomCopy
import Derived.Deep.OwnRows
import Derived.Laws.Bits64
import Derived.Laws.Bits64b
import Derived.Lib.TrailingZeros
import Derived.Deep.LoopGhost
import Derived.Deep.DeepCutAuto
import Derived.Deep.CutBlock
import Derived.Deep.RegionHeld3
import Derived.Deep.RegionLaw
import Derived.Maps.AppendAt
namespace Go.Proofs.YtcpljjacamibeaaGreatDoor
set_option maxHeartbeats 16000000
set_option maxRecDepth 100000
open Go.RowKit
def Blk (w : World) (g : Nat) (t : TypeId) (cs : Array Value) : Prop := w.heap[g]? = some (.cells cs t (0, 0))
section
variable {w w' : World} {g : Nat} {t : TypeId} {cs : Array Value}
theorem Blk.lt (h : Blk w g t cs) : g < w.heap.size := by
  rcases Nat.lt_or_ge g w.heap.size with hlt | hge
  · exact hlt
  · unfold Blk at h; rw [Array.getElem?_eq_none hge] at h; cases h
theorem Blk.cell (h : Blk w g t cs) (i : Nat) : w.cell? ⟨g, i, none⟩ = cs[i]? := cell_of_row w g i cs t (0, 0) h
theorem Blk.cellv (h : Blk w g t cs) (i : Nat) {v : Value} (hv : cs[i]? = some v) : w.cell? ⟨g, i, none⟩ = some v := (h.cell i).trans hv
theorem Blk.frozen (h : Blk w g t cs) (i : Nat) : w.frozen? ⟨g, i, none⟩ = false := by
  unfold Blk at h
  simp [World.frozen?, h]
theorem Blk.new (w : World) (t : TypeId) (cs : Array Value) : Blk (w.alloc (.cells cs t)) w.heap.size t cs := heap_alloc_new w _
theorem Blk.drew (h : Blk w g t cs) : Blk w.drew g t cs := h
theorem Blk.alloc (h : Blk w g t cs) (o : Obj) : Blk (w.alloc o) g t cs := (Below.heap_alloc w o g h.lt).trans h
theorem Blk.set_ (h : Blk w g t cs) (i : Nat) (u : Value) : Blk (w.setCell ⟨g, i, none⟩ u) g t (cs.setIfInBounds i u) := by
  unfold Blk at h ⊢
  simp [World.setCell, Array.getElem?_modify, h]
theorem Blk.setv (h : Blk w g t cs) (i : Nat) (u : Value) {cs' : Array Value} (e : cs.setIfInBounds i u = cs') : Blk (w.setCell ⟨g, i, none⟩ u) g t cs' := by
  rw [← e]; exact h.set_ i u
theorem Blk.far (h : Blk w g t cs) {p : Addr} (hp : g ≠ p.block) (u : Value) : Blk (w.setCell p u) g t cs := (Below.heap_setCell w p u g hp).trans h
theorem Blk.ne_ {g' : Nat} {t' : TypeId} {cs' : Array Value} (h : Blk w g t cs) (h' : Blk w g' t' cs') (hne : t ≠ t') : g ≠ g' := by
  rintro rfl
  unfold Blk at h h'
  rw [h] at h'
  injection h' with h'
  injection h' with _ ht
  exact hne ht
end
structure Chg (S : List Nat) (w w' : World) : Prop where
  os : w'.os = w.os
  tape : w'.tape = w.tape
  output : w'.output = w.output
  size : w.heap.size ≤ w'.heap.size
  block : ∀ k, k < w.heap.size → k ∉ S → w'.heap[k]? = w.heap[k]?
section
variable {S : List Nat} {a b w w' : World}
theorem Chg.refl (S : List Nat) (w : World) : Chg S w w := ⟨rfl, rfl, rfl, Nat.le_refl _, fun _ _ _ => rfl⟩
theorem Chg.trans {S : List Nat} {a b c : World} (h : Chg S a b) (k : Chg S b c) : Chg S a c :=
  ⟨k.os.trans h.os, k.tape.trans h.tape, k.output.trans h.output, Nat.le_trans h.size k.size,
    fun i hi hn => (k.block i (Nat.lt_of_lt_of_le hi h.size) hn).trans (h.block i hi hn)⟩
theorem Chg.mono {S T : List Nat} (h : Chg S a b) (hs : ∀ k ∈ S, k ∈ T ∨ a.heap.size ≤ k) : Chg T a b :=
  ⟨h.os, h.tape, h.output, h.size, fun k hk hn => h.block k hk (fun hm => by
    rcases hs k hm with h1 | h1
    · exact hn h1
    · omega)⟩
theorem Chg.drew (h : Chg S a w) : Chg S a w.drew := ⟨h.os, h.tape, h.output, h.size, h.block⟩
theorem Chg.drewN (h : Chg S a w) (n : Nat) : Chg S a (w.drewN n) := ⟨h.os, h.tape, h.output, h.size, h.block⟩
theorem Chg.alloc (h : Chg S a w) (o : Obj) : Chg S a (w.alloc o) :=
  h.trans ⟨rfl, rfl, rfl, by simp, fun k hk _ => Below.heap_alloc _ _ _ hk⟩
theorem Chg.setCell (h : Chg S a w) {p : Addr} (hp : p.block ∈ S ∨ a.heap.size ≤ p.block) (u : Value) : Chg S a (w.setCell p u) :=
  ⟨h.os, h.tape, h.output, by simpa [World.setCell] using h.size, fun k hk hn => (Below.heap_setCell _ _ _ _ (by
    rintro rfl
    rcases hp with hp | hp
    · exact hn hp
    · omega)).trans (h.block k hk hn)⟩
theorem Chg.grown {row : Option Nat} (h : Chg S a w) (hg : w.grownBy w' row) (hr : ∀ k, row = some k → k ∈ S ∨ a.heap.size ≤ k) : Chg S a w' :=
  ⟨hg.os.trans h.os, hg.tape.trans h.tape, hg.output.trans h.output, Nat.le_trans h.size hg.size, fun k hk hn =>
    (hg.block k (Nat.lt_of_lt_of_le hk h.size) (fun e => by
      rcases hr k e.symm with h1 | h1
      · exact hn h1
      · omega)).trans (h.block k hk hn)⟩
theorem Chg.below {B : Nat} (h : Chg S a w) (hB : B ≤ a.heap.size) (hs : ∀ k ∈ S, B ≤ k) : Below B a w :=
  ⟨h.os, h.tape, h.output, h.size, fun k hk => h.block k (by omega) (fun hm => by have := hs k hm; omega)⟩
theorem Chg.of_below (h : Below a.heap.size a w) : Chg S a w := ⟨h.os, h.tape, h.output, h.size, fun k hk _ => h.block k hk⟩
theorem Chg.blk {g : Nat} {t : TypeId} {cs : Array Value} (h : Chg S a w) (hb : Blk a g t cs) (hn : g ∉ S) : Blk w g t cs :=
  (h.block g hb.lt hn).trans hb
theorem Chg.lt {k : Nat} (h : Chg S a w) (hk : k < a.heap.size) : k < w.heap.size := Nat.lt_of_lt_of_le hk h.size
end
section
variable {S : List Nat} {a w : World} {b : Nat} {t : TypeId}
def putAll (cs : Array Value) : Nat → List Value → Array Value
  | _, [] => cs
  | o, v :: vs => putAll (cs.setIfInBounds o v) (o + 1) vs
end
def zcells (v : Value) (n : Nat) : Array Value := Array.replicate n v
theorem zcells_list (v : Value) (n : Nat) : zcells v n = (List.replicate n v).toArray := by simp [zcells]
theorem madeCells_z (v : Value) (n : Nat) : madeCells #[v] n = zcells v n := by
  apply Array.ext_getElem?
  intro i
  simp only [madeCells, zcells]
  by_cases h : i < n <;> simp [h, Nat.mod_one]
theorem run_make_z {P : Program} (t e : TypeId) (z : Value) (bytes : Nat) (ht : P.underlying t = some (.slice e)) (hinfo : (P.info? e).map (fun i => (i.zero, i.size, i.bytes)) = some (some z, 1, bytes)) (hz1 : z.cells = #[z])
    (kl kc : IntKind) (n : Nat) (hbytes : bytes * n ≤ 281474976710656) (h63 : n ≤ 9223372036854775807) (w : World) :
    (Instr.makeSlice t (.int kl (n : Int)) (.int kc (n : Int))).run P w = .ok (.slice (some ⟨w.heap.size, 0, none⟩) n n) (w.alloc (.cells (zcells z n) e)) := by
  rw [← madeCells_z]; exact run_make_row' t e z bytes ht hinfo hz1 kl kc n hbytes h63 w
theorem Chg.cellv {S : List Nat} {a w : World} (h : Chg S a w) {b off : Nat} {v : Value} (hb : b < a.heap.size) (hn : b ∉ S) (hc : a.cell? ⟨b, off, none⟩ = some v) : w.cell? ⟨b, off, none⟩ = some v :=
  (World.cell?_of_block (w := a) (a := ⟨b, off, none⟩) (h.block b hb hn)).trans hc
theorem size_setCell (w : World) (a : Addr) (v : Value) : (w.setCell a v).heap.size = w.heap.size := by simp [World.setCell]
theorem bools_get (l : List Bool) (k : Nat) (h : k < l.length) : (l.map Value.bool).toArray[k]? = some (.bool (l.getD k false)) := by simp [List.getD, h]
/-! A row that a slice owns: 'ownsRow' (the library's own word), its block known whole. -/
section
variable {w w' : World} {T : TypeId} {size n : Nat} {v : Value} {xs : List Value}
theorem own_open (h : w.ownsRow 0 T size v n xs) (hn : 0 < n) : ∃ g cap rest, v = .slice (some ⟨g, 0, none⟩) n cap ∧ Blk w g T (xs ++ rest).toArray ∧ xs.length + rest.length = cap * size ∧ n ≤ cap ∧ cap ≤ maxLen ∧ xs.length = n * size := by
  rcases h.2 with ⟨_, h0⟩ | ⟨g, cap, cur, rfl, _, hb, hc, hm, hs, ht⟩
  · omega
  · refine ⟨g, cap, cur.toList.drop (n * size), rfl, ?_, ?_, hc, hm, h.1⟩
    · have e : xs ++ cur.toList.drop (n * size) = cur.toList := by rw [← ht]; exact List.take_append_drop _ _
      rw [e]; exact hb
    · have e : (xs ++ cur.toList.drop (n * size)).length = cur.toList.length := by rw [← ht, List.take_append_drop]
      rw [List.length_append] at e
      rw [e, Array.length_toList, hs]
theorem own_mk {g cap : Nat} {rest : List Value} (hb : Blk w g T (xs ++ rest).toArray) (hl : xs.length + rest.length = cap * size) (hc : n ≤ cap) (hm : cap ≤ maxLen) (hx : xs.length = n * size) :
    w.ownsRow 0 T size (.slice (some ⟨g, 0, none⟩) n cap) n xs :=
  ⟨hx, .inr ⟨g, cap, _, rfl, Nat.zero_le _, hb, hc, hm, by simp [hl], by simp only [List.toList_toArray]; rw [← hx]; exact List.take_left⟩⟩
theorem own_chg {S : List Nat} (h : w.ownsRow 0 T size v n xs) (hc : Chg S w w') (hn : ∀ k, v.ownBlock = some k → k ∉ S) : w'.ownsRow 0 T size v n xs := by
  refine ⟨h.1, ?_⟩
  rcases h.2 with h0 | ⟨g, cap, cur, rfl, hb, hg, r⟩
  · exact .inl h0
  · exact .inr ⟨g, cap, cur, rfl, hb, Chg.blk hc hg (hn g rfl), r⟩
theorem own_lt (h : w.ownsRow 0 T size v n xs) {k : Nat} (hk : v.ownBlock = some k) : k < w.heap.size := (h.lt k hk).2
theorem own_ne {g : Nat} {t : TypeId} {cs : Array Value} (h : w.ownsRow 0 T size v n xs) (hg : Blk w g t cs) (hne : T ≠ t) : v.ownBlock ≠ some g := by
  rcases h.2 with ⟨rfl, _⟩ | ⟨g', cap, cur, rfl, _, hh, _⟩
  · simp [Value.ownBlock]
  · intro he
    have e : g' = g := by simpa [Value.ownBlock] using he
    subst e
    exact Blk.ne_ (t := T) hh hg hne rfl
end
def fpv (v : Value) : List Nat := v.ownBlock.toList
theorem mem_fpv {v : Value} {k : Nat} : k ∈ fpv v ↔ v.ownBlock = some k := by
  unfold fpv; cases v.ownBlock <;> simp [eq_comm]
structure Stp (fp fq : List Nat) (w w' : World) : Prop where
  c : Chg fp w w'
  f : ∀ k ∈ fq, k ∈ fp ∨ w.heap.size ≤ k
theorem Stp.refl (fp : List Nat) (w : World) : Stp fp fp w w := ⟨Chg.refl _ _, fun _ h => .inl h⟩
def bw (F : Nat → Bool) : Nat → Nat
  | 0 => 0
  | k + 1 => bw F k + if F k = true then 2 ^ k else 0
theorem bw_lt (F : Nat → Bool) : ∀ k, bw F k < 2 ^ k
  | 0 => by simp [bw]
  | k + 1 => by
    have := bw_lt F k
    rw [bw, Nat.pow_succ]
    split <;> omega
theorem bw_bit (F : Nat → Bool) : ∀ k j, (bw F k).testBit j = (decide (j < k) && F j)
  | 0, j => by simp [bw]
  | k + 1, j => by
    have ih := bw_bit F k
    have hl := bw_lt F k
    rw [bw]
    by_cases hF : F k = true
    · rw [if_pos hF, Nat.add_comm]
      rcases Nat.lt_trichotomy j k with h | h | h
      · rw [Nat.testBit_two_pow_add_gt h, ih, decide_eq_true h, decide_eq_true (by omega)]
      · subst h
        rw [Nat.testBit_two_pow_add_eq, ih, hF]
        simp
      · rw [Nat.testBit_lt_two_pow (Nat.lt_of_lt_of_le (Nat.add_lt_add_left hl _) (by rw [← Nat.two_mul, ← Nat.pow_succ']; exact Nat.pow_le_pow_right (by decide) h)), decide_eq_false (by omega)]
        rfl
    · rw [if_neg hF, Nat.add_zero, ih]
      by_cases h : j = k
      · subst h
        have : F j = false := by cases h2 : F j <;> simp_all
        rw [this]; simp
      · congr 1
        exact decide_eq_decide.2 (by omega)
def flipF (F : Nat → Bool) (i x : Nat) : Bool := if x = i then !(F x) else F x
theorem bw_div_bit (F : Nat → Bool) (k s j : Nat) : (bw F k / 2 ^ s).testBit j = (decide (s + j < k) && F (s + j)) := by
  rw [Nat.testBit_div_two_pow, bw_bit, Nat.add_comm]
theorem bw_has (F : Nat → Bool) {k s : Nat} (hs : s < k) : bw F k / 2 ^ s % 2 = if F s = true then 1 else 0 := by
  have h := bw_div_bit F k s 0
  rw [Nat.add_zero, Nat.testBit_zero, decide_eq_true hs, Bool.true_and] at h
  have h2 := Nat.mod_two_eq_zero_or_one (bw F k / 2 ^ s)
  cases hF : F s
  · rw [hF] at h
    rw [if_neg (by decide)]
    rcases h2 with h3 | h3
    · exact h3
    · rw [h3] at h; simp at h
  · rw [hF] at h
    rw [if_pos rfl]
    simpa using h
def NextSays (n : Nat) (G : Nat → Bool) (from_ : Nat) (r : Int) : Prop := (r = -1 ∧ ∀ x, from_ ≤ x → x < n → G x = false) ∨ ∃ y : Nat, r = y ∧ from_ ≤ y ∧ y < n ∧ G y = true ∧ ∀ x, from_ ≤ x → x < y → G x = false
def cntF (F : Nat → Bool) : Nat → Nat
  | 0 => 0
  | k + 1 => cntF F k + if F k = true then 1 else 0
structure IsSet (w : World) (g A n : Nat) (F : Nat → Bool) : Prop where
  b : Blk w g 341 #[.int .i64 n, .slice (some ⟨A, 0, none⟩) 1 1, .int .i64 (cntF F n)]
  d : Blk w A 290 #[.int .u64 (bw F 64)]
  z : ∀ x, n ≤ x → F x = false
  n1 : 1 ≤ n
  n64 : n ≤ 64
section
variable {w w' : World} {g A n : Nat} {F : Nat → Bool}
theorem IsSet.chg {S : List Nat} (h : IsSet w g A n F) (c : Chg S w w') (h1 : g ∉ S) (h2 : A ∉ S) : IsSet w' g A n F := ⟨c.blk h.b h1, c.blk h.d h2, h.z, h.n1, h.n64⟩
end
/-! New -/
def BnPost (n : Nat) (w : World) (e : Ending) (w' : World) : Prop := ∃ g A, e = .returned (.pointer (some ⟨g, 0, none⟩)) ∧ IsSet w' g A n (fun _ => false) ∧ Chg [] w w' ∧ w.heap.size ≤ g ∧ w.heap.size ≤ A
/-! Has -/
def hasI (F : Nat → Bool) (n : Nat) (i : Int) : Bool := decide (0 ≤ i ∧ i < n) && F i.toNat
def QuPost (v : Value) (w : World) (e : Ending) (w' : World) : Prop := e = .returned v ∧ w' = w
theorem bw_cast (F : Nat → Bool) (s : Nat) : ((bw F 64 : Nat) : Int) / 2 ^ s = ((bw F 64 / 2 ^ s : Nat) : Int) := by simp
theorem bw_small (F : Nat → Bool) (s : Nat) : bw F 64 / 2 ^ s < 18446744073709551616 := Nat.lt_of_le_of_lt (Nat.div_le_self ..) (bw_lt F 64)
theorem has_val (F : Nat → Bool) {s : Nat} (hs : s < 64) : (bits BinOp.and IntKind.u64 (((bw F 64 : Nat) : Int) / 2 ^ s) 1 == 1) = F s := by
  rw [bw_cast, show (1 : Int) = ((1 : Nat) : Int) from rfl, bits_and_u64_nat _ 1 (bw_small F s) (by omega), Nat.and_one_is_mod, bw_has F hs]
  cases F s <;> rfl
theorem bhas_ok (w : World) (g A n : Nat) (F : Nat → Bool) (I : IsSet w g A n F) (i : Int) : Calls Tryz.prog 161 #[.pointer (some ⟨g, 0, none⟩), .int .i64 i] w (QuPost (.bool (hasI F n i)) w) := by
  have b0 := I.b.cellv 0 rfl
  have b1 := I.b.cellv 1 rfl
  have d0 := I.d.cellv 0 rfl
  have hn := I.n64
  by_cases h0 : 0 ≤ i
  · by_cases h1 : i < n
    · obtain ⟨s, rfl⟩ : ∃ s : Nat, i = s := ⟨i.toNat, by omega⟩
      have e1 : (s : Int).tdiv 64 = 0 := by rw [Int.tdiv_eq_ediv_of_nonneg (by omega)]; omega
      have e2 : (s : Int).tmod 64 = s := by rw [Int.tmod_eq_emod_of_nonneg (by omega)]; omega
      have e3 : IntKind.u64.wrap (s : Int) = s := by rw [IntKind.wrap_u64]; omega
      have e4 : min s 64 = s := by omega
      go_enter Tryz.func161, Tryz.ntmps161
      go_wp2_with fail
      go_ret
      exact ⟨by rw [has_val F (by omega)]; unfold hasI; rw [decide_eq_true ⟨h0, h1⟩]; rfl, rfl⟩
    · have d1 : decide (i < n) = false := decide_eq_false h1
      go_enter Tryz.func161, Tryz.ntmps161
      go_wp2_with fail
      go_ret
      exact ⟨by unfold hasI; rw [decide_eq_false (by omega)]; rfl, rfl⟩
  · have d1 : decide (0 ≤ i) = false := decide_eq_false h0
    go_enter Tryz.func161, Tryz.ntmps161
    go_wp2_with fail
    go_ret
    exact ⟨by unfold hasI; rw [decide_eq_false (by omega)]; rfl, rfl⟩
/-! turn, Set, Clear -/
def BtPost (v : Value) (g A n : Nat) (F : Nat → Bool) (w : World) (e : Ending) (w' : World) : Prop := e = .returned v ∧ IsSet w' g A n F ∧ Chg [g, A] w w'
def setF (F : Nat → Bool) (i x : Nat) : Bool := if x = i then true else F x
def clrF (F : Nat → Bool) (i x : Nat) : Bool := if x = i then false else F x
theorem hasI_nat {F : Nat → Bool} {n s : Nat} (h : s < n) : hasI F n (s : Nat) = F s := by unfold hasI; rw [decide_eq_true ⟨by omega, by omega⟩]; rfl
theorem blen_ok (w : World) (g A n : Nat) (F : Nat → Bool) (I : IsSet w g A n F) : Calls Tryz.prog 315 #[.pointer (some ⟨g, 0, none⟩)] w (QuPost (.int .i64 n) w) := by
  have b0 := I.b.cellv 0 rfl
  go_enter Tryz.func315, Tryz.ntmps315
  go_wp2_with fail
  go_ret
  exact ⟨rfl, rfl⟩
def Tab (w : World) : Prop := ∀ j, j < 64 → w.cell? ⟨3, j, none⟩ = some (.int .u8 ((Lib.deBruijn64tab.getD j 0 : Nat) : Int))
theorem lt_of_cell {w : World} {b off : Nat} {v : Value} (h : w.cell? ⟨b, off, none⟩ = some v) : b < w.heap.size := by
  rcases Nat.lt_or_ge b w.heap.size with h1 | h1
  · exact h1
  · simp [World.cell?, Array.getElem?_eq_none h1] at h
def BxPost (n : Nat) (G : Nat → Bool) (f : Nat) (w : World) (e : Ending) (w' : World) : Prop := ∃ r, e = .returned (.int .i64 r) ∧ NextSays n G f r ∧ w' = w
def BxRel (w : World) (n : Nat) (G : Nat → Bool) (f : Nat) (gk : Nat) (idx : Value) (w' : World) : Prop :=
  (gk = 2 ∧ idx = .int .i64 (f : Nat) ∧ f < n ∧ w' = w) ∨ (gk = 1 ∧ idx = .int .i64 64 ∧ (∀ x, f ≤ x → x < n → G x = false) ∧ w' = w)
def notF (F : Nat → Bool) (x : Nat) : Bool := !(F x)
open Go.RowKit Go.Maps
structure SlTy (P : Program) (T E : TypeId) : Prop where
  s : P.underlying T = some (.slice E)
  i : (P.info? E).map (fun i => (i.zero, i.size, i.bytes)) = some (some (.int .i64 0), 1, 8)
structure OwnI (E : TypeId) (w : World) (v : Value) (xs : List Int) : Prop where
  o : w.ownsRow 0 E 1 v xs.length (xs.map (Value.int .i64))
section
variable {P : Program} {T E : TypeId} {w w' : World} {v : Value} {xs : List Int}
theorem OwnI.nil (E : TypeId) (w : World) : OwnI E w (.slice none 0 0) [] := ⟨World.ownsRow_nil _ _ _ _⟩
theorem OwnI.lt (h : OwnI E w v xs) {k : Nat} (hk : k ∈ fpv v) : k < w.heap.size := own_lt h.o (mem_fpv.1 hk)
theorem OwnI.chg {S : List Nat} (h : OwnI E w v xs) (c : Chg S w w') (hn : ∀ k ∈ fpv v, k ∉ S) : OwnI E w' v xs := ⟨own_chg h.o c fun k hk => hn k (mem_fpv.2 hk)⟩
theorem OwnI.chg0 (h : OwnI E w v xs) (c : Chg [] w w') : OwnI E w' v xs := h.chg c (by simp)
theorem OwnI.drewN (h : OwnI E w v xs) (n : Nat) : OwnI E (w.drewN n) v xs := ⟨h.o⟩
theorem OwnI.alloc (h : OwnI E w v xs) (o : Obj) : OwnI E (w.alloc o) v xs := ⟨h.o.alloc o⟩
theorem OwnI.slice (h : OwnI E w v xs) : ∃ A c, v = .slice A xs.length c := by
  rcases h.o.2 with ⟨rfl, h0⟩ | ⟨g, cap, cur, rfl, _⟩
  · exact ⟨none, 0, by rw [h0]⟩
  · exact ⟨_, _, rfl⟩
theorem OwnI.cell {A : Option Addr} {n c i : Nat} {x : Int} (h : OwnI E w (.slice A n c) xs) (hx : xs[i]? = some x) : ∃ g, A = some ⟨g, 0, none⟩ ∧ w.cell? ⟨g, i, none⟩ = some (.int .i64 x) ∧ w.frozen? ⟨g, i, none⟩ = false ∧ n = xs.length := by
  rcases h.o.2 with ⟨_, h0⟩ | ⟨g, cap, cur, e, _, hh, hc, hm, hs, ht⟩
  · have : xs = [] := List.eq_nil_of_length_eq_zero h0
    subst this; simp at hx
  · injection e with e1 e2 e3
    refine ⟨g, e1, ?_, Blk.frozen (t := E) (cs := cur) hh i, e2⟩
    rw [Blk.cell (t := E) (cs := cur) hh]
    have h1 : (cur.toList.take (xs.length * 1))[i]? = some (.int .i64 x) := by rw [ht]; simp [hx]
    rw [List.getElem?_take] at h1
    split at h1
    · simpa using h1
    · cases h1
theorem news_one (w : World) (u : Value) (E : TypeId) : ∀ j x, [u][j]? = some x → (w.alloc (.cells #[u] E)).cell? ((⟨w.heap.size, 0, none⟩ : Addr).add j) = some x := cell_one_new w u E
theorem run_push_int (t : SlTy P T E) (ty : TypeId) (h : OwnI E w v xs) (z : Int) (hl : xs.length + 1 ≤ 1000000000000) :
    ∃ v' w', (Builtin.append_ #[T, T] ty #[v, .slice (some ⟨w.heap.size, 0, none⟩) 1 1]).run P (w.alloc (.cells #[.int .i64 z] E)) = .ok v' w' ∧ OwnI E w' v' (xs ++ [z]) ∧ Stp (fpv v) (fpv v') w w' := by
  obtain ⟨i, hi, hz, hs, hb⟩ := info_parts t.i
  obtain ⟨v', w', hrun, h1, h2, h3, h4⟩ := run_append_own_at (P := P) (w.alloc (.cells #[.int .i64 z] E)) 0 T ty E i (.int .i64 0) 1 8 t.s hi hz hs hb rfl (by decide) v xs.length (xs.map (Value.int .i64)) (h.o.alloc _) ⟨w.heap.size, 0, none⟩ 1 1 [.int .i64 z] rfl (news_one w _ E) (by intro u hu; simp at hu; subst hu; rfl) (by unfold maxLen; omega) (by omega) (Nat.zero_le _)
  refine ⟨v', w', hrun, ⟨by simpa using h1⟩, ⟨((Chg.refl (fpv v) w).alloc _).grown h2 fun k hk => .inl (mem_fpv.2 hk), fun k hk => ?_⟩⟩
  rcases h4 with h4 | h4
  · rw [mem_fpv, h4] at hk; exact .inl (mem_fpv.2 hk)
  · rw [mem_fpv, h4] at hk
    injection hk with hk
    rw [World.size_alloc] at hk
    exact .inr (by omega)
theorem wpList_push_int {ops : Array Oper} {rest : List Oper} {o : Oper} {a : Act} {Q : Exit → Act → World → Prop} (hgd : o.guard = none) (s x : Operand)
    (ho : o.op = .call { callee := .builtin .append, args := #[s, x], argTypes := #[T, T] }) (t : SlTy P T E) (hs : a.eval s = v) (h : OwnI E w v xs) {z : Int} (hx : a.eval x = .slice (some ⟨w.heap.size, 0, none⟩) 1 1) (hl : xs.length + 1 ≤ 1000000000000)
    (hK : ∀ A' c' w', OwnI E w' (.slice A' (xs.length + 1) c') (xs ++ [z]) → Stp (fpv v) (fpv (.slice A' (xs.length + 1) c')) w w' → wpList P ops Q rest (a.put o.dst (.slice A' (xs.length + 1) c')) w') : wpList P ops Q (o :: rest) a (w.alloc (.cells #[.int .i64 z] E)) := by
  obtain ⟨v', w', hr, h2, h3⟩ := run_push_int t o.type h z hl
  obtain ⟨A', c', e⟩ := h2.slice
  rw [List.length_append, List.length_singleton] at e
  subst e
  refine wpList_plain hgd fun K' hK' => ?_
  unfold Oper.wp execOp
  simp only [ho, resolve, invoke, builtin, Sem.run_bind, Sem.run_pure, Result.andThen_ok, List.map_toArray, List.map_cons, List.map_nil, hs, hx, hr]
  exact hK' _ _ (hK A' c' w' h2 h3)
end
def allN (F : Nat → Bool) (n : Nat) : List Nat := (List.range n).filter F
def intsN (l : List Nat) : List Int := l.map fun (x : Nat) => (x : Int)
def BaPost (xs : List Nat) (w : World) (e : Ending) (w' : World) : Prop := ∃ v, e = .returned v ∧ OwnI 3 w' v (intsN xs) ∧ Chg [] w w' ∧ ∀ k ∈ fpv v, w.heap.size ≤ k
def BaRel (w0 : World) (n : Nat) (F : Nat → Bool) (gk : Nat) (v idx : Value) (w : World) : Prop :=
  ∃ j m, gk + j = cntF F n + 1 ∧ j ≤ cntF F n ∧ idx = .int .i64 (j : Nat) ∧ m ≤ n ∧ (allN F m).length = j ∧ (m = 0 ∨ F (m - 1) = true) ∧ OwnI 3 w v (intsN (allN F m)) ∧ Chg [] w0 w ∧ ∀ k ∈ fpv v, w0.heap.size ≤ k
theorem Chg.newS {T : List Nat} {a w w' : World} (h : Chg [] a w) (c : Chg T w w') (hT : ∀ k ∈ T, a.heap.size ≤ k) : Chg [] a w' :=
  ⟨c.os.trans h.os, c.tape.trans h.tape, c.output.trans h.output, Nat.le_trans h.size c.size, fun k hk _ =>
    (c.block k (Nat.lt_of_lt_of_le hk h.size) (fun hm => by have := hT k hm; omega)).trans (h.block k hk (by simp))⟩
theorem slZ : SlTy Tryz.prog 37 3 := ⟨Tryz.underlying37, by kernel_rfl⟩
end Go.Proofs.YtcpljjacamibeaaGreatDoor
