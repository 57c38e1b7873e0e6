/- A program as an argument: its functions read; Great, one, Fit. -/
/- The document's instructions: kinds, fits, wrong. -/
/- The document's May, of a program that may be. -/
import Derived.Test.YtcpljjacamibeaaGreatDoorMcOJ
import Derived.Test.YtcpljjacamibeaaGreatDoorMClJ
namespace Go.Proofs.YtcpljjacamibeaaGreatDoor
set_option maxHeartbeats 16000000
set_option maxRecDepth 100000
open Go.RowKit Go.Maps
structure RdG {α : Type} (f : α → List Value) (sz : Nat) (w : World) (B : Nat) (v : Value) (xs : List α) : Prop where
  ex : ∃ A c, v = .slice A xs.length c
  at_ : ∀ A n c, v = .slice A n c → ∀ i x, xs[i]? = some x → ∃ b off, A = some ⟨b, off, none⟩ ∧ b < B ∧ ∀ j u, (f x)[j]? = some u → w.cell? ⟨b, off + i * sz + j, none⟩ = some u
structure PrR (w : World) (B : Nat) (v : Value) (vs : List Value) (fs : List (List Ins)) : Prop where
  o : RdV w B v vs
  n : vs.length = fs.length
  f : ∀ (i : Nat) u l, vs[i]? = some u → fs[i]? = some l → RdG insC 4 w B u l
section
variable {w w' : World} {B : Nat} {v : Value} {vs : List Value} {fs : List (List Ins)}
end
def sumL (fs : List (List Ins)) : Nat := (fs.map List.length).sum
def GreatR (w0 : World) (fs : List (List Ins)) (gk : Nat) (acc idx : Value) (w : World) : Prop := ∃ i : Nat, gk + i = fs.length + 1 ∧ i ≤ fs.length ∧ acc = .int .i64 ((fs.length + sumL (fs.take i) : Nat) : Int) ∧ idx = .int .i64 (i : Nat) ∧ w = w0
def ktab : List (List Int) :=
  [[0, 0, 0], [1, 6, 0], [1, 1, 6], [1, 6, 1], [1, 1, 0], [1, 0, 0], [1, 2, 0], [2, 1, 0], [3, 1, 0], [0, 0, 0], [0, 6, 6], [4, 0, 0], [4, 0, 0], [1, 1, 0], [5, 0, 0], [1, 1, 5], [6, 6, 0], [5, 0, 0]]
def kpart (k : Int) : Int := if k = 0 then 0 else if k = 6 then 1 else if k = 4 then 6 else if k = 5 then 5 else k + 1
theorem ktab_ptab : ktab.map (fun l => l.map kpart) = ptab := by decide
def allocL (w : World) (t : TypeId) (L : List (Array Value)) : World := L.foldl (fun w c => w.alloc (.cells c t)) w
theorem allocL_chg (t : TypeId) : ∀ (L : List (Array Value)) (w : World), Chg [] w (allocL w t L)
  | [], w => Chg.refl [] w
  | c :: L, w => ((Chg.refl [] w).alloc _).trans (allocL_chg t L _)
theorem allocL_size (t : TypeId) : ∀ (L : List (Array Value)) (w : World), (allocL w t L).heap.size = w.heap.size + L.length
  | [], w => rfl
  | c :: L, w => by
    show (allocL (w.alloc _) t L).heap.size = _
    rw [allocL_size t L, World.size_alloc, List.length_cons]; omega
theorem allocL_blk (t : TypeId) : ∀ (L : List (Array Value)) (w : World) (i : Nat) (c : Array Value), L[i]? = some c → Blk (allocL w t L) (w.heap.size + i) t c
  | c :: L, w, 0, c', h => by
    have e : c = c' := by simpa using h
    subst e
    exact (allocL_chg t L _).blk (Blk.new w t c) (by simp)
  | c :: L, w, i + 1, c', h => by
    have := allocL_blk t L (w.alloc (.cells c t)) i c' (by simpa using h)
    rw [World.size_alloc, show w.heap.size + 1 + i = w.heap.size + (i + 1) by omega] at this
    exact this
def kcL : List (Array Value) := ktab.map fun l => (l.map fun x => Value.int .i64 x).toArray
def kcT (b : Nat) : Array Value := ((List.range 18).map fun i => Value.slice (some ⟨b + i, 0, none⟩) 3 3).toArray
theorem kcT_at (b : Nat) {i : Nat} (h : i < 18) : (kcT b)[i]? = some (.slice (some ⟨b + i, 0, none⟩) 3 3) := by unfold kcT; simp [h]
theorem ktab_at {o : Nat} (h : o ≤ 17) : ∃ x y z, ktab[o]? = some [x, y, z] ∧ kcL[o]? = some #[.int .i64 x, .int .i64 y, .int .i64 z] ∧ 0 ≤ x ∧ x ≤ 6 ∧ 0 ≤ y ∧ y ≤ 6 ∧ 0 ≤ z ∧ z ≤ 6 := by
  have hh : o = 0 ∨ o = 1 ∨ o = 2 ∨ o = 3 ∨ o = 4 ∨ o = 5 ∨ o = 6 ∨ o = 7 ∨ o = 8 ∨ o = 9 ∨ o = 10 ∨ o = 11 ∨ o = 12 ∨ o = 13 ∨ o = 14 ∨ o = 15 ∨ o = 16 ∨ o = 17 := by omega
  rcases hh with rfl | rfl | rfl | rfl | rfl | rfl | rfl | rfl | rfl | rfl | rfl | rfl | rfl | rfl | rfl | rfl | rfl | rfl <;> exact ⟨_, _, _, rfl, rfl, by decide⟩
def KdPost (o : Nat) (w : World) (e : Ending) (w' : World) : Prop := ∃ g x y z, e = .returned (.slice (some ⟨g, 0, none⟩) 3 3) ∧ ktab[o]? = some [x, y, z] ∧ 0 ≤ x ∧ x ≤ 6 ∧ 0 ≤ y ∧ y ≤ 6 ∧ 0 ≤ z ∧ z ≤ 6 ∧ Blk w' g 3 #[.int .i64 x, .int .i64 y, .int .i64 z] ∧ w.heap.size ≤ g ∧ Chg [] w w'
theorem rkinds_ok (w : World) (o : Nat) (h : o ≤ 17) : Calls Tryz.prog 115 #[.int .i64 (o : Nat)] w (KdPost o w) := by
  go_enter Tryz.func115, Tryz.ntmps115
  go_upto_region 2 with fail
  obtain ⟨w2, hw2⟩ : ∃ w2, w2 = (allocL w 3 kcL).alloc (.cells (kcT w.heap.size) 37) := ⟨_, rfl⟩
  change Code.wp _ _ _ _ ((allocL w 3 kcL).alloc (.cells (kcT w.heap.size) 37))
  rw [← hw2]
  obtain ⟨x, y, z, hk, hc, hxyz⟩ := ktab_at h
  have c02 : Chg [] w w2 := by rw [hw2]; exact (allocL_chg _ _ w).alloc _
  have B : Blk w2 (w.heap.size + o) 3 #[.int .i64 x, .int .i64 y, .int .i64 z] := by rw [hw2]; exact (allocL_blk _ _ w o _ hc).alloc _
  have T : Blk w2 (w.heap.size + 1 + 1 + 1 + 1 + 1 + 1 + 1 + 1 + 1 + 1 + 1 + 1 + 1 + 1 + 1 + 1 + 1 + 1) 37 (kcT w.heap.size) := by
    rw [hw2]
    have hs : (allocL w 3 kcL).heap.size = w.heap.size + 18 := allocL_size _ _ w
    have := Blk.new (allocL w 3 kcL) 37 (kcT w.heap.size)
    rw [hs] at this
    exact this
  have t0 : w2.cell? ⟨w.heap.size + 1 + 1 + 1 + 1 + 1 + 1 + 1 + 1 + 1 + 1 + 1 + 1 + 1 + 1 + 1 + 1 + 1 + 1, o, none⟩ = some (.slice (some ⟨w.heap.size + o, 0, none⟩) 3 3) := T.cellv o (kcT_at _ (by omega))
  have e1 : (0 : Int) ≤ o := by omega
  have e2 : (o : Int) < 18 := by omega
  have H2 := Lib.hid (And.intro c02 (And.intro B (And.intro hk hxyz))); clear c02 B T hk hxyz hc hw2
  go_wp2_with fail
  go_ret
  have hx := H2.out.2.2.2
  exact ⟨_, x, y, z, rfl, H2.out.2.2.1, hx.1, hx.2.1, hx.2.2.1, hx.2.2.2.1, hx.2.2.2.2.1, hx.2.2.2.2.2, H2.out.2.1, by omega, H2.out.1⟩
theorem fits_form {G F S : Nat} {k : Int} (v : Nat) (h0 : 0 ≤ k) (h6 : k ≤ 6) : fitsP G F S (kpart k) v = decide ((v : Int) < (if k = 0 then 1 else if k = 1 then 16 else if k = 2 then (G : Int) else if k = 3 then (F : Int) else if k = 4 then 32 else if k = 5 then (S : Int) else 256)) := by
  have hh : k = 0 ∨ k = 1 ∨ k = 2 ∨ k = 3 ∨ k = 4 ∨ k = 5 ∨ k = 6 := by omega
  unfold fitsP
  rcases hh with rfl | rfl | rfl | rfl | rfl | rfl | rfl <;> simp [kpart, mostP]
theorem rfits_ok (w : World) (k : Int) (v G F S : Nat) (h0 : 0 ≤ k) (h6 : k ≤ 6) : Calls Tryz.prog 116 #[.int .i64 k, .int .i64 (v : Nat), .int .i64 (G : Nat), .int .i64 (F : Nat), .int .i64 (S : Nat)] w (NwPost (.bool (fitsP G F S (kpart k) v)) w) := by
  rw [fits_form v h0 h6]
  have hv : (0 : Int) ≤ v := by omega
  have hh : k = 0 ∨ k = 1 ∨ k = 2 ∨ k = 3 ∨ k = 4 ∨ k = 5 ∨ k = 6 := by omega
  clear h0 h6
  rcases hh with rfl | rfl | rfl | rfl | rfl | rfl | rfl
  all_goals
    go_enter Tryz.func116, Tryz.ntmps116
    go_wp2_with fail
    go_ret
    exact ⟨rfl, (Chg.refl [] w).alloc _⟩
theorem ktab_kp {o : Nat} {x y z : Int} (h : ktab[o]? = some [x, y, z]) : ptab[o]? = some [kpart x, kpart y, kpart z] := by
  rw [← ktab_ptab, List.getElem?_map, h]; rfl
def WrgRel (w0 : World) (gk : Nat) (idx : Value) (w : World) : Prop := ∃ i : Nat, gk + i = 4 ∧ i ≤ 3 ∧ idx = .int .i64 (i : Nat) ∧ Chg [] w0 w
def MayR1 (w0 : World) (n gk : Nat) (idx : Value) (w : World) : Prop := ∃ i : Nat, gk + i = n + 1 ∧ i ≤ n ∧ idx = .int .i64 (i : Nat) ∧ w = w0
def MayR2 (w0 : World) (n gk : Nat) (acc idx : Value) (w : World) : Prop := ∃ i k : Nat, gk + i = n + 1 ∧ i ≤ n ∧ k ≤ i * 64 ∧ acc = .int .i64 (k : Nat) ∧ idx = .int .i64 (i : Nat) ∧ Chg [] w0 w
def MayR3 (w0 : World) (n k0 gk : Nat) (acc idx : Value) (w : World) : Prop := ∃ i : Nat, gk + i = n + 1 ∧ i ≤ n ∧ acc = .int .i64 ((k0 + i : Nat) : Int) ∧ idx = .int .i64 (i : Nat) ∧ Chg [] w0 w
end Go.Proofs.YtcpljjacamibeaaGreatDoor
