/- AuditEach: the view that it builds, spoilt in eight ways; what is broken then. -/
import Derived.Test.YtfkgooliglcjkaaAu5
import Derived.Test.YtfkgooliglcjkaaVwBuild
namespace Go.Proofs.Ytfkgooliglcjkaa
open Go.RowKit Go.Maps

def z16 (n : Nat) : List Int := List.replicate n 0
def eV (gl1 st2 p2 a2 sl notes phase : Int) (m1 m2 : Bool) (n1 : Nat) : Vw :=
  ⟨phase, 0, 0, [64, gl1], [⟨2, 0, z16 n1⟩, ⟨st2, p2, z16 16⟩], [⟨64, [sl], m1⟩, ⟨a2, [0, 64], m2⟩], 0, notes, 0⟩
structure EvI (w0 : World) (n s2 : Nat) (gl1 st2 p2 a2 sl notes phase : Int) (m1 m2 : Bool) (n1 : Nat) (w : World) : Prop where
  hn : w0.heap.size ≤ n
  hs : s2 = n + 1 + 1 ∨ n + 8 ≤ s2
  k0 : Blk w n 3 #[.int .i64 64, .int .i64 gl1]
  k1 : Blk w (n + 1) 3 (zcells (.int .i64 0) 16)
  k2 : Blk w s2 3 (zcells (.int .i64 0) 16)
  k3 : Blk w (n + 1 + 1 + 1) 41 #[.int .i64 2, .int .i64 0, .slice (some ⟨n + 1, 0, none⟩) n1 16, .int .i64 st2, .int .i64 p2, .slice (some ⟨s2, 0, none⟩) 16 16]
  k4 : Blk w (n + 1 + 1 + 1 + 1) 3 #[.int .i64 sl]
  k5 : Blk w (n + 1 + 1 + 1 + 1 + 1) 3 #[.int .i64 0, .int .i64 64]
  k6 : Blk w (n + 1 + 1 + 1 + 1 + 1 + 1) 30 #[.int .i64 64, .slice (some ⟨n + 1 + 1 + 1 + 1, 0, none⟩) 1 1, .bool m1, .int .i64 a2, .slice (some ⟨n + 1 + 1 + 1 + 1 + 1, 0, none⟩) 2 2, .bool m2]
  k7 : Blk w (n + 1 + 1 + 1 + 1 + 1 + 1 + 1) 26 #[.int .i64 phase, .int .i64 0, .int .i64 0, .slice (some ⟨n, 0, none⟩) 2 2, .slice (some ⟨n + 1 + 1 + 1, 0, none⟩) 2 2, .slice (some ⟨n + 1 + 1 + 1 + 1 + 1 + 1, 0, none⟩) 2 2, .int .i64 0, .int .i64 notes, .int .i64 0]
  c : Chg [] w0 w
section
variable {w0 w w' : World} {n s2 : Nat} {gl1 st2 p2 a2 sl notes phase : Int} {m1 m2 : Bool} {n1 : Nat}
theorem EvI.chg (h : EvI w0 n s2 gl1 st2 p2 a2 sl notes phase m1 m2 n1 w) (c : Chg [] w w') : EvI w0 n s2 gl1 st2 p2 a2 sl notes phase m1 m2 n1 w' :=
  ⟨h.hn, h.hs, c.blk h.k0 (by simp), c.blk h.k1 (by simp), c.blk h.k2 (by simp), c.blk h.k3 (by simp), c.blk h.k4 (by simp), c.blk h.k5 (by simp), c.blk h.k6 (by simp), c.blk h.k7 (by simp), h.c.trans c⟩
theorem EvI.mk0 (n1 : Nat) (h : EvI w0 n s2 gl1 st2 p2 a2 sl notes phase m1 m2 n1 w) {g i : Nat} {u : Value} (hg : n ≤ g) : Chg [] w0 (w.setCell ⟨g, i, none⟩ u) := h.c.setCell (.inr (Nat.le_trans h.hn hg)) _
theorem EvI.s1 (h : EvI w0 n s2 gl1 st2 p2 a2 sl notes phase m1 m2 n1 w) : EvI w0 n s2 69 st2 p2 a2 sl notes phase m1 m2 n1 (w.setCell ⟨n, 1, none⟩ (.int .i64 69)) := by
  have := h.hs
  exact ⟨h.hn, h.hs, h.k0.setv 1 _ rfl, h.k1.far (by dsimp only; omega) _, h.k2.far (by dsimp only; omega) _, h.k3.far (by dsimp only; omega) _, h.k4.far (by dsimp only; omega) _, h.k5.far (by dsimp only; omega) _, h.k6.far (by dsimp only; omega) _, h.k7.far (by dsimp only; omega) _, h.mk0 n1 (Nat.le_refl _)⟩
theorem EvI.s2a (h : EvI w0 n s2 gl1 st2 p2 a2 sl notes phase m1 m2 n1 w) : EvI w0 n s2 gl1 st2 p2 64 sl notes phase m1 m2 n1 (w.setCell ⟨n + 1 + 1 + 1 + 1 + 1 + 1, 3, none⟩ (.int .i64 64)) := by
  have := h.hs
  exact ⟨h.hn, h.hs, h.k0.far (by dsimp only; omega) _, h.k1.far (by dsimp only; omega) _, h.k2.far (by dsimp only; omega) _, h.k3.far (by dsimp only; omega) _, h.k4.far (by dsimp only; omega) _, h.k5.far (by dsimp only; omega) _, h.k6.setv 3 _ rfl, h.k7.far (by dsimp only; omega) _, h.mk0 n1 (by omega)⟩
theorem EvI.s2b (h : EvI w0 n s2 gl1 st2 p2 a2 sl notes phase m1 m2 n1 w) : EvI w0 n s2 gl1 st2 p2 a2 0 notes phase m1 m2 n1 (w.setCell ⟨n + 1 + 1 + 1 + 1, 0, none⟩ (.int .i64 0)) := by
  have := h.hs
  exact ⟨h.hn, h.hs, h.k0.far (by dsimp only; omega) _, h.k1.far (by dsimp only; omega) _, h.k2.far (by dsimp only; omega) _, h.k3.far (by dsimp only; omega) _, h.k4.setv 0 _ rfl, h.k5.far (by dsimp only; omega) _, h.k6.far (by dsimp only; omega) _, h.k7.far (by dsimp only; omega) _, h.mk0 n1 (by omega)⟩
theorem EvI.s4 (h : EvI w0 n s2 gl1 st2 p2 a2 sl notes phase m1 m2 n1 w) : EvI w0 n s2 gl1 st2 0 a2 sl notes phase m1 m2 n1 (w.setCell ⟨n + 1 + 1 + 1, 4, none⟩ (.int .i64 0)) := by
  have := h.hs
  exact ⟨h.hn, h.hs, h.k0.far (by dsimp only; omega) _, h.k1.far (by dsimp only; omega) _, h.k2.far (by dsimp only; omega) _, h.k3.setv 4 _ rfl, h.k4.far (by dsimp only; omega) _, h.k5.far (by dsimp only; omega) _, h.k6.far (by dsimp only; omega) _, h.k7.far (by dsimp only; omega) _, h.mk0 n1 (by omega)⟩
theorem EvI.s5 (h : EvI w0 n s2 gl1 st2 p2 a2 sl notes phase m1 m2 n1 w) : EvI w0 n s2 gl1 st2 p2 a2 sl 1 phase m1 m2 n1 (w.setCell ⟨n + 1 + 1 + 1 + 1 + 1 + 1 + 1, 7, none⟩ (.int .i64 1)) := by
  have := h.hs
  exact ⟨h.hn, h.hs, h.k0.far (by dsimp only; omega) _, h.k1.far (by dsimp only; omega) _, h.k2.far (by dsimp only; omega) _, h.k3.far (by dsimp only; omega) _, h.k4.far (by dsimp only; omega) _, h.k5.far (by dsimp only; omega) _, h.k6.far (by dsimp only; omega) _, h.k7.setv 7 _ rfl, h.mk0 n1 (by omega)⟩
theorem EvI.s6a (h : EvI w0 n s2 gl1 st2 p2 a2 sl notes phase m1 m2 n1 w) : EvI w0 n s2 gl1 st2 p2 a2 sl notes 2 m1 m2 n1 (w.setCell ⟨n + 1 + 1 + 1 + 1 + 1 + 1 + 1, 0, none⟩ (.int .i64 2)) := by
  have := h.hs
  exact ⟨h.hn, h.hs, h.k0.far (by dsimp only; omega) _, h.k1.far (by dsimp only; omega) _, h.k2.far (by dsimp only; omega) _, h.k3.far (by dsimp only; omega) _, h.k4.far (by dsimp only; omega) _, h.k5.far (by dsimp only; omega) _, h.k6.far (by dsimp only; omega) _, h.k7.setv 0 _ rfl, h.mk0 n1 (by omega)⟩
theorem EvI.s6b (h : EvI w0 n s2 gl1 st2 p2 a2 sl notes phase m1 m2 n1 w) : EvI w0 n s2 gl1 st2 p2 a2 sl notes phase true m2 n1 (w.setCell ⟨n + 1 + 1 + 1 + 1 + 1 + 1, 2, none⟩ (.bool true)) := by
  have := h.hs
  exact ⟨h.hn, h.hs, h.k0.far (by dsimp only; omega) _, h.k1.far (by dsimp only; omega) _, h.k2.far (by dsimp only; omega) _, h.k3.far (by dsimp only; omega) _, h.k4.far (by dsimp only; omega) _, h.k5.far (by dsimp only; omega) _, h.k6.setv 2 _ rfl, h.k7.far (by dsimp only; omega) _, h.mk0 n1 (by omega)⟩
theorem EvI.s7 (h : EvI w0 n s2 gl1 st2 p2 a2 sl notes phase m1 m2 n1 w) : EvI w0 n s2 gl1 st2 p2 a2 sl notes phase m1 m2 15 (w.setCell ⟨n + 1 + 1 + 1, 2, none⟩ (.slice (some ⟨n + 1, 0, none⟩) 15 16)) := by
  have := h.hs
  exact ⟨h.hn, h.hs, h.k0.far (by dsimp only; omega) _, h.k1.far (by dsimp only; omega) _, h.k2.far (by dsimp only; omega) _, h.k3.setv 2 _ rfl, h.k4.far (by dsimp only; omega) _, h.k5.far (by dsimp only; omega) _, h.k6.far (by dsimp only; omega) _, h.k7.far (by dsimp only; omega) _, h.mk0 n1 (by omega)⟩
theorem EvI.s8 (h : EvI w0 n s2 gl1 st2 p2 a2 sl notes phase m1 m2 n1 w) : EvI w0 n s2 gl1 st2 p2 a2 sl notes phase m1 true n1 (w.setCell ⟨n + 1 + 1 + 1 + 1 + 1 + 1, 5, none⟩ (.bool true)) := by
  have := h.hs
  exact ⟨h.hn, h.hs, h.k0.far (by dsimp only; omega) _, h.k1.far (by dsimp only; omega) _, h.k2.far (by dsimp only; omega) _, h.k3.far (by dsimp only; omega) _, h.k4.far (by dsimp only; omega) _, h.k5.far (by dsimp only; omega) _, h.k6.setv 5 _ rfl, h.k7.far (by dsimp only; omega) _, h.mk0 n1 (by omega)⟩
theorem z_sl {g m : Nat} (h : Blk w g 3 (zcells (.int .i64 0) 16)) (hm : m ≤ 16) : SlI w w.heap.size (.slice (some ⟨g, 0, none⟩) m 16) (z16 m) :=
  ⟨⟨some ⟨g, 0, none⟩, 16, by simp [z16]⟩, by unfold maxLen; simp [z16]; omega, (fun A k c e i x hx => by
    injection e with e1 e2 e3
    have hi := (List.getElem?_eq_some_iff.1 hx).1
    have hx0 : x = 0 := List.eq_of_mem_replicate (List.mem_of_getElem? hx)
    simp [z16] at hi
    exact ⟨g, 0, e1.symm, h.lt, by rw [Nat.zero_add, h.cell, hx0]; unfold zcells; rw [Array.getElem?_replicate, if_pos (by omega)]⟩), fun x hx => by rw [List.eq_of_mem_replicate hx]; exact wf0⟩
theorem EvI.vw (h : EvI w0 n s2 gl1 st2 p2 a2 sl notes phase m1 m2 n1 w) (hn1 : n1 ≤ 16) (h1 : WfI gl1) (h2 : WfI st2) (h3 : WfI p2) (h4 : WfI a2) (h5 : WfI sl) (h6 : WfI notes) (h7 : WfI phase) :
    VwAt w w.heap.size (.agg #[.int .i64 phase, .int .i64 0, .int .i64 0, .slice (some ⟨n, 0, none⟩) 2 2, .slice (some ⟨n + 1 + 1 + 1, 0, none⟩) 2 2, .slice (some ⟨n + 1 + 1 + 1 + 1 + 1 + 1, 0, none⟩) 2 2, .int .i64 0, .int .i64 notes, .int .i64 0]) (eV gl1 st2 p2 a2 sl notes phase m1 m2 n1) := by
  have w64 : WfI 64 := ⟨by decide, by decide⟩
  have w2 : WfI 2 := ⟨by decide, by decide⟩
  refine ⟨⟨_, some ⟨n + 1 + 1 + 1, 0, none⟩, 2, some ⟨n + 1 + 1 + 1 + 1 + 1 + 1, 0, none⟩, 2, rfl, SlI.blk (xs := [64, gl1]) h.k0 (by show 2 ≤ maxLen; decide) (by intro x hx; simp at hx; rcases hx with rfl | rfl; exact w64; exact h1), ⟨fun i g hg => ?_⟩, ⟨fun i o ho => ?_⟩, by show 2 ≤ maxLen; decide, by show 2 ≤ maxLen; decide⟩, h7, wf0, wf0, wf0, h6, wf0⟩
  · match i, hg with
    | 0, hg => have e : (⟨2, 0, z16 n1⟩ : Gr) = g := by simpa [eV] using hg
               subst e; exact ⟨_, 0, _, rfl, h.k3.lt, h.k3.cellv 0 rfl, h.k3.cellv 1 rfl, h.k3.cellv 2 rfl, z_sl h.k1 hn1, w2, wf0⟩
    | 1, hg => have e : (⟨st2, p2, z16 16⟩ : Gr) = g := by simpa [eV] using hg
               subst e; exact ⟨_, 0, _, rfl, h.k3.lt, h.k3.cellv 3 rfl, h.k3.cellv 4 rfl, h.k3.cellv 5 rfl, z_sl h.k2 (Nat.le_refl _), h2, h3⟩
    | k + 2, hg => simp [eV] at hg
  · match i, ho with
    | 0, ho => have e : (⟨64, [sl], m1⟩ : Ob) = o := by simpa [eV] using ho
               subst e; exact ⟨_, 0, _, rfl, h.k6.lt, h.k6.cellv 0 rfl, h.k6.cellv 1 rfl, h.k6.cellv 2 rfl, SlI.blk (xs := [sl]) h.k4 (by show 1 ≤ maxLen; decide) (by intro x hx; simp at hx; subst hx; exact h5), w64⟩
    | 1, ho => have e : (⟨a2, [0, 64], m2⟩ : Ob) = o := by simpa [eV] using ho
               subst e; exact ⟨_, 0, _, rfl, h.k6.lt, h.k6.cellv 3 rfl, h.k6.cellv 4 rfl, h.k6.cellv 5 rfl, SlI.blk (xs := [0, 64]) h.k5 (by show 2 ≤ maxLen; decide) (by intro x hx; simp at hx; rcases hx with rfl | rfl; exact wf0; exact w64), h4⟩
    | k + 2, ho => simp [eV] at ho
theorem eV_small (h : n1 ≤ 16) : Small (eV gl1 st2 p2 a2 sl notes phase m1 m2 n1) := by
  refine ⟨?_, by simp [eV], by simp [eV]⟩
  unfold Vw.names Vw.said eV z16
  simp only [List.length_append, List.length_flatMap]
  by_cases e : st2 = 5 <;> simp [e] <;> omega
end
/-! What is broken. -/
theorem ob_no {sl : Int} {gl1 st2 p2 notes phase : Int} {m1 m2 : Bool} {n1 : Nat} : brkOb (eV gl1 st2 p2 68 sl notes phase m1 m2 n1) = false := by
  refine brkOb_no fun j hj => ?_
  rintro ⟨o, ho, h⟩
  match j, ho with
  | 0, ho =>
    have e : (⟨64, [sl], m1⟩ : Ob) = o := by simpa [eV] using ho
    subst e
    rcases h with h | h | ⟨j, p, h, _⟩
    · exact absurd h (by show ¬ (64 : Int) < 64; decide)
    · exact absurd h (by show ¬ owN 1 = 0; decide)
    · omega
  | 1, ho =>
    have e : (⟨68, [0, 64], m2⟩ : Ob) = o := by simpa [eV] using ho
    subst e
    rcases h with h | h | ⟨j, p, h, hp, h3⟩
    · exact absurd h (by show ¬ (68 : Int) < 64; decide)
    · exact absurd h (by show ¬ owN 2 = 0; decide)
    · have e : j = 0 := by omega
      subst e
      have e : (⟨64, [sl], m1⟩ : Ob) = p := by simpa [eV] using hp
      subst e
      rcases h3 with h3 | h3
      · exact absurd h3 (by show ¬ (68 : Int) ≤ 64; decide)
      · exact absurd h3 (by show ¬ ((68 : Int) - 64 < ((owN 1 : Nat) : Int)); decide)
  | k + 2, ho => simp [eV] at ho
theorem pl_no {ps gl1 st2 p2 a2 sl notes phase : Int} {m1 m2 : Bool} {n1 : Nat} (h : 1 ≤ ps) (h2 : (st2 = 2 ∧ p2 = 0) ∨ (st2 = 3 ∧ p2 = -1)) : brkPl (eV gl1 st2 p2 a2 sl notes phase m1 m2 n1) ps = false := by
  unfold brkPl eV badG
  rcases h2 with ⟨rfl, rfl⟩ | ⟨rfl, rfl⟩ <;> simp <;> omega
theorem pl_yes {ps gl1 a2 sl notes phase : Int} {m1 m2 : Bool} {n1 : Nat} : brkPl (eV gl1 3 0 a2 sl notes phase m1 m2 n1) ps = true := by
  unfold brkPl eV badG
  simp
open Classical in
theorem brkWhite_yes {V : Vw} {S : List Int} {x : Int} (hp : V.phase = 2) (h : rchB V S = true) (hx : x ∈ S) (hs : (V.at_ x).isSome = true) (hm : V.markedAt x = false) : brkWhite V = true := by
  unfold brkWhite brkWh
  rw [show (V.phase == 2) = true by rw [beq_iff_eq]; exact hp, Bool.true_and]
  exact decide_eq_true ⟨x, ⟨(rch_of h x).2 hx, hs⟩, hm⟩
def oneAt (k : Nat) : List Bool := (List.range 8).map fun j => j + 1 == k
theorem out_0 {bs : List Bool} (h : bs = [false, false, false, false, false, false, false, false]) : outN bs 8 = [] := by rw [h]; rfl
section
variable {ps : Int} (hp : 1 ≤ ps)
include hp
theorem e0 : outN (brks (eV 0 3 (-1) 68 68 0 0 false false 16) ps) 8 = [] := by
  refine out_0 ?_
  unfold brks
  rw [brkLost_no (S := [64, 68]) (by decide) (by decide), ob_no, pl_no hp (.inr ⟨rfl, rfl⟩), brkWhite_no (by decide)]
  rfl
theorem e1 : outN (brks (eV 69 3 (-1) 68 68 0 0 false false 16) ps) 8 = [1] := by
  have : brks (eV 69 3 (-1) 68 68 0 0 false false 16) ps = [true, false, false, false, false, false, false, false] := by
    unfold brks
    rw [brkLost_yes (S := [64, 69, 68]) (x := 69) (by decide) (by decide) (by decide), ob_no, pl_no hp (.inr ⟨rfl, rfl⟩), brkWhite_no (by decide)]
    rfl
  rw [this]; rfl
theorem e2 : outN (brks (eV 0 3 (-1) 64 0 0 0 false false 16) ps) 8 = [2] := by
  have : brks (eV 0 3 (-1) 64 0 0 0 false false 16) ps = [false, true, false, false, false, false, false, false] := by
    unfold brks
    rw [brkLost_no (S := [64]) (by decide) (by decide), brkOb_yes (i := 1) (x := ⟨64, [0, 64], false⟩) rfl (.inr (.inr ⟨0, ⟨64, [0], false⟩, rfl, rfl, .inl (by decide)⟩)), pl_no hp (.inr ⟨rfl, rfl⟩), brkWhite_no (by decide)]
    rfl
  rw [this]; rfl
theorem e3 : outN (brks (eV 0 2 0 68 68 0 0 false false 16) ps) 8 = [3] := by
  have : brks (eV 0 2 0 68 68 0 0 false false 16) ps = [false, false, true, false, false, false, false, false] := by
    unfold brks
    rw [brkLost_no (S := [64, 68]) (by decide) (by decide), ob_no, pl_no hp (.inl ⟨rfl, rfl⟩), brkWhite_no (by decide)]
    rfl
  rw [this]; rfl
theorem e4 : outN (brks (eV 0 3 0 68 68 0 0 false false 16) ps) 8 = [4] := by
  have _ := hp
  have : brks (eV 0 3 0 68 68 0 0 false false 16) ps = [false, false, false, true, false, false, false, false] := by
    unfold brks
    rw [brkLost_no (S := [64, 68]) (by decide) (by decide), ob_no, pl_yes, brkWhite_no (by decide)]
    rfl
  rw [this]; rfl
theorem e5 : outN (brks (eV 0 3 (-1) 68 68 1 0 false false 16) ps) 8 = [5] := by
  have : brks (eV 0 3 (-1) 68 68 1 0 false false 16) ps = [false, false, false, false, true, false, false, false] := by
    unfold brks
    rw [brkLost_no (S := [64, 68]) (by decide) (by decide), ob_no, pl_no hp (.inr ⟨rfl, rfl⟩), brkWhite_no (by decide)]
    rfl
  rw [this]; rfl
theorem e6 : outN (brks (eV 0 3 (-1) 68 68 0 2 true false 16) ps) 8 = [6] := by
  have : brks (eV 0 3 (-1) 68 68 0 2 true false 16) ps = [false, false, false, false, false, true, false, false] := by
    unfold brks
    rw [brkLost_no (S := [64, 68]) (by decide) (by decide), ob_no, pl_no hp (.inr ⟨rfl, rfl⟩), brkWhite_yes (S := [64, 68]) (x := 68) rfl (by decide) (by decide) (by decide) (by decide)]
    rfl
  rw [this]; rfl
theorem e7 : outN (brks (eV 0 3 (-1) 68 68 0 0 false false 15) ps) 8 = [7] := by
  have : brks (eV 0 3 (-1) 68 68 0 0 false false 15) ps = [false, false, false, false, false, false, true, false] := by
    unfold brks
    rw [brkLost_no (S := [64, 68]) (by decide) (by decide), ob_no, pl_no hp (.inr ⟨rfl, rfl⟩), brkWhite_no (by decide)]
    rfl
  rw [this]; rfl
theorem e8 : outN (brks (eV 0 3 (-1) 68 68 0 0 false true 16) ps) 8 = [8] := by
  have : brks (eV 0 3 (-1) 68 68 0 0 false true 16) ps = [false, false, false, false, false, false, false, true] := by
    unfold brks
    rw [brkLost_no (S := [64, 68]) (by decide) (by decide), ob_no, pl_no hp (.inr ⟨rfl, rfl⟩), brkWhite_no (by decide)]
    rfl
  rw [this]; rfl
end
end Go.Proofs.Ytfkgooliglcjkaa
