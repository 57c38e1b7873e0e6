/- Package machine: View, while nothing is marked. -/
import Derived.Test.YtcpljjacamibeaaGreatDoorNpJ
import Derived.Test.YtcpljjacamibeaaGreatDoorVvVwJ
import Derived.Test.YtcpljjacamibeaaGreatDoorMj6J
import Derived.Test.YtcpljjacamibeaaGreatDoorMd7
import Derived.Test.YtcpljjacamibeaaGreatDoorNhJ
namespace Go.Proofs.YtcpljjacamibeaaGreatDoor
set_option maxHeartbeats 16000000
set_option maxRecDepth 100000
open Go.RowKit Go.Maps
def stkL (x : GorA) : List Int := (List.range 16).map x.st
def grA (m : Mac) (j : Nat) : Gr := ⟨(m.sts[j]?).getD 0, if (m.sts[j]?).getD 0 = 2 then (m.gs j).p else if (m.sts[j]?).getD 0 = 1 then whP m.np m.rg m.com j else -1, stkL (m.gs j)⟩
noncomputable def vwA (m : Mac) (ks : List Int) : Vw := ⟨m.ph.ph, m.ph.cyc, m.clock, m.gl, (List.range m.ng).map (grA m), ks.map (obA m.A.a), 0, 0, 0⟩
structure VwOk (p : MAt) (m : Mac) : Prop where
  P : m.np ≤ 64
  sl : m.sts.length = m.ng
  ng : m.ng ≤ 100000
  rg : ∀ q, q < m.np → RgOk (m.rg q)
  cw : ∀ x ∈ m.com, WfI x
  cl : m.com.length ≤ 100000
  gw : ∀ x ∈ m.gl, WfI x
  gl : m.gl.length ≤ 1000
  sw : ∀ j, j < m.ng → WfI (m.gs j).p ∧ ∀ i, i < 16 → WfI ((m.gs j).st i)
  tw : ∀ x ∈ m.sts, WfI x
  ck : WfI m.clock
  py : WfI m.ph.ph
  cy : WfI m.ph.cyc
  ow : ∀ x xs, obI m.A.a x = some xs → Wf64 x ∧ (∀ y ∈ xs, WfI y) ∧ xs.length ≤ 1000
  N : p.N ≤ 1000000
  b : p.b ≤ 1000000
abbrev SlT := Option Addr × Nat × Nat
def slW (s : SlT) : Value := .slice s.1 s.2.1 s.2.2
def grC (x : Gr × SlT) : List Value := [.int .i64 x.1.state, .int .i64 x.1.p, slW x.2]
theorem grC_len (x : Gr × SlT) : (grC x).length = 3 := rfl
def obC (x : Ob × SlT) : List Value := [.int .i64 x.1.addr, slW x.2, .bool x.1.marked]
theorem obC_len (x : Ob × SlT) : (obC x).length = 3 := rfl
theorem grC_one (x : Gr × SlT) : ∀ u ∈ grC x, u.oneCell' = true := by
  intro u hu
  simp [grC] at hu
  rcases hu with rfl | rfl | rfl <;> rfl
theorem obC_one (x : Ob × SlT) : ∀ u ∈ obC x, u.oneCell' = true := by
  intro u hu
  simp [obC] at hu
  rcases hu with rfl | rfl | rfl <;> rfl
structure VbI (w0 w : World) (m : Mac) (gv : Nat) (vgl vgs vob : Value) (lg : List (Gr × SlT)) (lo : List (Ob × SlT)) : Prop where
  B : Blk w gv 41 #[.int .i64 m.ph.ph, .int .i64 m.ph.cyc, .int .i64 m.clock, vgl, vgs, vob, .int .i64 0, .int .i64 0, .int .i64 0]
  n : w0.heap.size ≤ gv
  gl : OwnI 3 w vgl m.gl
  gs : OwnG grC 3 53 w vgs lg
  os : OwnG obC 3 123 w vob lo
  gi : ∀ x ∈ lg, OwnI 3 w (slW x.2) x.1.stack
  oi : ∀ x ∈ lo, OwnI 3 w (slW x.2) x.1.slots
  fg : ∀ k ∈ fpv vgs, w0.heap.size ≤ k
  fo : ∀ k ∈ fpv vob, w0.heap.size ≤ k
  c : Chg [] w0 w
theorem VbI.chg0 {w0 w w' : World} {m : Mac} {gv : Nat} {vgl vgs vob : Value} {lg : List (Gr × SlT)} {lo : List (Ob × SlT)} (V : VbI w0 w m gv vgl vgs vob lg lo) (c : Chg [] w w') : VbI w0 w' m gv vgl vgs vob lg lo :=
  ⟨c.blk V.B (by simp), V.n, V.gl.chg0 c, V.gs.chg0 c, V.os.chg0 c, fun x hx => (V.gi x hx).chg0 c, fun x hx => (V.oi x hx).chg0 c, V.fg, V.fo, V.c.trans c⟩
theorem vb_start {w0 w1 wf : World} {m : Mac} {gv : Nat} {vgl : Value} (c01 : Chg [] w0 w1)
    (H : Chg [] w1 wf ∧ OwnI 3 wf vgl m.gl ∧ Blk wf gv 41 #[.int .i64 0, .int .i64 0, .int .i64 0, .slice none 0 0, .slice none 0 0, .slice none 0 0, .int .i64 0, .int .i64 0, .int .i64 0] ∧ (∀ k ∈ fpv vgl, w1.heap.size ≤ k) ∧ w1.heap.size ≤ gv) :
    VbI w0 (((((((((wf.setCell ⟨gv, 0, none⟩ (.int .i64 m.ph.ph)).setCell ⟨gv, 1, none⟩ (.int .i64 m.ph.cyc)).setCell ⟨gv, 2, none⟩ (.int .i64 m.clock)).setCell ⟨gv, 3, none⟩ vgl).setCell ⟨gv, 4, none⟩ (.slice none 0 0)).setCell ⟨gv, 5, none⟩ (.slice none 0 0)).setCell ⟨gv, 6, none⟩ (.int .i64 0)).setCell ⟨gv, 7, none⟩ (.int .i64 0)).setCell ⟨gv, 8, none⟩ (.int .i64 0)) m gv vgl (.slice none 0 0) (.slice none 0 0) [] [] ∧
    Chg [] w1 (((((((((wf.setCell ⟨gv, 0, none⟩ (.int .i64 m.ph.ph)).setCell ⟨gv, 1, none⟩ (.int .i64 m.ph.cyc)).setCell ⟨gv, 2, none⟩ (.int .i64 m.clock)).setCell ⟨gv, 3, none⟩ vgl).setCell ⟨gv, 4, none⟩ (.slice none 0 0)).setCell ⟨gv, 5, none⟩ (.slice none 0 0)).setCell ⟨gv, 6, none⟩ (.int .i64 0)).setCell ⟨gv, 7, none⟩ (.int .i64 0)).setCell ⟨gv, 8, none⟩ (.int .i64 0)) := by
  obtain ⟨c, O, B, hf, hn⟩ := H
  have ng : gv ∉ fpv vgl := fun hm => own_ne O.o B (by decide) (mem_fpv.1 hm)
  have b1 : Blk _ gv 41 #[.int .i64 m.ph.ph, .int .i64 0, .int .i64 0, .slice none 0 0, .slice none 0 0, .slice none 0 0, .int .i64 0, .int .i64 0, .int .i64 0] := B.setv 0 (.int .i64 m.ph.ph) rfl
  have b2 : Blk _ gv 41 #[.int .i64 m.ph.ph, .int .i64 m.ph.cyc, .int .i64 0, .slice none 0 0, .slice none 0 0, .slice none 0 0, .int .i64 0, .int .i64 0, .int .i64 0] := b1.setv 1 (.int .i64 m.ph.cyc) rfl
  have b3 : Blk _ gv 41 #[.int .i64 m.ph.ph, .int .i64 m.ph.cyc, .int .i64 m.clock, .slice none 0 0, .slice none 0 0, .slice none 0 0, .int .i64 0, .int .i64 0, .int .i64 0] := b2.setv 2 (.int .i64 m.clock) rfl
  have b4 : Blk _ gv 41 #[.int .i64 m.ph.ph, .int .i64 m.ph.cyc, .int .i64 m.clock, vgl, .slice none 0 0, .slice none 0 0, .int .i64 0, .int .i64 0, .int .i64 0] := b3.setv 3 vgl rfl
  have b5 : Blk _ gv 41 #[.int .i64 m.ph.ph, .int .i64 m.ph.cyc, .int .i64 m.clock, vgl, .slice none 0 0, .slice none 0 0, .int .i64 0, .int .i64 0, .int .i64 0] := b4.setv 4 (.slice none 0 0) rfl
  have b6 : Blk _ gv 41 #[.int .i64 m.ph.ph, .int .i64 m.ph.cyc, .int .i64 m.clock, vgl, .slice none 0 0, .slice none 0 0, .int .i64 0, .int .i64 0, .int .i64 0] := b5.setv 5 (.slice none 0 0) rfl
  have b7 : Blk _ gv 41 #[.int .i64 m.ph.ph, .int .i64 m.ph.cyc, .int .i64 m.clock, vgl, .slice none 0 0, .slice none 0 0, .int .i64 0, .int .i64 0, .int .i64 0] := b6.setv 6 (.int .i64 0) rfl
  have b8 : Blk _ gv 41 #[.int .i64 m.ph.ph, .int .i64 m.ph.cyc, .int .i64 m.clock, vgl, .slice none 0 0, .slice none 0 0, .int .i64 0, .int .i64 0, .int .i64 0] := b7.setv 7 (.int .i64 0) rfl
  have b9 : Blk _ gv 41 #[.int .i64 m.ph.ph, .int .i64 m.ph.cyc, .int .i64 m.clock, vgl, .slice none 0 0, .slice none 0 0, .int .i64 0, .int .i64 0, .int .i64 0] := b8.setv 8 (.int .i64 0) rfl
  have d : Chg [gv] wf (((((((((wf.setCell ⟨gv, 0, none⟩ (.int .i64 m.ph.ph)).setCell ⟨gv, 1, none⟩ (.int .i64 m.ph.cyc)).setCell ⟨gv, 2, none⟩ (.int .i64 m.clock)).setCell ⟨gv, 3, none⟩ vgl).setCell ⟨gv, 4, none⟩ (.slice none 0 0)).setCell ⟨gv, 5, none⟩ (.slice none 0 0)).setCell ⟨gv, 6, none⟩ (.int .i64 0)).setCell ⟨gv, 7, none⟩ (.int .i64 0)).setCell ⟨gv, 8, none⟩ (.int .i64 0)) :=
    (((((((((Chg.refl [gv] wf).setCell (.inl (by simp)) _).setCell (.inl (by simp)) _).setCell (.inl (by simp)) _).setCell (.inl (by simp)) _).setCell (.inl (by simp)) _).setCell (.inl (by simp)) _).setCell (.inl (by simp)) _).setCell (.inl (by simp)) _).setCell (.inl (by simp)) _
  have e : Chg [] w1 _ := c.newS d (by simpa using hn)
  have h01 := c01.size
  exact ⟨⟨b9, by omega, O.chg d (fun k hk hm => ng (by have e : k = gv := (by simpa using hm); rw [← e]; exact hk)), OwnG.nil _ _, OwnG.nil _ _, by simp, by simp, by simp [fpv, Value.ownBlock], by simp [fpv, Value.ownBlock], c01.trans e⟩, e⟩
theorem OwnI.chgB {w w' : World} {v : Value} {xs : List Int} {E t : TypeId} {g : Nat} {cs : Array Value} (O : OwnI E w v xs) (c : Chg [g] w w') (B : Blk w g t cs) (h : E ≠ t) : OwnI E w' v xs :=
  O.chg c (fun k hk hm => own_ne O.o B h (mem_fpv.1 (by have e : k = g := (by simpa using hm); rw [← e]; exact hk)))
theorem OwnG.chgB {α : Type} {f : α → List Value} {sz : Nat} {w w' : World} {v : Value} {xs : List α} {E t : TypeId} {g : Nat} {cs : Array Value} (O : OwnG f sz E w v xs) (c : Chg [g] w w') (B : Blk w g t cs) (h : E ≠ t) : OwnG f sz E w' v xs :=
  O.chg c (fun k hk hm => O.ne_blk B h (by have e : k = g := (by simpa using hm); rw [← e]; exact hk))
theorem VbI.farG {w0 w w' : World} {m : Mac} {gv : Nat} {vgl vgs vob : Value} {lg : List (Gr × SlT)} {lo : List (Ob × SlT)} {gy : Nat} {cs : Array Value} (V : VbI w0 w m gv vgl vgs vob lg lo) (c : Chg [gy] w w') (B : Blk w gy 53 cs) (hn : w0.heap.size ≤ gy) (hv : gy ∉ fpv vgs) : VbI w0 w' m gv vgl vgs vob lg lo :=
  ⟨c.blk V.B (by simpa using V.B.ne_ B (by decide)), V.n, V.gl.chgB c B (by decide), V.gs.chg c (fun k hk hm => hv (by have e : k = gy := (by simpa using hm); rw [← e]; exact hk)), V.os.chgB c B (by decide), fun x hx => (V.gi x hx).chgB c B (by decide), fun x hx => (V.oi x hx).chgB c B (by decide), V.fg, V.fo, V.c.newS c (by simpa using hn)⟩
theorem OwnI.chgG {α : Type} {f : α → List Value} {sz : Nat} {w w' : World} {v u : Value} {xs : List Int} {ys : List α} {E t : TypeId} (O : OwnI E w v xs) (U : OwnG f sz t w u ys) (c : Chg (fpv u) w w') (h : E ≠ t) : OwnI E w' v xs :=
  O.chg c (fun k hk hm => by
    rcases U.o.2 with ⟨e, _⟩ | ⟨g', cap, cur, e, _, hh, _⟩
    · rw [e] at hm; simp [fpv, Value.ownBlock] at hm
    · have e2 : k = g' := by rw [e] at hm; simpa [fpv, Value.ownBlock] using hm
      rw [e2] at hk
      exact own_ne O.o (t := t) (cs := cur) hh h (mem_fpv.1 hk))
theorem OwnG.chgG {α β : Type} {f : α → List Value} {f' : β → List Value} {sz sz' : Nat} {w w' : World} {v u : Value} {xs : List β} {ys : List α} {E t : TypeId} (O : OwnG f' sz' E w v xs) (U : OwnG f sz t w u ys) (c : Chg (fpv u) w w') (h : E ≠ t) : OwnG f' sz' E w' v xs :=
  O.chg c (fun k hk hm => by
    rcases U.o.2 with ⟨e, _⟩ | ⟨g', cap, cur, e, _, hh, _⟩
    · rw [e] at hm; simp [fpv, Value.ownBlock] at hm
    · have e2 : k = g' := by rw [e] at hm; simpa [fpv, Value.ownBlock] using hm
      rw [e2] at hk
      exact O.ne_blk (t := t) (cs := cur) hh h hk)
theorem VbI.pushG {w0 w w9 : World} {m : Mac} {gv : Nat} {vgl vgs vgs' vob : Value} {lg : List (Gr × SlT)} {lo : List (Ob × SlT)} {x : Gr × SlT} (V : VbI w0 w m gv vgl vgs vob lg lo) (Ox : OwnI 3 w (slW x.2) x.1.stack) (O9 : OwnG grC 3 53 w9 vgs' (lg ++ [x])) (S9 : Stp (fpv vgs) (fpv vgs') w w9) :
    VbI w0 (w9.setCell ⟨gv, 4, none⟩ vgs') m gv vgl vgs' vob (lg ++ [x]) lo := by
  have nv : gv ∉ fpv vgs := V.gs.ne_blk V.B (by decide)
  have B9 := S9.c.blk V.B nv
  have cv : Chg [gv] w9 (w9.setCell ⟨gv, 4, none⟩ vgs') := (Chg.refl [gv] w9).setCell (.inl (by simp)) _
  have fz : ∀ k ∈ fpv vgs', w0.heap.size ≤ k := fun k hk => by
    rcases S9.f k hk with h | h
    · exact V.fg k h
    · have := V.c.size; omega
  refine ⟨B9.setv 4 vgs' rfl, V.n, ((V.gl.chgG V.gs S9.c (by decide)).chgB cv B9 (by decide)), O9.chgB cv B9 (by decide), ((V.os.chgG V.gs S9.c (by decide)).chgB cv B9 (by decide)), fun y hy => ?_, fun y hy => (((V.oi y hy).chgG V.gs S9.c (by decide)).chgB cv B9 (by decide)), fz, V.fo, (V.c.newS S9.c V.fg).newS cv (by simpa using V.n)⟩
  rw [List.mem_append, List.mem_singleton] at hy
  rcases hy with hy | rfl
  · exact (((V.gi y hy).chgG V.gs S9.c (by decide)).chgB cv B9 (by decide))
  · exact ((Ox.chgG V.gs S9.c (by decide)).chgB cv B9 (by decide))
theorem VbI.pushO {w0 w w9 : World} {m : Mac} {gv : Nat} {vgl vgs vob vob' : Value} {lg : List (Gr × SlT)} {lo : List (Ob × SlT)} {x : Ob × SlT} (V : VbI w0 w m gv vgl vgs vob lg lo) (Ox : OwnI 3 w (slW x.2) x.1.slots) (O9 : OwnG obC 3 123 w9 vob' (lo ++ [x])) (S9 : Stp (fpv vob) (fpv vob') w w9) :
    VbI w0 (w9.setCell ⟨gv, 5, none⟩ vob') m gv vgl vgs vob' lg (lo ++ [x]) := by
  have nv : gv ∉ fpv vob := V.os.ne_blk V.B (by decide)
  have B9 := S9.c.blk V.B nv
  have cv : Chg [gv] w9 (w9.setCell ⟨gv, 5, none⟩ vob') := (Chg.refl [gv] w9).setCell (.inl (by simp)) _
  have fz : ∀ k ∈ fpv vob', w0.heap.size ≤ k := fun k hk => by
    rcases S9.f k hk with h | h
    · exact V.fo k h
    · have := V.c.size; omega
  refine ⟨B9.setv 5 vob' rfl, V.n, ((V.gl.chgG V.os S9.c (by decide)).chgB cv B9 (by decide)), ((V.gs.chgG V.os S9.c (by decide)).chgB cv B9 (by decide)), O9.chgB cv B9 (by decide), fun y hy => (((V.gi y hy).chgG V.os S9.c (by decide)).chgB cv B9 (by decide)), fun y hy => ?_, V.fg, fz, (V.c.newS S9.c V.fo).newS cv (by simpa using V.n)⟩
  rw [List.mem_append, List.mem_singleton] at hy
  rcases hy with hy | rfl
  · exact (((V.oi y hy).chgG V.os S9.c (by decide)).chgB cv B9 (by decide))
  · exact ((Ox.chgG V.os S9.c (by decide)).chgB cv B9 (by decide))
theorem tyGo3 : TyS Tryz.prog 38 53 3 40 := ⟨Tryz.underlying38, ⟨.agg #[.int .i64 0, .int .i64 0, .slice none 0 0], by kernel_rfl, rfl⟩, by decide, by decide⟩
theorem tyOb3 : TyS Tryz.prog 39 123 3 40 := ⟨Tryz.underlying39, ⟨.agg #[.int .i64 0, .slice none 0 0, .bool false], by kernel_rfl, rfl⟩, by decide, by decide⟩
theorem GrsAt.own {w : World} {A : Option Addr} {n c : Nat} {lg : List (Gr × SlT)} (O : OwnG grC 3 53 w (.slice A n c) lg) (gi : ∀ x ∈ lg, OwnI 3 w (slW x.2) x.1.stack) (hw : ∀ x ∈ lg, WfI x.1.state ∧ WfI x.1.p ∧ (∀ y ∈ x.1.stack, WfI y) ∧ x.1.stack.length ≤ maxLen) : GrsAt w w.heap.size A (lg.map Prod.fst) := ⟨fun i g hg => by
  rw [List.getElem?_map] at hg
  cases hx : lg[i]? with
  | none => rw [hx] at hg; cases hg
  | some x =>
    rw [hx] at hg
    have hg : x.1 = g := Option.some.inj hg
    subst hg
    obtain ⟨gb, hA, hc, -, -, -, hlt⟩ := O.cell grC_len hx
    have hm := List.mem_of_getElem? hx
    obtain ⟨h1, h2, h3, h4⟩ := hw x hm
    exact ⟨gb, 0, slW x.2, hA, hlt, by rw [Nat.zero_add]; exact hc 0 _ rfl, by rw [Nat.zero_add]; exact hc 1 _ rfl, by rw [Nat.zero_add]; exact hc 2 _ rfl, SlI.of_own (gi x hm).o h3 h4, h1, h2⟩⟩
theorem ObsAt.own {w : World} {A : Option Addr} {n c : Nat} {lo : List (Ob × SlT)} (O : OwnG obC 3 123 w (.slice A n c) lo) (oi : ∀ x ∈ lo, OwnI 3 w (slW x.2) x.1.slots) (hw : ∀ x ∈ lo, WfI x.1.addr ∧ (∀ y ∈ x.1.slots, WfI y) ∧ x.1.slots.length ≤ maxLen) : ObsAt w w.heap.size A (lo.map Prod.fst) := ⟨fun i g hg => by
  rw [List.getElem?_map] at hg
  cases hx : lo[i]? with
  | none => rw [hx] at hg; cases hg
  | some x =>
    rw [hx] at hg
    have hg : x.1 = g := Option.some.inj hg
    subst hg
    obtain ⟨gb, hA, hc, -, -, -, hlt⟩ := O.cell obC_len hx
    have hm := List.mem_of_getElem? hx
    obtain ⟨h1, h3, h4⟩ := hw x hm
    exact ⟨gb, 0, slW x.2, hA, hlt, by rw [Nat.zero_add]; exact hc 0 _ rfl, by rw [Nat.zero_add]; exact hc 1 _ rfl, by rw [Nat.zero_add]; exact hc 2 _ rfl, SlI.of_own (oi x hm).o h3 h4, h1⟩⟩
theorem wfI_0 : WfI 0 := ⟨by decide, by decide⟩
theorem wfI_m1 : WfI (-1) := ⟨by decide, by decide⟩
theorem wfI_whP {P : Nat} {r : Nat → RgR} {com : List Int} {x : Int} (hP : P ≤ 64) : WfI (whP P r com x) := by
  unfold whP
  split
  · next p hp =>
    have : p < P := by
      unfold whF at hp
      have := List.mem_of_find?_eq_some hp
      exact List.mem_range.1 this
    exact ⟨by omega, by omega⟩
  · split
    · exact wfI_m1
    · exact wfI_0
structure VbO (w : World) (m : Mac) (vgl vgs vob : Value) (lg : List (Gr × SlT)) (lo : List (Ob × SlT)) : Prop where
  gl : OwnI 3 w vgl m.gl
  gs : OwnG grC 3 53 w vgs lg
  os : OwnG obC 3 123 w vob lo
  gi : ∀ x ∈ lg, OwnI 3 w (slW x.2) x.1.stack
  oi : ∀ x ∈ lo, OwnI 3 w (slW x.2) x.1.slots
theorem VbI.o {w0 w w' : World} {m : Mac} {gv g2 : Nat} {vgl vgs vob : Value} {lg : List (Gr × SlT)} {lo : List (Ob × SlT)} {cs : Array Value} (V : VbI w0 w m gv vgl vgs vob lg lo) (c : Chg [g2] w w') (B : Blk w g2 41 cs) : VbO w' m vgl vgs vob lg lo :=
  ⟨V.gl.chgB c B (by decide), V.gs.chgB c B (by decide), V.os.chgB c B (by decide), fun x hx => (V.gi x hx).chgB c B (by decide), fun x hx => (V.oi x hx).chgB c B (by decide)⟩
theorem VbO.done {w : World} {p : MAt} {m : Mac} {vgl : Value} {A1 A2 : Option Addr} {n1 c1 n2 c2 : Nat} {lg : List (Gr × SlT)} {lo : List (Ob × SlT)} {ks : List Int} (K : VwOk p m) (V : VbO w m vgl (.slice A1 n1 c1) (.slice A2 n2 c2) lg lo) (hlg : lg.map Prod.fst = (List.range m.ng).map (grA m)) (hlo : lo.map Prod.fst = ks.map (obA m.A.a))
    (hk : ∀ x ∈ ks, (obI m.A.a x).isSome = true) (hkl : ks.length ≤ 100000000) : VwAt w w.heap.size (.agg #[.int .i64 m.ph.ph, .int .i64 m.ph.cyc, .int .i64 m.clock, vgl, .slice A1 n1 c1, .slice A2 n2 c2, .int .i64 0, .int .i64 0, .int .i64 0]) (vwA m ks) := by
  have hn1 : n1 = (vwA m ks).gs.length := by
    obtain ⟨A, c, e⟩ := V.gs.slice
    injection e with _ e _
    show n1 = ((List.range m.ng).map (grA m)).length
    rw [← hlg, List.length_map]; exact e
  have hn2 : n2 = (vwA m ks).objects.length := by
    obtain ⟨A, c, e⟩ := V.os.slice
    injection e with _ e _
    show n2 = (ks.map (obA m.A.a)).length
    rw [← hlo, List.length_map]; exact e
  have hng := K.ng
  have hgl := K.gl
  refine ⟨⟨vgl, A1, c1, A2, c2, by rw [← hn1, ← hn2]; rfl, SlI.of_own V.gl.o K.gw (Nat.le_trans hgl (by decide)), ?_, ?_, ?_, ?_⟩, K.py, K.cy, K.ck, wfI_0, wfI_0, wfI_0⟩
  · show GrsAt w w.heap.size A1 ((List.range m.ng).map (grA m))
    rw [← hlg]
    refine GrsAt.own V.gs V.gi (fun x hx => ?_)
    have hm : x.1 ∈ (List.range m.ng).map (grA m) := by rw [← hlg]; exact List.mem_map_of_mem hx
    obtain ⟨j, hj, hj2⟩ := List.mem_map.1 hm
    have hj := List.mem_range.1 hj
    rw [← hj2]
    have hs : WfI ((m.sts[j]?).getD 0) := by
      cases h : m.sts[j]? with
      | none => exact wfI_0
      | some y => exact K.tw y (List.mem_of_getElem? h)
    refine ⟨hs, ?_, fun y hy => ?_, by show (stkL (m.gs j)).length ≤ maxLen; unfold stkL; rw [List.length_map, List.length_range]; decide⟩
    · show WfI (if _ then _ else _)
      split
      · exact (K.sw j hj).1
      · split
        · exact wfI_whP K.P
        · exact wfI_m1
    · have hy : y ∈ stkL (m.gs j) := hy
      unfold stkL at hy
      obtain ⟨i, hi, rfl⟩ := List.mem_map.1 hy
      exact (K.sw j hj).2 i (List.mem_range.1 hi)
  · show ObsAt w w.heap.size A2 (ks.map (obA m.A.a))
    rw [← hlo]
    refine ObsAt.own V.os V.oi (fun x hx => ?_)
    have hm : x.1 ∈ ks.map (obA m.A.a) := by rw [← hlo]; exact List.mem_map_of_mem hx
    obtain ⟨y, hy, hy2⟩ := List.mem_map.1 hm
    rw [← hy2]
    cases ho : obI m.A.a y with
    | none => have := hk y hy; rw [ho] at this; cases this
    | some xs =>
      obtain ⟨h1, h2, h3⟩ := K.ow y xs ho
      have e : (obA m.A.a y).slots = xs := by show (obI m.A.a y).getD [] = xs; rw [ho]; rfl
      refine ⟨?_, by rw [e]; exact h2, by rw [e]; unfold maxLen; omega⟩
      show WfI y
      exact h1
  · show ((List.range m.ng).map (grA m)).length ≤ maxLen; rw [List.length_map, List.length_range]; unfold maxLen; omega
  · show (ks.map (obA m.A.a)).length ≤ maxLen; rw [List.length_map]; unfold maxLen; omega
theorem objs_len {W w : World} {H : HpH} {A : HpA} {N b : Nat} (Q : HpS W w H A N b) {ks : List Int} (hr : Rise ks) (hm : ∀ x, x ∈ ks ↔ (obI A.a x).isSome = true) : ks.length ≤ 100000000 := by
  have h1 : ∀ x ∈ ks, 0 ≤ x ∧ x.toNat < 16777216 := fun x hx => by
    have h2 := (hm x).1 hx
    unfold obI at h2
    by_cases h0 : 0 ≤ x
    · rw [if_pos h0] at h2
      obtain ⟨id, s, i, hs, hi, hF, he⟩ := (Q.S.I.ok.ob x.toNat).1 h2
      have hk := Q.S.I.ok.pg id s hs
      have hn := Q.S.I.ok.n
      have hp := Sp.addr_page hk.1 hi
      exact ⟨h0, by omega⟩
    · rw [if_neg h0] at h2; cases h2
  have h3 : (ks.map Int.toNat).Nodup := by
    rw [List.Nodup, List.pairwise_map]
    refine List.Pairwise.imp_of_mem (fun {a b} ha hb hab => ?_) hr
    have ha := h1 a ha
    have hb := h1 b hb
    have hab : a < b := hab
    omega
  have h4 := nodup_len h3 (n := 16777216) (fun j hj => by
    obtain ⟨x, hx, rfl⟩ := List.mem_map.1 hj
    exact (h1 x hx).2)
  rw [List.length_map] at h4
  omega
theorem gor_sl {W : Bs} {w : World} {p : MAt} {m : Mac} (M : MM W w p m) {j : Nat} (hj : j < m.ng) (hw : ∀ i, i < 16 → WfI ((m.gs j).st i)) : SlI w w.heap.size (.slice (some ⟨p.bg j, 3, none⟩) 16 16) (stkL (m.gs j)) := by
  have B := M.gb hj
  refine ⟨⟨_, _, by unfold stkL; rw [List.length_map, List.length_range]⟩, by unfold stkL; rw [List.length_map, List.length_range]; decide, fun A n c e i x hx => ?_, fun x hx => ?_⟩
  · injection e with e1 e2 e3
    have hi : i < 16 := by
      have := (List.getElem?_eq_some_iff.1 hx).1
      unfold stkL at this
      rwa [List.length_map, List.length_range] at this
    refine ⟨p.bg j, 3, e1.symm, B.lt, B.cellv (3 + i) ?_⟩
    have hx2 : x = (m.gs j).st i := by
      unfold stkL at hx
      rw [List.getElem?_map, List.getElem?_range hi] at hx
      exact (Option.some.inj hx).symm
    subst hx2
    unfold gorC
    have : i = 0 ∨ i = 1 ∨ i = 2 ∨ i = 3 ∨ i = 4 ∨ i = 5 ∨ i = 6 ∨ i = 7 ∨ i = 8 ∨ i = 9 ∨ i = 10 ∨ i = 11 ∨ i = 12 ∨ i = 13 ∨ i = 14 ∨ i = 15 := by omega
    rcases this with rfl | rfl | rfl | rfl | rfl | rfl | rfl | rfl | rfl | rfl | rfl | rfl | rfl | rfl | rfl | rfl <;> rfl
  · unfold stkL at hx
    rw [List.mem_map] at hx
    obtain ⟨i, hi, rfl⟩ := hx
    exact hw i (List.mem_range.1 hi)
theorem gr_start {w0 w wf : World} {gy : Nat} {st : Int} {sv : Value} {xs : List Int} (c0 : Chg [] w0 w) (H : Chg [] w wf ∧ OwnI 3 wf sv xs ∧ Blk wf gy 53 #[.int .i64 0, .int .i64 0, .slice none 0 0] ∧ w.heap.size ≤ gy) :
    Blk (((wf.setCell ⟨gy, 0, none⟩ (.int .i64 st)).setCell ⟨gy, 1, none⟩ (.int .i64 (-1))).setCell ⟨gy, 2, none⟩ sv) gy 53 #[.int .i64 st, .int .i64 (-1), sv] ∧ (w0.heap.size ≤ gy ∧ w.heap.size ≤ gy) ∧
    OwnI 3 (((wf.setCell ⟨gy, 0, none⟩ (.int .i64 st)).setCell ⟨gy, 1, none⟩ (.int .i64 (-1))).setCell ⟨gy, 2, none⟩ sv) sv xs ∧ Chg [] w (((wf.setCell ⟨gy, 0, none⟩ (.int .i64 st)).setCell ⟨gy, 1, none⟩ (.int .i64 (-1))).setCell ⟨gy, 2, none⟩ sv) := by
  obtain ⟨c, O, B, hn⟩ := H
  have ng : gy ∉ fpv sv := fun hm => own_ne O.o B (by decide) (mem_fpv.1 hm)
  have b1 : Blk _ gy 53 #[.int .i64 st, .int .i64 0, .slice none 0 0] := B.setv 0 (.int .i64 st) rfl
  have b2 : Blk _ gy 53 #[.int .i64 st, .int .i64 (-1), .slice none 0 0] := b1.setv 1 (.int .i64 (-1)) rfl
  have b3 : Blk _ gy 53 #[.int .i64 st, .int .i64 (-1), sv] := b2.setv 2 sv rfl
  have d : Chg [gy] wf (((wf.setCell ⟨gy, 0, none⟩ (.int .i64 st)).setCell ⟨gy, 1, none⟩ (.int .i64 (-1))).setCell ⟨gy, 2, none⟩ sv) := (((Chg.refl [gy] wf).setCell (.inl (by simp)) _).setCell (.inl (by simp)) _).setCell (.inl (by simp)) _
  have h01 := c0.size
  exact ⟨b3, ⟨by omega, hn⟩, O.chg d (fun k hk hm => ng (by have e : k = gy := (by simpa using hm); rw [← e]; exact hk)), c.newS d (by simpa using hn)⟩
def VgRel (w0 : World) (m : Mac) (gv : Nat) (vgl : Value) (gk : Nat) (idx : Value) (w : World) : Prop :=
  ∃ (i : Nat) (vgs : Value) (lg : List (Gr × SlT)), gk + i = m.ng + 1 ∧ i ≤ m.ng ∧ idx = .int .i64 (i : Nat) ∧ lg.map Prod.fst = (List.range i).map (grA m) ∧ VbI w0 w m gv vgl vgs (.slice none 0 0) lg []
def VoRel (w0 : World) (m : Mac) (gv : Nat) (vgl vgs : Value) (lg : List (Gr × SlT)) (ks : List Int) (vks : Value) (gk : Nat) (idx : Value) (w : World) : Prop :=
  ∃ (i : Nat) (vob : Value) (lo : List (Ob × SlT)), gk + i = ks.length + 1 ∧ i ≤ ks.length ∧ idx = .int .i64 (i : Nat) ∧ lo.map Prod.fst = (ks.take i).map (obA m.A.a) ∧ VbI w0 w m gv vgl vgs vob lg lo ∧ OwnI 3 w vks ks
def VwMPost (m : Mac) (w : World) (e : Ending) (w' : World) : Prop :=
  ∃ v ks, e = .returned v ∧ VwAt w' w'.heap.size v (vwA m ks) ∧ Rise ks ∧ (∀ x, x ∈ ks ↔ (obI m.A.a x).isSome = true) ∧ Chg [] w w'
theorem vw_end {w wr : World} {g2 : Nat} {m : Mac} {ks : List Int} {vgl vgs vob : Value} (n2 : w.heap.size ≤ g2) (C : Chg [] w wr) (B : Blk wr g2 41 #[.int .i64 0, .int .i64 0, .int .i64 0, .slice none 0 0, .slice none 0 0, .slice none 0 0, .int .i64 0, .int .i64 0, .int .i64 0]) (hr : Rise ks) (hm : ∀ x, x ∈ ks ↔ (obI m.A.a x).isSome = true)
    (V : ∀ w', Chg [g2] wr w' → VwAt w' w'.heap.size (.agg #[.int .i64 m.ph.ph, .int .i64 m.ph.cyc, .int .i64 m.clock, vgl, vgs, vob, .int .i64 0, .int .i64 0, .int .i64 0]) (vwA m ks)) {tmps : Array Value} (t2 : tmps.getD 2 undef = .pointer (some ⟨g2, 0, none⟩)) :
    bodyPost Tryz.prog Tryz.f12 (VwMPost m w) .ret { tmps := tmps, defers := [] } (((((((((wr.setCell ⟨g2, 0, none⟩ (.int .i64 m.ph.ph)).setCell ⟨g2, 1, none⟩ (.int .i64 m.ph.cyc)).setCell ⟨g2, 2, none⟩ (.int .i64 m.clock)).setCell ⟨g2, 3, none⟩ vgl).setCell ⟨g2, 4, none⟩ vgs).setCell ⟨g2, 5, none⟩ vob).setCell ⟨g2, 6, none⟩ (.int .i64 0)).setCell ⟨g2, 7, none⟩ (.int .i64 0)).setCell ⟨g2, 8, none⟩ (.int .i64 0)) := by
  have b1 : Blk _ g2 41 #[.int .i64 m.ph.ph, .int .i64 0, .int .i64 0, .slice none 0 0, .slice none 0 0, .slice none 0 0, .int .i64 0, .int .i64 0, .int .i64 0] := B.setv 0 (.int .i64 m.ph.ph) rfl
  have b2 : Blk _ g2 41 #[.int .i64 m.ph.ph, .int .i64 m.ph.cyc, .int .i64 0, .slice none 0 0, .slice none 0 0, .slice none 0 0, .int .i64 0, .int .i64 0, .int .i64 0] := b1.setv 1 (.int .i64 m.ph.cyc) rfl
  have b3 : Blk _ g2 41 #[.int .i64 m.ph.ph, .int .i64 m.ph.cyc, .int .i64 m.clock, .slice none 0 0, .slice none 0 0, .slice none 0 0, .int .i64 0, .int .i64 0, .int .i64 0] := b2.setv 2 (.int .i64 m.clock) rfl
  have b4 : Blk _ g2 41 #[.int .i64 m.ph.ph, .int .i64 m.ph.cyc, .int .i64 m.clock, vgl, .slice none 0 0, .slice none 0 0, .int .i64 0, .int .i64 0, .int .i64 0] := b3.setv 3 vgl rfl
  have b5 : Blk _ g2 41 #[.int .i64 m.ph.ph, .int .i64 m.ph.cyc, .int .i64 m.clock, vgl, vgs, .slice none 0 0, .int .i64 0, .int .i64 0, .int .i64 0] := b4.setv 4 vgs rfl
  have b6 : Blk _ g2 41 #[.int .i64 m.ph.ph, .int .i64 m.ph.cyc, .int .i64 m.clock, vgl, vgs, vob, .int .i64 0, .int .i64 0, .int .i64 0] := b5.setv 5 vob rfl
  have b7 : Blk _ g2 41 #[.int .i64 m.ph.ph, .int .i64 m.ph.cyc, .int .i64 m.clock, vgl, vgs, vob, .int .i64 0, .int .i64 0, .int .i64 0] := b6.setv 6 (.int .i64 0) rfl
  have b8 : Blk _ g2 41 #[.int .i64 m.ph.ph, .int .i64 m.ph.cyc, .int .i64 m.clock, vgl, vgs, vob, .int .i64 0, .int .i64 0, .int .i64 0] := b7.setv 7 (.int .i64 0) rfl
  have b9 : Blk _ g2 41 #[.int .i64 m.ph.ph, .int .i64 m.ph.cyc, .int .i64 m.clock, vgl, vgs, vob, .int .i64 0, .int .i64 0, .int .i64 0] := b8.setv 8 (.int .i64 0) rfl
  have d : Chg [g2] wr (((((((((wr.setCell ⟨g2, 0, none⟩ (.int .i64 m.ph.ph)).setCell ⟨g2, 1, none⟩ (.int .i64 m.ph.cyc)).setCell ⟨g2, 2, none⟩ (.int .i64 m.clock)).setCell ⟨g2, 3, none⟩ vgl).setCell ⟨g2, 4, none⟩ vgs).setCell ⟨g2, 5, none⟩ vob).setCell ⟨g2, 6, none⟩ (.int .i64 0)).setCell ⟨g2, 7, none⟩ (.int .i64 0)).setCell ⟨g2, 8, none⟩ (.int .i64 0)) :=
    (((((((((Chg.refl [g2] wr).setCell (.inl (by simp)) _).setCell (.inl (by simp)) _).setCell (.inl (by simp)) _).setCell (.inl (by simp)) _).setCell (.inl (by simp)) _).setCell (.inl (by simp)) _).setCell (.inl (by simp)) _).setCell (.inl (by simp)) _).setCell (.inl (by simp)) _
  exact ⟨rfl, _, results_cell_row (P := Tryz.prog) (fn := Tryz.f12) rfl _ _ g2 41 _ _ _ t2 b9 Tryz.underlying41 rfl (by kernel_rfl), _, ks, rfl, V _ d, hr, hm, C.newS d (by simpa using n2)⟩
section
variable {W : Bs} {w : World} {p : MAt} {m : Mac} (M : MM W w p m)
include M
theorem m_view (V : VwOk p m) (hph : ¬ m.ph.ph = 1) : Calls Tryz.prog 12 #[.pointer (some ⟨p.gm, 0, none⟩)] w (VwMPost m w) := by
  obtain ⟨Ag, cg, hvg⟩ := (M.k .globs : OwnI 3 w p.vgl m.gl).slice
  have HM := Lib.hid (And.intro M (And.intro V hvg)); clear M V hvg
  go_enter Tryz.func12, Tryz.ntmps12
  go_upto_region 3 with fail
  obtain ⟨w1, hw1⟩ : ∃ y, y = w.alloc (.cells #[.int .i64 0, .int .i64 0, .int .i64 0, .slice none 0 0, .slice none 0 0, .slice none 0 0, .int .i64 0, .int .i64 0, .int .i64 0] 41) := ⟨_, rfl⟩
  obtain ⟨g2, hg2⟩ : ∃ y, y = w.heap.size := ⟨_, rfl⟩
  rw [← hw1, ← hg2]
  have B2 : Blk w1 g2 41 #[.int .i64 0, .int .i64 0, .int .i64 0, .slice none 0 0, .slice none 0 0, .slice none 0 0, .int .i64 0, .int .i64 0, .int .i64 0] := by rw [hw1, hg2]; exact Blk.new _ _ _
  have C1 : Chg [] w w1 := by rw [hw1]; exact (Chg.refl [] w).alloc _
  have n2 : w.heap.size ≤ g2 := by omega
  have M1 := HM.out.1.chg0 C1
  have c12 : w1.cell? ⟨p.gm, 13, none⟩ = some p.vgl := M1.mb.cellv 13 rfl
  have c13 : w1.cell? ⟨p.gm, 14, none⟩ = some (.int .i64 m.clock) := M1.mb.cellv 14 rfl
  have c14 : w1.cell? ⟨p.gm, 15, none⟩ = some (.pointer (some ⟨p.gph, 0, none⟩)) := M1.mb.cellv 15 rfl
  have hgl := M1.mb.lt
  have H1 := Lib.hid (And.intro M1 (And.intro B2 (And.intro C1 n2))); clear M1 B2 C1 n2 hw1 hg2
  go_cut [3] from 15 to 34 (fun v3 wc => ∃ gv Al cl, v3 = .pointer (some ⟨gv, 0, none⟩) ∧ VbI w1 wc m gv (.slice Al m.gl.length cl) (.slice none 0 0) (.slice none 0 0) [] [] ∧ Chg [] w1 wc)
  case first =>
    refine wp_region_takes (fuel := 6) 21 (fun w' => Chg [] w1 w') [0, 1, 2, 3, 5, 6, 7, 8, 10, 11, 12, 13, 14, 15, 16, 17] (by kernel_rfl) (by kernel_rfl) (fun _ _ _ _ _ h => h) ((Chg.refl [] w1).drew) ?_
    simp only [List.filterMap_cons, List.filterMap_nil, qGa, qGb]
    iterate 16
      refine wpTake_step (fun K hK => ?_)
      rw [if_pos (by rfl)]
      refine ⟨?_, fun w' hS' => ?_, ?_⟩
      rotate_left 1
      focus
        have s0 := hS'.cellv hgl (by simp) c12
        have s1 := hS'.cellv hgl (by simp) c13
        have s2 := hS'.cellv hgl (by simp) c14
        go_simp
        try with_reducible rfl
        done
      simp only [Act.put, qSa, qSb, qSc]
      refine hK _ ?_
      clear hK K
    refine wpTake_nil ?_
    generalize hx0 : w1.drew = x0
    have D0 : Chg [] w1 x0 := by rw [← hx0]; exact (Chg.refl [] w1).drew
    clear hx0
    refine wpAnyS_ready (rs := [4, 20]) (by kernel_rfl) (by simp) ?_
    refine AllReadyS.cons (by simp only [qGc, qGa, qGb]; rfl) (fun K hK => ?_) ?_
    · rw [if_pos (by rfl)]
      go_simp
      go_at_call 39
      refine (ph_phase_ok p.gph p.bsd m.ph x0 (H1.out.1.chg0 D0).ph).mono ?_
      rintro e wq ⟨rfl, hq⟩
      subst hq
      dsimp only
      refine hK _ _ (D0) ?_
      clear hK K
      try simp only [Act.put, qSa, qSb, qSc]
      refine wpAnyS_ready (rs := [9, 20]) (by kernel_rfl) (by simp) ?_
      refine AllReadyS.cons (by simp only [qGc, qGa, qGb]; rfl) (fun K hK => ?_) ?_
      · rw [if_pos (by rfl)]
        go_simp
        go_at_call 40
        refine (ph_cycle_ok p.gph p.bsd m.ph x0 (H1.out.1.chg0 D0).ph).mono ?_
        rintro e wq ⟨rfl, hq⟩
        subst hq
        dsimp only
        refine hK _ _ (D0) ?_
        clear hK K
        try simp only [Act.put, qSa, qSb, qSc]
        refine wpAnyS_ready (rs := [18, 20]) (by kernel_rfl) (by simp) ?_
        refine AllReadyS.cons (by simp only [qGc, qGa, qGb]; rfl) (fun K hK => ?_) ?_
        · rw [if_pos (by rfl)]
          rw [HM.out.2.2]
          go_simp
          go_at_call 41
          have Kc := lclone_own x0 (.slice Ag m.gl.length cg) m.gl (by rw [← HM.out.2.2]; exact ((H1.out.1.chg0 D0).k .globs : OwnI 3 _ p.vgl m.gl)) HM.out.2.1.gw (by have := HM.out.2.1.gl; omega)
          refine Kc.mono ?_
          rintro e y1 ⟨vgl, rfl, Ol, ck, hfl⟩
          clear Kc
          obtain ⟨Al, cl, hvl⟩ := Ol.slice
          subst hvl
          dsimp only
          have E1 := D0.trans ck
          try have Bv := ck.blk Bv (by simp)
          refine hK _ _ (E1) ?_
          clear hK K
          try simp only [Act.put, qSa, qSb, qSc]
          refine wpAnyS_more (fuel := 2) [19] (by kernel_rfl) (fun _ _ _ _ _ h => h) E1 ?_
          simp only [List.filterMap_cons, List.filterMap_nil, qGa, qGb]
          refine wpTake_step (fun K hK => ?_)
          rw [if_pos (by rfl)]
          refine ⟨?_, fun w' hS' => ?_, ?_⟩
          rotate_left 1
          focus
            have s0 := hS'.cellv hgl (by simp) c12
            have s1 := hS'.cellv hgl (by simp) c13
            have s2 := hS'.cellv hgl (by simp) c14
            go_simp
            try with_reducible rfl
            done
          simp only [Act.put, qSa, qSb, qSc]
          refine hK _ ?_
          clear hK K
          refine wpTake_nil ?_
          refine wpAnyS_ready (rs := [20]) (by kernel_rfl) (by simp) ?_
          refine AllReadyS.o (fun K hK => ?_)
          rw [if_pos (by rfl)]
          go_simp
          obtain ⟨y2, hy2⟩ : ∃ y, y = y1.alloc (.cells #[.int .i64 0, .int .i64 0, .int .i64 0, .slice none 0 0, .slice none 0 0, .slice none 0 0, .int .i64 0, .int .i64 0, .int .i64 0] 41) := ⟨_, rfl⟩
          obtain ⟨gv, hgv⟩ : ∃ y, y = y1.heap.size := ⟨_, rfl⟩
          have Bv : Blk y2 gv 41 #[.int .i64 0, .int .i64 0, .int .i64 0, .slice none 0 0, .slice none 0 0, .slice none 0 0, .int .i64 0, .int .i64 0, .int .i64 0] := by rw [hy2, hgv]; exact Blk.new _ _ _
          have hgvn : w1.heap.size ≤ gv := by rw [hgv]; exact (E1).size
          have E2 : Chg [] w1 y2 := by rw [hy2]; exact (E1).alloc _
          try have Ol : OwnI 3 y2 _ m.gl := Ol.chg0 (by rw [hy2]; exact (Chg.refl [] _).alloc _)
          rw [← hy2, ← hgv]
          clear hy2 hgv
          refine hK _ _ (E2) ?_
          clear hK K
          try simp only [Act.put, qSa, qSb, qSc]
          refine wpAnyS_tail 21 1 (by kernel_rfl) rfl ?_
          simp only [qDa, qDb]
          obtain ⟨wf, hwf⟩ : ∃ y, y = y2 := ⟨_, rfl⟩
          rw [← hwf]
          have Ef : Chg [] w1 wf := by rw [hwf]; exact E2
          have Of : OwnI 3 wf (.slice Al m.gl.length cl) m.gl := by rw [hwf]; exact Ol
          have Bf : Blk wf gv 41 #[.int .i64 0, .int .i64 0, .int .i64 0, .slice none 0 0, .slice none 0 0, .slice none 0 0, .int .i64 0, .int .i64 0, .int .i64 0] := by rw [hwf]; exact Bv
          have hff : ∀ k ∈ fpv (.slice Al m.gl.length cl), w1.heap.size ≤ k := fun k hk => Nat.le_trans (Chg.size (by first | exact D0 | assumption)) (hfl k hk)
          have HF := Lib.hid (And.intro Ef (And.intro Of (And.intro Bf (And.intro hff hgvn))))
          have z0 := Bf.frozen 0
          have z1 := Bf.frozen 1
          have z2 := Bf.frozen 2
          have z3 := Bf.frozen 3
          have z4 := Bf.frozen 4
          have z5 := Bf.frozen 5
          have z6 := Bf.frozen 6
          have z7 := Bf.frozen 7
          have z8 := Bf.frozen 8
          have b0 : wf.cell? ⟨gv, 0, none⟩ = some (.int .i64 0) := Bf.cellv 0 rfl
          have b1 : wf.cell? ⟨gv, 1, none⟩ = some (.int .i64 0) := Bf.cellv 1 rfl
          have b2 : wf.cell? ⟨gv, 2, none⟩ = some (.int .i64 0) := Bf.cellv 2 rfl
          have b3 : wf.cell? ⟨gv, 3, none⟩ = some (.slice none 0 0) := Bf.cellv 3 rfl
          have b4 : wf.cell? ⟨gv, 4, none⟩ = some (.slice none 0 0) := Bf.cellv 4 rfl
          have b5 : wf.cell? ⟨gv, 5, none⟩ = some (.slice none 0 0) := Bf.cellv 5 rfl
          have b6 : wf.cell? ⟨gv, 6, none⟩ = some (.int .i64 0) := Bf.cellv 6 rfl
          have b7 : wf.cell? ⟨gv, 7, none⟩ = some (.int .i64 0) := Bf.cellv 7 rfl
          have b8 : wf.cell? ⟨gv, 8, none⟩ = some (.int .i64 0) := Bf.cellv 8 rfl
          clear Ef Of Bf hff Ol Bv hfl hgvn D0 hwf
          go_wp2_with fail
          go_meet
          exact ⟨gv, Al, cl, rfl, vb_start (Chg.refl [] w1) HF.out⟩
        refine AllReadyS.o (fun K hK => ?_)
        rw [if_pos (by rfl)]
        go_simp
        obtain ⟨y3, hy3⟩ : ∃ y, y = x0.alloc (.cells #[.int .i64 0, .int .i64 0, .int .i64 0, .slice none 0 0, .slice none 0 0, .slice none 0 0, .int .i64 0, .int .i64 0, .int .i64 0] 41) := ⟨_, rfl⟩
        obtain ⟨gv, hgv⟩ : ∃ y, y = x0.heap.size := ⟨_, rfl⟩
        have Bv : Blk y3 gv 41 #[.int .i64 0, .int .i64 0, .int .i64 0, .slice none 0 0, .slice none 0 0, .slice none 0 0, .int .i64 0, .int .i64 0, .int .i64 0] := by rw [hy3, hgv]; exact Blk.new _ _ _
        have hgvn : w1.heap.size ≤ gv := by rw [hgv]; exact (D0).size
        have E3 : Chg [] w1 y3 := by rw [hy3]; exact (D0).alloc _
        try have Ol : OwnI 3 y3 _ m.gl := Ol.chg0 (by rw [hy3]; exact (Chg.refl [] _).alloc _)
        rw [← hy3, ← hgv]
        clear hy3 hgv
        refine hK _ _ (E3) ?_
        clear hK K
        try simp only [Act.put, qSa, qSb, qSc]
        refine wpAnyS_ready (rs := [18]) (by kernel_rfl) (by simp) ?_
        refine AllReadyS.o (fun K hK => ?_)
        rw [if_pos (by rfl)]
        rw [HM.out.2.2]
        go_simp
        go_at_call 41
        have Kc := lclone_own y3 (.slice Ag m.gl.length cg) m.gl (by rw [← HM.out.2.2]; exact ((H1.out.1.chg0 E3).k .globs : OwnI 3 _ p.vgl m.gl)) HM.out.2.1.gw (by have := HM.out.2.1.gl; omega)
        refine Kc.mono ?_
        rintro e y4 ⟨vgl, rfl, Ol, ck, hfl⟩
        clear Kc
        obtain ⟨Al, cl, hvl⟩ := Ol.slice
        subst hvl
        dsimp only
        have E4 := E3.trans ck
        try have Bv := ck.blk Bv (by simp)
        refine hK _ _ (E4) ?_
        clear hK K
        try simp only [Act.put, qSa, qSb, qSc]
        refine wpAnyS_more (fuel := 1) [19] (by kernel_rfl) (fun _ _ _ _ _ h => h) E4 ?_
        simp only [List.filterMap_cons, List.filterMap_nil, qGa, qGb]
        refine wpTake_step (fun K hK => ?_)
        rw [if_pos (by rfl)]
        refine ⟨?_, fun w' hS' => ?_, ?_⟩
        rotate_left 1
        focus
          have s0 := hS'.cellv hgl (by simp) c12
          have s1 := hS'.cellv hgl (by simp) c13
          have s2 := hS'.cellv hgl (by simp) c14
          go_simp
          try with_reducible rfl
          done
        simp only [Act.put, qSa, qSb, qSc]
        refine hK _ ?_
        clear hK K
        refine wpTake_nil ?_
        refine wpAnyS_tail 21 1 (by kernel_rfl) rfl ?_
        simp only [qDa, qDb]
        obtain ⟨wf, hwf⟩ : ∃ y, y = y4 := ⟨_, rfl⟩
        rw [← hwf]
        have Ef : Chg [] w1 wf := by rw [hwf]; exact E4
        have Of : OwnI 3 wf (.slice Al m.gl.length cl) m.gl := by rw [hwf]; exact Ol
        have Bf : Blk wf gv 41 #[.int .i64 0, .int .i64 0, .int .i64 0, .slice none 0 0, .slice none 0 0, .slice none 0 0, .int .i64 0, .int .i64 0, .int .i64 0] := by rw [hwf]; exact Bv
        have hff : ∀ k ∈ fpv (.slice Al m.gl.length cl), w1.heap.size ≤ k := fun k hk => Nat.le_trans (Chg.size (by first | exact D0 | assumption)) (hfl k hk)
        have HF := Lib.hid (And.intro Ef (And.intro Of (And.intro Bf (And.intro hff hgvn))))
        have z0 := Bf.frozen 0
        have z1 := Bf.frozen 1
        have z2 := Bf.frozen 2
        have z3 := Bf.frozen 3
        have z4 := Bf.frozen 4
        have z5 := Bf.frozen 5
        have z6 := Bf.frozen 6
        have z7 := Bf.frozen 7
        have z8 := Bf.frozen 8
        have b0 : wf.cell? ⟨gv, 0, none⟩ = some (.int .i64 0) := Bf.cellv 0 rfl
        have b1 : wf.cell? ⟨gv, 1, none⟩ = some (.int .i64 0) := Bf.cellv 1 rfl
        have b2 : wf.cell? ⟨gv, 2, none⟩ = some (.int .i64 0) := Bf.cellv 2 rfl
        have b3 : wf.cell? ⟨gv, 3, none⟩ = some (.slice none 0 0) := Bf.cellv 3 rfl
        have b4 : wf.cell? ⟨gv, 4, none⟩ = some (.slice none 0 0) := Bf.cellv 4 rfl
        have b5 : wf.cell? ⟨gv, 5, none⟩ = some (.slice none 0 0) := Bf.cellv 5 rfl
        have b6 : wf.cell? ⟨gv, 6, none⟩ = some (.int .i64 0) := Bf.cellv 6 rfl
        have b7 : wf.cell? ⟨gv, 7, none⟩ = some (.int .i64 0) := Bf.cellv 7 rfl
        have b8 : wf.cell? ⟨gv, 8, none⟩ = some (.int .i64 0) := Bf.cellv 8 rfl
        clear Ef Of Bf hff Ol Bv hfl hgvn D0 hwf
        go_wp2_with fail
        go_meet
        exact ⟨gv, Al, cl, rfl, vb_start (Chg.refl [] w1) HF.out⟩
      refine AllReadyS.o (fun K hK => ?_)
      rw [if_pos (by rfl)]
      go_simp
      obtain ⟨y5, hy5⟩ : ∃ y, y = x0.alloc (.cells #[.int .i64 0, .int .i64 0, .int .i64 0, .slice none 0 0, .slice none 0 0, .slice none 0 0, .int .i64 0, .int .i64 0, .int .i64 0] 41) := ⟨_, rfl⟩
      obtain ⟨gv, hgv⟩ : ∃ y, y = x0.heap.size := ⟨_, rfl⟩
      have Bv : Blk y5 gv 41 #[.int .i64 0, .int .i64 0, .int .i64 0, .slice none 0 0, .slice none 0 0, .slice none 0 0, .int .i64 0, .int .i64 0, .int .i64 0] := by rw [hy5, hgv]; exact Blk.new _ _ _
      have hgvn : w1.heap.size ≤ gv := by rw [hgv]; exact (D0).size
      have E5 : Chg [] w1 y5 := by rw [hy5]; exact (D0).alloc _
      try have Ol : OwnI 3 y5 _ m.gl := Ol.chg0 (by rw [hy5]; exact (Chg.refl [] _).alloc _)
      rw [← hy5, ← hgv]
      clear hy5 hgv
      refine hK _ _ (E5) ?_
      clear hK K
      try simp only [Act.put, qSa, qSb, qSc]
      refine wpAnyS_ready (rs := [9]) (by kernel_rfl) (by simp) ?_
      refine AllReadyS.o (fun K hK => ?_)
      rw [if_pos (by rfl)]
      go_simp
      go_at_call 40
      refine (ph_cycle_ok p.gph p.bsd m.ph y5 (H1.out.1.chg0 E5).ph).mono ?_
      rintro e wq ⟨rfl, hq⟩
      subst hq
      dsimp only
      refine hK _ _ (E5) ?_
      clear hK K
      try simp only [Act.put, qSa, qSb, qSc]
      refine wpAnyS_ready (rs := [18]) (by kernel_rfl) (by simp) ?_
      refine AllReadyS.o (fun K hK => ?_)
      rw [if_pos (by rfl)]
      rw [HM.out.2.2]
      go_simp
      go_at_call 41
      have Kc := lclone_own y5 (.slice Ag m.gl.length cg) m.gl (by rw [← HM.out.2.2]; exact ((H1.out.1.chg0 E5).k .globs : OwnI 3 _ p.vgl m.gl)) HM.out.2.1.gw (by have := HM.out.2.1.gl; omega)
      refine Kc.mono ?_
      rintro e y6 ⟨vgl, rfl, Ol, ck, hfl⟩
      clear Kc
      obtain ⟨Al, cl, hvl⟩ := Ol.slice
      subst hvl
      dsimp only
      have E6 := E5.trans ck
      try have Bv := ck.blk Bv (by simp)
      refine hK _ _ (E6) ?_
      clear hK K
      try simp only [Act.put, qSa, qSb, qSc]
      refine wpAnyS_more (fuel := 1) [19] (by kernel_rfl) (fun _ _ _ _ _ h => h) E6 ?_
      simp only [List.filterMap_cons, List.filterMap_nil, qGa, qGb]
      refine wpTake_step (fun K hK => ?_)
      rw [if_pos (by rfl)]
      refine ⟨?_, fun w' hS' => ?_, ?_⟩
      rotate_left 1
      focus
        have s0 := hS'.cellv hgl (by simp) c12
        have s1 := hS'.cellv hgl (by simp) c13
        have s2 := hS'.cellv hgl (by simp) c14
        go_simp
        try with_reducible rfl
        done
      simp only [Act.put, qSa, qSb, qSc]
      refine hK _ ?_
      clear hK K
      refine wpTake_nil ?_
      refine wpAnyS_tail 21 1 (by kernel_rfl) rfl ?_
      simp only [qDa, qDb]
      obtain ⟨wf, hwf⟩ : ∃ y, y = y6 := ⟨_, rfl⟩
      rw [← hwf]
      have Ef : Chg [] w1 wf := by rw [hwf]; exact E6
      have Of : OwnI 3 wf (.slice Al m.gl.length cl) m.gl := by rw [hwf]; exact Ol
      have Bf : Blk wf gv 41 #[.int .i64 0, .int .i64 0, .int .i64 0, .slice none 0 0, .slice none 0 0, .slice none 0 0, .int .i64 0, .int .i64 0, .int .i64 0] := by rw [hwf]; exact Bv
      have hff : ∀ k ∈ fpv (.slice Al m.gl.length cl), w1.heap.size ≤ k := fun k hk => Nat.le_trans (Chg.size (by first | exact D0 | assumption)) (hfl k hk)
      have HF := Lib.hid (And.intro Ef (And.intro Of (And.intro Bf (And.intro hff hgvn))))
      have z0 := Bf.frozen 0
      have z1 := Bf.frozen 1
      have z2 := Bf.frozen 2
      have z3 := Bf.frozen 3
      have z4 := Bf.frozen 4
      have z5 := Bf.frozen 5
      have z6 := Bf.frozen 6
      have z7 := Bf.frozen 7
      have z8 := Bf.frozen 8
      have b0 : wf.cell? ⟨gv, 0, none⟩ = some (.int .i64 0) := Bf.cellv 0 rfl
      have b1 : wf.cell? ⟨gv, 1, none⟩ = some (.int .i64 0) := Bf.cellv 1 rfl
      have b2 : wf.cell? ⟨gv, 2, none⟩ = some (.int .i64 0) := Bf.cellv 2 rfl
      have b3 : wf.cell? ⟨gv, 3, none⟩ = some (.slice none 0 0) := Bf.cellv 3 rfl
      have b4 : wf.cell? ⟨gv, 4, none⟩ = some (.slice none 0 0) := Bf.cellv 4 rfl
      have b5 : wf.cell? ⟨gv, 5, none⟩ = some (.slice none 0 0) := Bf.cellv 5 rfl
      have b6 : wf.cell? ⟨gv, 6, none⟩ = some (.int .i64 0) := Bf.cellv 6 rfl
      have b7 : wf.cell? ⟨gv, 7, none⟩ = some (.int .i64 0) := Bf.cellv 7 rfl
      have b8 : wf.cell? ⟨gv, 8, none⟩ = some (.int .i64 0) := Bf.cellv 8 rfl
      clear Ef Of Bf hff Ol Bv hfl hgvn D0 hwf
      go_wp2_with fail
      go_meet
      exact ⟨gv, Al, cl, rfl, vb_start (Chg.refl [] w1) HF.out⟩
    refine AllReadyS.o (fun K hK => ?_)
    rw [if_pos (by rfl)]
    go_simp
    obtain ⟨y7, hy7⟩ : ∃ y, y = x0.alloc (.cells #[.int .i64 0, .int .i64 0, .int .i64 0, .slice none 0 0, .slice none 0 0, .slice none 0 0, .int .i64 0, .int .i64 0, .int .i64 0] 41) := ⟨_, rfl⟩
    obtain ⟨gv, hgv⟩ : ∃ y, y = x0.heap.size := ⟨_, rfl⟩
    have Bv : Blk y7 gv 41 #[.int .i64 0, .int .i64 0, .int .i64 0, .slice none 0 0, .slice none 0 0, .slice none 0 0, .int .i64 0, .int .i64 0, .int .i64 0] := by rw [hy7, hgv]; exact Blk.new _ _ _
    have hgvn : w1.heap.size ≤ gv := by rw [hgv]; exact (D0).size
    have E7 : Chg [] w1 y7 := by rw [hy7]; exact (D0).alloc _
    try have Ol : OwnI 3 y7 _ m.gl := Ol.chg0 (by rw [hy7]; exact (Chg.refl [] _).alloc _)
    rw [← hy7, ← hgv]
    clear hy7 hgv
    refine hK _ _ (E7) ?_
    clear hK K
    try simp only [Act.put, qSa, qSb, qSc]
    refine wpAnyS_ready (rs := [4]) (by kernel_rfl) (by simp) ?_
    refine AllReadyS.o (fun K hK => ?_)
    rw [if_pos (by rfl)]
    go_simp
    go_at_call 39
    refine (ph_phase_ok p.gph p.bsd m.ph y7 (H1.out.1.chg0 E7).ph).mono ?_
    rintro e wq ⟨rfl, hq⟩
    subst hq
    dsimp only
    refine hK _ _ (E7) ?_
    clear hK K
    try simp only [Act.put, qSa, qSb, qSc]
    refine wpAnyS_ready (rs := [9]) (by kernel_rfl) (by simp) ?_
    refine AllReadyS.o (fun K hK => ?_)
    rw [if_pos (by rfl)]
    go_simp
    go_at_call 40
    refine (ph_cycle_ok p.gph p.bsd m.ph y7 (H1.out.1.chg0 E7).ph).mono ?_
    rintro e wq ⟨rfl, hq⟩
    subst hq
    dsimp only
    refine hK _ _ (E7) ?_
    clear hK K
    try simp only [Act.put, qSa, qSb, qSc]
    refine wpAnyS_ready (rs := [18]) (by kernel_rfl) (by simp) ?_
    refine AllReadyS.o (fun K hK => ?_)
    rw [if_pos (by rfl)]
    rw [HM.out.2.2]
    go_simp
    go_at_call 41
    have Kc := lclone_own y7 (.slice Ag m.gl.length cg) m.gl (by rw [← HM.out.2.2]; exact ((H1.out.1.chg0 E7).k .globs : OwnI 3 _ p.vgl m.gl)) HM.out.2.1.gw (by have := HM.out.2.1.gl; omega)
    refine Kc.mono ?_
    rintro e y8 ⟨vgl, rfl, Ol, ck, hfl⟩
    clear Kc
    obtain ⟨Al, cl, hvl⟩ := Ol.slice
    subst hvl
    dsimp only
    have E8 := E7.trans ck
    try have Bv := ck.blk Bv (by simp)
    refine hK _ _ (E8) ?_
    clear hK K
    try simp only [Act.put, qSa, qSb, qSc]
    refine wpAnyS_more (fuel := 1) [19] (by kernel_rfl) (fun _ _ _ _ _ h => h) E8 ?_
    simp only [List.filterMap_cons, List.filterMap_nil, qGa, qGb]
    refine wpTake_step (fun K hK => ?_)
    rw [if_pos (by rfl)]
    refine ⟨?_, fun w' hS' => ?_, ?_⟩
    rotate_left 1
    focus
      have s0 := hS'.cellv hgl (by simp) c12
      have s1 := hS'.cellv hgl (by simp) c13
      have s2 := hS'.cellv hgl (by simp) c14
      go_simp
      try with_reducible rfl
      done
    simp only [Act.put, qSa, qSb, qSc]
    refine hK _ ?_
    clear hK K
    refine wpTake_nil ?_
    refine wpAnyS_tail 21 1 (by kernel_rfl) rfl ?_
    simp only [qDa, qDb]
    obtain ⟨wf, hwf⟩ : ∃ y, y = y8 := ⟨_, rfl⟩
    rw [← hwf]
    have Ef : Chg [] w1 wf := by rw [hwf]; exact E8
    have Of : OwnI 3 wf (.slice Al m.gl.length cl) m.gl := by rw [hwf]; exact Ol
    have Bf : Blk wf gv 41 #[.int .i64 0, .int .i64 0, .int .i64 0, .slice none 0 0, .slice none 0 0, .slice none 0 0, .int .i64 0, .int .i64 0, .int .i64 0] := by rw [hwf]; exact Bv
    have hff : ∀ k ∈ fpv (.slice Al m.gl.length cl), w1.heap.size ≤ k := fun k hk => Nat.le_trans (Chg.size (by first | exact D0 | assumption)) (hfl k hk)
    have HF := Lib.hid (And.intro Ef (And.intro Of (And.intro Bf (And.intro hff hgvn))))
    have z0 := Bf.frozen 0
    have z1 := Bf.frozen 1
    have z2 := Bf.frozen 2
    have z3 := Bf.frozen 3
    have z4 := Bf.frozen 4
    have z5 := Bf.frozen 5
    have z6 := Bf.frozen 6
    have z7 := Bf.frozen 7
    have z8 := Bf.frozen 8
    have b0 : wf.cell? ⟨gv, 0, none⟩ = some (.int .i64 0) := Bf.cellv 0 rfl
    have b1 : wf.cell? ⟨gv, 1, none⟩ = some (.int .i64 0) := Bf.cellv 1 rfl
    have b2 : wf.cell? ⟨gv, 2, none⟩ = some (.int .i64 0) := Bf.cellv 2 rfl
    have b3 : wf.cell? ⟨gv, 3, none⟩ = some (.slice none 0 0) := Bf.cellv 3 rfl
    have b4 : wf.cell? ⟨gv, 4, none⟩ = some (.slice none 0 0) := Bf.cellv 4 rfl
    have b5 : wf.cell? ⟨gv, 5, none⟩ = some (.slice none 0 0) := Bf.cellv 5 rfl
    have b6 : wf.cell? ⟨gv, 6, none⟩ = some (.int .i64 0) := Bf.cellv 6 rfl
    have b7 : wf.cell? ⟨gv, 7, none⟩ = some (.int .i64 0) := Bf.cellv 7 rfl
    have b8 : wf.cell? ⟨gv, 8, none⟩ = some (.int .i64 0) := Bf.cellv 8 rfl
    clear Ef Of Bf hff Ol Bv hfl hgvn D0 hwf
    go_wp2_with fail
    go_meet
    exact ⟨gv, Al, cl, rfl, vb_start (Chg.refl [] w1) HF.out⟩
  case rest =>
    obtain ⟨gv, Al, cl, rfl, V3, c13⟩ := hcut
    have M3 := H1.out.1.chg0 V3.c
    obtain ⟨As, cs, hvs⟩ := (M3.k .gsl : OwnV 115 wc p.vgs (ptrs p.bg m.ng)).slice
    rw [ptrs_len] at hvs
    have g8 : wc.cell? ⟨p.gm, 8, none⟩ = some (.slice As m.ng cs) := by rw [← hvs]; exact M3.mb.cellv 8 rfl
    have B2 := c13.blk H1.out.2.1 (by simp)
    have H3 := Lib.hid (And.intro V3 (And.intro hvs B2)); clear V3 c13 M3 hvs B2
    go_wp2_with fail
    go_loopg [40] (m.ng + 1) (fun gk idx wr => VgRel w1 m gv (.slice Al m.gl.length cl) gk idx wr)
    case atStart => exact ⟨0, _, [], by omega, by omega, rfl, rfl, H3.out.1⟩
    case round =>
      obtain ⟨i, vgs, lg, hgk, hi, rfl, hlg, V⟩ := hrel
      have HV := Lib.hid (And.intro V hlg); clear V hlg g8
      have HMr := Lib.hid (H1.out.1.chg0 HV.out.1.c)
      by_cases hin : i < m.ng
      · have HI := Lib.hid hin
        have e1 : decide ((i : Int) < (m.ng : Int)) = true := decide_eq_true (by omega)
        have e2 : (i : Int) < (m.ng : Int) := by omega
        have e3 : (0 : Int) ≤ (i : Int) := by omega
        obtain ⟨ga, hA, ca⟩ : ∃ ga, As = some ⟨ga, 0, none⟩ ∧ wr.cell? ⟨ga, i, none⟩ = some (.pointer (some ⟨p.bg i, 0, none⟩)) := by
          have O : OwnV 115 wr p.vgs (ptrs p.bg m.ng) := HMr.out.k .gsl
          rw [H3.out.2.1] at O
          obtain ⟨ga, h1, h2, -⟩ := O.cell (ptrs_at p.bg hin)
          exact ⟨ga, h1, h2⟩
        subst hA
        obtain ⟨st, hst⟩ : ∃ x, m.sts[i]? = some x := ⟨m.sts[i]'(by rw [HM.out.2.1.sl]; exact hin), List.getElem?_eq_getElem _⟩
        go_upto_region 7 with fail
        obtain ⟨w1', hw1'⟩ : ∃ y, y = wr := ⟨_, rfl⟩
        have c7 : wr.cell? ⟨p.gm, 7, none⟩ = some (.pointer (some ⟨p.gst, 0, none⟩)) := HMr.out.mb.cellv 7 rfl
        have hgl := HMr.out.mb.lt
        have HS := Lib.hid hst; clear hst ca hw1'
        go_cut [6] from 45 to 56 (fun v6 wd => ∃ gy sv, v6 = .pointer (some ⟨gy, 0, none⟩) ∧ Blk wd gy 53 #[.int .i64 st, .int .i64 (-1), sv] ∧ (w1.heap.size ≤ gy ∧ wr.heap.size ≤ gy) ∧ OwnI 3 wd sv (stkL (m.gs i)) ∧ Chg [] wr wd)
        case first =>
          refine wp_region_takes (fuel := 5) 13 (fun w' => Chg [] wr w') [0, 1, 2, 3, 4, 6, 7, 8, 9] (by kernel_rfl) (by kernel_rfl) (fun _ _ _ _ _ h => h) ((Chg.refl [] wr).drew) ?_
          simp only [List.filterMap_cons, List.filterMap_nil, qGa, qGb]
          iterate 9
            refine wpTake_step (fun K hK => ?_)
            rw [if_pos (by rfl)]
            refine ⟨?_, fun w' hS' => ?_, ?_⟩
            rotate_left 1
            focus
              have s0 := hS'.cellv hgl (by simp) c7
              go_simp
              try with_reducible rfl
              done
            simp only [Act.put, qSa, qSb, qSc]
            refine hK _ ?_
            clear hK K
          refine wpTake_nil ?_
          generalize hx0 : wr.drew = x0
          have D0 : Chg [] wr x0 := by rw [← hx0]; exact (Chg.refl [] wr).drew
          clear hx0
          refine wpAnyS_ready (rs := [5, 12]) (by kernel_rfl) (by simp) ?_
          refine AllReadyS.cons (by simp only [qGc, qGa, qGb]; rfl) (fun K hK => ?_) ?_
          · rw [if_pos (by rfl)]
            go_simp
            go_at_call 42
            refine (st_of _ _ _ _ (HMr.out.chg0 D0).st i st HS.out).mono ?_
            rintro e wq ⟨rfl, hq⟩
            rw [hq]
            clear hq wq
            dsimp only
            refine hK _ _ (D0) ?_
            clear hK K
            try simp only [Act.put, qSa, qSb, qSc]
            refine wpAnyS_ready (rs := [10, 12]) (by kernel_rfl) (by simp) ?_
            refine AllReadyS.cons (by simp only [qGc, qGa, qGb]; rfl) (fun K hK => ?_) ?_
            · rw [if_pos (by rfl)]
              go_simp
              go_at_call 41
              refine (lclone_sl x0 (p.bg i) 3 16 16 _ (stkL (m.gs i)) (gor_sl (HMr.out.chg0 D0) hin (HM.out.2.1.sw i hin).2) (Nat.le_refl _) (by unfold stkL; rw [List.length_map, List.length_range]; omega)).mono ?_
              rintro e y1 ⟨sv, rfl, Os, ck, hfs⟩
              obtain ⟨Az, cz, hvz⟩ := Os.slice
              subst hvz
              dsimp only
              have E1 := D0.trans ck
              try have By := ck.blk By (by simp)
              refine hK _ _ (E1) ?_
              clear hK K
              try simp only [Act.put, qSa, qSb, qSc]
              refine wpAnyS_more (fuel := 2) [11] (by kernel_rfl) (fun _ _ _ _ _ h => h) E1 ?_
              simp only [List.filterMap_cons, List.filterMap_nil, qGa, qGb]
              refine wpTake_step (fun K hK => ?_)
              rw [if_pos (by rfl)]
              refine ⟨?_, fun w' hS' => ?_, ?_⟩
              rotate_left 1
              focus
                have s0 := hS'.cellv hgl (by simp) c7
                go_simp
                try with_reducible rfl
                done
              simp only [Act.put, qSa, qSb, qSc]
              refine hK _ ?_
              clear hK K
              refine wpTake_nil ?_
              refine wpAnyS_ready (rs := [12]) (by kernel_rfl) (by simp) ?_
              refine AllReadyS.o (fun K hK => ?_)
              rw [if_pos (by rfl)]
              go_simp
              obtain ⟨y2, hy2⟩ : ∃ y, y = y1.alloc (.cells #[.int .i64 0, .int .i64 0, .slice none 0 0] 53) := ⟨_, rfl⟩
              obtain ⟨gy, hgy⟩ : ∃ y, y = y1.heap.size := ⟨_, rfl⟩
              have By : Blk y2 gy 53 #[.int .i64 0, .int .i64 0, .slice none 0 0] := by rw [hy2, hgy]; exact Blk.new _ _ _
              have hgyn : wr.heap.size ≤ gy := by rw [hgy]; exact (E1).size
              have E2 : Chg [] wr y2 := by rw [hy2]; exact (E1).alloc _
              try have Os : OwnI 3 y2 _ (stkL (m.gs i)) := Os.chg0 (by rw [hy2]; exact (Chg.refl [] _).alloc _)
              rw [← hy2, ← hgy]
              clear hy2 hgy
              refine hK _ _ (E2) ?_
              clear hK K
              try simp only [Act.put, qSa, qSb, qSc]
              refine wpAnyS_tail 13 1 (by kernel_rfl) rfl ?_
              simp only [qDa, qDb]
              obtain ⟨wf, hwf⟩ : ∃ y, y = y2 := ⟨_, rfl⟩
              rw [← hwf]
              have Ef : Chg [] wr wf := by rw [hwf]; exact E2
              have Of : OwnI 3 wf (.slice Az (stkL (m.gs i)).length cz) (stkL (m.gs i)) := by rw [hwf]; exact Os
              have Bf : Blk wf gy 53 #[.int .i64 0, .int .i64 0, .slice none 0 0] := by rw [hwf]; exact By
              have HF := Lib.hid (And.intro Ef (And.intro Of (And.intro Bf hgyn)))
              have z0 := Bf.frozen 0
              have z1 := Bf.frozen 1
              have z2 := Bf.frozen 2
              have b0 : wf.cell? ⟨gy, 0, none⟩ = some (.int .i64 0) := Bf.cellv 0 rfl
              have b1 : wf.cell? ⟨gy, 1, none⟩ = some (.int .i64 0) := Bf.cellv 1 rfl
              have b2 : wf.cell? ⟨gy, 2, none⟩ = some (.slice none 0 0) := Bf.cellv 2 rfl
              clear Ef Of Bf Os By hfs hgyn D0 hwf
              go_wp2_with fail
              go_meet
              exact ⟨gy, _, rfl, gr_start HV.out.1.c HF.out⟩
            refine AllReadyS.o (fun K hK => ?_)
            rw [if_pos (by rfl)]
            go_simp
            obtain ⟨y3, hy3⟩ : ∃ y, y = x0.alloc (.cells #[.int .i64 0, .int .i64 0, .slice none 0 0] 53) := ⟨_, rfl⟩
            obtain ⟨gy, hgy⟩ : ∃ y, y = x0.heap.size := ⟨_, rfl⟩
            have By : Blk y3 gy 53 #[.int .i64 0, .int .i64 0, .slice none 0 0] := by rw [hy3, hgy]; exact Blk.new _ _ _
            have hgyn : wr.heap.size ≤ gy := by rw [hgy]; exact (D0).size
            have E3 : Chg [] wr y3 := by rw [hy3]; exact (D0).alloc _
            try have Os : OwnI 3 y3 _ (stkL (m.gs i)) := Os.chg0 (by rw [hy3]; exact (Chg.refl [] _).alloc _)
            rw [← hy3, ← hgy]
            clear hy3 hgy
            refine hK _ _ (E3) ?_
            clear hK K
            try simp only [Act.put, qSa, qSb, qSc]
            refine wpAnyS_ready (rs := [10]) (by kernel_rfl) (by simp) ?_
            refine AllReadyS.o (fun K hK => ?_)
            rw [if_pos (by rfl)]
            go_simp
            go_at_call 41
            refine (lclone_sl y3 (p.bg i) 3 16 16 _ (stkL (m.gs i)) (gor_sl (HMr.out.chg0 E3) hin (HM.out.2.1.sw i hin).2) (Nat.le_refl _) (by unfold stkL; rw [List.length_map, List.length_range]; omega)).mono ?_
            rintro e y4 ⟨sv, rfl, Os, ck, hfs⟩
            obtain ⟨Az, cz, hvz⟩ := Os.slice
            subst hvz
            dsimp only
            have E4 := E3.trans ck
            try have By := ck.blk By (by simp)
            refine hK _ _ (E4) ?_
            clear hK K
            try simp only [Act.put, qSa, qSb, qSc]
            refine wpAnyS_more (fuel := 1) [11] (by kernel_rfl) (fun _ _ _ _ _ h => h) E4 ?_
            simp only [List.filterMap_cons, List.filterMap_nil, qGa, qGb]
            refine wpTake_step (fun K hK => ?_)
            rw [if_pos (by rfl)]
            refine ⟨?_, fun w' hS' => ?_, ?_⟩
            rotate_left 1
            focus
              have s0 := hS'.cellv hgl (by simp) c7
              go_simp
              try with_reducible rfl
              done
            simp only [Act.put, qSa, qSb, qSc]
            refine hK _ ?_
            clear hK K
            refine wpTake_nil ?_
            refine wpAnyS_tail 13 1 (by kernel_rfl) rfl ?_
            simp only [qDa, qDb]
            obtain ⟨wf, hwf⟩ : ∃ y, y = y4 := ⟨_, rfl⟩
            rw [← hwf]
            have Ef : Chg [] wr wf := by rw [hwf]; exact E4
            have Of : OwnI 3 wf (.slice Az (stkL (m.gs i)).length cz) (stkL (m.gs i)) := by rw [hwf]; exact Os
            have Bf : Blk wf gy 53 #[.int .i64 0, .int .i64 0, .slice none 0 0] := by rw [hwf]; exact By
            have HF := Lib.hid (And.intro Ef (And.intro Of (And.intro Bf hgyn)))
            have z0 := Bf.frozen 0
            have z1 := Bf.frozen 1
            have z2 := Bf.frozen 2
            have b0 : wf.cell? ⟨gy, 0, none⟩ = some (.int .i64 0) := Bf.cellv 0 rfl
            have b1 : wf.cell? ⟨gy, 1, none⟩ = some (.int .i64 0) := Bf.cellv 1 rfl
            have b2 : wf.cell? ⟨gy, 2, none⟩ = some (.slice none 0 0) := Bf.cellv 2 rfl
            clear Ef Of Bf Os By hfs hgyn D0 hwf
            go_wp2_with fail
            go_meet
            exact ⟨gy, _, rfl, gr_start HV.out.1.c HF.out⟩
          refine AllReadyS.o (fun K hK => ?_)
          rw [if_pos (by rfl)]
          go_simp
          obtain ⟨y5, hy5⟩ : ∃ y, y = x0.alloc (.cells #[.int .i64 0, .int .i64 0, .slice none 0 0] 53) := ⟨_, rfl⟩
          obtain ⟨gy, hgy⟩ : ∃ y, y = x0.heap.size := ⟨_, rfl⟩
          have By : Blk y5 gy 53 #[.int .i64 0, .int .i64 0, .slice none 0 0] := by rw [hy5, hgy]; exact Blk.new _ _ _
          have hgyn : wr.heap.size ≤ gy := by rw [hgy]; exact (D0).size
          have E5 : Chg [] wr y5 := by rw [hy5]; exact (D0).alloc _
          try have Os : OwnI 3 y5 _ (stkL (m.gs i)) := Os.chg0 (by rw [hy5]; exact (Chg.refl [] _).alloc _)
          rw [← hy5, ← hgy]
          clear hy5 hgy
          refine hK _ _ (E5) ?_
          clear hK K
          try simp only [Act.put, qSa, qSb, qSc]
          refine wpAnyS_ready (rs := [5]) (by kernel_rfl) (by simp) ?_
          refine AllReadyS.o (fun K hK => ?_)
          rw [if_pos (by rfl)]
          go_simp
          go_at_call 42
          refine (st_of _ _ _ _ (HMr.out.chg0 E5).st i st HS.out).mono ?_
          rintro e wq ⟨rfl, hq⟩
          rw [hq]
          clear hq wq
          dsimp only
          refine hK _ _ (E5) ?_
          clear hK K
          try simp only [Act.put, qSa, qSb, qSc]
          refine wpAnyS_ready (rs := [10]) (by kernel_rfl) (by simp) ?_
          refine AllReadyS.o (fun K hK => ?_)
          rw [if_pos (by rfl)]
          go_simp
          go_at_call 41
          refine (lclone_sl y5 (p.bg i) 3 16 16 _ (stkL (m.gs i)) (gor_sl (HMr.out.chg0 E5) hin (HM.out.2.1.sw i hin).2) (Nat.le_refl _) (by unfold stkL; rw [List.length_map, List.length_range]; omega)).mono ?_
          rintro e y6 ⟨sv, rfl, Os, ck, hfs⟩
          obtain ⟨Az, cz, hvz⟩ := Os.slice
          subst hvz
          dsimp only
          have E6 := E5.trans ck
          try have By := ck.blk By (by simp)
          refine hK _ _ (E6) ?_
          clear hK K
          try simp only [Act.put, qSa, qSb, qSc]
          refine wpAnyS_more (fuel := 1) [11] (by kernel_rfl) (fun _ _ _ _ _ h => h) E6 ?_
          simp only [List.filterMap_cons, List.filterMap_nil, qGa, qGb]
          refine wpTake_step (fun K hK => ?_)
          rw [if_pos (by rfl)]
          refine ⟨?_, fun w' hS' => ?_, ?_⟩
          rotate_left 1
          focus
            have s0 := hS'.cellv hgl (by simp) c7
            go_simp
            try with_reducible rfl
            done
          simp only [Act.put, qSa, qSb, qSc]
          refine hK _ ?_
          clear hK K
          refine wpTake_nil ?_
          refine wpAnyS_tail 13 1 (by kernel_rfl) rfl ?_
          simp only [qDa, qDb]
          obtain ⟨wf, hwf⟩ : ∃ y, y = y6 := ⟨_, rfl⟩
          rw [← hwf]
          have Ef : Chg [] wr wf := by rw [hwf]; exact E6
          have Of : OwnI 3 wf (.slice Az (stkL (m.gs i)).length cz) (stkL (m.gs i)) := by rw [hwf]; exact Os
          have Bf : Blk wf gy 53 #[.int .i64 0, .int .i64 0, .slice none 0 0] := by rw [hwf]; exact By
          have HF := Lib.hid (And.intro Ef (And.intro Of (And.intro Bf hgyn)))
          have z0 := Bf.frozen 0
          have z1 := Bf.frozen 1
          have z2 := Bf.frozen 2
          have b0 : wf.cell? ⟨gy, 0, none⟩ = some (.int .i64 0) := Bf.cellv 0 rfl
          have b1 : wf.cell? ⟨gy, 1, none⟩ = some (.int .i64 0) := Bf.cellv 1 rfl
          have b2 : wf.cell? ⟨gy, 2, none⟩ = some (.slice none 0 0) := Bf.cellv 2 rfl
          clear Ef Of Bf Os By hfs hgyn D0 hwf
          go_wp2_with fail
          go_meet
          exact ⟨gy, _, rfl, gr_start HV.out.1.c HF.out⟩
        case rest =>
          obtain ⟨wd, hwd⟩ : ∃ y, y = wc := ⟨_, rfl⟩
          subst hwd
          obtain ⟨gy, sv, rfl, By, hgy, Os, c7d⟩ := hcut
          have M7 := HMr.out.chg0 c7d
          have V7 := HV.out.1.chg0 c7d
          have y0 : wd.cell? ⟨gy, 0, none⟩ = some (.int .i64 st) := By.cellv 0 rfl
          have y1 : wd.cell? ⟨gy, 1, none⟩ = some (.int .i64 (-1)) := By.cellv 1 rfl
          have z1 := By.frozen 1
          have c10 : wd.cell? ⟨p.gm, 10, none⟩ = some (.pointer (some ⟨p.gsd, 0, none⟩)) := M7.mb.cellv 10 rfl
          have cpp : wd.cell? ⟨p.bg i, 19, none⟩ = some (.int .i64 (m.gs i).p) := (M7.gb hin).cellv 19 rfl
          have KW := sc_where M7.sc (i : Nat) HM.out.2.1.P HM.out.2.1.rg HM.out.2.1.cw HM.out.2.1.cl
          have H7 := Lib.hid (And.intro M7 (And.intro V7 (And.intro By (And.intro hgy (And.intro Os KW))))); clear M7 V7 By hgy Os KW c7 hgl c7d
          obtain ⟨pv, hpv⟩ : ∃ x, x = (grA m i).p := ⟨_, rfl⟩
          go_upto_block 2 with fail
          go_cut [] from 57 to 77 (fun we => Blk we gy 53 #[.int .i64 st, .int .i64 pv, sv] ∧ Chg [gy] wd we)
          case first =>
            have hpv2 : pv = if st = 2 then (m.gs i).p else if st = 1 then whP m.np m.rg m.com i else -1 := by
              rw [hpv]
              show (if (m.sts[i]?).getD 0 = 2 then _ else _) = _
              rw [HS.out]; rfl
            clear hpv
            by_cases h2 : st = 2
            · rw [if_pos h2] at hpv2
              have e9 : (st == 2) = true := by rw [beq_iff_eq]; exact h2
              rw [← hpv2] at cpp
              have HP := Lib.hid (And.intro hpv2 h2); clear hpv2 h2 c10
              go_wp2_with fail
              go_meet
              exact ⟨H7.out.2.2.1.setv 1 _ rfl, (Chg.refl [gy] wd).setCell (.inl (by simp)) _⟩
            · rw [if_neg h2] at hpv2
              have e9 : (st == 2) = false := by rw [beq_eq_false_iff_ne]; exact h2
              by_cases h1 : st = 1
              · rw [if_pos h1] at hpv2
                have e8 : (st == 1) = true := by rw [beq_iff_eq]; exact h1
                have HP := Lib.hid (And.intro hpv2 (And.intro h2 h1)); clear hpv2 h2 h1 cpp
                go_wp2_with fail
                refine (H7.out.2.2.2.2.2).mono ?_
                rintro e w8 ⟨rfl, c8⟩
                rw [← HP.out.1]
                have B8 := c8.blk H7.out.2.2.1 (by simp)
                have y1' : w8.cell? ⟨gy, 1, none⟩ = some (.int .i64 (-1)) := B8.cellv 1 rfl
                have z1' := B8.frozen 1
                have H8 := Lib.hid (And.intro c8 B8); clear c8 B8 y0 y1 z1
                go_wp2_with fail
                go_meet
                exact ⟨H8.out.2.setv 1 _ rfl, (H8.out.1.mono (by simp)).setCell (.inl (by simp)) _⟩
              · rw [if_neg h1] at hpv2
                have e8 : (st == 1) = false := by rw [beq_eq_false_iff_ne]; exact h1
                subst hpv2
                clear h1 h2 cpp c10
                go_wp2_with fail
                go_meet
                exact ⟨H7.out.2.2.1, Chg.refl _ _⟩
          case rest =>
            obtain ⟨we, hwe⟩ : ∃ y, y = wc := ⟨_, rfl⟩
            subst hwe
            obtain ⟨By, cde⟩ := hcut
            have V8 : VbI w1 we m gv (.slice Al m.gl.length cl) vgs (.slice none 0 0) lg [] := H7.out.2.1.farG cde H7.out.2.2.1 H7.out.2.2.2.1.1 (fun hm => by have := HV.out.1.gs.lt hm; have := H7.out.2.2.2.1.2; omega)
            have O8 : OwnI 3 we sv (stkL (m.gs i)) := H7.out.2.2.2.2.1.chgB cde H7.out.2.2.1 (by decide)
            obtain ⟨Ag2, cg2, hvgs⟩ := V8.gs.slice
            subst hvgs
            have v4 : we.cell? ⟨gv, 4, none⟩ = some (.slice Ag2 lg.length cg2) := V8.B.cellv 4 rfl
            have y0 : we.cell? ⟨gy, 0, none⟩ = some (.int .i64 st) := By.cellv 0 rfl
            have y1 : we.cell? ⟨gy, 1, none⟩ = some (.int .i64 pv) := By.cellv 1 rfl
            have y2 : we.cell? ⟨gy, 2, none⟩ = some sv := By.cellv 2 rfl
            obtain ⟨Az, cz, hsv⟩ := O8.slice
            subst hsv
            have H8 := Lib.hid (And.intro V8 (And.intro O8 (And.intro hpv cde))); clear V8 O8 hpv cde By
            have hlgl : lg.length ≤ 100000000 := by
              have e := congrArg List.length HV.out.2
              rw [List.length_map, List.length_map, List.length_range] at e
              have := HM.out.2.1.ng
              omega
            have hi9 : i ≤ 100000 := by have := HM.out.2.1.ng; have := HI.out; omega
            obtain ⟨sl8, hsl8⟩ : ∃ v, v = Value.slice Az (stkL (m.gs i)).length cz := ⟨_, rfl⟩
            have H9 := Lib.hid hsl8
            go_wp2_with (at_builtin; refine wpList_push_g grC_len grC_one tyGo3 ((⟨st, pv, stkL (m.gs i)⟩, (Az, (stkL (m.gs i)).length, cz)) : Gr × SlT) rfl rfl _ _ rfl rfl H8.out.1.gs rfl hlgl ?_; intro A' c' w9 O9 S9; have S9 : Stp (fpv (.slice Ag2 lg.length cg2)) (fpv (.slice A' (lg.length + 1) c')) we w9 := S9; have V9 := H8.out.1.pushG (x := (⟨st, pv, stkL (m.gs i)⟩, (Az, (stkL (m.gs i)).length, cz))) H8.out.2.1 O9 S9; have B9 := S9.c.blk H8.out.1.B (H8.out.1.gs.ne_blk H8.out.1.B (by decide)); have z4 := B9.frozen 4; have u4 : w9.cell? ⟨gv, 4, none⟩ = some (.slice Ag2 lg.length cg2) := B9.cellv 4 rfl; have HV9 := Lib.hid V9; clear V9 O9 S9 B9)
            go_roundg (m.ng - i)
            case measure => have := HI.out; omega
            case rel => exact ⟨i + 1, _, _, by have := HI.out; omega, by have := HI.out; omega, by go_num, by
              rw [List.map_append, HV.out.2, List.range_succ, List.map_append]
              congr 1
              show [(⟨st, pv, stkL (m.gs i)⟩ : Gr)] = [grA m i]
              have e1 : (m.sts[i]?).getD 0 = st := by rw [HS.out]; rfl
              have e2 := H8.out.2.2.1
              have e3 : (grA m i).state = st := e1
              rw [e2, ← e3]
              rfl, HV9.out⟩
      · have hin' : i = m.ng := by omega
        have e1 : decide ((i : Int) < (m.ng : Int)) = false := decide_eq_false (by omega)
        have e2 : ¬ (i : Int) < (m.ng : Int) := by omega
        have HI := Lib.hid hin'; clear hin'
        have c6 : wr.cell? ⟨p.gm, 6, none⟩ = some (.pointer (some ⟨p.H.gh, 0, none⟩)) := HMr.out.mb.cellv 6 rfl
        have KA := hp_arena HMr.out
        have HA := Lib.hid KA; clear KA
        go_wp2_with fail
        refine (HA.out).mono ?_
        rintro e w5 ⟨rfl, rfl⟩
        have KO := s_objects HMr.out.hp.S HM.out.2.1.b
        have HO := Lib.hid KO; clear KO c6
        go_wp2_with fail
        refine (HO.out).mono ?_
        rintro e w6 ⟨vks, ks, rfl, Ok, c6, hfk, hrise, hmem⟩
        obtain ⟨Ak, ck, hvk⟩ := Ok.slice
        subst hvk
        have V6 := HV.out.1.chg0 c6
        have hkl : ks.length ≤ 100000000 := objs_len HMr.out.hp hrise hmem
        have HK := Lib.hid (And.intro V6 (And.intro Ok (And.intro hrise (And.intro hmem hkl)))); clear V6 Ok hrise hmem hfk c6 hkl
        obtain ⟨vgs9, hvgs9⟩ : ∃ v, v = vgs := ⟨_, rfl⟩
        subst hvgs9
        go_wp2_with fail
        go_loopg [93] (ks.length + 1) (fun gk idx wr => VoRel w1 m gv (.slice Al m.gl.length cl) vgs9 lg ks (.slice Ak ks.length ck) gk idx wr)
        case atStart => exact ⟨0, _, [], by omega, by omega, rfl, rfl, HK.out.1, HK.out.2.1⟩
        case round =>
          obtain ⟨j, vob, lo, hgk2, hj, rfl, hlo, V, Ok⟩ := hrel
          obtain ⟨Ao, co, hvo⟩ := V.os.slice
          subst hvo
          have HW := Lib.hid (And.intro V (And.intro hlo Ok)); clear V hlo Ok
          have HMw := Lib.hid (H1.out.1.chg0 HW.out.1.c)
          by_cases hjn : j < ks.length
          · have HJ := Lib.hid hjn
            have hj9 : j ≤ 100000000 := by have := HK.out.2.2.2.2; omega
            have e1 : decide ((j : Int) < (ks.length : Int)) = true := decide_eq_true (by omega)
            have e2 : (j : Int) < (ks.length : Int) := by omega
            have e3 : (0 : Int) ≤ (j : Int) := by omega
            obtain ⟨x, hx⟩ : ∃ x, ks[j]? = some x := ⟨ks[j], List.getElem?_eq_getElem hjn⟩
            obtain ⟨ga, hA, ca, -⟩ := HW.out.2.2.cell hx
            subst hA
            have hsome := (HK.out.2.2.2.1 x).1 (List.mem_of_getElem? hx)
            obtain ⟨xs, hxs⟩ := Option.isSome_iff_exists.1 hsome
            obtain ⟨q1, q2, q3⟩ := HM.out.2.1.ow x xs hxs
            have hlol : lo.length ≤ 100000000 := by
              have e := congrArg List.length HW.out.2.1
              rw [List.length_map, List.length_map, List.length_take] at e
              omega
            have HX := Lib.hid (And.intro hx (And.intro hxs (And.intro q1 (And.intro q2 q3)))); clear hx hxs q1 q2 q3 hsome
            go_upto_region 19 with fail
            have c5 : wr.cell? ⟨gv, 5, none⟩ = some (.slice Ao lo.length co) := HW.out.1.B.cellv 5 rfl
            have hgl := HW.out.1.B.lt
            have ng : gv ∉ fpv (.slice Ao lo.length co) := HW.out.1.os.ne_blk HW.out.1.B (by decide)
            clear ca
            refine wp_region_takes (fuel := 7) 12 (fun w' => Chg (fpv (.slice Ao lo.length co)) wr w') [0, 1, 2, 3, 4, 6, 7] (by kernel_rfl) (by kernel_rfl) (fun _ _ _ _ _ h => h) (((Chg.refl [] wr).drew.mono (by simp))) ?_
            simp only [List.filterMap_cons, List.filterMap_nil, qGa, qGb]
            iterate 7
              refine wpTake_step (fun K hK => ?_)
              rw [if_pos (by rfl)]
              refine ⟨?_, fun w' hS' => ?_, ?_⟩
              rotate_left 1
              focus
                have s0 := hS'.cellv hgl ng c5
                go_simp
                try with_reducible rfl
                done
              simp only [Act.put, qSa, qSb, qSc]
              refine hK _ ?_
              clear hK K
            refine wpTake_nil ?_
            generalize hx0 : wr.drew = x0
            have D0 : Chg [] wr x0 := by rw [← hx0]; exact (Chg.refl [] wr).drew
            clear hx0
            refine wpAnyS_ready (rs := [5]) (by kernel_rfl) (by simp) ?_
            refine AllReadyS.o (fun K hK => ?_)
            rw [if_pos (by rfl)]
            go_simp
            go_at_call 46
            refine (s_slots (HMw.out.chg0 D0).hp.S x xs HX.out.2.2.1 HX.out.2.1 HX.out.2.2.2.1 HX.out.2.2.2.2).mono ?_
            rintro e x1 ⟨sv, rfl, Os, k1, hfs⟩
            obtain ⟨Az, cz, hvz⟩ := Os.slice
            subst hvz
            dsimp only
            have D1 : Chg [] wr x1 := D0.trans k1
            have F1 : Chg (fpv (.slice Ao lo.length co)) wr x1 := D1.mono (by simp)
            refine hK _ _ (F1) ?_
            clear hK K
            try simp only [Act.put, qSa, qSb, qSc]
            refine wpAnyS_ready (rs := [8]) (by kernel_rfl) (by simp) ?_
            refine AllReadyS.o (fun K hK => ?_)
            rw [if_pos (by rfl)]
            go_simp
            go_at_call 47
            have KMk := s_mark_any (HMw.out.chg0 D1).hp.S HM.out.2.1.N x xs HX.out.2.1
            obtain ⟨mk, hmk⟩ : ∃ b, b = mkI m.A.a x := ⟨_, rfl⟩
            rw [← hmk] at KMk
            have HMK := Lib.hid hmk; clear hmk
            refine KMk.mono ?_
            rintro e x2 ⟨rfl, k2⟩
            dsimp only
            have D2 : Chg [] wr x2 := D1.trans k2
            have F2 : Chg (fpv (.slice Ao lo.length co)) wr x2 := D2.mono (by simp)
            have O2 := Os.chg0 k2
            clear KMk
            refine hK _ _ (F2) ?_
            clear hK K
            try simp only [Act.put, qSa, qSb, qSc]
            refine wpAnyS_more (fuel := 4) [9] (by kernel_rfl) (fun _ _ _ _ _ h => h) F2 ?_
            simp only [List.filterMap_cons, List.filterMap_nil, qGa, qGb]
            refine wpTake_step (fun K hK => ?_)
            rw [if_pos (by rfl)]
            refine ⟨?_, fun w' hS' => ?_, ?_⟩
            rotate_left 1
            focus
              have s0 := hS'.cellv hgl ng c5
              go_simp
              try with_reducible rfl
              done
            simp only [Act.put, qSa, qSb, qSc]
            refine hK _ ?_
            clear hK K
            refine wpTake_nil ?_
            refine wpAnyS_ready (rs := [10]) (by kernel_rfl) (by simp) ?_
            refine AllReadyS.o (fun K hK => ?_)
            rw [if_pos (by rfl)]
            go_simp
            obtain ⟨gs, hgs⟩ : ∃ y, y = x2.heap.size := ⟨_, rfl⟩
            rw [← hgs]
            have D3 : Chg (fpv (.slice Ao lo.length co)) wr (x2.alloc (.cells #[.int .i64 x, .slice Az xs.length cz, .bool mk] 123)) := (D2.mono (by simp)).alloc _
            refine hK _ _ (D3) ?_
            clear hK K
            try simp only [Act.put, qSa, qSb, qSc]
            refine wpAnyS_ready (rs := [11]) (by kernel_rfl) (by simp) ?_
            refine AllReadyS.o (fun K hK => ?_)
            refine step_push_g obC_len obC_one tyOb3 ((⟨x, xs, mk⟩, (Az, xs.length, cz)) : Ob × SlT) (by rfl) (by rfl) _ _ (by rfl) (by rfl) (v := .slice Ao lo.length co) (HW.out.1.os.chg0 D2) (by rw [hgs]; rfl) hlol ?_
            intro A3 c3 x3 O3 S3
            have D4 : Chg (fpv (.slice Ao lo.length co)) wr x3 := (D2.mono (by simp)).trans S3.c
            refine hK _ _ (D4) ?_
            clear hK K
            try simp only [Act.put, qSa, qSb, qSc]
            refine wpAnyS_tail 12 2 (by kernel_rfl) rfl ?_
            simp only [qDa, qDb]
            have V9 := (HW.out.1.chg0 D2).pushO (x := (⟨x, xs, mk⟩, (Az, xs.length, cz))) O2 O3 S3
            have B9 := D4.blk HW.out.1.B ng
            have z5 := B9.frozen 5
            have u5 : x3.cell? ⟨gv, 5, none⟩ = some (.slice Ao lo.length co) := B9.cellv 5 rfl
            have Ok9 : OwnI 3 (x3.setCell ⟨gv, 5, none⟩ (.slice A3 (lo.length + 1) c3)) (.slice (some ⟨ga, 0, none⟩) ks.length ck) ks := (HW.out.2.2.chgG HW.out.1.os D4 (by decide)).chgB ((Chg.refl [gv] x3).setCell (.inl (by simp)) _) B9 (by decide)
            have HV9 := Lib.hid (And.intro V9 (And.intro HMK.out Ok9)); clear V9 B9 D0 D1 D2 D3 D4 F1 F2 O3 S3 O2 Os hfs k1 k2 hgs Ok9
            go_wp2_with fail
            go_roundg (ks.length - j)
            case measure => have := HJ.out; omega
            case rel => exact ⟨j + 1, _, _, by have := HJ.out; omega, by have := HJ.out; omega, by go_num, by
              rw [List.map_append, HW.out.2.1, List.take_add_one, HX.out.1, List.map_append]
              congr 1
              show [(⟨x, xs, mk⟩ : Ob)] = [obA m.A.a x]
              unfold obA
              rw [HX.out.2.1, HV9.out.2.1]
              rfl, HV9.out.1, HV9.out.2.2⟩
          · have hjn' : j = ks.length := by omega
            have e1 : decide ((j : Int) < (ks.length : Int)) = false := decide_eq_false (by omega)
            have e2 : ¬ (j : Int) < (ks.length : Int) := by omega
            have VZ := HW.out.1
            have b0 : wr.cell? ⟨gv, 0, none⟩ = some (.int .i64 m.ph.ph) := VZ.B.cellv 0 rfl
            have e9 : (m.ph.ph == 1) = false := by rw [beq_eq_false_iff_ne]; exact hph
            obtain ⟨Ag9, cg9, hvg9⟩ := VZ.gs.slice
            subst hvg9
            have HZ := Lib.hid (And.intro hjn' hph); clear hjn' VZ
            go_upto_region 30 with fail
            have VD := fun (w' : World) (c : Chg [g2] wr w') => (HW.out.1.o c (HW.out.1.c.blk H1.out.2.1 (by simp))).done HM.out.2.1 (by rw [HV.out.2, HI.out]) (by rw [HW.out.2.1, HZ.out.1, List.take_length]) (fun x hx => (HK.out.2.2.2.1 x).1 hx) HK.out.2.2.2.2
            have HVD := Lib.hid VD; clear VD
            have B2 := HW.out.1.c.blk H1.out.2.1 (by simp)
            have y0 := B2.frozen 0
            have y1 := B2.frozen 1
            have y2 := B2.frozen 2
            have y3 := B2.frozen 3
            have y4 := B2.frozen 4
            have y5 := B2.frozen 5
            have y6 := B2.frozen 6
            have y7 := B2.frozen 7
            have y8 := B2.frozen 8
            have x0 : wr.cell? ⟨g2, 0, none⟩ = some (.int .i64 0) := B2.cellv 0 rfl
            have x1 : wr.cell? ⟨g2, 1, none⟩ = some (.int .i64 0) := B2.cellv 1 rfl
            have x2 : wr.cell? ⟨g2, 2, none⟩ = some (.int .i64 0) := B2.cellv 2 rfl
            have x3 : wr.cell? ⟨g2, 3, none⟩ = some (.slice none 0 0) := B2.cellv 3 rfl
            have x4 : wr.cell? ⟨g2, 4, none⟩ = some (.slice none 0 0) := B2.cellv 4 rfl
            have x5 : wr.cell? ⟨g2, 5, none⟩ = some (.slice none 0 0) := B2.cellv 5 rfl
            have x6 : wr.cell? ⟨g2, 6, none⟩ = some (.int .i64 0) := B2.cellv 6 rfl
            have x7 : wr.cell? ⟨g2, 7, none⟩ = some (.int .i64 0) := B2.cellv 7 rfl
            have x8 : wr.cell? ⟨g2, 8, none⟩ = some (.int .i64 0) := B2.cellv 8 rfl
            have b1 : wr.cell? ⟨gv, 1, none⟩ = some (.int .i64 m.ph.cyc) := HW.out.1.B.cellv 1 rfl
            have b2 : wr.cell? ⟨gv, 2, none⟩ = some (.int .i64 m.clock) := HW.out.1.B.cellv 2 rfl
            have b3 : wr.cell? ⟨gv, 3, none⟩ = some (.slice Al m.gl.length cl) := HW.out.1.B.cellv 3 rfl
            have b4 : wr.cell? ⟨gv, 4, none⟩ = some (.slice Ag9 lg.length cg9) := HW.out.1.B.cellv 4 rfl
            have b5 : wr.cell? ⟨gv, 5, none⟩ = some (.slice Ao lo.length co) := HW.out.1.B.cellv 5 rfl
            have b6 : wr.cell? ⟨gv, 6, none⟩ = some (.int .i64 0) := HW.out.1.B.cellv 6 rfl
            have b7 : wr.cell? ⟨gv, 7, none⟩ = some (.int .i64 0) := HW.out.1.B.cellv 7 rfl
            have b8 : wr.cell? ⟨gv, 8, none⟩ = some (.int .i64 0) := HW.out.1.B.cellv 8 rfl
            have HB2 := Lib.hid B2; clear B2
            go_wp2_with fail
            exact vw_end H1.out.2.2.2 (H1.out.2.2.1.trans HW.out.1.c) HB2.out HK.out.2.2.1 HK.out.2.2.2.1 HVD.out rfl
end
end Go.Proofs.YtcpljjacamibeaaGreatDoor
