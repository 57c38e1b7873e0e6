/- Package code: the reader's next byte. -/
/- Package code: the reader's next instruction. -/
/- Package code: Decode: the closure that catches what is thrown. -/
/- Regions that draw their order in functions that defer: as XReg; a slot that names a result is not laid there. -/
import Derived.Test.YtcpljjacamibeaaGreatDoorMcF
import Derived.Test.YtcpljjacamibeaaGreatDoorMcOJ
import Derived.Test.YtcpljjacamibeaaGreatDoorMClJ
import Derived.Recover
import Derived.Test.YtcpljjacamibeaaGreatDoorMOw
import Derived.Defers
namespace Go.Proofs.YtcpljjacamibeaaGreatDoor
set_option maxHeartbeats 16000000
set_option maxRecDepth 100000
open Go.RowKit Go.Maps
def u8s (bs : List Nat) : List Value := bs.map fun x => Value.int .u8 (x : Nat)
theorem u8s_at {bs : List Nat} {i x : Nat} (h : bs[i]? = some x) : (u8s bs)[i]? = some (.int .u8 (x : Nat)) := by unfold u8s; simp [h]
theorem u8s_len (bs : List Nat) : (u8s bs).length = bs.length := by unfold u8s; simp
def rdC (vb : Value) (a : Nat) : Array Value := #[vb, .int .i64 (a : Nat)]
def badV (k : Nat) : List PanicEntry := [{ v := .iface 207 (.agg #[.int .i64 (k : Nat)]), recovered := false }]
def NxPost (g : Nat) (vb : Value) (bs : List Nat) (a lo hi : Nat) (w : World) (e : Ending) (w' : World) : Prop :=
  (∃ x, rdN bs a lo hi = .ok x ∧ e = .returned (.int .i64 (x : Nat)) ∧ Blk w' g 211 (rdC vb (a + 1)) ∧ Chg [g] w w') ∨ (∃ k, rdN bs a lo hi = .error k ∧ e = .panicked (badV k) ∧ Chg [g] w w')
section
variable {w : World} {g B : Nat} {vb : Value} {bs : List Nat} {a : Nat} (hB : Blk w g 211 (rdC vb a)) (R : RdV w B vb (u8s bs)) (hl : bs.length ≤ 100000) (hb : ∀ x ∈ bs, x < 256)
include hB R hl hb
theorem cd_next (lo hi : Nat) (ha : a ≤ bs.length) : Calls Tryz.prog 102 #[.pointer (some ⟨g, 0, none⟩), .int .i64 (lo : Nat), .int .i64 (hi : Nat)] w (NxPost g vb bs a lo hi w) := by
  obtain ⟨A, c, hv⟩ := R.ex
  rw [u8s_len] at hv
  have c0 : w.cell? ⟨g, 0, none⟩ = some vb := hB.cellv 0 rfl
  rw [hv] at c0
  have c1 : w.cell? ⟨g, 1, none⟩ = some (.int .i64 (a : Nat)) := hB.cellv 1 rfl
  have f1 := hB.frozen 1
  by_cases h : a < bs.length
  · obtain ⟨x, hx⟩ : ∃ x, bs[a]? = some x := ⟨bs[a], List.getElem?_eq_getElem h⟩
    have hx6 : x < 256 := hb x (List.mem_of_getElem? hx)
    have ex : bs.getD a 0 = x := by rw [List.getD_eq_getElem?_getD, hx]; rfl
    obtain ⟨bb, off, hA, -, ca⟩ := R.at_ A _ c hv a _ (u8s_at hx)
    subst hA
    have d1 : ¬ ((a : Int) ≥ (bs.length : Int)) := by omega
    have d2 : (a : Int) < (bs.length : Int) := by omega
    have d3 : (0 : Int) ≤ a := by omega
    have d4 : decide ((a : Int) ≥ (bs.length : Int)) = false := decide_eq_false d1
    have d5 : decide (bs.length ≤ a) = false := decide_eq_false (by omega)
    have HR := Lib.hid (And.intro hB (And.intro hx ex)); clear hB hx ex R hb hv
    go_enter Tryz.func102, Tryz.ntmps102
    go_wp2_with fail
    go_quiet (fail)
    go_wp2_with fail
    go_quiet (fail)
    generalize hw2 : (World.drewN _ nq) = w2
    have B2 : Blk w2 g 211 (rdC vb a) := by rw [← hw2]; exact HR.out.1
    have D2 : Chg [] w w2 := by rw [← hw2]; exact ((Chg.refl [] w).drewN _).drewN _
    have c1 : w2.cell? ⟨g, 1, none⟩ = some (.int .i64 (a : Nat)) := B2.cellv 1 rfl
    have f1 := B2.frozen 1
    clear hw2
    have HD := Lib.hid (And.intro B2 D2); clear B2 D2
    by_cases h1 : x < lo
    · have e1 : decide ((x : Int) < (lo : Int)) = true := decide_eq_true (by omega)
      have e2 : (x : Int) < (lo : Int) := by omega
      go_wp2_with fail
      exact ⟨rfl, .inr ⟨a, by unfold rdN; rw [if_neg (by omega), HR.out.2.2, if_pos (.inl h1)], rfl, HD.out.2.mono (by simp)⟩⟩
    · have e1 : decide ((x : Int) < (lo : Int)) = false := decide_eq_false (by omega)
      have e2 : ¬ (x : Int) < (lo : Int) := by omega
      by_cases h2 : hi < x
      · have e3 : decide ((x : Int) > (hi : Int)) = true := decide_eq_true (by omega)
        have e4 : (x : Int) > (hi : Int) := by omega
        go_wp2_with fail
        exact ⟨rfl, .inr ⟨a, by unfold rdN; rw [if_neg (by omega), HR.out.2.2, if_pos (.inr h2)], rfl, HD.out.2.mono (by simp)⟩⟩
      · have e3 : decide ((x : Int) > (hi : Int)) = false := decide_eq_false (by omega)
        have e4 : ¬ (x : Int) > (hi : Int) := by omega
        go_wp2_with fail
        go_ret
        exact .inl ⟨x, by unfold rdN; rw [if_neg (by omega), HR.out.2.2, if_neg (by omega)], rfl, HD.out.1.setv 1 _ rfl, (HD.out.2.mono (by simp)).trans ((Chg.refl [g] w2).setCell (.inl (by simp)) _)⟩
  · have h : bs.length ≤ a := by omega
    have er : rdN bs a lo hi = .error bs.length := by unfold rdN; rw [if_pos h]
    have d1 : (a : Int) ≥ (bs.length : Int) := by omega
    have d4 : decide ((a : Int) ≥ (bs.length : Int)) = true := decide_eq_true d1
    have d5 : decide (bs.length ≤ a) = true := decide_eq_true h
    clear hB R hb hv
    go_enter Tryz.func102, Tryz.ntmps102
    go_wp2_with fail
    go_quiet (fail)
    go_wp2_with fail
    exact ⟨rfl, .inr ⟨_, er, rfl, ((Chg.refl [g] w).drewN _)⟩⟩
end
def v4C (v : List Nat) : Array Value := #[.int .i64 (v.getD 0 0 : Nat), .int .i64 (v.getD 1 0 : Nat), .int .i64 (v.getD 2 0 : Nat), .int .i64 (v.getD 3 0 : Nat)]
theorem v4C_push (v : List Nat) (h : v.length < 4) (x : Nat) : (v4C v).setIfInBounds v.length (.int .i64 (x : Nat)) = v4C (v ++ [x]) := by
  match v, h with
  | [], _ => rfl
  | [_], _ => rfl
  | [_, _], _ => rfl
  | [_, _, _], _ => rfl
theorem v4C_at (v : List Nat) {k : Nat} (h : k < 4) : ∃ u, (v4C v)[k]? = some u := ⟨(v4C v)[k]'(by show k < 4; exact h), Array.getElem?_eq_getElem _⟩
def insV (i : Ins) : Value := .agg #[.int .i64 (i.o : Nat), .int .i64 (i.a : Nat), .int .i64 (i.b : Nat), .int .i64 (i.c : Nat)]
def InPost' (g : Nat) (vb : Value) (G F S : Nat) (bs : List Nat) (a : Nat) (w : World) (e : Ending) (w' : World) : Prop :=
  (∃ i, insGo G F S bs a 4 [] = .ok i ∧ e = .returned (insV i) ∧ Blk w' g 211 (rdC vb (a + 4)) ∧ Chg [g] w w') ∨ (∃ k, insGo G F S bs a 4 [] = .error k ∧ e = .panicked (badV k) ∧ Chg [g] w w')
structure InR (w0 : World) (g gF gR gV B : Nat) (vb : Value) (G F S : Nat) (bs : List Nat) (a k : Nat) (v : List Nat) (w : World) : Prop where
  r : Blk w g 211 (rdC vb (a + k))
  f : Blk w gF 213 #[.int .i64 (G : Nat), .int .i64 (F : Nat), .int .i64 (S : Nat)]
  z : Blk w gR 33 #[.int .i64 0, .int .i64 0, .int .i64 0, .int .i64 0]
  v : Blk w gV 278 (v4C v)
  R : RdV w B vb (u8s bs)
  c : Chg [g] w0 w
  nF : w0.heap.size ≤ gF
  nR : w0.heap.size ≤ gR
  nV : w0.heap.size ≤ gV
section
variable {w0 w w' : World} {g gF gR gV B : Nat} {vb : Value} {G F S : Nat} {bs : List Nat} {a k : Nat} {v : List Nat}
theorem InR.chg0 (h : InR w0 g gF gR gV B vb G F S bs a k v w) (c : Chg [] w w') : InR w0 g gF gR gV B vb G F S bs a k v w' :=
  ⟨c.blk h.r (by simp), c.blk h.f (by simp), c.blk h.z (by simp), c.blk h.v (by simp), h.R.chg0 c, h.c.trans (c.mono (by simp)), h.nF, h.nR, h.nV⟩
theorem InR.ne (h : InR w0 g gF gR gV B vb G F S bs a k v w) : g ≠ gF ∧ g ≠ gR ∧ g ≠ gV ∧ gV ≠ gF ∧ gV ≠ gR := ⟨h.r.ne_ h.f (by decide), h.r.ne_ h.z (by decide), h.r.ne_ h.v (by decide), h.v.ne_ h.f (by decide), h.v.ne_ h.z (by decide)⟩
end
def InRel (w0 : World) (g gF gR gV B : Nat) (vb : Value) (G F S : Nat) (bs : List Nat) (a : Nat) (gk : Nat) (idx : Value) (w : World) : Prop :=
  ∃ (k : Nat) (v : List Nat), gk + k = 5 ∧ k ≤ 4 ∧ v.length = k ∧ idx = .int .i64 (k : Nat) ∧ insGo G F S bs a (4 - k) v = insGo G F S bs a 4 [] ∧ InR w0 g gF gR gV B vb G F S bs a k v w
set_option maxHeartbeats 4000000 in
theorem cd_inst (w : World) {g B : Nat} {vb : Value} {bs : List Nat} {a : Nat} (hB : Blk w g 211 (rdC vb a)) (R : RdV w B vb (u8s bs)) (hg : B ≤ g) (hl : bs.length ≤ 100000) (hb : ∀ x ∈ bs, x < 256) (ha : a ≤ bs.length) (G F S : Nat) (hF : F ≤ 256) :
    Calls Tryz.prog 103 #[.pointer (some ⟨g, 0, none⟩), .agg #[.int .i64 (G : Nat), .int .i64 (F : Nat), .int .i64 (S : Nat)]] w (InPost' g vb G F S bs a w) := by
  have c1 : w.cell? ⟨g, 1, none⟩ = some (.int .i64 (a : Nat)) := hB.cellv 1 rfl
  have hgl := hB.lt
  have HG := Lib.hid hB.lt
  have HI := Lib.hid (And.intro hB R)
  clear hB R
  go_enter Tryz.func103, Tryz.ntmps103
  go_upto_region 3 with fail
  generalize hw3 : World.alloc _ (.cells #[.int .i64 0, .int .i64 0, .int .i64 0, .int .i64 0] 278) = w3
  have I3 : InR w g w.heap.size (w.heap.size + 1) (w.heap.size + 1 + 1) B vb G F S bs a 0 [] w3 := by
    rw [← hw3]
    have b1 := Blk.new w 213 #[.int .i64 (G : Nat), .int .i64 (F : Nat), .int .i64 (S : Nat)]
    have b2 := Blk.new (w.alloc (.cells #[.int .i64 (G : Nat), .int .i64 (F : Nat), .int .i64 (S : Nat)] 213)) 33 #[.int .i64 0, .int .i64 0, .int .i64 0, .int .i64 0]
    have b3 := Blk.new ((w.alloc (.cells #[.int .i64 (G : Nat), .int .i64 (F : Nat), .int .i64 (S : Nat)] 213)).alloc (.cells #[.int .i64 0, .int .i64 0, .int .i64 0, .int .i64 0] 33)) 278 (v4C [])
    rw [World.size_alloc] at b2 b3
    rw [World.size_alloc] at b3
    have c3 : Chg [] w (((w.alloc (.cells #[.int .i64 (G : Nat), .int .i64 (F : Nat), .int .i64 (S : Nat)] 213)).alloc (.cells #[.int .i64 0, .int .i64 0, .int .i64 0, .int .i64 0] 33)).alloc (.cells (v4C []) 278)) := (((Chg.refl [] w).alloc _).alloc _).alloc _
    exact ⟨c3.blk HI.out.1 (by simp), (b1.alloc _).alloc _, b2.alloc _, b3, HI.out.2.chg0 c3, c3.mono (by simp), Nat.le_refl _, by omega, by omega⟩
  clear hw3
  generalize w.heap.size + 1 + 1 = gV at I3 ⊢
  generalize w.heap.size + 1 = gR at I3 ⊢
  generalize hgF : w.heap.size = gF at I3 hgl ⊢
  have HI3 := Lib.hid (And.intro I3 hgF); clear I3 hgF HI c1
  go_wp2_with fail
  go_loopg [14] 5 (fun gk idx wr => InRel w g gF gR gV B vb G F S bs a gk idx wr)
  case atStart => exact ⟨0, [], by omega, by omega, rfl, rfl, rfl, HI3.out.1⟩
  case round =>
    obtain ⟨k, v, hgk, hk, hv, rfl, hgo, I⟩ := hrel
    have n1 := I.ne
    by_cases hk4 : k < 4
    · obtain ⟨m, hm⟩ : ∃ m, 4 - k = m + 1 := ⟨3 - k, by omega⟩
      rw [hm, insGo] at hgo
      have hki : (k : Int) < 4 := by omega
      have r0 : wr.cell? ⟨g, 0, none⟩ = some vb := I.r.cellv 0 rfl
      have r1 : wr.cell? ⟨g, 1, none⟩ = some (.int .i64 ((a + k : Nat) : Int)) := I.r.cellv 1 rfl
      obtain ⟨A, c, hvb⟩ := I.R.ex
      rw [u8s_len] at hvb
      rw [hvb] at r0
      by_cases hin : a + k < bs.length
      · rw [if_neg (by omega)] at hgo
        obtain ⟨x, hx⟩ : ∃ x, bs[a + k]? = some x := ⟨bs[a + k], List.getElem?_eq_getElem hin⟩
        have hx6 : x < 256 := hb x (List.mem_of_getElem? hx)
        have ex : bs.getD (a + v.length) 0 = x := by rw [hv, List.getD_eq_getElem?_getD, hx]; rfl
        rw [ex] at hgo
        obtain ⟨bb, off, hA, -, ca⟩ := I.R.at_ A _ c hvb (a + k) _ (u8s_at hx)
        subst hA
        have d1 : ¬ (((a + k : Nat) : Int) ≥ (bs.length : Int)) := by omega
        have d2 : ((a + k : Nat) : Int) < (bs.length : Int) := by omega
        have d3 : (0 : Int) ≤ ((a + k : Nat) : Int) := by omega
        have d4 : decide (((a + k : Nat) : Int) ≥ (bs.length : Int)) = false := decide_eq_false d1
        have d5 : decide (bs.length ≤ a + k) = false := decide_eq_false (by omega)
        have hk0 : (0 : Int) ≤ (k : Int) := by omega
        obtain ⟨q, hq⟩ : ∃ q, q = a + k := ⟨_, rfl⟩
        rw [← hq] at r1 ca d1 d2 d3 d4 d5
        have HJ := Lib.hid (And.intro I (And.intro hgo (And.intro hv (And.intro hx6 (And.intro hq (And.intro n1 hx)))))); have HM := Lib.hid (And.intro hm hgk); clear I hgo hv hx ex hvb hq n1 hgk hm
        go_wp2_with fail
        go_quiet (fail)
        generalize hwq : (World.drewN _ nq) = w4
        have I4 := HJ.out.1.chg0 (w' := w4) (by rw [← hwq]; exact (Chg.refl [] _).drewN _)
        clear hwq ca r0 r1
        have r0 : w4.cell? ⟨g, 0, none⟩ = some vb := I4.r.cellv 0 rfl
        have r1 : w4.cell? ⟨g, 1, none⟩ = some (.int .i64 (q : Nat)) := by rw [HJ.out.2.2.2.2.1]; exact I4.r.cellv 1 rfl
        obtain ⟨A', c', hvb⟩ := I4.R.ex
        rw [u8s_len] at hvb
        rw [hvb] at r0
        have hx : bs[q]? = some x := by rw [HJ.out.2.2.2.2.1]; exact HJ.out.2.2.2.2.2.2
        obtain ⟨bb', off', hA', -, ca⟩ := I4.R.at_ A' _ c' hvb q _ (u8s_at hx)
        subst hA'
        have fv := I4.v.frozen k
        obtain ⟨u0, hu0⟩ := v4C_at v hk4
        have cv := I4.v.cellv k hu0
        clear hu0
        have HJ4 := Lib.hid (And.intro I4 (And.intro hx hvb)); clear I4 hx hvb
        go_wp2_with fail
        go_still_tail 12, (by kernel_rfl)
        change wpList _ _ _ _ _ w4.drew
        have ev : IntKind.i64.wrap (x : Int) = (x : Int) := IntWalk.i64_in _ (by have := HJ.out.2.2.2.1; omega)
        rw [ev]
        have fv' : w4.drew.frozen? ⟨gV, k, none⟩ = false := fv
        have cv' : w4.drew.cell? ⟨gV, k, none⟩ = some u0 := cv
        go_upto_region 9 with fail
        generalize hw5 : World.drew (World.setCell w4 ⟨gV, k, none⟩ (.int .i64 (x : Nat))) = w5
        have I5 : InR w g gF gR gV B vb G F S bs a k (v ++ [x]) w5 := by
          have J := HJ4.out.1
          obtain ⟨m1, m2, m3, m4, m5⟩ := HJ.out.2.2.2.2.2.1
          have cV : Chg [gV] w4 w5 := by rw [← hw5]; exact ((Chg.refl [gV] w4).setCell (.inl (by simp)) _).drew
          have hBV : B ≤ gV := Nat.le_trans hg (Nat.le_trans (Nat.le_of_lt HG.out) J.nV)
          refine ⟨cV.blk J.r (by simpa using m3), cV.blk J.f (by simpa using m4.symm), cV.blk J.z (by simpa using m5.symm), ?_, J.R.far cV (by simpa using hBV), ⟨cV.os.trans J.c.os, cV.tape.trans J.c.tape, cV.output.trans J.c.output, Nat.le_trans J.c.size cV.size, fun i hi hn => (cV.block i (Nat.lt_of_lt_of_le hi J.c.size) (by have := J.nV; simp; omega)).trans (J.c.block i hi hn)⟩, J.nF, J.nR, J.nV⟩
          rw [← hw5]
          have := (J.v.set_ k (.int .i64 (x : Nat))).drew
          have hvk := HJ.out.2.2.1
          subst hvk
          rw [v4C_push v hk4] at this
          exact this
        have s1 : w5.cell? ⟨g, 1, none⟩ = some (.int .i64 (q : Nat)) := by rw [HJ.out.2.2.2.2.1]; exact I5.r.cellv 1 rfl
        have g1 := I5.r.frozen 1
        clear hw5 ca r0 r1 fv fv' cv cv' ev
        have HJ5 := Lib.hid I5; clear I5 HJ4
        go_upto_region 10 with fail
        generalize hw6 : World.setCell w5 ⟨g, 1, none⟩ (.int .i64 ((q : Int) + 1)) = w6
        have I6 : InR w g gF gR gV B vb G F S bs a (k + 1) (v ++ [x]) w6 := by
          have J := HJ5.out
          obtain ⟨m1, m2, m3, m4, m5⟩ := HJ.out.2.2.2.2.2.1
          have cg : Chg [g] w5 w6 := by rw [← hw6]; exact (Chg.refl [g] w5).setCell (.inl (by simp)) _
          refine ⟨?_, cg.blk J.f (by simpa using m1.symm), cg.blk J.z (by simpa using m2.symm), cg.blk J.v (by simpa using m3.symm), J.R.far cg (by simpa using hg), J.c.trans cg, J.nF, J.nR, J.nV⟩
          rw [← hw6]
          refine J.r.setv 1 _ ?_
          have e : (q : Int) + 1 = ((a + (k + 1) : Nat) : Int) := by have := HJ.out.2.2.2.2.1; omega
          rw [e]; rfl
        clear hw6 s1 g1
        obtain ⟨i0, hi0⟩ : ∃ i0, i0 = insL (v ++ [x]) := ⟨_, rfl⟩
        have t0 : w6.cell? ⟨gV, 0, none⟩ = some (.int .i64 (i0.o : Nat)) := by rw [hi0]; exact I6.v.cellv 0 rfl
        have t1 : w6.cell? ⟨gV, 1, none⟩ = some (.int .i64 (i0.a : Nat)) := by rw [hi0]; exact I6.v.cellv 1 rfl
        have t2 : w6.cell? ⟨gV, 2, none⟩ = some (.int .i64 (i0.b : Nat)) := by rw [hi0]; exact I6.v.cellv 2 rfl
        have t3 : w6.cell? ⟨gV, 3, none⟩ = some (.int .i64 (i0.c : Nat)) := by rw [hi0]; exact I6.v.cellv 3 rfl
        have p0 : w6.cell? ⟨gF, 0, none⟩ = some (.int .i64 (G : Nat)) := I6.f.cellv 0 rfl
        have p1 : w6.cell? ⟨gF, 1, none⟩ = some (.int .i64 (F : Nat)) := I6.f.cellv 1 rfl
        have p2 : w6.cell? ⟨gF, 2, none⟩ = some (.int .i64 (S : Nat)) := I6.f.cellv 2 rfl
        have HJ6 := Lib.hid (And.intro I6 hi0); clear I6 hi0 HJ5
        go_upto_region 11 with fail
        obtain ⟨gN, hgN⟩ : ∃ gN, gN = w6.heap.size := ⟨_, rfl⟩
        obtain ⟨w7, hw7⟩ : ∃ w7, w7 = w6.alloc (.cells #[.int .i64 (i0.o : Nat), .int .i64 (i0.a : Nat), .int .i64 (i0.b : Nat), .int .i64 (i0.c : Nat)] 33) := ⟨_, rfl⟩
        have B7 : Blk w7 gN 33 #[.int .i64 (i0.o : Nat), .int .i64 (i0.a : Nat), .int .i64 (i0.b : Nat), .int .i64 (i0.c : Nat)] := by rw [hw7, hgN]; exact Blk.new _ _ _
        have I7 := HJ6.out.1.chg0 (w' := w7) (by rw [hw7]; exact (Chg.refl [] w6).alloc _)
        rw [← hgN, ← hw7]
        clear hgN hw7 t0 t1 t2 t3 p0 p1 p2
        have t0 := B7.cellv 0 rfl
        have t1 := B7.cellv 1 rfl
        have t2 := B7.cellv 2 rfl
        have t3 := B7.cellv 3 rfl
        have p0 := I7.f.cellv 0 rfl
        have p1 := I7.f.cellv 1 rfl
        have p2 := I7.f.cellv 2 rfl
        have HJ7 := Lib.hid (And.intro I7 HJ6.out.2); clear I7 B7 HJ6
        go_wp2_with fail
        refine (cd_wrong _ G F S i0).mono ?_
        rintro e w8 ⟨rfl, c8⟩
        have I8 := HJ7.out.1.chg0 c8
        clear t0 t1 t2 t3 p0 p1 p2 c8
        have hgo := HJ.out.2.1
        rw [← HJ7.out.2, HJ.out.2.2.1] at hgo
        generalize hwr : wrI G F S i0 = wr0 at hgo ⊢
        have HJ8 := Lib.hid (And.intro I8 HJ7.out.2); clear I8 HJ7 hwr
        by_cases hc : 0 ≤ wr0 ∧ wr0 ≤ (k : Int)
        · obtain ⟨wn, rfl⟩ : ∃ wn : Nat, wr0 = wn := ⟨wr0.toNat, by omega⟩
          rw [if_pos hc] at hgo
          have e1 : decide ((wn : Int) ≥ 0) = true := decide_eq_true (by omega)
          have e2 : decide ((wn : Int) ≤ (k : Int)) = true := decide_eq_true (by omega)
          have e3 : (wn : Int) ≥ 0 := by omega
          have e4 : (wn : Int) ≤ (k : Int) := by omega
          have HG2 := Lib.hid hgo; clear hgo hc
          go_wp2_with fail
          have e5 : (a : Int) + (wn : Int) = ((a + wn : Nat) : Int) := by omega
          rw [e5]
          exact ⟨rfl, .inr ⟨a + wn, by rw [← HG2.out]; simp, rfl, HJ8.out.1.c⟩⟩
        · rw [if_neg hc] at hgo
          have HG2 := Lib.hid hgo; clear hgo
          by_cases hc0 : 0 ≤ wr0
          · have e1 : decide (wr0 ≥ 0) = true := decide_eq_true (by omega)
            have e3 : wr0 ≥ 0 := by omega
            have e2 : decide (wr0 ≤ (k : Int)) = false := decide_eq_false (by omega)
            have e4 : ¬ wr0 ≤ (k : Int) := by omega
            clear hc
            go_wp2_with fail
            go_roundg (4 - k)
            case measure => have := HM.out.2; omega
            case rel => exact ⟨k + 1, v ++ [x], by have := HM.out.2; omega, by omega, by rw [List.length_append, HJ.out.2.2.1]; rfl, by go_num, by rw [← HG2.out, show 4 - (k + 1) = m by have := HM.out.1; omega], HJ8.out.1⟩
          · have e1 : decide (wr0 ≥ 0) = false := decide_eq_false (by omega)
            have e3 : ¬ wr0 ≥ 0 := by omega
            clear hc
            go_wp2_with fail
            go_roundg (4 - k)
            case measure => have := HM.out.2; omega
            case rel => exact ⟨k + 1, v ++ [x], by have := HM.out.2; omega, by omega, by rw [List.length_append, HJ.out.2.2.1]; rfl, by go_num, by rw [← HG2.out, show 4 - (k + 1) = m by have := HM.out.1; omega], HJ8.out.1⟩
      · have d1 : ((a + k : Nat) : Int) ≥ (bs.length : Int) := by omega
        have d4 : decide (((a + k : Nat) : Int) ≥ (bs.length : Int)) = true := decide_eq_true d1
        have d5 : decide (bs.length ≤ a + k) = true := decide_eq_true (by omega)
        rw [if_pos (by omega)] at hgo
        have HJ := Lib.hid (And.intro I hgo); clear I hgo hvb n1 hm
        obtain ⟨q, hq⟩ : ∃ q, q = a + k := ⟨_, rfl⟩
        rw [← hq] at r1 d1 d4 d5
        clear hq
        go_wp2_with fail
        go_quiet (fail)
        generalize hwq : (World.drewN _ nq) = w4
        have I4 := HJ.out.1.chg0 (w' := w4) (by rw [← hwq]; exact (Chg.refl [] _).drewN _)
        clear hwq r0 r1
        have r0 : w4.cell? ⟨g, 0, none⟩ = some vb := I4.r.cellv 0 rfl
        obtain ⟨A', c', hvb⟩ := I4.R.ex
        rw [u8s_len] at hvb
        rw [hvb] at r0
        have HJ4 := Lib.hid I4; clear I4 hvb
        go_wp2_with fail
        exact ⟨rfl, .inr ⟨_, HJ.out.2.symm, rfl, HJ4.out.c⟩⟩
    · have hki : ¬ (k : Int) < 4 := by omega
      have hkd : decide ((k : Int) < 4) = false := decide_eq_false hki
      rw [show 4 - k = 0 by omega, insGo] at hgo
      have t0 : wr.cell? ⟨gV, 0, none⟩ = some (.int .i64 ((insL v).o : Nat)) := I.v.cellv 0 rfl
      have t1 : wr.cell? ⟨gV, 1, none⟩ = some (.int .i64 ((insL v).a : Nat)) := I.v.cellv 1 rfl
      have t2 : wr.cell? ⟨gV, 2, none⟩ = some (.int .i64 ((insL v).b : Nat)) := I.v.cellv 2 rfl
      have t3 : wr.cell? ⟨gV, 3, none⟩ = some (.int .i64 ((insL v).c : Nat)) := I.v.cellv 3 rfl
      generalize insL v = i0 at t0 t1 t2 t3 hgo
      have z0 := I.z.cellv 0 rfl
      have z1 := I.z.cellv 1 rfl
      have z2 := I.z.cellv 2 rfl
      have z3 := I.z.cellv 3 rfl
      have f0 := I.z.frozen 0
      have f1 := I.z.frozen 1
      have f2 := I.z.frozen 2
      have f3 := I.z.frozen 3
      have hk44 : k = 4 := by omega
      have HJ := Lib.hid (And.intro I (And.intro hgo (And.intro hk44 n1))); clear I hgo n1 hgk hk hv hk4 hk44
      go_wp2_with fail
      have BR := (((HJ.out.1.z.set_ 0 (.int .i64 (i0.o : Nat))).set_ 1 (.int .i64 (i0.a : Nat))).set_ 2 (.int .i64 (i0.b : Nat))).setv 3 (.int .i64 (i0.c : Nat)) (cs' := #[.int .i64 (i0.o : Nat), .int .i64 (i0.a : Nat), .int .i64 (i0.b : Nat), .int .i64 (i0.c : Nat)]) rfl
      have CR : Chg [gR] wr ((((wr.setCell ⟨gR, 0, none⟩ (.int .i64 (i0.o : Nat))).setCell ⟨gR, 1, none⟩ (.int .i64 (i0.a : Nat))).setCell ⟨gR, 2, none⟩ (.int .i64 (i0.b : Nat))).setCell ⟨gR, 3, none⟩ (.int .i64 (i0.c : Nat))) := ((((Chg.refl [gR] wr).setCell (.inl (by simp)) _).setCell (.inl (by simp)) _).setCell (.inl (by simp)) _).setCell (.inl (by simp)) _
      refine ⟨rfl, _, results_cell_row (P := Tryz.prog) (fn := Tryz.f103) rfl _ _ gR 33 _ _ _ rfl BR Tryz.underlying33 rfl (by kernel_rfl), .inl ⟨i0, HJ.out.2.1.symm, rfl, ?_, ?_⟩⟩
      · have := HJ.out.1.r
        rw [HJ.out.2.2.1] at this
        exact CR.blk this (by simpa using HJ.out.2.2.2.2.1)
      · have J := HJ.out.1
        exact ⟨CR.os.trans J.c.os, CR.tape.trans J.c.tape, CR.output.trans J.c.output, Nat.le_trans J.c.size CR.size, fun i hi hn => (CR.block i (Nat.lt_of_lt_of_le hi J.c.size) (by have := J.nR; simp; omega)).trans (J.c.block i hi hn)⟩
theorem run_ta_nil (w : World) : (Instr.typeAssert .nilIface 20 207 true).run Tryz.prog w = .ok (.tuple #[.agg #[.int .i64 0], .bool false]) w := by kernel_rfl
theorem run_ta_bad (w : World) (k : Int) : (Instr.typeAssert (.iface 207 (.agg #[.int .i64 k])) 20 207 true).run Tryz.prog w = .ok (.tuple #[.agg #[.int .i64 k], .bool true]) w := by kernel_rfl
theorem tm14 (a b c r t g o p : Value) : (#[a, b, c] ++ (((((((Array.replicate 11 undef).setIfInBounds 3 r).setIfInBounds 4 t).setIfInBounds 2 t).setIfInBounds 5 g).setIfInBounds 6 o).setIfInBounds 0 p).setIfInBounds 1 o) = #[a, b, c, p, o, t, r, t, g, o, undef, undef, undef, undef] := by
  rw [← Array.toList_inj]
  simp only [Array.toList_append, Array.toList_setIfInBounds, Array.toList_replicate]
  rfl
section
variable (w : World) (gP gE gA : Nat) (v0 v1 : Value) (n0 n1 : Int) (hP : Blk w gP 30 #[v0, v1]) (hE : Blk w gE 3 #[.int .i64 n0]) (hA : Blk w gA 3 #[.int .i64 n1])
include hP hE hA
theorem cd_catch_idle : CallsD Tryz.prog 101 #[.pointer (some ⟨gP, 0, none⟩), .pointer (some ⟨gE, 0, none⟩), .pointer (some ⟨gA, 0, none⟩)] .returning w fun e u' w' => e = .returned (.tuple #[]) ∧ u' = .returning ∧ Chg [] w w' := by
  have _ := And.intro hP (And.intro hE hA)
  refine callsD_of_wpS Tryz.func101 rfl fun c₀ cs hu => ?_
  apply wpS_seq
  apply wpS_region
  simp [wpOpsS, go_sem, recoverD, hu, run_ta_nil, Tryz.ntmps101, Exit.thenS]
  rw [tm14]
  refine wpS_of_wp ?_
  go_wp2_with fail
  cases c₀
  simp_all [bodyPostS, results, Tryz.results101]
  exact (Chg.refl [] w).alloc _
theorem cd_catch (k : Nat) (he : gE ≠ gA) : CallsD Tryz.prog 101 #[.pointer (some ⟨gP, 0, none⟩), .pointer (some ⟨gE, 0, none⟩), .pointer (some ⟨gA, 0, none⟩)] (.panicking (badV k)) w fun e u' w' => e = .returned (.tuple #[]) ∧ settle u' = .returning ∧ Blk w' gP 30 #[.int .i64 0, .slice none 0 0] ∧ Blk w' gE 3 #[.int .i64 6] ∧ Blk w' gA 3 #[.int .i64 (k : Nat)] ∧ Chg [gP, gE, gA] w w' := by
  refine callsD_of_wpS Tryz.func101 rfl fun c₀ cs hu => ?_
  apply wpS_seq
  apply wpS_region
  simp [wpOpsS, go_sem, recoverD, hu, badV, run_ta_bad, Tryz.ntmps101, Exit.thenS]
  rw [tm14]
  refine wpS_of_wp ?_
  go_wp2_with fail
  obtain ⟨w1, hw1⟩ : ∃ w1, w1 = w.alloc (.cells #[.int .i64 (k : Nat)] 207) := ⟨_, rfl⟩
  have c0 : w1.cell? ⟨w.heap.size, 0, none⟩ = some (.int .i64 (k : Nat)) := by rw [hw1]; exact (Blk.new w 207 #[.int .i64 (k : Nat)]).cellv 0 rfl
  have hl : w.heap.size < w1.heap.size := by rw [hw1, World.size_alloc]; omega
  have hn : w.heap.size ∉ [gP, gE, gA] := by have := hP.lt; have := hE.lt; have := hA.lt; simp; omega
  have c01 : Chg [] w w1 := by rw [hw1]; exact (Chg.refl _ _).alloc _
  rw [← hw1]
  clear hw1
  have HB0 := Lib.hid c01
  have HB := Lib.hid (And.intro (c01.blk hP (by simp)) (And.intro (c01.blk hE (by simp)) (And.intro (c01.blk hA (by simp)) (And.intro (hE.ne_ hP (by decide)) (And.intro (hA.ne_ hP (by decide)) he)))))
  clear hP hE hA c01 he
  refine wp_region_takes (fuel := 3) 5 (fun w' => Chg [gP, gE, gA] w1 w') [0, 1, 2] (by kernel_rfl) (by kernel_rfl) (fun _ _ _ _ _ h => h) (((Chg.refl [gP, gE, gA] w1).drew)) ?_
  simp only [List.filterMap_cons, List.filterMap_nil, qGa, qGb]
  iterate 3
    refine wpTake_step (fun K hK => ?_)
    rw [if_pos (by rfl)]
    refine ⟨?_, fun w' hS' => ?_, ?_⟩
    rotate_left 1
    focus
      have j0 := hS'.cellv hl hn c0
      go_simp
      try with_reducible rfl
      done
    simp only [Act.put, qSa, qSb, qSc]
    refine hK _ ?_
    clear hK K
  refine wpTake_nil ?_
  generalize hx0 : w1.drew = x0
  have D0 : Chg [] w1 x0 := by rw [← hx0]; exact (Chg.refl [] w1).drew
  clear hx0
  refine wpAnyS_ready (rs := [3]) (by kernel_rfl) (by simp) ?_
  refine AllReadyS.o (fun K hK => ?_)
  rw [if_pos (by rfl)]
  have z0 : x0.cell? ⟨gP, 0, none⟩ = some v0 := (D0.blk HB.out.1 (by simp)).cellv 0 rfl
  have z1 : x0.cell? ⟨gP, 1, none⟩ = some v1 := (D0.blk HB.out.1 (by simp)).cellv 1 rfl
  have y0 := (D0.blk HB.out.1 (by simp)).frozen 0
  have y1 := (D0.blk HB.out.1 (by simp)).frozen 1
  go_simp
  generalize hx1 : World.setCell (World.setCell x0 ⟨gP, 0, none⟩ (.int .i64 0)) ⟨gP, 1, none⟩ (.slice none 0 0) = x1
  have P1 : Blk x1 gP 30 #[.int .i64 0, .slice none 0 0] := by rw [← hx1]; exact ((D0.blk HB.out.1 (by simp)).set_ 0 _).setv 1 _ rfl
  have D1 : Chg [gP, gE, gA] w1 x1 := by rw [← hx1]; exact (((D0.mono (by simp)).setCell (.inl (by simp)) _).setCell (.inl (by simp)) _)
  have E1 : Blk x1 gE 3 #[.int .i64 n0] := by rw [← hx1]; exact ((D0.blk HB.out.2.1 (by simp)).far (p := ⟨gP, 0, none⟩) HB.out.2.2.2.1 _).far (p := ⟨gP, 1, none⟩) HB.out.2.2.2.1 _
  have A1 : Blk x1 gA 3 #[.int .i64 n1] := by rw [← hx1]; exact ((D0.blk HB.out.2.2.1 (by simp)).far (p := ⟨gP, 0, none⟩) HB.out.2.2.2.2.1 _).far (p := ⟨gP, 1, none⟩) HB.out.2.2.2.2.1 _
  clear hx1 z0 z1 y0 y1
  refine hK _ _ (D1) ?_
  clear hK K
  try simp only [Act.put, qSa, qSb, qSc]
  refine wpAnyS_ready (rs := [4]) (by kernel_rfl) (by simp) ?_
  refine AllReadyS.o (fun K hK => ?_)
  rw [if_pos (by rfl)]
  have z0 : x1.cell? ⟨gE, 0, none⟩ = some (.int .i64 n0) := E1.cellv 0 rfl
  have y0 := E1.frozen 0
  go_simp
  generalize hx2 : World.setCell x1 ⟨gE, 0, none⟩ (.int .i64 6) = x2
  have P2 : Blk x2 gP 30 #[.int .i64 0, .slice none 0 0] := by rw [← hx2]; exact P1.far (p := ⟨gE, 0, none⟩) HB.out.2.2.2.1.symm _
  have D2 : Chg [gP, gE, gA] w1 x2 := by rw [← hx2]; exact D1.setCell (.inl (by simp)) _
  have E2 : Blk x2 gE 3 #[.int .i64 6] := by rw [← hx2]; exact E1.setv 0 _ rfl
  have A2 : Blk x2 gA 3 #[.int .i64 n1] := by rw [← hx2]; exact A1.far (p := ⟨gE, 0, none⟩) HB.out.2.2.2.2.2.symm _
  clear hx2 z0 y0
  refine hK _ _ (D2) ?_
  clear hK K
  try simp only [Act.put, qSa, qSb, qSc]
  refine wpAnyS_tail 5 1 (by kernel_rfl) rfl ?_
  simp only [qDa, qDb]
  have z0 : x2.cell? ⟨gA, 0, none⟩ = some (.int .i64 n1) := A2.cellv 0 rfl
  have y0 := A2.frozen 0
  have HX := Lib.hid (And.intro P2 (And.intro D2 (And.intro E2 A2)))
  clear P2 D2 E2 A2 P1 D1 E1 A1 D0
  go_wp2_with fail
  have P3 := HX.out.1.far (p := ⟨gA, 0, none⟩) HB.out.2.2.2.2.1.symm (.int .i64 (k : Nat))
  have E3 := HX.out.2.2.1.far (p := ⟨gA, 0, none⟩) HB.out.2.2.2.2.2 (.int .i64 (k : Nat))
  have A3 := HX.out.2.2.2.setv 0 (.int .i64 (k : Nat)) (cs' := #[.int .i64 (k : Nat)]) rfl
  have D3 := HX.out.2.1.setCell (p := ⟨gA, 0, none⟩) (.inl (by simp)) (.int .i64 (k : Nat))
  refine ⟨rfl, _, rfl, _, by simp [results, Tryz.results101], rfl, rfl, P3, E3, A3, (HB0.out.mono (by simp)).trans D3⟩
end
open Go Go.RowKit Go.Maps
section
variable {P : Program} {ops : Array Oper} {Q : Exit → Act → World → Prop} {md : Region.Mode} {S : World → Prop} {n : Nat}
theorem wpAnyS_takesD (hsel : Region.noSelect ops = true) (hs : Region.sinkB md ops n = true) (hc : Region.chainB md ops n = true) (hn : n < ops.size) {fuel : Nat} {w : World} (hS : S w) : ∀ (is : List Nat) (os : List Oper) (listed : Array Bool) (a : Act),
    (∀ o ∈ os, ∀ c a v w, Q (.panic c) (a.put o.dst v) w → Q (.panic c) a w) →
    (is.map fun i => ops[i]?) = os.map some → takeB md ops n is listed = true → wpTake P ops S (fun a' => wpAnyS P md ops Q S n fuel (listAll is listed) a' w) os a →
    wpAnyS P md ops Q S n (is.length + fuel) listed a w
  | [], [], listed, a, _, _, _, h => by simpa [wpTake, listAll] using h
  | i :: is, o :: os, listed, a, hQ, he, hB, h => by
    simp only [List.map_cons, List.cons.injEq] at he
    simp only [takeB, Bool.and_eq_true, decide_eq_true_eq] at hB
    obtain ⟨⟨⟨⟨b1, b2⟩, b3⟩, b4⟩, b5⟩ := hB
    obtain ⟨v, hy, h⟩ := h
    have e : (i :: is).length + fuel = (is.length + fuel) + 1 := by simp only [List.length_cons]; omega
    rw [e]
    exact wpAnyS_first he.1 (Region.noSelect_spec hsel) (fun c a w hp => hQ o (by simp) c a v w hp) hs hc hn b1 _ _ _ _ (headB_spec b2) (Region.free_spec he.1 b4) (by simpa using b3) hy hS
      (wpAnyS_takesD hsel hs hc hn hS is os _ _ (fun o' ho' => hQ o' (by simp [ho'])) he.2 b5 h)
  | [], _ :: _, _, _, _, he, _, _ => by simp at he
  | _ :: _, [], _, _, _, he, _, _ => by simp at he
theorem takes_list {l : List Oper} {is : List Nat} (b6 : (is.all fun i => decide (i < l.length)) = true) : (is.map fun i => l.toArray[i]?) = (is.filterMap fun i => l[i]?).map some := by
  induction is with
  | nil => rfl
  | cons i is ih =>
    simp only [List.all_cons, Bool.and_eq_true, decide_eq_true_eq] at b6
    rw [List.map_cons, ih b6.2]
    simp [b6.1]
theorem takes_mem {l : List Oper} {is : List Nat} {o : Oper} (h : o ∈ is.filterMap fun i => l[i]?) : o ∈ l := by
  obtain ⟨i, _, hi⟩ := List.mem_filterMap.1 h
  exact List.mem_of_getElem? hi
theorem wp_region_takesD {id fuel : Nat} {a : Act} {w : World} {l : List Oper} (n : Nat) (S : World → Prop) (is : List Nat) (hm : P.follows .mixedOrders = true)
    (hB : (Region.noSelect l.toArray && Region.sinkB .any l.toArray n && Region.chainB .any l.toArray n && decide (n < l.toArray.size) && takeB .any l.toArray n is (Array.replicate l.toArray.size false) && decide (l.toArray.size = is.length + fuel) && is.all fun i => decide (i < l.length)) = true)
    (hQ : ∀ o ∈ l, ∀ c a v w, Q (.panic c) (a.put o.dst v) w → Q (.panic c) a w) (hS : S w.drew)
    (h : wpTake P l.toArray S (fun a' => wpAnyS P .any l.toArray Q S n fuel (listAll is (Array.replicate l.toArray.size false)) a' w.drew) (is.filterMap fun i => l[i]?) a) : (Code.region id l.toArray true).wp P Q a w := by
  simp only [Bool.and_eq_true, decide_eq_true_eq] at hB
  obtain ⟨⟨⟨⟨⟨⟨b1, b2⟩, b3⟩, b4⟩, b5⟩, hf⟩, b6⟩ := hB
  refine wp_region_any hm (wpAny_of_S (S := S) (n := n) _ _ _ _ ?_)
  have h2 := wpAnyS_takesD (Q := Q) b1 b2 b3 b4 hS is _ _ a (fun o ho => hQ o (takes_mem ho)) (takes_list b6) b5 h
  rw [← hf] at h2
  exact h2
theorem wpAnyS_moreD {fuel F : Nat} {a : Act} {w : World} {l : List Oper} {listed : Array Bool} (is : List Nat)
    (hB : (Region.noSelect l.toArray && Region.sinkB .any l.toArray n && Region.chainB .any l.toArray n && decide (n < l.toArray.size) && takeB .any l.toArray n is listed && decide (F = is.length + fuel) && is.all fun i => decide (i < l.length)) = true)
    (hQ : ∀ o ∈ l, ∀ c a v w, Q (.panic c) (a.put o.dst v) w → Q (.panic c) a w) (hS : S w)
    (h : wpTake P l.toArray S (fun a' => wpAnyS P .any l.toArray Q S n fuel (listAll is listed) a' w) (is.filterMap fun i => l[i]?) a) : wpAnyS P .any l.toArray Q S n F listed a w := by
  simp only [Bool.and_eq_true, decide_eq_true_eq] at hB
  obtain ⟨⟨⟨⟨⟨⟨b1, b2⟩, b3⟩, b4⟩, b5⟩, hf⟩, b6⟩ := hB
  have h2 := wpAnyS_takesD (Q := Q) b1 b2 b3 b4 hS is _ _ a (fun o ho => hQ o (takes_mem ho)) (takes_list b6) b5 h
  rw [← hf] at h2
  exact h2
end
theorem Leaves_congr {P : Program} {fn : Func} {t t' : Array Value} {R : Ending → World → Prop} (h : results fn t = results fn t') : ∀ (ds : List Deferred) (u : FrameMode) (w : World), Leaves P fn t R ds u w → Leaves P fn t' R ds u w
  | [], .returning, w, H => by
    obtain ⟨v, h1, h2⟩ := H
    exact ⟨v, by rw [← h]; exact h1, h2⟩
  | [], .panicking _, _, H => H
  | [], .run, _, H => H
  | d :: ds, u, w, ⟨h1, fv, cap, f, args, h2, h3, h4⟩ => ⟨h1, fv, cap, f, args, h2, h3, h4.mono fun e u' w' H => by
    cases e with
    | returned v => exact Leaves_congr h ds _ _ H
    | panicked c => exact Leaves_congr h ds _ _ H
    | outgrown => exact H⟩
theorem hQ3 {P : Program} {fn : Func} {R : Ending → World → Prop} {p q r : Tmp} {t1 t2 t3 : TypeId} (hres : fn.results = #[.cell p t1, .cell q t2, .cell r t3]) {l : List Oper} (hl : (l.all fun o => decide (o.dst ≠ some p) && decide (o.dst ≠ some q) && decide (o.dst ≠ some r)) = true) :
    ∀ o ∈ l, ∀ c a v w, bodyPostD P fn R (.panic c) (a.put o.dst v) w → bodyPostD P fn R (.panic c) a w := by
  intro o ho c a v w H
  have h1 := List.all_eq_true.1 hl o ho
  simp only [Bool.and_eq_true, decide_eq_true_eq] at h1
  obtain ⟨⟨n1, n2⟩, n3⟩ := h1
  cases hd : o.dst with
  | none => rw [hd] at H; exact H
  | some d =>
    rw [hd] at H n1 n2 n3
    have g : ∀ k, d ≠ k → (a.tmps.setIfInBounds d v)[k]?.getD undef = a.tmps[k]?.getD undef := fun k hk => by
      rw [Array.getElem?_setIfInBounds_ne hk]
    have e : results fn (a.tmps.setIfInBounds d v) = results fn a.tmps := by
      simp only [results, hres]
      simp [g p (fun e => n1 (by rw [e])), g q (fun e => n2 (by rw [e])), g r (fun e => n3 (by rw [e]))]
    exact Leaves_congr e _ _ _ H
end Go.Proofs.YtcpljjacamibeaaGreatDoor
