/- The document's instructions: kinds, fits, wrong. -/
/- The document's May, of a program that may be. -/
/- The document's Encode, of a program that may be. -/
import Derived.Test.YtcpljjacamibeaaGreatDoorMh5J
import Derived.Test.YtcpljjacamibeaaGreatDoorMcIJ
import Derived.Laws.BytesArg
namespace Go.Proofs.YtcpljjacamibeaaGreatDoor
set_option maxHeartbeats 16000000
set_option maxRecDepth 100000
open Go.RowKit Go.Maps
def ktab : List (List Int) :=
  [[0, 0, 0], [1, 6, 0], [1, 1, 6], [1, 6, 1], [1, 1, 0], [1, 0, 0], [1, 2, 0], [2, 1, 0], [3, 1, 0], [0, 0, 0], [0, 6, 6], [4, 0, 0], [4, 0, 0], [1, 1, 0], [5, 0, 0], [1, 1, 5], [6, 6, 0], [5, 0, 0]]
def kpart (k : Int) : Int := if k = 0 then 0 else if k = 6 then 1 else if k = 4 then 6 else if k = 5 then 5 else k + 1
theorem ktab_ptab : ktab.map (fun l => l.map kpart) = ptab := by decide
def allocL (w : World) (t : TypeId) (L : List (Array Value)) : World := L.foldl (fun w c => w.alloc (.cells c t)) w
theorem allocL_chg (t : TypeId) : ∀ (L : List (Array Value)) (w : World), Chg [] w (allocL w t L)
  | [], w => Chg.refl [] w
  | c :: L, w => ((Chg.refl [] w).alloc _).trans (allocL_chg t L _)
theorem allocL_size (t : TypeId) : ∀ (L : List (Array Value)) (w : World), (allocL w t L).heap.size = w.heap.size + L.length
  | [], w => rfl
  | c :: L, w => by
    show (allocL (w.alloc _) t L).heap.size = _
    rw [allocL_size t L, World.size_alloc, List.length_cons]; omega
theorem allocL_blk (t : TypeId) : ∀ (L : List (Array Value)) (w : World) (i : Nat) (c : Array Value), L[i]? = some c → Blk (allocL w t L) (w.heap.size + i) t c
  | c :: L, w, 0, c', h => by
    have e : c = c' := by simpa using h
    subst e
    exact (allocL_chg t L _).blk (Blk.new w t c) (by simp)
  | c :: L, w, i + 1, c', h => by
    have := allocL_blk t L (w.alloc (.cells c t)) i c' (by simpa using h)
    rw [World.size_alloc, show w.heap.size + 1 + i = w.heap.size + (i + 1) by omega] at this
    exact this
def kcL : List (Array Value) := ktab.map fun l => (l.map fun x => Value.int .i64 x).toArray
def kcT (b : Nat) : Array Value := ((List.range 18).map fun i => Value.slice (some ⟨b + i, 0, none⟩) 3 3).toArray
theorem kcT_at (b : Nat) {i : Nat} (h : i < 18) : (kcT b)[i]? = some (.slice (some ⟨b + i, 0, none⟩) 3 3) := by unfold kcT; simp [h]
theorem ktab_at {o : Nat} (h : o ≤ 17) : ∃ x y z, ktab[o]? = some [x, y, z] ∧ kcL[o]? = some #[.int .i64 x, .int .i64 y, .int .i64 z] ∧ 0 ≤ x ∧ x ≤ 6 ∧ 0 ≤ y ∧ y ≤ 6 ∧ 0 ≤ z ∧ z ≤ 6 := by
  have hh : o = 0 ∨ o = 1 ∨ o = 2 ∨ o = 3 ∨ o = 4 ∨ o = 5 ∨ o = 6 ∨ o = 7 ∨ o = 8 ∨ o = 9 ∨ o = 10 ∨ o = 11 ∨ o = 12 ∨ o = 13 ∨ o = 14 ∨ o = 15 ∨ o = 16 ∨ o = 17 := by omega
  rcases hh with rfl | rfl | rfl | rfl | rfl | rfl | rfl | rfl | rfl | rfl | rfl | rfl | rfl | rfl | rfl | rfl | rfl | rfl <;> exact ⟨_, _, _, rfl, rfl, by decide⟩
def KdPost (o : Nat) (w : World) (e : Ending) (w' : World) : Prop := ∃ g x y z, e = .returned (.slice (some ⟨g, 0, none⟩) 3 3) ∧ ktab[o]? = some [x, y, z] ∧ 0 ≤ x ∧ x ≤ 6 ∧ 0 ≤ y ∧ y ≤ 6 ∧ 0 ≤ z ∧ z ≤ 6 ∧ Blk w' g 3 #[.int .i64 x, .int .i64 y, .int .i64 z] ∧ w.heap.size ≤ g ∧ Chg [] w w'
theorem rkinds_ok (w : World) (o : Nat) (h : o ≤ 17) : Calls Tryz.prog 115 #[.int .i64 (o : Nat)] w (KdPost o w) := by
  go_enter Tryz.func115, Tryz.ntmps115
  go_upto_region 2 with fail
  obtain ⟨w2, hw2⟩ : ∃ w2, w2 = (allocL w 3 kcL).alloc (.cells (kcT w.heap.size) 37) := ⟨_, rfl⟩
  change Code.wp _ _ _ _ ((allocL w 3 kcL).alloc (.cells (kcT w.heap.size) 37))
  rw [← hw2]
  obtain ⟨x, y, z, hk, hc, hxyz⟩ := ktab_at h
  have c02 : Chg [] w w2 := by rw [hw2]; exact (allocL_chg _ _ w).alloc _
  have B : Blk w2 (w.heap.size + o) 3 #[.int .i64 x, .int .i64 y, .int .i64 z] := by rw [hw2]; exact (allocL_blk _ _ w o _ hc).alloc _
  have T : Blk w2 (w.heap.size + 1 + 1 + 1 + 1 + 1 + 1 + 1 + 1 + 1 + 1 + 1 + 1 + 1 + 1 + 1 + 1 + 1 + 1) 37 (kcT w.heap.size) := by
    rw [hw2]
    have hs : (allocL w 3 kcL).heap.size = w.heap.size + 18 := allocL_size _ _ w
    have := Blk.new (allocL w 3 kcL) 37 (kcT w.heap.size)
    rw [hs] at this
    exact this
  have t0 : w2.cell? ⟨w.heap.size + 1 + 1 + 1 + 1 + 1 + 1 + 1 + 1 + 1 + 1 + 1 + 1 + 1 + 1 + 1 + 1 + 1 + 1, o, none⟩ = some (.slice (some ⟨w.heap.size + o, 0, none⟩) 3 3) := T.cellv o (kcT_at _ (by omega))
  have e1 : (0 : Int) ≤ o := by omega
  have e2 : (o : Int) < 18 := by omega
  have H2 := Lib.hid (And.intro c02 (And.intro B (And.intro hk hxyz))); clear c02 B T hk hxyz hc hw2
  go_wp2_with fail
  go_ret
  have hx := H2.out.2.2.2
  exact ⟨_, x, y, z, rfl, H2.out.2.2.1, hx.1, hx.2.1, hx.2.2.1, hx.2.2.2.1, hx.2.2.2.2.1, hx.2.2.2.2.2, H2.out.2.1, by omega, H2.out.1⟩
theorem fits_form {G F S : Nat} {k : Int} (v : Nat) (h0 : 0 ≤ k) (h6 : k ≤ 6) : fitsP G F S (kpart k) v = decide ((v : Int) < (if k = 0 then 1 else if k = 1 then 16 else if k = 2 then (G : Int) else if k = 3 then (F : Int) else if k = 4 then 32 else if k = 5 then (S : Int) else 256)) := by
  have hh : k = 0 ∨ k = 1 ∨ k = 2 ∨ k = 3 ∨ k = 4 ∨ k = 5 ∨ k = 6 := by omega
  unfold fitsP
  rcases hh with rfl | rfl | rfl | rfl | rfl | rfl | rfl <;> simp [kpart, mostP]
theorem rfits_ok (w : World) (k : Int) (v G F S : Nat) (h0 : 0 ≤ k) (h6 : k ≤ 6) : Calls Tryz.prog 116 #[.int .i64 k, .int .i64 (v : Nat), .int .i64 (G : Nat), .int .i64 (F : Nat), .int .i64 (S : Nat)] w (NwPost (.bool (fitsP G F S (kpart k) v)) w) := by
  rw [fits_form v h0 h6]
  have hv : (0 : Int) ≤ v := by omega
  have hh : k = 0 ∨ k = 1 ∨ k = 2 ∨ k = 3 ∨ k = 4 ∨ k = 5 ∨ k = 6 := by omega
  clear h0 h6
  rcases hh with rfl | rfl | rfl | rfl | rfl | rfl | rfl
  all_goals
    go_enter Tryz.func116, Tryz.ntmps116
    go_wp2_with fail
    go_ret
    exact ⟨rfl, (Chg.refl [] w).alloc _⟩
theorem ktab_kp {o : Nat} {x y z : Int} (h : ktab[o]? = some [x, y, z]) : ptab[o]? = some [kpart x, kpart y, kpart z] := by
  rw [← ktab_ptab, List.getElem?_map, h]; rfl
theorem okIns_fits {G F S : Nat} {i : Ins} {x y z : Int} (h : okIns G F S i) (hk : ktab[i.o]? = some [x, y, z]) : fitsP G F S (kpart x) i.a = true ∧ fitsP G F S (kpart y) i.b = true ∧ fitsP G F S (kpart z) i.c = true := by
  obtain ⟨hw, -⟩ := h
  obtain ⟨x', y', z', h1, h2⟩ := wrongP_form (G := G) (F := F) (S := S) (a := i.a) (b := i.b) (c := i.c) (wrongP_op hw)
  rw [ktab_kp hk] at h1
  injection h1 with h1; injection h1 with e1 h1; injection h1 with e2 h1; injection h1 with e3 _
  subst e1 e2 e3
  rw [h2] at hw
  cases q1 : fitsP G F S (kpart x) i.a
  · rw [q1] at hw; simp at hw
  · cases q2 : fitsP G F S (kpart y) i.b
    · rw [q1, q2] at hw; simp at hw
    · cases q3 : fitsP G F S (kpart z) i.c
      · rw [q1, q2, q3] at hw; simp at hw
      · exact ⟨rfl, rfl, rfl⟩
def WrgRel (w0 : World) (gk : Nat) (idx : Value) (w : World) : Prop := ∃ i : Nat, gk + i = 4 ∧ i ≤ 3 ∧ idx = .int .i64 (i : Nat) ∧ Chg [] w0 w
theorem rwrong_ok (w : World) (i : Ins) (G F S : Nat) (hok : okIns G F S i) : Calls Tryz.prog 65 #[.agg (insC i).toArray, .int .i64 (G : Nat), .int .i64 (F : Nat), .int .i64 (S : Nat)] w (NwPost (.int .i64 (-1)) w) := by
  have ho : i.o ≤ 17 := wrongP_op hok.1
  have KK := fun w' => rkinds_ok w' i.o ho
  have KF := fun (w' : World) (k : Int) (v : Nat) (h0 : 0 ≤ k) (h6 : k ≤ 6) => rfits_ok w' k v G F S h0 h6
  have HK := Lib.hid (And.intro KK (And.intro KF hok)); clear KK KF hok
  unfold insC
  go_enter Tryz.func65, Tryz.ntmps65
  go_upto_region 1 with fail
  obtain ⟨w1, hw1⟩ : ∃ w1, w1 = w.alloc (.cells #[.int .i64 (i.o : Nat), .int .i64 (i.a : Nat), .int .i64 (i.b : Nat), .int .i64 (i.c : Nat)] 33) := ⟨_, rfl⟩
  obtain ⟨gI, hgI⟩ : ∃ gI, gI = w.heap.size := ⟨_, rfl⟩
  rw [← hw1, ← hgI]
  have B1 : Blk w1 gI 33 #[.int .i64 (i.o : Nat), .int .i64 (i.a : Nat), .int .i64 (i.b : Nat), .int .i64 (i.c : Nat)] := by rw [hw1, hgI]; exact Blk.new _ _ _
  have c01 : Chg [] w w1 := by rw [hw1]; exact (Chg.refl [] w).alloc _
  have i0 : w1.cell? ⟨gI, 0, none⟩ = some (.int .i64 (i.o : Nat)) := B1.cellv 0 rfl
  have H1 := Lib.hid (And.intro B1 c01); clear B1 c01 hw1 hgI
  go_wp2_with fail
  refine (HK.out.1 w1).mono ?_
  rintro e w2 ⟨g, x, y, z, rfl, hk, x0, x6, y0, y6, z0, z6, BK, hg, c12⟩
  have B2 := c12.blk H1.out.1 (by simp)
  have i1 : w2.cell? ⟨gI, 1, none⟩ = some (.int .i64 (i.a : Nat)) := B2.cellv 1 rfl
  have i2 : w2.cell? ⟨gI, 2, none⟩ = some (.int .i64 (i.b : Nat)) := B2.cellv 2 rfl
  have i3 : w2.cell? ⟨gI, 3, none⟩ = some (.int .i64 (i.c : Nat)) := B2.cellv 3 rfl
  have H2 := Lib.hid (And.intro BK (And.intro (H1.out.2.trans c12) (okIns_fits HK.out.2.2 hk))); clear BK c12 B2 hk i0 hg
  have hnil : ∀ w' : World, (binOp .eql 37 (.slice (some ⟨g, 0, none⟩) 3 3) (.slice none 0 0)).run Tryz.prog w' = .ok (.bool false) w' := fun _ => by kernel_rfl
  go_upto_region 5 with fail
  clear hnil
  obtain ⟨w3, hw3⟩ : ∃ w3, w3 = w2.alloc (.cells #[.int .i64 (i.a : Nat), .int .i64 (i.b : Nat), .int .i64 (i.c : Nat)] 3) := ⟨_, rfl⟩
  obtain ⟨gN, hgN⟩ : ∃ gN, gN = w2.heap.size := ⟨_, rfl⟩
  rw [← hw3, ← hgN]
  have B3 : Blk w3 gN 3 #[.int .i64 (i.a : Nat), .int .i64 (i.b : Nat), .int .i64 (i.c : Nat)] := by rw [hw3, hgN]; exact Blk.new _ _ _
  have c23 : Chg [] w2 w3 := by rw [hw3]; exact (Chg.refl [] w2).alloc _
  have H3 := Lib.hid (And.intro B3 (And.intro (c23.blk H2.out.1 (by simp)) (H2.out.2.1.trans c23))); clear B3 c23 hw3 hgN i1 i2 i3
  go_wp2_with fail
  go_loopg [11] 4 (fun gk idx wr => WrgRel w3 gk idx wr)
  case atStart => exact ⟨0, by omega, by omega, rfl, Chg.refl [] w3⟩
  case round =>
    obtain ⟨j, hgk, hj, rfl, c⟩ := hrel
    have BN := c.blk H3.out.1 (by simp)
    have BK := c.blk H3.out.2.1 (by simp)
    have n0 : wr.cell? ⟨gN, 0, none⟩ = some (.int .i64 (i.a : Nat)) := BN.cellv 0 rfl
    have n1 : wr.cell? ⟨gN, 1, none⟩ = some (.int .i64 (i.b : Nat)) := BN.cellv 1 rfl
    have n2 : wr.cell? ⟨gN, 2, none⟩ = some (.int .i64 (i.c : Nat)) := BN.cellv 2 rfl
    have k0 : wr.cell? ⟨g, 0, none⟩ = some (.int .i64 x) := BK.cellv 0 rfl
    have k1 : wr.cell? ⟨g, 1, none⟩ = some (.int .i64 y) := BK.cellv 1 rfl
    have k2 : wr.cell? ⟨g, 2, none⟩ = some (.int .i64 z) := BK.cellv 2 rfl
    have HC := Lib.hid c; clear c BN BK
    have hh : j = 0 ∨ j = 1 ∨ j = 2 ∨ j = 3 := by omega
    rcases hh with rfl | rfl | rfl | rfl
    · go_upto_region 8 with fail
      go_still_tail 11, (by kernel_rfl)
      change wpList _ _ _ _ _ wr.drew
      go_wp2_with fail
      refine (HK.out.2.1 _ x i.a x0 x6).mono ?_
      rintro e w5 ⟨rfl, c5⟩
      rw [H2.out.2.2.1]
      have H5 := Lib.hid (HC.out.trans (((Chg.refl [] wr).drew).trans c5)); clear c5
      go_wp2_with fail
      go_roundg 3
      case measure => omega
      case rel => exact ⟨1, by omega, by omega, rfl, H5.out⟩
    · go_upto_region 8 with fail
      go_still_tail 11, (by kernel_rfl)
      change wpList _ _ _ _ _ wr.drew
      go_wp2_with fail
      refine (HK.out.2.1 _ y i.b y0 y6).mono ?_
      rintro e w5 ⟨rfl, c5⟩
      rw [H2.out.2.2.2.1]
      have H5 := Lib.hid (HC.out.trans (((Chg.refl [] wr).drew).trans c5)); clear c5
      go_wp2_with fail
      go_roundg 2
      case measure => omega
      case rel => exact ⟨2, by omega, by omega, rfl, H5.out⟩
    · go_upto_region 8 with fail
      go_still_tail 11, (by kernel_rfl)
      change wpList _ _ _ _ _ wr.drew
      go_wp2_with fail
      refine (HK.out.2.1 _ z i.c z0 z6).mono ?_
      rintro e w5 ⟨rfl, c5⟩
      rw [H2.out.2.2.2.2]
      have H5 := Lib.hid (HC.out.trans (((Chg.refl [] wr).drew).trans c5)); clear c5
      go_wp2_with fail
      go_roundg 1
      case measure => omega
      case rel => exact ⟨3, by omega, by omega, rfl, H5.out⟩
    · go_wp2_with fail
      go_ret
      exact ⟨rfl, H3.out.2.2.trans HC.out⟩
theorem RdG.ins {w : World} {B i : Nat} {A : Option Addr} {n c : Nat} {l : List Ins} (h : RdG insC 4 w B (.slice A n c) l) {x : Ins} (hx : l[i]? = some x) :
    ∃ b off, A = some ⟨b, off, none⟩ ∧ b < B ∧ w.cell? ⟨b, off + i * 4, none⟩ = some (.int .i64 (x.o : Nat)) ∧ w.cell? ⟨b, off + i * 4 + 1, none⟩ = some (.int .i64 (x.a : Nat)) ∧ w.cell? ⟨b, off + i * 4 + 2, none⟩ = some (.int .i64 (x.b : Nat)) ∧ w.cell? ⟨b, off + i * 4 + 3, none⟩ = some (.int .i64 (x.c : Nat)) := by
  obtain ⟨b, off, e, hb, hc⟩ := h.at_ _ _ _ rfl i x hx
  exact ⟨b, off, e, hb, hc 0 _ rfl, hc 1 _ rfl, hc 2 _ rfl, hc 3 _ rfl⟩
def MayR1 (w0 : World) (n gk : Nat) (idx : Value) (w : World) : Prop := ∃ i : Nat, gk + i = n + 1 ∧ i ≤ n ∧ idx = .int .i64 (i : Nat) ∧ w = w0
def MayR2 (w0 : World) (n gk : Nat) (acc idx : Value) (w : World) : Prop := ∃ i k : Nat, gk + i = n + 1 ∧ i ≤ n ∧ k ≤ i * 64 ∧ acc = .int .i64 (k : Nat) ∧ idx = .int .i64 (i : Nat) ∧ Chg [] w0 w
def MayR3 (w0 : World) (n k0 gk : Nat) (acc idx : Value) (w : World) : Prop := ∃ i : Nat, gk + i = n + 1 ∧ i ≤ n ∧ acc = .int .i64 ((k0 + i : Nat) : Int) ∧ idx = .int .i64 (i : Nat) ∧ Chg [] w0 w
theorem rmay_ok (w : World) (G : Nat) (v : Value) (vs : List Value) (fs : List (List Ins)) (R : PrR w w.heap.size v vs fs) (hok : OkP G fs) : Calls Tryz.prog 29 #[.agg #[.int .i64 (G : Nat), v]] w (NwPost (.int .i64 0) w) := by
  obtain ⟨A, c, rfl⟩ := R.len
  have g0 : ¬ (G : Int) < 0 := by omega
  have g1 : ¬ (G : Int) > 32 := by have := hok.g; omega
  have g2 : ¬ (fs.length : Int) < 1 := by have := hok.f0; omega
  have g3 : ¬ (fs.length : Int) > 16 := by have := hok.f1; omega
  have KW := fun (w' : World) (i : Ins) (S : Nat) (h : okIns G fs.length S i) => rwrong_ok w' i G fs.length S h
  go_enter Tryz.func29, Tryz.ntmps29
  go_upto_region 1 with fail
  obtain ⟨w1, hw1⟩ : ∃ w1, w1 = w.alloc (.cells #[.int .i64 (G : Nat), .slice A fs.length c] 30) := ⟨_, rfl⟩
  obtain ⟨gP, hgP⟩ : ∃ gP, gP = w.heap.size := ⟨_, rfl⟩
  rw [← hw1, ← hgP]
  have B1 : Blk w1 gP 30 #[.int .i64 (G : Nat), .slice A fs.length c] := by rw [hw1, hgP]; exact Blk.new _ _ _
  have c01 : Chg [] w w1 := by rw [hw1]; exact (Chg.refl [] w).alloc _
  have R1 := R.chg0 c01 (Nat.le_refl _)
  have p0 : w1.cell? ⟨gP, 0, none⟩ = some (.int .i64 (G : Nat)) := B1.cellv 0 rfl
  have p1 : w1.cell? ⟨gP, 1, none⟩ = some (.slice A fs.length c) := B1.cellv 1 rfl
  have H1 := Lib.hid (And.intro R1 (And.intro c01 (And.intro hok (And.intro KW B1)))); clear R R1 c01 hw1 hgP hok KW B1
  go_wp2_with fail
  go_loopg [3] (fs.length + 1) (fun gk idx wr => MayR1 w1 fs.length gk idx wr)
  case atStart => exact ⟨0, by omega, by omega, rfl, rfl⟩
  case round =>
    obtain ⟨i, hgk, hi, rfl, hw⟩ := hrel
    have hw' := hw.symm
    subst hw'
    by_cases hin : i < fs.length
    · obtain ⟨l, b, off, A', c', hl, -, hA, -, hc, -⟩ := H1.out.1.fn hin
      have hs := H1.out.2.2.1.s l (List.mem_of_getElem? hl)
      have h1 : (i : Int) < fs.length := by omega
      have h2 : (0 : Int) ≤ i := by omega
      have h3 : ¬ (l.length : Int) < 1 := by omega
      have h4 : ¬ (l.length : Int) > 64 := by omega
      subst hA
      clear hs hl
      go_wp2_with fail
      go_roundg (fs.length - i)
      case measure => omega
      case rel => exact ⟨i + 1, by omega, by omega, by go_num, rfl⟩
    · have h1 : ¬ (i : Int) < fs.length := by omega
      clear g2 g0 g1
      have g3 : fs.length ≤ 16 := by omega
      go_wp2_with fail
      clear h1 hin hgk hi p0 p1
      go_loopg [4, 5] (fs.length + 1) (fun gk acc idx w2 => MayR2 w1 fs.length gk acc idx w2)
      case atStart => exact ⟨0, 0, by omega, by omega, by omega, rfl, rfl, Chg.refl [] w1⟩
      case round =>
        obtain ⟨j, k, hgk2, hj, hk, rfl, rfl, c2⟩ := hrel
        obtain ⟨w2, hw2⟩ : ∃ w2, w2 = wr := ⟨_, rfl⟩
        subst hw2
        have B2 := c2.blk H1.out.2.2.2.2 (by simp)
        have p0 : w2.cell? ⟨gP, 0, none⟩ = some (.int .i64 (G : Nat)) := B2.cellv 0 rfl
        have p1 : w2.cell? ⟨gP, 1, none⟩ = some (.slice A fs.length c) := B2.cellv 1 rfl
        have R2 := H1.out.1.chg0 c2 (by have := H1.out.2.1.size; omega)
        have H2 := Lib.hid (And.intro c2 (And.intro R2 B2)); clear c2 R2 B2
        by_cases hjn : j < fs.length
        · obtain ⟨l, b, off, A', c', hl, -, hA, -, hc, Rl⟩ := H2.out.2.1.fn hjn
          have hs := H1.out.2.2.1.s l (List.mem_of_getElem? hl)
          have h1 : (j : Int) < fs.length := by omega
          have h2 : (0 : Int) ≤ j := by omega
          have hl64 : l.length ≤ 64 := hs.2.1
          have hk2 : k ≤ 1024 := by omega
          have hb := lt_of_cellM hc
          subst hA
          have H3 := Lib.hid (And.intro hl (And.intro hs Rl)); clear hs hl Rl
          go_wp2_with fail
          go_loopg [4, 6] (l.length + 1) (fun gk acc idx w3 => MayR3 w2 l.length k gk acc idx w3)
          case atStart => exact ⟨0, by omega, by omega, rfl, rfl, Chg.refl [] w2⟩
          case round =>
            obtain ⟨i, hgk3, hi3, rfl, rfl, c3⟩ := hrel
            obtain ⟨w3, hw3⟩ : ∃ w3, w3 = wr := ⟨_, rfl⟩
            subst hw3
            have p0 : w3.cell? ⟨gP, 0, none⟩ = some (.int .i64 (G : Nat)) := c3.cellv H2.out.2.2.lt (by simp) p0
            have p1 : w3.cell? ⟨gP, 1, none⟩ = some (.slice (some ⟨b, off, none⟩) fs.length c) := c3.cellv H2.out.2.2.lt (by simp) p1
            have hc : w3.cell? ⟨b, off + j, none⟩ = some (.slice A' l.length c') := c3.cellv hb (by simp) hc
            by_cases hin : i < l.length
            · have hx := List.getElem?_eq_getElem hin
              obtain ⟨b', off', e', hb', q0, q1, q2, q3⟩ := (H3.out.2.2.chg c3 (by have := H2.out.1.size; have := H1.out.2.1.size; omega) (by simp)).ins hx
              obtain ⟨x, ex⟩ : ∃ x, x = l[i] := ⟨_, rfl⟩
              rw [← ex] at q0 q1 q2 q3
              have hok := H3.out.2.1.2.2 x (by rw [ex]; exact List.getElem_mem hin)
              subst e'
              have h3 : (i : Int) < l.length := by omega
              have h4 : (0 : Int) ≤ i := by omega
              have HC := Lib.hid (And.intro c3 hok); clear c3 hok ex hx
              go_upto_region 15 with fail
              go_still_tail 19, (by kernel_rfl)
              change wpList _ _ _ _ _ w3.drew
              go_wp2_with fail
              refine (H1.out.2.2.2.1 w3.drew x l.length HC.out.2).mono ?_
              rintro e w5 ⟨rfl, c5⟩
              have H5 := Lib.hid (HC.out.1.trans (((Chg.refl [] w3).drew).trans c5)); clear c5
              go_wp2_with fail
              go_roundg (l.length - i)
              case measure => omega
              case rel => exact ⟨i + 1, by omega, by omega, by go_num, by go_num, H5.out⟩
            · have h3 : ¬ (i : Int) < l.length := by omega
              have hii : i = l.length := by omega
              have HC := Lib.hid (And.intro c3 hii); clear c3 hii
              go_wp2_with fail
              go_roundg (fs.length - j)
              case measure => omega
              case rel => exact ⟨j + 1, k + i, by omega, by omega, by omega, by go_num, by go_num, H2.out.1.trans HC.out.1⟩
        · have h1 : ¬ (j : Int) < fs.length := by omega
          clear hjn hgk2
          go_wp2_with fail
          go_ret
          exact ⟨rfl, H1.out.2.1.trans H2.out.1⟩
theorem tyB8 : SlV Tryz.prog 73 5 (.int .u8 0) 1 := ⟨Tryz.underlying73, by kernel_rfl, rfl, by decide⟩
theorem u8s_one2 (bs : List Nat) : ∀ y ∈ u8s bs, y.oneCell' = true := by
  intro y hy
  obtain ⟨x, _, rfl⟩ := List.mem_map.1 hy
  rfl
theorem u8s_cat (a b : List Nat) : u8s (a ++ b) = u8s a ++ u8s b := by unfold u8s; simp
theorem RdV.ofBlk2 {w : World} {g n : Nat} {t : TypeId} {ys : List Value} (h : Blk w g t ys.toArray) (hn : ys.length = n) (h1 : ∀ y ∈ ys, y.oneCell' = true) : RdV w w.heap.size (.slice (some ⟨g, 0, none⟩) n n) ys :=
  ⟨⟨_, _, by rw [hn]⟩, (fun A m c e i y hy => by
    injection e with e1 e2 e3
    exact ⟨g, 0, e1.symm, h.lt, by rw [Nat.zero_add]; exact h.cellv i (by rw [List.getElem?_toArray]; exact hy)⟩), h1⟩
theorem OwnV.ofBlk {w : World} {g n : Nat} {E : TypeId} {ys : List Value} (h : Blk w g E ys.toArray) (hn : ys.length = n) (hm : n ≤ 1000000) : OwnV E w (.slice (some ⟨g, 0, none⟩) n n) ys := by
  subst hn
  exact ⟨⟨by omega, .inr ⟨g, ys.length, ys.toArray, rfl, Nat.zero_le _, h, Nat.le_refl _, by unfold maxLen; omega, by simp, by simp⟩⟩⟩
structure BtR (w0 : World) (bs : List Nat) (v : Value) (w : World) : Prop where
  o : OwnV 5 w v (u8s bs)
  c : Chg [] w0 w
  f : ∀ k ∈ fpv v, w0.heap.size ≤ k
theorem BtR.cat {w0 w w' : World} {bs ys : List Nat} {v v' : Value} {o : Obj} (E : BtR w0 bs v w) (O : OwnV 5 w' v' (u8s bs ++ u8s ys)) (S : Stp (fpv v) (fpv v') (w.alloc o) w') : BtR w0 (bs ++ ys) v' w' :=
  ⟨by rw [u8s_cat]; exact O, (E.c.alloc o).newS S.c E.f, fun k hk => by
    rcases S.f k hk with h | h
    · exact E.f k h
    · have := (E.c.alloc o).size; omega⟩
theorem BtR.alloc {w0 w : World} {bs : List Nat} {v : Value} (E : BtR w0 bs v w) (o : Obj) : BtR w0 bs v (w.alloc o) := ⟨E.o.alloc o, E.c.alloc o, E.f⟩
theorem wpList_cat_b {w0 w : World} {bs ys : List Nat} {v u : Value} {N B : Nat} {o : Obj} {ops : Array Oper} {rest : List Oper} {op : Oper} {a : Act} {Q : Exit → Act → World → Prop} (hN : bs.length + ys.length = N) (E : BtR w0 bs v w) (hgd : op.guard = none) (s x : Operand)
    (hop : op.op = .call { callee := .builtin .append, args := #[s, x], argTypes := #[73, 73] }) (hs : a.eval s = v) (hx : a.eval x = u) (hu : RdV (w.alloc o) B u (u8s ys)) (hl : N ≤ 100000)
    (hK : ∀ A' c' w', BtR w0 (bs ++ ys) (.slice A' N c') w' → wpList Tryz.prog ops Q rest (a.put op.dst (.slice A' N c')) w') : wpList Tryz.prog ops Q (op :: rest) a (w.alloc o) := by
  subst hN
  refine wpList_cat_v tyB8 hgd s x hop hs (E.o.alloc o) hx hu (by rw [u8s_len, u8s_len]; omega) fun A' c' w' O S => ?_
  rw [u8s_len, u8s_len] at O S ⊢
  exact hK A' c' w' (E.cat O S)
def encT (G : Nat) (fs : List (List Ins)) (i : Nat) : List Nat := fs.length :: G :: (fs.take i).flatMap encF
theorem encT_all (G : Nat) (fs : List (List Ins)) : encT G fs fs.length = encP G fs := by unfold encT encP; rw [List.take_length]
theorem encT_succ (G : Nat) {fs : List (List Ins)} {i : Nat} {l : List Ins} (h : fs[i]? = some l) : encT G fs (i + 1) = encT G fs i ++ encF l := by
  unfold encT; rw [List.take_add_one, h]; simp
theorem flatI_len (l : List Ins) : (l.flatMap encI).length = 4 * l.length := by
  induction l with
  | nil => rfl
  | cons i l ih => rw [List.flatMap_cons, List.length_append, ih]; simp [encI]; omega
theorem encT_len (G : Nat) (fs : List (List Ins)) (h : ∀ l ∈ fs, l.length ≤ 64) (i : Nat) (hi : i ≤ fs.length) : (encT G fs i).length ≤ 2 + i * 257 := by
  induction i with
  | zero => simp [encT]
  | succ i ih =>
    have hl := List.getElem?_eq_getElem (show i < fs.length by omega)
    rw [encT_succ G hl, List.length_append, encF_len]
    have := ih (by omega)
    have := h _ (List.mem_of_getElem? hl)
    omega
def EncR1 (w1 : World) (G : Nat) (fs : List (List Ins)) (gk : Nat) (v idx : Value) (w : World) : Prop := ∃ i : Nat, gk + i = fs.length + 1 ∧ i ≤ fs.length ∧ idx = .int .i64 (i : Nat) ∧ BtR w1 (encT G fs i) v w
def EncR2 (w1 : World) (bs : List Nat) (l : List Ins) (gk : Nat) (v idx : Value) (w : World) : Prop := ∃ i : Nat, gk + i = l.length + 1 ∧ i ≤ l.length ∧ idx = .int .i64 (i : Nat) ∧ BtR w1 (bs ++ (l.take i).flatMap encI) v w
def EcPost (bs : List Nat) (w : World) (e : Ending) (w' : World) : Prop := e = .returned (.tuple #[.string (strOfNums (bs.map fun n : Nat => (n : Int))), .int .i64 0]) ∧ Chg [] w w'
theorem wrap_u8 {n : Nat} (h : n < 256) : IntKind.u8.wrap (n : Int) = n := by
  have e : IntKind.u8.wrap (n : Int) = (n : Int) % 256 := by rfl
  rw [e]; omega
theorem rencode_ok (w : World) (G : Nat) (v : Value) (vs : List Value) (fs : List (List Ins)) (R : PrR w w.heap.size v vs fs) (hok : OkP G fs) : Calls Tryz.prog 78 #[.agg #[.int .i64 (G : Nat), v]] w (EcPost (encP G fs) w) := by
  obtain ⟨A, c, rfl⟩ := R.len
  have KM := fun (w' : World) (R' : PrR w' w'.heap.size (.slice A fs.length c) vs fs) => rmay_ok w' G _ vs fs R' hok
  go_enter Tryz.func78, Tryz.ntmps78
  go_upto_region 1 with fail
  obtain ⟨w1, hw1⟩ : ∃ w1, w1 = w.alloc (.cells #[.int .i64 (G : Nat), .slice A fs.length c] 30) := ⟨_, rfl⟩
  obtain ⟨gP, hgP⟩ : ∃ gP, gP = w.heap.size := ⟨_, rfl⟩
  rw [← hw1, ← hgP]
  have B1 : Blk w1 gP 30 #[.int .i64 (G : Nat), .slice A fs.length c] := by rw [hw1, hgP]; exact Blk.new _ _ _
  have c01 : Chg [] w w1 := by rw [hw1]; exact (Chg.refl [] w).alloc _
  have R1 := R.chg0 c01 (Nat.le_refl _)
  have R1' : PrR w1 w1.heap.size (.slice A fs.length c) vs fs := ⟨R1.o.mono c01.size, R1.n, fun i u l h1 h2 => ⟨(R1.f i u l h1 h2).ex, fun A n c e j x hx => by
    obtain ⟨b, off, e1, e2, e3⟩ := (R1.f i u l h1 h2).at_ A n c e j x hx
    exact ⟨b, off, e1, Nat.lt_of_lt_of_le e2 c01.size, e3⟩⟩⟩
  have p0 : w1.cell? ⟨gP, 0, none⟩ = some (.int .i64 (G : Nat)) := B1.cellv 0 rfl
  have p1 : w1.cell? ⟨gP, 1, none⟩ = some (.slice A fs.length c) := B1.cellv 1 rfl
  have H1 := Lib.hid (And.intro R1' (And.intro c01 (And.intro hok (And.intro (KM w1 R1') B1)))); clear R R1 R1' c01 hw1 hgP hok KM B1
  go_wp2_with fail
  refine (H1.out.2.2.2.1).mono ?_
  rintro e w2 ⟨rfl, c12⟩
  have B2 := c12.blk H1.out.2.2.2.2 (by simp)
  have R2 := H1.out.1.chg0 c12 (Nat.le_refl _)
  have p0 : w2.cell? ⟨gP, 0, none⟩ = some (.int .i64 (G : Nat)) := B2.cellv 0 rfl
  have p1 : w2.cell? ⟨gP, 1, none⟩ = some (.slice A fs.length c) := B2.cellv 1 rfl
  have u1 : IntKind.u8.wrap (fs.length : Int) = fs.length := wrap_u8 (by have := H1.out.2.2.1.f1; omega)
  have u2 : IntKind.u8.wrap (G : Int) = G := wrap_u8 (by have := H1.out.2.2.1.g; omega)
  have H2 := Lib.hid (And.intro R2 (And.intro B2 c12)); clear R2 B2 c12
  go_upto_region 4 with fail
  obtain ⟨w3, hw3⟩ : ∃ w3, w3 = w2.alloc (.cells #[.int .u8 (fs.length : Nat), .int .u8 (G : Nat)] 5) := ⟨_, rfl⟩
  rw [← hw3]
  have E3 : BtR w2 (encT G fs 0) (.slice (some ⟨w2.heap.size, 0, none⟩) 2 2) w3 := by
    rw [hw3]
    refine ⟨OwnV.ofBlk (ys := u8s (encT G fs 0)) (Blk.new _ _ _) rfl (by omega), (Chg.refl [] w2).alloc _, fun k hk => ?_⟩
    have := fpv_some hk; omega
  clear hw3
  have p0 : w3.cell? ⟨gP, 0, none⟩ = some (.int .i64 (G : Nat)) := E3.c.cellv H2.out.2.1.lt (by simp) p0
  have p1 : w3.cell? ⟨gP, 1, none⟩ = some (.slice A fs.length c) := E3.c.cellv H2.out.2.1.lt (by simp) p1
  have f16 : fs.length ≤ 16 := H1.out.2.2.1.f1
  have HE := Lib.hid E3; clear E3
  go_wp2_with fail
  go_loopg [4, 5] (fs.length + 1) (fun gk v idx wr => EncR1 w2 G fs gk v idx wr)
  case atStart => exact ⟨0, by omega, by omega, rfl, HE.out⟩
  case round =>
    obtain ⟨i, hgk, hi, rfl, E⟩ := hrel
    obtain ⟨w4, hw4⟩ : ∃ w4, w4 = wr := ⟨_, rfl⟩
    subst hw4
    obtain ⟨Ab, cb, hv⟩ := E.o.slice
    rw [u8s_len] at hv
    subst hv
    have q1 : w4.cell? ⟨gP, 1, none⟩ = some (.slice A fs.length c) := E.c.cellv H2.out.2.1.lt (by simp) (H2.out.2.1.cellv 1 rfl)
    have hbl := encT_len G fs (fun l hl => (H1.out.2.2.1.s l hl).2.1) i hi
    obtain ⟨nb, hnb⟩ : ∃ nb, nb = (encT G fs i).length := ⟨_, rfl⟩
    rw [← hnb] at E hbl ⊢
    have hbl2 : nb ≤ 5000 := by omega
    have H4 := Lib.hid (And.intro E (And.intro hnb E.c)); clear E hnb
    by_cases hin : i < fs.length
    · obtain ⟨l, b, off, A', c', hl, -, hA, -, hc2, Rl⟩ := H2.out.1.fn hin
      have hb2 := lt_of_cellM hc2
      have hc := H4.out.2.2.cellv hb2 (by simp) hc2
      have hs := H1.out.2.2.1.s l (List.mem_of_getElem? hl)
      have h1 : (i : Int) < fs.length := by omega
      have h2 : (0 : Int) ≤ i := by omega
      have u3 : IntKind.u8.wrap (l.length : Int) = l.length := wrap_u8 (by omega)
      have hl64 : l.length ≤ 64 := hs.2.1
      subst hA
      have H5 := Lib.hid (And.intro hl (And.intro hs Rl)); clear hs hl Rl
      have hB : ∀ x : Nat, Blk (w4.alloc (.cells #[.int .u8 (x : Nat)] 5)) w4.heap.size 5 (u8s [x]).toArray := fun x => Blk.new _ _ _
      have HB := Lib.hid hB; clear hB
      go_upto_region 8 with (at_builtin; refine wpList_cat_b (ys := [l.length]) (N := nb + 1) (by rw [← H4.out.2.1]; rfl) H4.out.1 rfl _ _ rfl rfl rfl (RdV.ofBlk2 (HB.out l.length) rfl (u8s_one2 _)) (by omega) ?_; intro A5 c5 w5 E5)
      have p1 : w5.cell? ⟨gP, 1, none⟩ = some (.slice (some ⟨b, off, none⟩) fs.length c) := E5.c.cellv H2.out.2.1.lt (by simp) (H2.out.2.1.cellv 1 rfl)
      have hc5 := E5.c.cellv hb2 (by simp) hc2
      have e9 : BtR w2 (encT G fs i ++ [l.length] ++ (l.take 0).flatMap encI) (.slice A5 (nb + 1) c5) w5 := by simpa using E5
      have H6 := Lib.hid e9; clear e9 E5 hc q1
      go_wp2_with fail
      go_loopg [4, 6] (l.length + 1) (fun gk v idx wr => EncR2 w2 (encT G fs i ++ [l.length]) l gk v idx wr)
      case atStart => exact ⟨0, by omega, by omega, rfl, H6.out⟩
      case round =>
        obtain ⟨j, hgk2, hj, rfl, E⟩ := hrel
        obtain ⟨w6, hw6⟩ : ∃ w6, w6 = wr := ⟨_, rfl⟩
        subst hw6
        obtain ⟨Ab, cb, hv⟩ := E.o.slice
        rw [u8s_len] at hv
        subst hv
        have hjl : ((l.take j).flatMap encI).length = 4 * j := by rw [flatI_len, List.length_take]; omega
        obtain ⟨nc, hnc⟩ : ∃ nc, nc = (encT G fs i ++ [l.length] ++ (l.take j).flatMap encI).length := ⟨_, rfl⟩
        have hnc2 : nc ≤ 10000 := by rw [hnc, List.length_append, List.length_append, hjl, ← H4.out.2.1]; simp; omega
        rw [← hnc] at E ⊢
        have p1 : w6.cell? ⟨gP, 1, none⟩ = some (.slice (some ⟨b, off, none⟩) fs.length c) := E.c.cellv H2.out.2.1.lt (by simp) (H2.out.2.1.cellv 1 rfl)
        have hc6 := E.c.cellv hb2 (by simp) hc2
        have hgP := H2.out.2.1.lt
        by_cases hjn : j < l.length
        · have hx := List.getElem?_eq_getElem hjn
          obtain ⟨b', off', e', hb', q0, q1, q2, q3⟩ := (H5.out.2.2.chg E.c (by have := H2.out.2.2.size; omega) (by simp)).ins hx
          obtain ⟨x, ex⟩ : ∃ x, x = l[j] := ⟨_, rfl⟩
          rw [← ex] at q0 q1 q2 q3 hx
          have hok := H5.out.2.1.2.2 x (by rw [ex]; exact List.getElem_mem hjn)
          have v0 : IntKind.u8.wrap (x.o : Int) = x.o := wrap_u8 hok.2.1
          have v1 : IntKind.u8.wrap (x.a : Int) = x.a := wrap_u8 hok.2.2.1
          have v2 : IntKind.u8.wrap (x.b : Int) = x.b := wrap_u8 hok.2.2.2.1
          have v3 : IntKind.u8.wrap (x.c : Int) = x.c := wrap_u8 hok.2.2.2.2
          subst e'
          have h3 : (j : Int) < l.length := by omega
          have h4 : (0 : Int) ≤ j := by omega
          have H7 := Lib.hid (And.intro E (And.intro hnc hx)); clear E hnc hx hok ex
          have hB4 : ∀ (w' : World) (n : Nat), w'.heap.size = n → Blk (w'.alloc (.cells #[.int .u8 (x.o : Nat), .int .u8 (x.a : Nat), .int .u8 (x.b : Nat), .int .u8 (x.c : Nat)] 5)) n 5 (u8s (encI x)).toArray := fun w' n hn => by subst hn; exact Blk.new _ _ _
          have HB4 := Lib.hid hB4; clear hB4
          go_upto_region 10 with (at_builtin; refine wpList_cat_b (ys := encI x) (N := nc + 4) (by rw [← H7.out.2.1]; rfl) (H7.out.1.alloc _) rfl _ _ rfl rfl rfl (RdV.ofBlk2 (HB4.out _ _ (World.size_alloc _ _)) rfl (u8s_one2 _)) (by omega) ?_; intro A8 c8 w8 E8)
          have e8 : BtR w2 (encT G fs i ++ [l.length] ++ (l.take (j + 1)).flatMap encI) (.slice A8 (nc + 4) c8) w8 := by
            rw [List.take_add_one, H7.out.2.2, List.flatMap_append, ← List.append_assoc]
            simpa using E8
          have H8 := Lib.hid e8; clear e8 E8
          go_wp2_with fail
          go_roundg (l.length - j)
          case measure => omega
          case rel => exact ⟨j + 1, by omega, by omega, by go_num, H8.out⟩
        · have h3 : ¬ (j : Int) < l.length := by omega
          have hjj : j = l.length := by omega
          have e6 : BtR w2 (encT G fs (i + 1)) (.slice Ab nc cb) w6 := by
            rw [encT_succ G H5.out.1]
            rw [hjj, List.take_length] at E
            simpa [encF] using E
          have H7 := Lib.hid (And.intro e6 hnc); clear e6 hnc E hjl hjj
          go_wp2_with fail
          go_roundg (fs.length - i)
          case measure => omega
          case rel => exact ⟨i + 1, by omega, by omega, by go_num, H7.out.1⟩
    · have h1 : ¬ (i : Int) < fs.length := by omega
      have hii : i = fs.length := by omega
      have he : encT G fs i = encP G fs := by rw [hii, encT_all]
      have hne : 0 < nb := by rw [H4.out.2.1]; simp [encT]
      obtain ⟨gb, hA, -⟩ := (show OwnV 5 w4 (.slice Ab nb cb) (u8s (encT G fs i)) from H4.out.1.o).cell (i := 0) (x := .int .u8 (fs.length : Nat)) rfl
      subst hA
      have hconv := run_convert_bytes_arg (P := Tryz.prog) w4 73 5 Tryz.underlying73 Tryz.underlying5 gb 0 nb cb ((encP G fs).map fun n : Nat => (n : Int)) (by rw [List.length_map, ← he, H4.out.2.1]) (fun k hk => by
        have hk2 : k < (encP G fs).length := by rw [← he, ← H4.out.2.1]; exact hk
        obtain ⟨g2, e2, h2, -⟩ := (show OwnV 5 w4 (.slice (some ⟨gb, 0, none⟩) nb cb) (u8s (encT G fs i)) from H4.out.1.o).cell (i := k) (x := .int .u8 ((encP G fs)[k] : Nat)) (by rw [he]; exact u8s_at (List.getElem?_eq_getElem hk2))
        injection e2 with e2
        injection e2 with e2
        rw [Nat.zero_add, e2, h2, List.getD_eq_getElem?_getD, List.getElem?_map, List.getElem?_eq_getElem hk2]; rfl) 9 Tryz.underlying9
      clear hii he hne hbl hgk
      go_wp2_with fail
      go_ret2
      exact ⟨rfl, (H1.out.2.1.trans H2.out.2.2).trans H4.out.2.2⟩
end Go.Proofs.YtcpljjacamibeaaGreatDoor
