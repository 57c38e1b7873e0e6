/- The document's 'wrong': which part of any instruction may not be. -/
import Derived.Test.YtcpljjacamibeaaGreatDoorMf1J
import Derived.Test.YtcpljjacamibeaaGreatDoorMcOJ
namespace Go.Proofs.YtcpljjacamibeaaGreatDoor
set_option maxHeartbeats 16000000
set_option maxRecDepth 100000
open Go.RowKit Go.Maps
theorem rkinds_no (w : World) (o : Nat) (h : 17 < o) (h2 : o < 256) : Calls Tryz.prog 115 #[.int .i64 (o : Nat)] w (NwPost (.slice none 0 0) w) := by
  go_enter Tryz.func115, Tryz.ntmps115
  go_upto_region 2 with fail
  obtain ⟨w2, hw2⟩ : ∃ w2, w2 = (allocL w 3 kcL).alloc (.cells (kcT w.heap.size) 37) := ⟨_, rfl⟩
  change Code.wp _ _ _ _ ((allocL w 3 kcL).alloc (.cells (kcT w.heap.size) 37))
  rw [← hw2]
  have c02 : Chg [] w w2 := by rw [hw2]; exact (allocL_chg _ _ w).alloc _
  have e1 : ¬ ((o : Int) < 0) := by omega
  have e2 : (18 : Int) ≤ o := by omega
  have H2 := Lib.hid c02; clear c02 hw2
  go_wp2_with fail
  go_ret
  exact ⟨rfl, H2.out⟩
theorem wrI_form2 {G F S : Nat} {i : Ins} {x y z : Int} (hk : ktab[i.o]? = some [x, y, z]) : wrI G F S i = if fitsP G F S (kpart x) i.a then if fitsP G F S (kpart y) i.b then if fitsP G F S (kpart z) i.c then -1 else 3 else 2 else 1 := by
  have ho : i.o ≤ 17 := by
    have := (List.getElem?_eq_some_iff.1 hk).1
    have e : ktab.length = 18 := by decide
    omega
  obtain ⟨x', y', z', h1, h2⟩ := wrongP_form (G := G) (F := F) (S := S) (a := i.a) (b := i.b) (c := i.c) ho
  rw [ktab_kp hk] at h1
  injection h1 with h1; injection h1 with e1 h1; injection h1 with e2 h1; injection h1 with e3 _
  subst e1 e2 e3
  exact h2
def Wr2Rel (w0 : World) (b1 b2 b3 : Bool) (gk : Nat) (idx : Value) (w : World) : Prop := ∃ i : Nat, gk + i = 4 ∧ i ≤ 3 ∧ idx = .int .i64 (i : Nat) ∧ Chg [] w0 w ∧ (1 ≤ i → b1 = true) ∧ (2 ≤ i → b2 = true) ∧ (3 ≤ i → b3 = true)
theorem rwrong_any (w : World) (i : Ins) (G F S : Nat) (hb : i.o < 256) : Calls Tryz.prog 65 #[.agg (insC i).toArray, .int .i64 (G : Nat), .int .i64 (F : Nat), .int .i64 (S : Nat)] w (NwPost (.int .i64 (wrI G F S i)) w) := by
  have KF := fun (w' : World) (k : Int) (v : Nat) (h0 : 0 ≤ k) (h6 : k ≤ 6) => rfits_ok w' k v G F S h0 h6
  have HK := Lib.hid KF; clear KF
  obtain ⟨rv, hrv⟩ : ∃ r, r = wrI G F S i := ⟨_, rfl⟩
  rw [← hrv]
  unfold insC
  go_enter Tryz.func65, Tryz.ntmps65
  go_upto_region 1 with fail
  obtain ⟨w1, hw1⟩ : ∃ w1, w1 = w.alloc (.cells #[.int .i64 (i.o : Nat), .int .i64 (i.a : Nat), .int .i64 (i.b : Nat), .int .i64 (i.c : Nat)] 33) := ⟨_, rfl⟩
  obtain ⟨gI, hgI⟩ : ∃ gI, gI = w.heap.size := ⟨_, rfl⟩
  rw [← hw1, ← hgI]
  have B1 : Blk w1 gI 33 #[.int .i64 (i.o : Nat), .int .i64 (i.a : Nat), .int .i64 (i.b : Nat), .int .i64 (i.c : Nat)] := by rw [hw1, hgI]; exact Blk.new _ _ _
  have c01 : Chg [] w w1 := by rw [hw1]; exact (Chg.refl [] w).alloc _
  have i0 : w1.cell? ⟨gI, 0, none⟩ = some (.int .i64 (i.o : Nat)) := B1.cellv 0 rfl
  have H1 := Lib.hid (And.intro B1 c01); clear B1 c01 hw1 hgI
  by_cases ho : 17 < i.o
  · have hw : rv = 0 := by rw [hrv]; unfold wrI wrongP; rw [if_pos ho]
    subst hw
    clear hrv
    have hnil : ∀ w' : World, (binOp .eql 37 (.slice none 0 0) (.slice none 0 0)).run Tryz.prog w' = .ok (.bool true) w' := fun _ => by kernel_rfl
    go_wp2_with fail
    refine (rkinds_no w1 i.o ho hb).mono ?_
    rintro e w2 ⟨rfl, c12⟩
    have H2 := Lib.hid (H1.out.2.trans c12); clear c12 i0
    go_wp2_with fail
    go_ret
    exact ⟨rfl, H2.out⟩
  go_wp2_with fail
  refine (rkinds_ok w1 i.o (by omega)).mono ?_
  rintro e w2 ⟨g, x, y, z, rfl, hk, x0, x6, y0, y6, z0, z6, BK, hg, c12⟩
  have B2 := c12.blk H1.out.1 (by simp)
  have i1 : w2.cell? ⟨gI, 1, none⟩ = some (.int .i64 (i.a : Nat)) := B2.cellv 1 rfl
  have i2 : w2.cell? ⟨gI, 2, none⟩ = some (.int .i64 (i.b : Nat)) := B2.cellv 2 rfl
  have i3 : w2.cell? ⟨gI, 3, none⟩ = some (.int .i64 (i.c : Nat)) := B2.cellv 3 rfl
  have hform := wrI_form2 (G := G) (F := F) (S := S) hk
  obtain ⟨b1, hb1⟩ : ∃ b, b = fitsP G F S (kpart x) i.a := ⟨_, rfl⟩
  obtain ⟨b2, hb2⟩ : ∃ b, b = fitsP G F S (kpart y) i.b := ⟨_, rfl⟩
  obtain ⟨b3, hb3⟩ : ∃ b, b = fitsP G F S (kpart z) i.c := ⟨_, rfl⟩
  rw [← hb1, ← hb2, ← hb3] at hform
  rw [← hrv] at hform
  have H2 := Lib.hid (And.intro BK (And.intro (H1.out.2.trans c12) (And.intro hb1 (And.intro hb2 (And.intro hb3 hform))))); clear BK c12 B2 hk i0 hg hb1 hb2 hb3 hform hrv ho
  have hnil : ∀ w' : World, (binOp .eql 37 (.slice (some ⟨g, 0, none⟩) 3 3) (.slice none 0 0)).run Tryz.prog w' = .ok (.bool false) w' := fun _ => by kernel_rfl
  go_upto_region 5 with fail
  clear hnil
  obtain ⟨w3, hw3⟩ : ∃ w3, w3 = w2.alloc (.cells #[.int .i64 (i.a : Nat), .int .i64 (i.b : Nat), .int .i64 (i.c : Nat)] 3) := ⟨_, rfl⟩
  obtain ⟨gN, hgN⟩ : ∃ gN, gN = w2.heap.size := ⟨_, rfl⟩
  rw [← hw3, ← hgN]
  have B3 : Blk w3 gN 3 #[.int .i64 (i.a : Nat), .int .i64 (i.b : Nat), .int .i64 (i.c : Nat)] := by rw [hw3, hgN]; exact Blk.new _ _ _
  have c23 : Chg [] w2 w3 := by rw [hw3]; exact (Chg.refl [] w2).alloc _
  have H3 := Lib.hid (And.intro B3 (And.intro (c23.blk H2.out.1 (by simp)) (H2.out.2.1.trans c23))); clear B3 c23 hw3 hgN i1 i2 i3
  go_wp2_with fail
  go_loopg [11] 4 (fun gk idx wr => Wr2Rel w3 b1 b2 b3 gk idx wr)
  case atStart => exact ⟨0, by omega, by omega, rfl, Chg.refl [] w3, by omega, by omega, by omega⟩
  case round =>
    obtain ⟨j, hgk, hj, rfl, c, f1, f2, f3⟩ := hrel
    have BN := c.blk H3.out.1 (by simp)
    have BK := c.blk H3.out.2.1 (by simp)
    have n0 : wr.cell? ⟨gN, 0, none⟩ = some (.int .i64 (i.a : Nat)) := BN.cellv 0 rfl
    have n1 : wr.cell? ⟨gN, 1, none⟩ = some (.int .i64 (i.b : Nat)) := BN.cellv 1 rfl
    have n2 : wr.cell? ⟨gN, 2, none⟩ = some (.int .i64 (i.c : Nat)) := BN.cellv 2 rfl
    have k0 : wr.cell? ⟨g, 0, none⟩ = some (.int .i64 x) := BK.cellv 0 rfl
    have k1 : wr.cell? ⟨g, 1, none⟩ = some (.int .i64 y) := BK.cellv 1 rfl
    have k2 : wr.cell? ⟨g, 2, none⟩ = some (.int .i64 z) := BK.cellv 2 rfl
    have HC := Lib.hid (And.intro c (And.intro f1 (And.intro f2 f3))); clear c BN BK f1 f2 f3
    have hh : j = 0 ∨ j = 1 ∨ j = 2 ∨ j = 3 := by omega
    rcases hh with rfl | rfl | rfl | rfl
    · go_upto_region 8 with fail
      go_still_tail 11, (by kernel_rfl)
      change wpList _ _ _ _ _ wr.drew
      go_wp2_with fail
      refine (HK.out _ x i.a x0 x6).mono ?_
      rintro e w5 ⟨rfl, c5⟩
      rw [← H2.out.2.2.1]
      have H5 := Lib.hid (HC.out.1.trans (((Chg.refl [] wr).drew).trans c5)); clear c5
      cases hq : b1
      · have hr : rv = 1 := by rw [H2.out.2.2.2.2.2, hq]; rfl
        subst hr
        go_wp2_with fail
        try rw [Exit.noGoto_ret]
        go_ret
        exact ⟨rfl, H3.out.2.2.trans H5.out⟩
      · go_wp2_with fail
        go_roundg 3
        case measure => omega
        case rel => exact ⟨1, by omega, by omega, rfl, H5.out, fun _ => hq, by omega, by omega⟩
    · go_upto_region 8 with fail
      go_still_tail 11, (by kernel_rfl)
      change wpList _ _ _ _ _ wr.drew
      go_wp2_with fail
      refine (HK.out _ y i.b y0 y6).mono ?_
      rintro e w5 ⟨rfl, c5⟩
      rw [← H2.out.2.2.2.1]
      have H5 := Lib.hid (HC.out.1.trans (((Chg.refl [] wr).drew).trans c5)); clear c5
      cases hq : b2
      · have hr : rv = 2 := by rw [H2.out.2.2.2.2.2, hq, HC.out.2.1 (by omega)]; rfl
        subst hr
        go_wp2_with fail
        try rw [Exit.noGoto_ret]
        go_ret
        exact ⟨rfl, H3.out.2.2.trans H5.out⟩
      · go_wp2_with fail
        go_roundg 2
        case measure => omega
        case rel => exact ⟨2, by omega, by omega, rfl, H5.out, fun _ => HC.out.2.1 (by omega), fun _ => hq, by omega⟩
    · go_upto_region 8 with fail
      go_still_tail 11, (by kernel_rfl)
      change wpList _ _ _ _ _ wr.drew
      go_wp2_with fail
      refine (HK.out _ z i.c z0 z6).mono ?_
      rintro e w5 ⟨rfl, c5⟩
      rw [← H2.out.2.2.2.2.1]
      have H5 := Lib.hid (HC.out.1.trans (((Chg.refl [] wr).drew).trans c5)); clear c5
      cases hq : b3
      · have hr : rv = 3 := by rw [H2.out.2.2.2.2.2, hq, HC.out.2.1 (by omega), HC.out.2.2.1 (by omega)]; rfl
        subst hr
        go_wp2_with fail
        try rw [Exit.noGoto_ret]
        go_ret
        exact ⟨rfl, H3.out.2.2.trans H5.out⟩
      · go_wp2_with fail
        go_roundg 1
        case measure => omega
        case rel => exact ⟨3, by omega, by omega, rfl, H5.out, fun _ => HC.out.2.1 (by omega), fun _ => HC.out.2.2.1 (by omega), fun _ => hq⟩
    · have hr : rv = -1 := by rw [H2.out.2.2.2.2.2, HC.out.2.1 (by omega), HC.out.2.2.1 (by omega), HC.out.2.2.2 (by omega)]; rfl
      subst hr
      go_wp2_with fail
      go_ret
      exact ⟨rfl, H3.out.2.2.trans HC.out.1⟩
end Go.Proofs.YtcpljjacamibeaaGreatDoor
