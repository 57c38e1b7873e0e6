/- The document's model: plain and other, of Block and Wake. (Printed by wip/genml7.py.) -/
import Derived.Test.YtepnlcemlnkpdaaGreatDoorMl6
import Derived.Test.YtepnlcemlnkpdaaGreatDoorMi4
namespace Go.Proofs.YtepnlcemlnkpdaaGreatDoor
set_option maxHeartbeats 16000000
set_option maxRecDepth 100000
open Go.RowKit Go.Maps
theorem XF.more {a : XAt} {X X2 : Mdl} (hn : X2.n = X.n) {vw : Nat → Value} {nb : List Nat} {j : Nat} (h : XF { a with vw := vw, wb := nb ++ a.wb } X2 j) : XF a X j ∨ j ∈ nb := by
  rcases h with e | (e | e) | ⟨i, hi, e⟩
  · exact .inl (.inl e)
  · exact .inl (.inr (.inl (.inl e)))
  · rcases List.mem_append.1 e with e | e
    · exact .inr e
    · exact .inl (.inr (.inl (.inr e)))
  · exact .inl (.inr (.inr ⟨i, by rw [← hn]; exact hi, e⟩))
theorem rplain_block (w : World) (a : XAt) (X : Mdl) (h : XM w a X) (g gc : Nat) (i : Ins) (hi : i.o = 11) (hg : g < X.n) (ha : i.a < 256) (hb : i.b < 256) :
    Calls Tryz.prog 181 #[.pointer (some ⟨a.gX, 0, none⟩), .int .i64 (g : Nat), insV i, .pointer (some ⟨gc, 0, none⟩)] w (NwPost (.bool false) w) := by
  obtain ⟨io, ia, ib, ic⟩ := i
  have hi : io = 11 := hi
  subst hi
  have ha : (ia : Int) < 256 := by have h : ia < 256 := ha; omega
  have hb : (ib : Int) < 256 := by have h : ib < 256 := hb; omega
  have e3 : (0 : Int) ≤ g := by omega
  have e4 : (g : Int) < (X.n : Int) := by omega
  have HH := Lib.hid h; clear h
  unfold insV
  go_enter Tryz.func181, Tryz.ntmps181
  go_upto_region 1 with fail
  obtain ⟨gI, hgI⟩ : ∃ g', g' = w.heap.size := ⟨_, rfl⟩
  obtain ⟨w1, hw1⟩ : ∃ w1, w1 = w.alloc (.cells #[.int .i64 11, .int .i64 (ia : Nat), .int .i64 (ib : Nat), .int .i64 (ic : Nat)] 27) := ⟨_, rfl⟩
  rw [← hw1, ← hgI]
  have BI : Blk w1 gI 27 #[.int .i64 11, .int .i64 (ia : Nat), .int .i64 (ib : Nat), .int .i64 (ic : Nat)] := by rw [hw1, hgI]; exact Blk.new _ _ _
  have c01 : Chg [] w w1 := by rw [hw1]; exact (Chg.refl [] w).alloc _
  have X1 := HH.out.chg0 c01
  have i0 : w1.cell? ⟨gI, 0, none⟩ = some (.int .i64 11) := BI.cellv 0 rfl
  have i1 : w1.cell? ⟨gI, 1, none⟩ = some (.int .i64 (ia : Nat)) := BI.cellv 1 rfl
  have i2 : w1.cell? ⟨gI, 2, none⟩ = some (.int .i64 (ib : Nat)) := BI.cellv 2 rfl
  have i3 : w1.cell? ⟨gI, 3, none⟩ = some (.int .i64 (ic : Nat)) := BI.cellv 3 rfl
  obtain ⟨b, cap, hvg, x2, y, hb', s0, s1, s2, s3, s4⟩ := X1.at_ hg
  have z0 := (X1.g g hg).frozen 0
  have z2 := (X1.g g hg).frozen 2
  have z3 := (X1.g g hg).frozen 3
  have H1 := Lib.hid (And.intro X1 (And.intro c01 BI)); clear X1 c01 BI hw1 hgI hvg
  go_wp2_with fail
  go_ret
  exact ⟨rfl, H1.out.2.1⟩
theorem rplain_wake (w : World) (a : XAt) (X : Mdl) (h : XM w a X) (g gc : Nat) (i : Ins) (hi : i.o = 12) (hg : g < X.n) (ha : i.a < 256) (hb : i.b < 256) :
    Calls Tryz.prog 181 #[.pointer (some ⟨a.gX, 0, none⟩), .int .i64 (g : Nat), insV i, .pointer (some ⟨gc, 0, none⟩)] w (NwPost (.bool false) w) := by
  obtain ⟨io, ia, ib, ic⟩ := i
  have hi : io = 12 := hi
  subst hi
  have ha : (ia : Int) < 256 := by have h : ia < 256 := ha; omega
  have hb : (ib : Int) < 256 := by have h : ib < 256 := hb; omega
  have e3 : (0 : Int) ≤ g := by omega
  have e4 : (g : Int) < (X.n : Int) := by omega
  have HH := Lib.hid h; clear h
  unfold insV
  go_enter Tryz.func181, Tryz.ntmps181
  go_upto_region 1 with fail
  obtain ⟨gI, hgI⟩ : ∃ g', g' = w.heap.size := ⟨_, rfl⟩
  obtain ⟨w1, hw1⟩ : ∃ w1, w1 = w.alloc (.cells #[.int .i64 12, .int .i64 (ia : Nat), .int .i64 (ib : Nat), .int .i64 (ic : Nat)] 27) := ⟨_, rfl⟩
  rw [← hw1, ← hgI]
  have BI : Blk w1 gI 27 #[.int .i64 12, .int .i64 (ia : Nat), .int .i64 (ib : Nat), .int .i64 (ic : Nat)] := by rw [hw1, hgI]; exact Blk.new _ _ _
  have c01 : Chg [] w w1 := by rw [hw1]; exact (Chg.refl [] w).alloc _
  have X1 := HH.out.chg0 c01
  have i0 : w1.cell? ⟨gI, 0, none⟩ = some (.int .i64 12) := BI.cellv 0 rfl
  have i1 : w1.cell? ⟨gI, 1, none⟩ = some (.int .i64 (ia : Nat)) := BI.cellv 1 rfl
  have i2 : w1.cell? ⟨gI, 2, none⟩ = some (.int .i64 (ib : Nat)) := BI.cellv 2 rfl
  have i3 : w1.cell? ⟨gI, 3, none⟩ = some (.int .i64 (ic : Nat)) := BI.cellv 3 rfl
  obtain ⟨b, cap, hvg, x2, y, hb', s0, s1, s2, s3, s4⟩ := X1.at_ hg
  have z0 := (X1.g g hg).frozen 0
  have z2 := (X1.g g hg).frozen 2
  have z3 := (X1.g g hg).frozen 3
  have H1 := Lib.hid (And.intro X1 (And.intro c01 BI)); clear X1 c01 BI hw1 hgI hvg
  go_wp2_with fail
  go_ret
  exact ⟨rfl, H1.out.2.1⟩
theorem rother_block (w : World) (a : XAt) (X : Mdl) (h : XM w a X) (g gc : Nat) (i : Ins) (hi : i.o = 11) (hg : g < X.n) (ha : i.a < 32) (hw : ∀ a, a < 32 → (g : Int) ∉ X.wt a) (hl : ∀ a, a < 32 → (X.wt a).length ≤ 100000) (c : ComA) (hc : Blk w gc 50 (comC c).toArray) :
    Calls Tryz.prog 182 #[.pointer (some ⟨a.gX, 0, none⟩), .int .i64 (g : Nat), insV i, .pointer (some ⟨gc, 0, none⟩)] w (DstPost a X { X with gs := updV X.gs g { X.gs g with st := 3 }, wt := updV X.wt i.a (X.wt i.a ++ [(g : Int)]) } g gc c c (.tuple #[]) w) := by
  obtain ⟨io, ia, ib, ic⟩ := i
  have hi : io = 11 := hi
  subst hi
  have ha : ia < 32 := ha
  have e3 : (0 : Int) ≤ g := by omega
  have e4 : (g : Int) < (X.n : Int) := by omega
  have HH := Lib.hid (And.intro h (And.intro hc (And.intro hw hl))); clear h hc hw hl
  unfold insV
  go_enter Tryz.func182, Tryz.ntmps182
  go_upto_region 1 with fail
  obtain ⟨gI, hgI⟩ : ∃ g', g' = w.heap.size := ⟨_, rfl⟩
  obtain ⟨w1, hw1⟩ : ∃ w1, w1 = w.alloc (.cells #[.int .i64 11, .int .i64 (ia : Nat), .int .i64 (ib : Nat), .int .i64 (ic : Nat)] 27) := ⟨_, rfl⟩
  rw [← hw1, ← hgI]
  have BI : Blk w1 gI 27 #[.int .i64 11, .int .i64 (ia : Nat), .int .i64 (ib : Nat), .int .i64 (ic : Nat)] := by rw [hw1, hgI]; exact Blk.new _ _ _
  have c01 : Chg [] w w1 := by rw [hw1]; exact (Chg.refl [] w).alloc _
  have X1 := HH.out.1.chg0 c01
  have i0 : w1.cell? ⟨gI, 0, none⟩ = some (.int .i64 11) := BI.cellv 0 rfl
  have i1 : w1.cell? ⟨gI, 1, none⟩ = some (.int .i64 (ia : Nat)) := BI.cellv 1 rfl
  have i2 : w1.cell? ⟨gI, 2, none⟩ = some (.int .i64 (ib : Nat)) := BI.cellv 2 rfl
  obtain ⟨b, cap, hvg, x2, y, hb', s0, s1, s2, s3, s4⟩ := X1.at_ hg
  have z0 := (X1.g g hg).frozen 0
  have H1 := Lib.hid (And.intro X1 (And.intro c01 BI)); clear X1 c01 BI hw1 hgI hvg
  have BG := (H1.out.1.g g hg).setv 0 (.int .i64 3) (cs' := mgC 3 (X.gs g).f (X.gs g).pc (X.gs g).cnt (.slice (some ⟨a.gs g, 0, none⟩) 16 16)) rfl
  go_upto_region 14 with fail
  obtain ⟨w2, hw2⟩ : ∃ w2, w2 = w1.setCell ⟨a.gg g, 0, none⟩ (.int .i64 3) := ⟨_, rfl⟩
  rw [← hw2] at BG ⊢
  have c12 : Chg [a.gg g] w1 w2 := by rw [hw2]; exact (Chg.refl [a.gg g] w1).setCell (.inl (by simp)) _
  have X2 := H1.out.1.gset hg { X.gs g with st := 3 } rfl c12 (fun j hj => .inl (by simpa using hj)) BG
  have I2 := c12.blk H1.out.2.2 (by simpa using H1.out.2.2.ne_ (H1.out.1.g g hg) (by decide))
  have l2 := I2.lt
  have i1 : w2.cell? ⟨gI, 1, none⟩ = some (.int .i64 (ia : Nat)) := I2.cellv 1 rfl
  have H2 := Lib.hid (And.intro X2 (And.intro c12 I2)); clear X2 c12 I2 BG hw2 i0 i2 s0 s1 s2 s3 s4 z0 x2 y hb'
  refine wp_region_takes (fuel := 1) 6 (fun w' => Chg [] w2 w') [0, 1, 2, 3, 4, 5] (by kernel_rfl) (by kernel_rfl) (fun _ _ _ _ _ h => h) ((Chg.refl [] w2).drew) ?_
  simp only [List.filterMap_cons, List.filterMap_nil, qGa, qGb]
  iterate 6
    refine wpTake_step (fun K hK => ?_)
    rw [if_pos (by rfl)]
    refine ⟨?_, fun w' hS' => ?_, ?_⟩
    rotate_left 1
    focus
      have j0 := hS'.cellv l2 (by simp) i1
      go_simp
      try with_reducible rfl
      done
    simp only [Act.put, qSa, qSb, qSc]
    refine hK _ ?_
    clear hK K
  refine wpTake_nil ?_
  generalize hx0 : w2.drew = x0
  have D0 : Chg [] w2 x0 := by rw [← hx0]; exact (Chg.refl [] w2).drew
  clear hx0
  refine wpAnyS_tail 6 1 (by kernel_rfl) rfl ?_
  simp only [qDa, qDb]
  go_wp2_with fail
  refine (rwait_ok x0 a _ (H2.out.1.chg0 D0) ia ha (g : Nat) HH.out.2.2.1 HH.out.2.2.2).mono ?_
  rintro e w3 ⟨v', nb, rfl, X3, hnb, c3⟩
  have ngX := HH.out.1.ngc HH.out.2.1
  have hcc := (H1.out.2.1.mono (T := [a.gg g, a.gX]) (by simp)).trans (((H2.out.2.1.mono (T := [a.gg g, a.gX]) (by simp)).trans (D0.mono (by simp))).trans (c3.mono (by simp)))
  have hsz : ∀ j ∈ nb, w2.heap.size ≤ j := fun j hj => Nat.le_trans D0.size (hnb j hj)
  have HZ := Lib.hid (And.intro X3 (And.intro hnb (And.intro hcc ngX))); clear X3 hnb c3 D0 hcc ngX
  go_wp2_with fail
  refine ⟨rfl, _, results_none rfl _ _ _, { a with vw := updV a.vw ia v', wb := nb ++ a.wb }, rfl, HZ.out.1, rfl, rfl, ⟨rfl, rfl, rfl⟩, rfl, HZ.out.2.2.1.blk HH.out.2.1 (fun hm => HZ.out.2.2.2 ?_), fun j hj => ?_, [a.gg g, a.gX], HZ.out.2.2.1, fun j hj => ?_⟩
  · rcases List.mem_cons.1 hm with e | e
    · exact .inr (.inr ⟨g, hg, .inl e⟩)
    · exact .inl (List.mem_singleton.1 e)
  · rcases XF.more (by rfl) hj with e | e
    · exact .inl e
    · exact .inr (Nat.le_trans H1.out.2.1.size (Nat.le_trans H2.out.2.1.size (hsz j e)))
  · rcases List.mem_cons.1 hj with e | e
    · exact .inl (.inr (.inr ⟨g, hg, .inl e⟩))
    · exact .inl (.inl (List.mem_singleton.1 e))
theorem rother_wake_no (w : World) (a : XAt) (X : Mdl) (h : XM w a X) (g gc : Nat) (i : Ins) (hi : i.o = 12) (hg : g < X.n) (ha : i.a < 32) (h0 : X.wt i.a = []) (c : ComA) (hc : Blk w gc 50 (comC c).toArray) :
    Calls Tryz.prog 182 #[.pointer (some ⟨a.gX, 0, none⟩), .int .i64 (g : Nat), insV i, .pointer (some ⟨gc, 0, none⟩)] w (DstPost a X X g gc c { c with v := -1 } (.tuple #[]) w) := by
  obtain ⟨io, ia, ib, ic⟩ := i
  have hi : io = 12 := hi
  subst hi
  have ha : ia < 32 := ha
  have e3 : (0 : Int) ≤ g := by omega
  have e4 : (g : Int) < (X.n : Int) := by omega
  have HH := Lib.hid (And.intro h (And.intro hc h0)); clear h hc h0
  unfold insV
  go_enter Tryz.func182, Tryz.ntmps182
  go_upto_region 1 with fail
  obtain ⟨gI, hgI⟩ : ∃ g', g' = w.heap.size := ⟨_, rfl⟩
  obtain ⟨w1, hw1⟩ : ∃ w1, w1 = w.alloc (.cells #[.int .i64 12, .int .i64 (ia : Nat), .int .i64 (ib : Nat), .int .i64 (ic : Nat)] 27) := ⟨_, rfl⟩
  rw [← hw1, ← hgI]
  have BI : Blk w1 gI 27 #[.int .i64 12, .int .i64 (ia : Nat), .int .i64 (ib : Nat), .int .i64 (ic : Nat)] := by rw [hw1, hgI]; exact Blk.new _ _ _
  have c01 : Chg [] w w1 := by rw [hw1]; exact (Chg.refl [] w).alloc _
  have X1 := HH.out.1.chg0 c01
  have i0 : w1.cell? ⟨gI, 0, none⟩ = some (.int .i64 12) := BI.cellv 0 rfl
  have i1 : w1.cell? ⟨gI, 1, none⟩ = some (.int .i64 (ia : Nat)) := BI.cellv 1 rfl
  have i2 : w1.cell? ⟨gI, 2, none⟩ = some (.int .i64 (ib : Nat)) := BI.cellv 2 rfl
  obtain ⟨b, cap, hvg, x2, y, hb', s0, s1, s2, s3, s4⟩ := X1.at_ hg
  have z0 := (X1.g g hg).frozen 0
  have H1 := Lib.hid (And.intro X1 (And.intro c01 BI)); clear X1 c01 BI hw1 hgI hvg
  have ngX := HH.out.1.ngc HH.out.2.1
  have C1 := H1.out.2.1.blk HH.out.2.1 (by simp)
  have fz := C1.frozen 4
  have vz : w1.cell? ⟨gc, 4, none⟩ = some (.int .i64 c.v) := C1.cellv 4 rfl
  have BC := C1.setv 4 (.int .i64 (-1)) (cs' := (comC { c with v := -1 }).toArray) rfl
  go_upto_region 17 with fail
  obtain ⟨w2, hw2⟩ : ∃ w2, w2 = w1.setCell ⟨gc, 4, none⟩ (.int .i64 (-1)) := ⟨_, rfl⟩
  rw [← hw2] at BC ⊢
  have c12 : Chg [gc] w1 w2 := by rw [hw2]; exact (Chg.refl [gc] w1).setCell (.inl (by simp)) _
  have X2 := H1.out.1.chg c12 (fun j hj hx => ngX (by have e : j = gc := (by simpa using hj); rw [← e]; exact hx))
  have I2 := c12.blk H1.out.2.2 (by simpa using H1.out.2.2.ne_ C1 (by decide))
  have l2 := I2.lt
  have i1 : w2.cell? ⟨gI, 1, none⟩ = some (.int .i64 (ia : Nat)) := I2.cellv 1 rfl
  have nI : gI ∉ [a.gX] := by simpa using I2.ne_ X2.x (by decide)
  have c02 := (H1.out.2.1.mono (T := [gc]) (by simp)).trans c12
  have H2 := Lib.hid (And.intro X2 (And.intro c02 (And.intro BC ngX))); clear X2 c12 c02 I2 BC hw2 ngX C1 fz vz i0 i2 s0 s1 s2 s3 s4 z0 x2 y hb'
  refine wp_region_takes (fuel := 6) 10 (fun w' => Chg [] w2 w') [0, 1, 2, 3, 4] (by kernel_rfl) (by kernel_rfl) (fun _ _ _ _ _ h => h) ((Chg.refl [] w2).drew) ?_
  simp only [List.filterMap_cons, List.filterMap_nil, qGa, qGb]
  iterate 5
    refine wpTake_step (fun K hK => ?_)
    rw [if_pos (by rfl)]
    refine ⟨?_, fun w' hS' => ?_, ?_⟩
    rotate_left 1
    focus
      have j0 := hS'.cellv l2 (by simp) i1
      go_simp
      try with_reducible rfl
      done
    simp only [Act.put, qSa, qSb, qSc]
    refine hK _ ?_
    clear hK K
  refine wpTake_nil ?_
  generalize hx0 : w2.drew = x0
  have D0 : Chg [] w2 x0 := by rw [← hx0]; exact (Chg.refl [] w2).drew
  clear hx0
  refine wpAnyS_ready (rs := [5]) (by kernel_rfl) (by simp) ?_
  refine AllReadyS.o (fun K hK => ?_)
  rw [if_pos (by rfl)]
  go_simp
  go_at_call 266
  refine (rwake_no x0 a X (H2.out.1.chg0 D0) ia ha HH.out.2.2).mono ?_
  rintro e w3 ⟨rfl, rfl, rfl⟩
  dsimp only
  refine hK _ _ (D0) ?_
  clear hK K
  try simp only [Act.put, qSa, qSb, qSc]
  refine wpAnyS_more (fuel := 1) [6, 7, 8, 9] (by kernel_rfl) (fun _ _ _ _ _ h => h) D0 ?_
  simp only [List.filterMap_cons, List.filterMap_nil, qGa, qGb]
  iterate 4
    refine wpTake_step (fun K hK => ?_)
    rw [if_pos (by rfl)]
    refine ⟨?_, fun w' hS' => ?_, ?_⟩
    rotate_left 1
    focus
      have j0 := hS'.cellv l2 (by simp) i1
      go_simp
      try with_reducible rfl
      done
    simp only [Act.put, qSa, qSb, qSc]
    refine hK _ ?_
    clear hK K
  refine wpTake_nil ?_
  refine wpAnyS_tail 10 1 (by kernel_rfl) rfl ?_
  simp only [qDa, qDb]
  have HD := Lib.hid D0; clear D0
  go_wp2_with fail
  refine ⟨rfl, _, results_none rfl _ _ _, a, rfl, H2.out.1.chg0 HD.out, rfl, rfl, ⟨rfl, rfl, rfl⟩, rfl, HD.out.blk H2.out.2.2.1 (by simp), fun j hj => .inl hj, [gc], H2.out.2.1.trans (HD.out.mono (by simp)), fun j hj => .inr (by simpa using hj)⟩
theorem rother_wake (w : World) (a : XAt) (X : Mdl) (h : XM w a X) (g gc : Nat) (i : Ins) (hi : i.o = 12) (hg : g < X.n) (ha : i.a < 32) (x : Nat) (r : List Int) (h0 : X.wt i.a = (x : Int) :: r) (hx : x < X.n) (hl : r.length ≤ 100000) (c : ComA) (hc : Blk w gc 50 (comC c).toArray) :
    Calls Tryz.prog 182 #[.pointer (some ⟨a.gX, 0, none⟩), .int .i64 (g : Nat), insV i, .pointer (some ⟨gc, 0, none⟩)] w (DstPost a X { X with gs := updV X.gs x { X.gs x with st := 1 }, wt := updV X.wt i.a r } g gc c { c with v := (x : Nat) } (.tuple #[]) w) := by
  obtain ⟨io, ia, ib, ic⟩ := i
  have hi : io = 12 := hi
  subst hi
  have ha : ia < 32 := ha
  have e3 : (0 : Int) ≤ g := by omega
  have e4 : (g : Int) < (X.n : Int) := by omega
  have HH := Lib.hid (And.intro h (And.intro hc (And.intro h0 (And.intro hx hl)))); clear h hc h0 hl
  unfold insV
  go_enter Tryz.func182, Tryz.ntmps182
  go_upto_region 1 with fail
  obtain ⟨gI, hgI⟩ : ∃ g', g' = w.heap.size := ⟨_, rfl⟩
  obtain ⟨w1, hw1⟩ : ∃ w1, w1 = w.alloc (.cells #[.int .i64 12, .int .i64 (ia : Nat), .int .i64 (ib : Nat), .int .i64 (ic : Nat)] 27) := ⟨_, rfl⟩
  rw [← hw1, ← hgI]
  have BI : Blk w1 gI 27 #[.int .i64 12, .int .i64 (ia : Nat), .int .i64 (ib : Nat), .int .i64 (ic : Nat)] := by rw [hw1, hgI]; exact Blk.new _ _ _
  have c01 : Chg [] w w1 := by rw [hw1]; exact (Chg.refl [] w).alloc _
  have X1 := HH.out.1.chg0 c01
  have i0 : w1.cell? ⟨gI, 0, none⟩ = some (.int .i64 12) := BI.cellv 0 rfl
  have i1 : w1.cell? ⟨gI, 1, none⟩ = some (.int .i64 (ia : Nat)) := BI.cellv 1 rfl
  have i2 : w1.cell? ⟨gI, 2, none⟩ = some (.int .i64 (ib : Nat)) := BI.cellv 2 rfl
  obtain ⟨b, cap, hvg, x2, y, hb', s0, s1, s2, s3, s4⟩ := X1.at_ hg
  have z0 := (X1.g g hg).frozen 0
  have H1 := Lib.hid (And.intro X1 (And.intro c01 BI)); clear X1 c01 BI hw1 hgI hvg
  have ngX := HH.out.1.ngc HH.out.2.1
  have C1 := H1.out.2.1.blk HH.out.2.1 (by simp)
  have fz := C1.frozen 4
  have vz : w1.cell? ⟨gc, 4, none⟩ = some (.int .i64 c.v) := C1.cellv 4 rfl
  have BC := C1.setv 4 (.int .i64 (-1)) (cs' := (comC { c with v := -1 }).toArray) rfl
  go_upto_region 17 with fail
  obtain ⟨w2, hw2⟩ : ∃ w2, w2 = w1.setCell ⟨gc, 4, none⟩ (.int .i64 (-1)) := ⟨_, rfl⟩
  rw [← hw2] at BC ⊢
  have c12 : Chg [gc] w1 w2 := by rw [hw2]; exact (Chg.refl [gc] w1).setCell (.inl (by simp)) _
  have X2 := H1.out.1.chg c12 (fun j hj hx => ngX (by have e : j = gc := (by simpa using hj); rw [← e]; exact hx))
  have I2 := c12.blk H1.out.2.2 (by simpa using H1.out.2.2.ne_ C1 (by decide))
  have l2 := I2.lt
  have i1 : w2.cell? ⟨gI, 1, none⟩ = some (.int .i64 (ia : Nat)) := I2.cellv 1 rfl
  have nI : gI ∉ [a.gX] := by simpa using I2.ne_ X2.x (by decide)
  have c02 := (H1.out.2.1.mono (T := [gc]) (by simp)).trans c12
  have H2 := Lib.hid (And.intro X2 (And.intro c02 (And.intro BC ngX))); clear X2 c12 c02 I2 BC hw2 ngX C1 fz vz i0 i2 s0 s1 s2 s3 s4 z0 x2 y hb'
  refine wp_region_takes (fuel := 6) 10 (fun w' => Chg [a.gX] w2 w') [0, 1, 2, 3, 4] (by kernel_rfl) (by kernel_rfl) (fun _ _ _ _ _ h => h) (((Chg.refl [] w2).drew.mono (by simp))) ?_
  simp only [List.filterMap_cons, List.filterMap_nil, qGa, qGb]
  iterate 5
    refine wpTake_step (fun K hK => ?_)
    rw [if_pos (by rfl)]
    refine ⟨?_, fun w' hS' => ?_, ?_⟩
    rotate_left 1
    focus
      have j0 := hS'.cellv l2 nI i1
      go_simp
      try with_reducible rfl
      done
    simp only [Act.put, qSa, qSb, qSc]
    refine hK _ ?_
    clear hK K
  refine wpTake_nil ?_
  generalize hx0 : w2.drew = x0
  have D0 : Chg [] w2 x0 := by rw [← hx0]; exact (Chg.refl [] w2).drew
  clear hx0
  refine wpAnyS_ready (rs := [5]) (by kernel_rfl) (by simp) ?_
  refine AllReadyS.o (fun K hK => ?_)
  rw [if_pos (by rfl)]
  go_simp
  go_at_call 266
  refine (rwake_ok x0 a X (H2.out.1.chg0 D0) ia ha (x : Nat) r HH.out.2.2.1 HH.out.2.2.2.2).mono ?_
  rintro e w3 ⟨v', nb, rfl, X3, hnb, c3⟩
  dsimp only
  have DW : Chg [a.gX] w2 w3 := (D0.mono (by simp)).trans c3
  have hsz : ∀ j ∈ nb, w2.heap.size ≤ j := fun j hj => Nat.le_trans D0.size (hnb j hj)
  refine hK _ _ (DW) ?_
  clear hK K
  try simp only [Act.put, qSa, qSb, qSc]
  refine wpAnyS_more (fuel := 1) [6, 7, 8, 9] (by kernel_rfl) (fun _ _ _ _ _ h => h) DW ?_
  simp only [List.filterMap_cons, List.filterMap_nil, qGa, qGb]
  iterate 4
    refine wpTake_step (fun K hK => ?_)
    rw [if_pos (by rfl)]
    refine ⟨?_, fun w' hS' => ?_, ?_⟩
    rotate_left 1
    focus
      have j0 := hS'.cellv l2 nI i1
      go_simp
      try with_reducible rfl
      done
    simp only [Act.put, qSa, qSb, qSc]
    refine hK _ ?_
    clear hK K
  refine wpTake_nil ?_
  refine wpAnyS_tail 10 1 (by kernel_rfl) rfl ?_
  simp only [qDa, qDb]
  have X4 := X3
  have ngc : gc ∉ [a.gX] := fun hm => H2.out.2.2.2 (.inl (List.mem_singleton.1 hm))
  have B3 := DW.blk H2.out.2.2.1 ngc
  obtain ⟨b, cap, -, x2, y, hb', s0, -, -, -, -⟩ := X4.at_ (g := x) hx
  have z0 := (X4.g x hx).frozen 0
  have z4 := B3.frozen 4
  have e5 : (0 : Int) ≤ x := by omega
  have e6 : (x : Int) < (X.n : Int) := by omega
  have n1 : a.gg x ≠ gc := fun e => H2.out.2.2.2 (.inr (.inr ⟨x, hx, .inl e.symm⟩))
  have v4 : w3.cell? ⟨gc, 4, none⟩ = some (.int .i64 (-1)) := B3.cellv 4 rfl
  have BG := (X4.g x hx).setv 0 (.int .i64 1) (cs' := mgC 1 (X.gs x).f (X.gs x).pc (X.gs x).cnt (.slice (some ⟨a.gs x, 0, none⟩) 16 16)) rfl
  have cG : Chg [a.gg x] w3 (w3.setCell ⟨a.gg x, 0, none⟩ (.int .i64 1)) := (Chg.refl [a.gg x] w3).setCell (.inl (by simp)) _
  have X5 := X4.gset hx { X.gs x with st := 1 } rfl cG (fun j hj => .inl (by simpa using hj)) BG
  have HZ := Lib.hid (And.intro X4 (And.intro DW (And.intro hsz (And.intro B3 (And.intro cG X5))))); clear X3 X4 hnb c3 DW D0 hsz B3 cG X5 BG
  dsimp only at x2 y s0
  go_wp2_with fail
  have C5 := (HZ.out.2.2.2.2.1.blk HZ.out.2.2.2.1 (by simpa using n1.symm))
  have C6 := C5.setv 4 (.int .i64 (x : Nat)) (cs' := (comC { c with v := (x : Nat) }).toArray) rfl
  have c6 := (Chg.refl [gc] (w3.setCell ⟨a.gg x, 0, none⟩ (.int .i64 1))).setCell (p := ⟨gc, 4, none⟩) (.inl (by simp)) (.int .i64 (x : Nat))
  refine ⟨rfl, _, results_none rfl _ _ _, { a with vw := updV a.vw ia v', wb := nb ++ a.wb }, rfl, HZ.out.2.2.2.2.2.chg c6 (fun j hj hxf => ?_), rfl, rfl, ⟨rfl, rfl, rfl⟩, rfl, C6, fun j hj => ?_, [gc, a.gX, a.gg x], ((H2.out.2.1.mono (by simp)).trans (HZ.out.2.1.mono (by simp))).trans ((HZ.out.2.2.2.2.1.mono (by simp)).trans (c6.mono (by simp))), fun j hj => ?_⟩
  · have e : j = gc := by simpa using hj
    subst e
    exact HZ.out.2.2.2.2.2.ngc C5 hxf
  · rcases XF.more (by rfl) hj with e | e
    · exact .inl e
    · exact .inr (Nat.le_trans H2.out.2.1.size (HZ.out.2.2.1 j e))
  · rcases List.mem_cons.1 hj with e | e
    · exact .inr e
    · rcases List.mem_cons.1 e with e | e
      · exact .inl (.inl e)
      · exact .inl (.inr (.inr ⟨x, hx, .inl (List.mem_singleton.1 e)⟩))
end Go.Proofs.YtepnlcemlnkpdaaGreatDoor
