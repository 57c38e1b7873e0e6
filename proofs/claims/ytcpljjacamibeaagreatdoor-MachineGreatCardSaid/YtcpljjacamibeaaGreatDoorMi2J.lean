/- The document's model: plain, other, of Exit, Yield, Set, Dec, Jump. (Printed by wip/genmi2.py.) -/
/- The document's model: other, of Spawn. -/
import Derived.Test.YtcpljjacamibeaaGreatDoorMh6J
namespace Go.Proofs.YtcpljjacamibeaaGreatDoor
set_option maxHeartbeats 16000000
set_option maxRecDepth 100000
open Go.RowKit Go.Maps
def PlPost (a : XAt) (X2 : Mdl) (g : Nat) (v : Value) (w : World) (e : Ending) (w' : World) : Prop := e = .returned v ∧ XM w' a X2 ∧ Chg [a.gg g] w w'
theorem rplain_set (w : World) (a : XAt) (X : Mdl) (h : XM w a X) (g gc : Nat) (i : Ins) (hi : i.o = 16) (hg : g < X.n) (ha : i.a < 256) (hb : i.b < 256) :
    Calls Tryz.prog 154 #[.pointer (some ⟨a.gX, 0, none⟩), .int .i64 (g : Nat), insV i, .pointer (some ⟨gc, 0, none⟩)] w (PlPost a ({ X with gs := updV X.gs g { X.gs g with cnt := 256 * (i.a : Nat) + (i.b : Nat) } }) g (.bool true) w) := by
  obtain ⟨io, ia, ib, ic⟩ := i
  have hi : io = 16 := hi
  subst hi
  have ha : (ia : Int) < 256 := by have h : ia < 256 := ha; omega
  have hb : (ib : Int) < 256 := by have h : ib < 256 := hb; omega
  have em : (256 * (ia : Nat) + (ib : Nat) : Int) = (ia : Int) * 256 + (ib : Int) := by omega
  have e3 : (0 : Int) ≤ g := by omega
  have e4 : (g : Int) < (X.n : Int) := by omega
  have HH := Lib.hid h; clear h
  unfold insV
  go_enter Tryz.func154, Tryz.ntmps154
  go_upto_region 1 with fail
  obtain ⟨gI, hgI⟩ : ∃ g', g' = w.heap.size := ⟨_, rfl⟩
  obtain ⟨w1, hw1⟩ : ∃ w1, w1 = w.alloc (.cells #[.int .i64 16, .int .i64 (ia : Nat), .int .i64 (ib : Nat), .int .i64 (ic : Nat)] 33) := ⟨_, rfl⟩
  rw [← hw1, ← hgI]
  have BI : Blk w1 gI 33 #[.int .i64 16, .int .i64 (ia : Nat), .int .i64 (ib : Nat), .int .i64 (ic : Nat)] := by rw [hw1, hgI]; exact Blk.new _ _ _
  have c01 : Chg [] w w1 := by rw [hw1]; exact (Chg.refl [] w).alloc _
  have X1 := HH.out.chg0 c01
  have i0 : w1.cell? ⟨gI, 0, none⟩ = some (.int .i64 16) := BI.cellv 0 rfl
  have i1 : w1.cell? ⟨gI, 1, none⟩ = some (.int .i64 (ia : Nat)) := BI.cellv 1 rfl
  have i2 : w1.cell? ⟨gI, 2, none⟩ = some (.int .i64 (ib : Nat)) := BI.cellv 2 rfl
  have i3 : w1.cell? ⟨gI, 3, none⟩ = some (.int .i64 (ic : Nat)) := BI.cellv 3 rfl
  obtain ⟨b, cap, hvg, x2, y, hb', s0, s1, s2, s3, s4⟩ := X1.at_ hg
  have z0 := (X1.g g hg).frozen 0
  have z2 := (X1.g g hg).frozen 2
  have z3 := (X1.g g hg).frozen 3
  have H1 := Lib.hid (And.intro X1 (And.intro c01 BI)); clear X1 c01 BI hw1 hgI hvg
  go_wp2_with fail
  go_ret
  have cE : Chg [a.gg g] w1 (w1.setCell ⟨a.gg g, 3, none⟩ (.int .i64 ((ia : Int) * 256 + (ib : Int)))) := ((Chg.refl [a.gg g] w1).setCell (.inl (by simp)) _)
  exact ⟨rfl, H1.out.1.gset hg ({ X.gs g with cnt := (ia : Int) * 256 + (ib : Int) }) rfl cE (fun j hj => .inl (by simpa using hj)) (by have h := ((H1.out.1.g g hg).set_ 3 (.int .i64 ((ia : Int) * 256 + (ib : Int)))); exact h), (H1.out.2.1.mono (by simp)).trans cE⟩
theorem rplain_jump (w : World) (a : XAt) (X : Mdl) (h : XM w a X) (g gc : Nat) (i : Ins) (hi : i.o = 14) (hg : g < X.n) (ha : i.a < 256) (hb : i.b < 256) :
    Calls Tryz.prog 154 #[.pointer (some ⟨a.gX, 0, none⟩), .int .i64 (g : Nat), insV i, .pointer (some ⟨gc, 0, none⟩)] w (PlPost a ({ X with gs := updV X.gs g { X.gs g with pc := (i.a : Nat) } }) g (.bool true) w) := by
  obtain ⟨io, ia, ib, ic⟩ := i
  have hi : io = 14 := hi
  subst hi
  have ha : (ia : Int) < 256 := by have h : ia < 256 := ha; omega
  have hb : (ib : Int) < 256 := by have h : ib < 256 := hb; omega
  have e3 : (0 : Int) ≤ g := by omega
  have e4 : (g : Int) < (X.n : Int) := by omega
  have HH := Lib.hid h; clear h
  unfold insV
  go_enter Tryz.func154, Tryz.ntmps154
  go_upto_region 1 with fail
  obtain ⟨gI, hgI⟩ : ∃ g', g' = w.heap.size := ⟨_, rfl⟩
  obtain ⟨w1, hw1⟩ : ∃ w1, w1 = w.alloc (.cells #[.int .i64 14, .int .i64 (ia : Nat), .int .i64 (ib : Nat), .int .i64 (ic : Nat)] 33) := ⟨_, rfl⟩
  rw [← hw1, ← hgI]
  have BI : Blk w1 gI 33 #[.int .i64 14, .int .i64 (ia : Nat), .int .i64 (ib : Nat), .int .i64 (ic : Nat)] := by rw [hw1, hgI]; exact Blk.new _ _ _
  have c01 : Chg [] w w1 := by rw [hw1]; exact (Chg.refl [] w).alloc _
  have X1 := HH.out.chg0 c01
  have i0 : w1.cell? ⟨gI, 0, none⟩ = some (.int .i64 14) := BI.cellv 0 rfl
  have i1 : w1.cell? ⟨gI, 1, none⟩ = some (.int .i64 (ia : Nat)) := BI.cellv 1 rfl
  have i2 : w1.cell? ⟨gI, 2, none⟩ = some (.int .i64 (ib : Nat)) := BI.cellv 2 rfl
  have i3 : w1.cell? ⟨gI, 3, none⟩ = some (.int .i64 (ic : Nat)) := BI.cellv 3 rfl
  obtain ⟨b, cap, hvg, x2, y, hb', s0, s1, s2, s3, s4⟩ := X1.at_ hg
  have z0 := (X1.g g hg).frozen 0
  have z2 := (X1.g g hg).frozen 2
  have z3 := (X1.g g hg).frozen 3
  have H1 := Lib.hid (And.intro X1 (And.intro c01 BI)); clear X1 c01 BI hw1 hgI hvg
  go_wp2_with fail
  go_ret
  have cE : Chg [a.gg g] w1 (w1.setCell ⟨a.gg g, 2, none⟩ (.int .i64 (ia : Nat))) := ((Chg.refl [a.gg g] w1).setCell (.inl (by simp)) _)
  exact ⟨rfl, H1.out.1.gset hg ({ X.gs g with pc := (ia : Nat) }) rfl cE (fun j hj => .inl (by simpa using hj)) (by have h := ((H1.out.1.g g hg).set_ 2 (.int .i64 (ia : Nat))); exact h), (H1.out.2.1.mono (by simp)).trans cE⟩
theorem rplain_dec0 (w : World) (a : XAt) (X : Mdl) (h : XM w a X) (g gc : Nat) (i : Ins) (hi : i.o = 17) (hg : g < X.n) (ha : i.a < 256) (hb : i.b < 256) (hc : (X.gs g).cnt = 0) :
    Calls Tryz.prog 154 #[.pointer (some ⟨a.gX, 0, none⟩), .int .i64 (g : Nat), insV i, .pointer (some ⟨gc, 0, none⟩)] w (PlPost a (X) g (.bool true) w) := by
  obtain ⟨io, ia, ib, ic⟩ := i
  have hi : io = 17 := hi
  subst hi
  have ha : (ia : Int) < 256 := by have h : ia < 256 := ha; omega
  have hb : (ib : Int) < 256 := by have h : ib < 256 := hb; omega
  have e3 : (0 : Int) ≤ g := by omega
  have e4 : (g : Int) < (X.n : Int) := by omega
  have HH := Lib.hid h; clear h
  unfold insV
  go_enter Tryz.func154, Tryz.ntmps154
  go_upto_region 1 with fail
  obtain ⟨gI, hgI⟩ : ∃ g', g' = w.heap.size := ⟨_, rfl⟩
  obtain ⟨w1, hw1⟩ : ∃ w1, w1 = w.alloc (.cells #[.int .i64 17, .int .i64 (ia : Nat), .int .i64 (ib : Nat), .int .i64 (ic : Nat)] 33) := ⟨_, rfl⟩
  rw [← hw1, ← hgI]
  have BI : Blk w1 gI 33 #[.int .i64 17, .int .i64 (ia : Nat), .int .i64 (ib : Nat), .int .i64 (ic : Nat)] := by rw [hw1, hgI]; exact Blk.new _ _ _
  have c01 : Chg [] w w1 := by rw [hw1]; exact (Chg.refl [] w).alloc _
  have X1 := HH.out.chg0 c01
  have i0 : w1.cell? ⟨gI, 0, none⟩ = some (.int .i64 17) := BI.cellv 0 rfl
  have i1 : w1.cell? ⟨gI, 1, none⟩ = some (.int .i64 (ia : Nat)) := BI.cellv 1 rfl
  have i2 : w1.cell? ⟨gI, 2, none⟩ = some (.int .i64 (ib : Nat)) := BI.cellv 2 rfl
  have i3 : w1.cell? ⟨gI, 3, none⟩ = some (.int .i64 (ic : Nat)) := BI.cellv 3 rfl
  obtain ⟨b, cap, hvg, x2, y, hb', s0, s1, s2, s3, s4⟩ := X1.at_ hg
  have z0 := (X1.g g hg).frozen 0
  have z2 := (X1.g g hg).frozen 2
  have z3 := (X1.g g hg).frozen 3
  rw [hc] at s3
  have H1 := Lib.hid (And.intro X1 (And.intro c01 BI)); clear X1 c01 BI hw1 hgI hvg
  go_wp2_with fail
  go_ret
  exact ⟨rfl, H1.out.1, H1.out.2.1.mono (by simp)⟩
theorem rplain_dec (w : World) (a : XAt) (X : Mdl) (h : XM w a X) (g gc : Nat) (i : Ins) (hi : i.o = 17) (hg : g < X.n) (ha : i.a < 256) (hb : i.b < 256) (n : Nat) (hc : (X.gs g).cnt = (n : Nat)) (h1 : 1 ≤ n) (h2 : n ≤ 1000000) :
    Calls Tryz.prog 154 #[.pointer (some ⟨a.gX, 0, none⟩), .int .i64 (g : Nat), insV i, .pointer (some ⟨gc, 0, none⟩)] w (PlPost a ({ X with gs := updV X.gs g { X.gs g with pc := (i.a : Nat), cnt := (X.gs g).cnt - 1 } }) g (.bool true) w) := by
  obtain ⟨io, ia, ib, ic⟩ := i
  have hi : io = 17 := hi
  subst hi
  have ha : (ia : Int) < 256 := by have h : ia < 256 := ha; omega
  have hb : (ib : Int) < 256 := by have h : ib < 256 := hb; omega
  have e5 : (n : Int) > 0 := by omega
  have e3 : (0 : Int) ≤ g := by omega
  have e4 : (g : Int) < (X.n : Int) := by omega
  have HH := Lib.hid h; clear h
  unfold insV
  go_enter Tryz.func154, Tryz.ntmps154
  go_upto_region 1 with fail
  obtain ⟨gI, hgI⟩ : ∃ g', g' = w.heap.size := ⟨_, rfl⟩
  obtain ⟨w1, hw1⟩ : ∃ w1, w1 = w.alloc (.cells #[.int .i64 17, .int .i64 (ia : Nat), .int .i64 (ib : Nat), .int .i64 (ic : Nat)] 33) := ⟨_, rfl⟩
  rw [← hw1, ← hgI]
  have BI : Blk w1 gI 33 #[.int .i64 17, .int .i64 (ia : Nat), .int .i64 (ib : Nat), .int .i64 (ic : Nat)] := by rw [hw1, hgI]; exact Blk.new _ _ _
  have c01 : Chg [] w w1 := by rw [hw1]; exact (Chg.refl [] w).alloc _
  have X1 := HH.out.chg0 c01
  have i0 : w1.cell? ⟨gI, 0, none⟩ = some (.int .i64 17) := BI.cellv 0 rfl
  have i1 : w1.cell? ⟨gI, 1, none⟩ = some (.int .i64 (ia : Nat)) := BI.cellv 1 rfl
  have i2 : w1.cell? ⟨gI, 2, none⟩ = some (.int .i64 (ib : Nat)) := BI.cellv 2 rfl
  have i3 : w1.cell? ⟨gI, 3, none⟩ = some (.int .i64 (ic : Nat)) := BI.cellv 3 rfl
  obtain ⟨b, cap, hvg, x2, y, hb', s0, s1, s2, s3, s4⟩ := X1.at_ hg
  have z0 := (X1.g g hg).frozen 0
  have z2 := (X1.g g hg).frozen 2
  have z3 := (X1.g g hg).frozen 3
  rw [hc] at s3
  have H1 := Lib.hid (And.intro X1 (And.intro c01 BI)); clear X1 c01 BI hw1 hgI hvg
  go_wp2_with fail
  go_ret
  have cE : Chg [a.gg g] w1 ((w1.setCell ⟨a.gg g, 3, none⟩ (.int .i64 ((n : Int) - 1))).setCell ⟨a.gg g, 2, none⟩ (.int .i64 (ia : Nat))) := (((Chg.refl [a.gg g] w1).setCell (.inl (by simp)) _).setCell (.inl (by simp)) _)
  exact ⟨rfl, H1.out.1.gset hg ({ X.gs g with pc := (ia : Nat), cnt := (n : Int) - 1 }) rfl cE (fun j hj => .inl (by simpa using hj)) (by have h := (((H1.out.1.g g hg).set_ 3 (.int .i64 ((n : Int) - 1))).set_ 2 (.int .i64 (ia : Nat))); exact h), (H1.out.2.1.mono (by simp)).trans cE⟩
theorem rplain_exit (w : World) (a : XAt) (X : Mdl) (h : XM w a X) (g gc : Nat) (i : Ins) (hi : i.o = 0) (hg : g < X.n) (ha : i.a < 256) (hb : i.b < 256) :
    Calls Tryz.prog 154 #[.pointer (some ⟨a.gX, 0, none⟩), .int .i64 (g : Nat), insV i, .pointer (some ⟨gc, 0, none⟩)] w (NwPost (.bool false) w) := by
  obtain ⟨io, ia, ib, ic⟩ := i
  have hi : io = 0 := hi
  subst hi
  have ha : (ia : Int) < 256 := by have h : ia < 256 := ha; omega
  have hb : (ib : Int) < 256 := by have h : ib < 256 := hb; omega
  have e3 : (0 : Int) ≤ g := by omega
  have e4 : (g : Int) < (X.n : Int) := by omega
  have HH := Lib.hid h; clear h
  unfold insV
  go_enter Tryz.func154, Tryz.ntmps154
  go_upto_region 1 with fail
  obtain ⟨gI, hgI⟩ : ∃ g', g' = w.heap.size := ⟨_, rfl⟩
  obtain ⟨w1, hw1⟩ : ∃ w1, w1 = w.alloc (.cells #[.int .i64 0, .int .i64 (ia : Nat), .int .i64 (ib : Nat), .int .i64 (ic : Nat)] 33) := ⟨_, rfl⟩
  rw [← hw1, ← hgI]
  have BI : Blk w1 gI 33 #[.int .i64 0, .int .i64 (ia : Nat), .int .i64 (ib : Nat), .int .i64 (ic : Nat)] := by rw [hw1, hgI]; exact Blk.new _ _ _
  have c01 : Chg [] w w1 := by rw [hw1]; exact (Chg.refl [] w).alloc _
  have X1 := HH.out.chg0 c01
  have i0 : w1.cell? ⟨gI, 0, none⟩ = some (.int .i64 0) := BI.cellv 0 rfl
  have i1 : w1.cell? ⟨gI, 1, none⟩ = some (.int .i64 (ia : Nat)) := BI.cellv 1 rfl
  have i2 : w1.cell? ⟨gI, 2, none⟩ = some (.int .i64 (ib : Nat)) := BI.cellv 2 rfl
  have i3 : w1.cell? ⟨gI, 3, none⟩ = some (.int .i64 (ic : Nat)) := BI.cellv 3 rfl
  obtain ⟨b, cap, hvg, x2, y, hb', s0, s1, s2, s3, s4⟩ := X1.at_ hg
  have z0 := (X1.g g hg).frozen 0
  have z2 := (X1.g g hg).frozen 2
  have z3 := (X1.g g hg).frozen 3
  have H1 := Lib.hid (And.intro X1 (And.intro c01 BI)); clear X1 c01 BI hw1 hgI hvg
  go_wp2_with fail
  go_ret
  exact ⟨rfl, H1.out.2.1⟩
theorem rplain_spawn (w : World) (a : XAt) (X : Mdl) (h : XM w a X) (g gc : Nat) (i : Ins) (hi : i.o = 8) (hg : g < X.n) (ha : i.a < 256) (hb : i.b < 256) :
    Calls Tryz.prog 154 #[.pointer (some ⟨a.gX, 0, none⟩), .int .i64 (g : Nat), insV i, .pointer (some ⟨gc, 0, none⟩)] w (NwPost (.bool false) w) := by
  obtain ⟨io, ia, ib, ic⟩ := i
  have hi : io = 8 := hi
  subst hi
  have ha : (ia : Int) < 256 := by have h : ia < 256 := ha; omega
  have hb : (ib : Int) < 256 := by have h : ib < 256 := hb; omega
  have e3 : (0 : Int) ≤ g := by omega
  have e4 : (g : Int) < (X.n : Int) := by omega
  have HH := Lib.hid h; clear h
  unfold insV
  go_enter Tryz.func154, Tryz.ntmps154
  go_upto_region 1 with fail
  obtain ⟨gI, hgI⟩ : ∃ g', g' = w.heap.size := ⟨_, rfl⟩
  obtain ⟨w1, hw1⟩ : ∃ w1, w1 = w.alloc (.cells #[.int .i64 8, .int .i64 (ia : Nat), .int .i64 (ib : Nat), .int .i64 (ic : Nat)] 33) := ⟨_, rfl⟩
  rw [← hw1, ← hgI]
  have BI : Blk w1 gI 33 #[.int .i64 8, .int .i64 (ia : Nat), .int .i64 (ib : Nat), .int .i64 (ic : Nat)] := by rw [hw1, hgI]; exact Blk.new _ _ _
  have c01 : Chg [] w w1 := by rw [hw1]; exact (Chg.refl [] w).alloc _
  have X1 := HH.out.chg0 c01
  have i0 : w1.cell? ⟨gI, 0, none⟩ = some (.int .i64 8) := BI.cellv 0 rfl
  have i1 : w1.cell? ⟨gI, 1, none⟩ = some (.int .i64 (ia : Nat)) := BI.cellv 1 rfl
  have i2 : w1.cell? ⟨gI, 2, none⟩ = some (.int .i64 (ib : Nat)) := BI.cellv 2 rfl
  have i3 : w1.cell? ⟨gI, 3, none⟩ = some (.int .i64 (ic : Nat)) := BI.cellv 3 rfl
  obtain ⟨b, cap, hvg, x2, y, hb', s0, s1, s2, s3, s4⟩ := X1.at_ hg
  have z0 := (X1.g g hg).frozen 0
  have z2 := (X1.g g hg).frozen 2
  have z3 := (X1.g g hg).frozen 3
  have H1 := Lib.hid (And.intro X1 (And.intro c01 BI)); clear X1 c01 BI hw1 hgI hvg
  go_wp2_with fail
  go_ret
  exact ⟨rfl, H1.out.2.1⟩
theorem rplain_yield (w : World) (a : XAt) (X : Mdl) (h : XM w a X) (g gc : Nat) (i : Ins) (hi : i.o = 9) (hg : g < X.n) (ha : i.a < 256) (hb : i.b < 256) :
    Calls Tryz.prog 154 #[.pointer (some ⟨a.gX, 0, none⟩), .int .i64 (g : Nat), insV i, .pointer (some ⟨gc, 0, none⟩)] w (NwPost (.bool false) w) := by
  obtain ⟨io, ia, ib, ic⟩ := i
  have hi : io = 9 := hi
  subst hi
  have ha : (ia : Int) < 256 := by have h : ia < 256 := ha; omega
  have hb : (ib : Int) < 256 := by have h : ib < 256 := hb; omega
  have e3 : (0 : Int) ≤ g := by omega
  have e4 : (g : Int) < (X.n : Int) := by omega
  have HH := Lib.hid h; clear h
  unfold insV
  go_enter Tryz.func154, Tryz.ntmps154
  go_upto_region 1 with fail
  obtain ⟨gI, hgI⟩ : ∃ g', g' = w.heap.size := ⟨_, rfl⟩
  obtain ⟨w1, hw1⟩ : ∃ w1, w1 = w.alloc (.cells #[.int .i64 9, .int .i64 (ia : Nat), .int .i64 (ib : Nat), .int .i64 (ic : Nat)] 33) := ⟨_, rfl⟩
  rw [← hw1, ← hgI]
  have BI : Blk w1 gI 33 #[.int .i64 9, .int .i64 (ia : Nat), .int .i64 (ib : Nat), .int .i64 (ic : Nat)] := by rw [hw1, hgI]; exact Blk.new _ _ _
  have c01 : Chg [] w w1 := by rw [hw1]; exact (Chg.refl [] w).alloc _
  have X1 := HH.out.chg0 c01
  have i0 : w1.cell? ⟨gI, 0, none⟩ = some (.int .i64 9) := BI.cellv 0 rfl
  have i1 : w1.cell? ⟨gI, 1, none⟩ = some (.int .i64 (ia : Nat)) := BI.cellv 1 rfl
  have i2 : w1.cell? ⟨gI, 2, none⟩ = some (.int .i64 (ib : Nat)) := BI.cellv 2 rfl
  have i3 : w1.cell? ⟨gI, 3, none⟩ = some (.int .i64 (ic : Nat)) := BI.cellv 3 rfl
  obtain ⟨b, cap, hvg, x2, y, hb', s0, s1, s2, s3, s4⟩ := X1.at_ hg
  have z0 := (X1.g g hg).frozen 0
  have z2 := (X1.g g hg).frozen 2
  have z3 := (X1.g g hg).frozen 3
  have H1 := Lib.hid (And.intro X1 (And.intro c01 BI)); clear X1 c01 BI hw1 hgI hvg
  go_wp2_with fail
  go_ret
  exact ⟨rfl, H1.out.2.1⟩
theorem rother_exit (w : World) (a : XAt) (X : Mdl) (h : XM w a X) (g gc : Nat) (i : Ins) (hi : i.o = 0) (hg : g < X.n) (ha : i.a < 256) (hb : i.b < 256) :
    Calls Tryz.prog 155 #[.pointer (some ⟨a.gX, 0, none⟩), .int .i64 (g : Nat), insV i, .pointer (some ⟨gc, 0, none⟩)] w (PlPost a ({ X with gs := updV X.gs g { X.gs g with st := 5 } }) g (.tuple #[]) w) := by
  obtain ⟨io, ia, ib, ic⟩ := i
  have hi : io = 0 := hi
  subst hi
  have ha : (ia : Int) < 256 := by have h : ia < 256 := ha; omega
  have hb : (ib : Int) < 256 := by have h : ib < 256 := hb; omega
  have e3 : (0 : Int) ≤ g := by omega
  have e4 : (g : Int) < (X.n : Int) := by omega
  have HH := Lib.hid h; clear h
  unfold insV
  go_enter Tryz.func155, Tryz.ntmps155
  go_upto_region 1 with fail
  obtain ⟨gI, hgI⟩ : ∃ g', g' = w.heap.size := ⟨_, rfl⟩
  obtain ⟨w1, hw1⟩ : ∃ w1, w1 = w.alloc (.cells #[.int .i64 0, .int .i64 (ia : Nat), .int .i64 (ib : Nat), .int .i64 (ic : Nat)] 33) := ⟨_, rfl⟩
  rw [← hw1, ← hgI]
  have BI : Blk w1 gI 33 #[.int .i64 0, .int .i64 (ia : Nat), .int .i64 (ib : Nat), .int .i64 (ic : Nat)] := by rw [hw1, hgI]; exact Blk.new _ _ _
  have c01 : Chg [] w w1 := by rw [hw1]; exact (Chg.refl [] w).alloc _
  have X1 := HH.out.chg0 c01
  have i0 : w1.cell? ⟨gI, 0, none⟩ = some (.int .i64 0) := BI.cellv 0 rfl
  have i1 : w1.cell? ⟨gI, 1, none⟩ = some (.int .i64 (ia : Nat)) := BI.cellv 1 rfl
  have i2 : w1.cell? ⟨gI, 2, none⟩ = some (.int .i64 (ib : Nat)) := BI.cellv 2 rfl
  have i3 : w1.cell? ⟨gI, 3, none⟩ = some (.int .i64 (ic : Nat)) := BI.cellv 3 rfl
  obtain ⟨b, cap, hvg, x2, y, hb', s0, s1, s2, s3, s4⟩ := X1.at_ hg
  have z0 := (X1.g g hg).frozen 0
  have z2 := (X1.g g hg).frozen 2
  have z3 := (X1.g g hg).frozen 3
  have H1 := Lib.hid (And.intro X1 (And.intro c01 BI)); clear X1 c01 BI hw1 hgI hvg
  go_wp2_with fail
  have cE : Chg [a.gg g] w1 (w1.setCell ⟨a.gg g, 0, none⟩ (.int .i64 5)) := ((Chg.refl [a.gg g] w1).setCell (.inl (by simp)) _)
  exact ⟨rfl, _, results_none rfl _ _ _, rfl, H1.out.1.gset hg ({ X.gs g with st := 5 }) rfl cE (fun j hj => .inl (by simpa using hj)) (by have h := ((H1.out.1.g g hg).set_ 0 (.int .i64 5)); exact h), (H1.out.2.1.mono (by simp)).trans cE⟩
theorem rother_yield (w : World) (a : XAt) (X : Mdl) (h : XM w a X) (g gc : Nat) (i : Ins) (hi : i.o = 9) (hg : g < X.n) (ha : i.a < 256) (hb : i.b < 256) :
    Calls Tryz.prog 155 #[.pointer (some ⟨a.gX, 0, none⟩), .int .i64 (g : Nat), insV i, .pointer (some ⟨gc, 0, none⟩)] w (PlPost a (X) g (.tuple #[]) w) := by
  obtain ⟨io, ia, ib, ic⟩ := i
  have hi : io = 9 := hi
  subst hi
  have ha : (ia : Int) < 256 := by have h : ia < 256 := ha; omega
  have hb : (ib : Int) < 256 := by have h : ib < 256 := hb; omega
  have e3 : (0 : Int) ≤ g := by omega
  have e4 : (g : Int) < (X.n : Int) := by omega
  have HH := Lib.hid h; clear h
  unfold insV
  go_enter Tryz.func155, Tryz.ntmps155
  go_upto_region 1 with fail
  obtain ⟨gI, hgI⟩ : ∃ g', g' = w.heap.size := ⟨_, rfl⟩
  obtain ⟨w1, hw1⟩ : ∃ w1, w1 = w.alloc (.cells #[.int .i64 9, .int .i64 (ia : Nat), .int .i64 (ib : Nat), .int .i64 (ic : Nat)] 33) := ⟨_, rfl⟩
  rw [← hw1, ← hgI]
  have BI : Blk w1 gI 33 #[.int .i64 9, .int .i64 (ia : Nat), .int .i64 (ib : Nat), .int .i64 (ic : Nat)] := by rw [hw1, hgI]; exact Blk.new _ _ _
  have c01 : Chg [] w w1 := by rw [hw1]; exact (Chg.refl [] w).alloc _
  have X1 := HH.out.chg0 c01
  have i0 : w1.cell? ⟨gI, 0, none⟩ = some (.int .i64 9) := BI.cellv 0 rfl
  have i1 : w1.cell? ⟨gI, 1, none⟩ = some (.int .i64 (ia : Nat)) := BI.cellv 1 rfl
  have i2 : w1.cell? ⟨gI, 2, none⟩ = some (.int .i64 (ib : Nat)) := BI.cellv 2 rfl
  have i3 : w1.cell? ⟨gI, 3, none⟩ = some (.int .i64 (ic : Nat)) := BI.cellv 3 rfl
  obtain ⟨b, cap, hvg, x2, y, hb', s0, s1, s2, s3, s4⟩ := X1.at_ hg
  have z0 := (X1.g g hg).frozen 0
  have z2 := (X1.g g hg).frozen 2
  have z3 := (X1.g g hg).frozen 3
  have H1 := Lib.hid (And.intro X1 (And.intro c01 BI)); clear X1 c01 BI hw1 hgI hvg
  go_wp2_with fail
  exact ⟨rfl, _, results_none rfl _ _ _, rfl, H1.out.1, H1.out.2.1.mono (by simp)⟩
theorem ptrs_snoc (f : Nat → Nat) (n x : Nat) : ptrs (updV f n x) (n + 1) = ptrs f n ++ [.pointer (some ⟨x, 0, none⟩)] := by
  unfold ptrs
  rw [List.range_succ, List.map_append, List.map_singleton, updV_same]
  congr 1
  exact List.map_congr_left fun i hi => by rw [updV_other _ _ (by have := List.mem_range.1 hi; omega)]
def spX (X : Mdl) (f v : Int) : Mdl := { X with n := X.n + 1, gs := updV X.gs X.n ⟨1, f, 0, 0, updV (fun _ => 0) 0 v⟩ }
def spA (a : XAt) (n : Nat) (vg : Value) (gg gs : Nat) : XAt := { a with vg := vg, gg := updV a.gg n gg, gs := updV a.gs n gs }
theorem XM.spawnT {w w' : World} {a : XAt} {X : Mdl} (h : XM w a X) {f v : Int} {e : Ending} (P : RspPost w a.gX (xC a) a.vg (ptrs a.gg X.n) f v e w') :
    ∃ vg gg gs, e = .returned (.int .i64 (X.n : Nat)) ∧ XM w' (spA a X.n vg gg gs) (spX X f v) ∧ Chg (a.gX :: fpv a.vg) w w' ∧ ∀ j, XF (spA a X.n vg gg gs) (spX X f v) j → XF a X j ∨ w.heap.size ≤ j := by
  obtain ⟨gg, gs, vg, he, x, o, hv, g, s, n1, n2, d1, d2, d3, c⟩ := P
  have hlen : (ptrs a.gg X.n).length = X.n := by unfold ptrs; simp
  rw [hlen] at he
  have old : ∀ i, i < X.n → updV a.gg X.n gg i = a.gg i ∧ updV a.gs X.n gs i = a.gs i := fun i hi => ⟨updV_other _ _ (by omega), updV_other _ _ (by omega)⟩
  have hnS : ∀ {k t cs}, Blk w k t cs → t ≠ 71 → t ≠ 86 → k ∉ a.gX :: fpv a.vg := fun B t1 t2 hm => by
    rcases List.mem_cons.1 hm with e | e
    · exact B.ne_ h.x t1 e
    · exact h.o.ne_blkV B (fun e => t2 e.symm) e
  have hwb := h.wbs c (fun j hj hm => by
    obtain ⟨cs, Bj⟩ := (h.wb j hj).1
    exact hnS Bj (by decide) (by decide) hm)
  refine ⟨vg, gg, gs, he, ⟨x, ?_, fun i hi => ?_, fun i hi => ?_, fun i j hi hj e => ?_, fun i j hi hj e => ?_, fun j hj => ⟨(hwb.1 j hj).1, fun k hk => ?_⟩, ⟨h.ad.1, c.blk h.ad.2 (hnS h.ad.2 (by decide) (by decide))⟩, hwb.2⟩, c, fun j hj => ?_⟩
  · show OwnV _ w' vg (ptrs (updV a.gg X.n gg) (X.n + 1))
    rw [ptrs_snoc]; exact o
  · have hi : i < X.n + 1 := hi
    show Blk w' (updV a.gg X.n gg i) _ (mgC (updV X.gs X.n _ i).st (updV X.gs X.n _ i).f (updV X.gs X.n _ i).pc (updV X.gs X.n _ i).cnt (.slice (some ⟨updV a.gs X.n gs i, 0, none⟩) 16 16))
    by_cases e : i = X.n
    · subst e; rw [updV_same, updV_same, updV_same]; exact g
    · have hi' : i < X.n := by omega
      rw [(old i hi').1, (old i hi').2, updV_other _ _ e]
      exact c.blk (h.g i hi') (hnS (h.g i hi') (by decide) (by decide))
  · have hi : i < X.n + 1 := hi
    show Blk w' (updV a.gs X.n gs i) _ (skC (updV X.gs X.n _ i).sk)
    by_cases e : i = X.n
    · subst e; rw [updV_same, updV_same]; exact s
    · have hi' : i < X.n := by omega
      rw [(old i hi').2, updV_other _ _ e]
      exact c.blk (h.s i hi') (hnS (h.s i hi') (by decide) (by decide))
  · have hi : i < X.n + 1 := hi
    have hj : j < X.n + 1 := hj
    have e : updV a.gg X.n gg i = updV a.gg X.n gg j := e
    by_cases e1 : i = X.n
    · by_cases e2 : j = X.n
      · omega
      · have hj' : j < X.n := by omega
        rw [e1, updV_same, (old j hj').1] at e
        have := (h.g j hj').lt
        omega
    · have hi' : i < X.n := by omega
      by_cases e2 : j = X.n
      · rw [e2, updV_same, (old i hi').1] at e
        have := (h.g i hi').lt
        omega
      · have hj' : j < X.n := by omega
        rw [(old i hi').1, (old j hj').1] at e
        exact h.ig i j hi' hj' e
  · have hi : i < X.n + 1 := hi
    have hj : j < X.n + 1 := hj
    have e : updV a.gs X.n gs i = updV a.gs X.n gs j := e
    by_cases e1 : i = X.n
    · by_cases e2 : j = X.n
      · omega
      · have hj' : j < X.n := by omega
        rw [e1, updV_same, (old j hj').2] at e
        have := (h.s j hj').lt
        omega
    · have hi' : i < X.n := by omega
      by_cases e2 : j = X.n
      · rw [e2, updV_same, (old i hi').2] at e
        have := (h.s i hi').lt
        omega
      · have hj' : j < X.n := by omega
        rw [(old i hi').2, (old j hj').2] at e
        exact h.is i j hi' hj' e
  · have hk : k < X.n + 1 := hk
    show j ≠ updV a.gs X.n gs k
    by_cases e : k = X.n
    · subst e
      rw [updV_same]
      have := (h.wb j hj).1.choose_spec.lt
      omega
    · rw [updV_other _ _ e]; exact (h.wb j hj).2 k (by omega)
  · rcases hj with e | (e | e) | ⟨i, hi, e⟩
    · exact .inl (.inl e)
    · rcases hv j e with e | e
      · exact .inl (.inr (.inl (.inl e)))
      · exact .inr e
    · exact .inl (.inr (.inl (.inr e)))
    · have hi : i < X.n + 1 := hi
      have e : j = updV a.gg X.n gg i ∨ j = updV a.gs X.n gs i := e
      by_cases e1 : i = X.n
      · rw [e1, updV_same, updV_same] at e
        rcases e with e | e <;> exact .inr (by omega)
      · have hi' : i < X.n := by omega
        rw [(old i hi').1, (old i hi').2] at e
        exact .inl (.inr (.inr ⟨i, hi', e⟩))
def SpnPost (a : XAt) (X : Mdl) (f v : Int) (gc : Nat) (c : ComA) (w : World) (e : Ending) (w' : World) : Prop :=
  ∃ vg gg gs, e = .returned (.tuple #[]) ∧ XM w' (spA a X.n vg gg gs) (spX X f v) ∧ Blk w' gc 59 (comC { c with v := (X.n : Nat) }).toArray ∧ Chg (gc :: a.gX :: fpv a.vg) w w' ∧ ∀ j, XF (spA a X.n vg gg gs) (spX X f v) j → XF a X j ∨ w.heap.size ≤ j
theorem rother_spawn (w : World) (a : XAt) (X : Mdl) (h : XM w a X) (g gc : Nat) (i : Ins) (hi : i.o = 8) (hg : g < X.n) (ha : i.a < 256) (hb : i.b < 16) (hn : X.n < 1024) (c : ComA) (hc : Blk w gc 59 (comC c).toArray) :
    Calls Tryz.prog 155 #[.pointer (some ⟨a.gX, 0, none⟩), .int .i64 (g : Nat), insV i, .pointer (some ⟨gc, 0, none⟩)] w (SpnPost a X (i.a : Nat) ((X.gs g).sk i.b) gc c w) := by
  obtain ⟨io, ia, ib, ic⟩ := i
  have hi : io = 8 := hi
  subst hi
  have ha : (ia : Int) < 256 := by have h : ia < 256 := ha; omega
  have hb16 : ib < 16 := hb
  have hb : (ib : Int) < 16 := by omega
  have hb0 : (0 : Int) ≤ ib := by omega
  have e3 : (0 : Int) ≤ g := by omega
  have e4 : (g : Int) < (X.n : Int) := by omega
  have e5 : ¬ (X.n : Int) ≥ 1024 := by omega
  have KS := fun (w' : World) (c' : Chg [] w w') => rspawn_ok w' a.gX (xC a) a.vg (ptrs a.gg X.n) (ia : Nat) ((X.gs g).sk ib) (h.chg0 c').x rfl (h.chg0 c').o (by unfold ptrs; simp; omega)
  have HH := Lib.hid (And.intro h (And.intro hc KS)); clear h hc KS
  unfold insV
  go_enter Tryz.func155, Tryz.ntmps155
  go_upto_region 1 with fail
  obtain ⟨gI, hgI⟩ : ∃ g', g' = w.heap.size := ⟨_, rfl⟩
  obtain ⟨w1, hw1⟩ : ∃ w1, w1 = w.alloc (.cells #[.int .i64 8, .int .i64 (ia : Nat), .int .i64 (ib : Nat), .int .i64 (ic : Nat)] 33) := ⟨_, rfl⟩
  rw [← hw1, ← hgI]
  have BI : Blk w1 gI 33 #[.int .i64 8, .int .i64 (ia : Nat), .int .i64 (ib : Nat), .int .i64 (ic : Nat)] := by rw [hw1, hgI]; exact Blk.new _ _ _
  have c01 : Chg [] w w1 := by rw [hw1]; exact (Chg.refl [] w).alloc _
  have X1 := HH.out.1.chg0 c01
  have i0 : w1.cell? ⟨gI, 0, none⟩ = some (.int .i64 8) := BI.cellv 0 rfl
  have i1 : w1.cell? ⟨gI, 1, none⟩ = some (.int .i64 (ia : Nat)) := BI.cellv 1 rfl
  have i2 : w1.cell? ⟨gI, 2, none⟩ = some (.int .i64 (ib : Nat)) := BI.cellv 2 rfl
  obtain ⟨b, cap, hvg, x2, y, hb', s0, s1, s2, s3, s4⟩ := X1.at_ hg
  have k0 : w1.cell? ⟨a.gs g, ib, none⟩ = some (.int .i64 ((X.gs g).sk ib)) := (X1.s g hg).cellv ib (by unfold skC; simp [hb16])
  have H1 := Lib.hid (And.intro X1 (And.intro c01 BI)); clear X1 c01 BI hw1 hgI hvg
  go_upto_region 8 with fail
  have lI := H1.out.2.2.lt
  have lg := (H1.out.1.g g hg).lt
  have ls := (H1.out.1.s g hg).lt
  have hS : ∀ {k t cs}, Blk w1 k t cs → t ≠ 71 → t ≠ 86 → k ∉ a.gX :: fpv a.vg := fun B t1 t2 hm => by
    rcases List.mem_cons.1 hm with e | e
    · exact B.ne_ H1.out.1.x t1 e
    · exact H1.out.1.o.ne_blkV B (fun e => t2 e.symm) e
  have nI := hS H1.out.2.2 (by decide) (by decide)
  have ng := hS (H1.out.1.g g hg) (by decide) (by decide)
  have ns := hS (H1.out.1.s g hg) (by decide) (by decide)
  clear hS
  refine wp_region_takes (fuel := 4) 13 (fun w' => Chg (a.gX :: fpv a.vg) w1 w') [0, 1, 2, 3, 4, 5, 6, 7, 8, 9, 10, 11] (by kernel_rfl) (by kernel_rfl) (fun _ _ _ _ _ h => h) (((Chg.refl [] w1).drew.mono (by simp))) ?_
  simp only [List.filterMap_cons, List.filterMap_nil, qGa, qGb]
  iterate 12
    refine wpTake_step (fun K hK => ?_)
    rw [if_pos (by rfl)]
    refine ⟨?_, fun w' hS' => ?_, ?_⟩
    rotate_left 1
    focus
      have j0 := hS'.cellv lI nI i1
      have j1 := hS'.cellv lI nI i2
      have j2 := hS'.cellv lg ng s4
      have j3 := hS'.cellv ls ns k0
      go_simp
      try with_reducible rfl
      done
    simp only [Act.put, qSa, qSb, qSc]
    refine hK _ ?_
    clear hK K
  refine wpTake_nil ?_
  generalize hx0 : w1.drew = x0
  have D0 : Chg [] w1 x0 := by rw [← hx0]; exact (Chg.refl [] w1).drew
  clear hx0
  refine wpAnyS_ready (rs := [12]) (by kernel_rfl) (by simp) ?_
  refine AllReadyS.o (fun K hK => ?_)
  rw [if_pos (by rfl)]
  go_simp
  go_at_call 66
  refine (HH.out.2.2 x0 (H1.out.2.1.trans D0)).mono ?_
  intro e w2 hP
  obtain ⟨vg, gg, gs, he, X2, c2, hF⟩ := (H1.out.1.chg0 D0).spawnT hP
  subst he
  dsimp only
  have D2 : Chg (a.gX :: fpv a.vg) w1 w2 := (D0.mono (by simp)).trans c2
  refine hK _ _ (D2) ?_
  clear hK K
  try simp only [Act.put, qSa, qSb, qSc]
  refine wpAnyS_tail 13 3 (by kernel_rfl) rfl ?_
  simp only [qDa, qDb]
  have hgcS : gc ∉ a.gX :: fpv a.vg := fun hm => by
    rcases List.mem_cons.1 hm with e | e
    · exact HH.out.2.1.ne_ HH.out.1.x (by decide) e
    · exact HH.out.1.o.ne_blkV HH.out.2.1 (by decide) e
  have C2 := c2.blk ((H1.out.2.1.trans D0).blk HH.out.2.1 (by simp)) hgcS
  have z4 := C2.frozen 4
  have v4 : w2.cell? ⟨gc, 4, none⟩ = some (.int .i64 c.v) := C2.cellv 4 rfl
  have H2 := Lib.hid (And.intro X2 (And.intro c2 (And.intro C2 hF))); clear X2 c2 C2 hF hP D2
  go_wp2_with fail
  have c3 : Chg [gc] w2 (w2.setCell ⟨gc, 4, none⟩ (.int .i64 (X.n : Nat))) := (Chg.refl [gc] w2).setCell (.inl (by simp)) _
  have cc := H1.out.2.1.trans D0
  refine ⟨rfl, _, results_none rfl _ _ _, vg, gg, gs, rfl, H2.out.1.chg c3 (fun j hj hx => ?_), by have h := H2.out.2.2.1.set_ 4 (.int .i64 (X.n : Nat)); exact h, ((cc.mono (by simp)).trans (H2.out.2.1.mono fun k hk => .inl (by simp at hk ⊢; rcases hk with e | e; exact .inr (.inl e); exact .inr (.inr e)))).trans (c3.mono fun k hk => .inl (by simp at hk ⊢; exact .inl hk)), fun j hj => ?_⟩
  · have e : j = gc := by simpa using hj
    subst e
    have hx2 := H2.out.1
    rcases hx with e | e | ⟨i, hi, e | e⟩
    · exact H2.out.2.2.1.ne_ hx2.x (by decide) e
    · exact hx2.ne2 H2.out.2.2.1 (by decide) (by decide) e
    · exact H2.out.2.2.1.ne_ (hx2.g i hi) (by decide) e
    · exact H2.out.2.2.1.ne_ (hx2.s i hi) (by decide) e
  · rcases H2.out.2.2.2 j hj with e | e
    · exact .inl e
    · exact .inr (Nat.le_trans cc.size e)
end Go.Proofs.YtcpljjacamibeaaGreatDoor
