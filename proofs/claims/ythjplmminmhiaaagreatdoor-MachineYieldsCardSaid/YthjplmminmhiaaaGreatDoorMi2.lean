/- The document's model: plain, other, of Exit, Yield, Set, Dec, Jump. (Printed by wip/genmi2.py.) -/
import Derived.Test.YthjplmminmhiaaaGreatDoorMh6J
namespace Go.Proofs.YthjplmminmhiaaaGreatDoor
open Go.RowKit Go.Maps

def PlPost (a : XAt) (X2 : Mdl) (g : Nat) (v : Value) (w : World) (e : Ending) (w' : World) : Prop := e = .returned v ∧ XM w' a X2 ∧ Chg [a.gg g] w w'
set_option maxHeartbeats 6400000 in
set_option maxRecDepth 100000 in
theorem rplain_set (w : World) (a : XAt) (X : Mdl) (h : XM w a X) (g gc : Nat) (i : Ins) (hi : i.o = 16) (hg : g < X.n) (ha : i.a < 256) (hb : i.b < 256) :
    Calls Tryz.prog 113 #[.pointer (some ⟨a.gX, 0, none⟩), .int .i64 (g : Nat), insV i, .pointer (some ⟨gc, 0, none⟩)] w (PlPost a ({ X with gs := updV X.gs g { X.gs g with cnt := 256 * (i.a : Nat) + (i.b : Nat) } }) g (.bool true) w) := by
  obtain ⟨io, ia, ib, ic⟩ := i
  have hi : io = 16 := hi
  subst hi
  have ha : (ia : Int) < 256 := by have h : ia < 256 := ha; omega
  have hb : (ib : Int) < 256 := by have h : ib < 256 := hb; omega
  have em : (256 * (ia : Nat) + (ib : Nat) : Int) = (ia : Int) * 256 + (ib : Int) := by omega
  have e3 : (0 : Int) ≤ g := by omega
  have e4 : (g : Int) < (X.n : Int) := by omega
  have HH := Lib.hid h; clear h
  unfold insV
  go_enter Tryz.func113, Tryz.ntmps113
  go_upto_region 1 with fail
  obtain ⟨gI, hgI⟩ : ∃ g', g' = w.heap.size := ⟨_, rfl⟩
  obtain ⟨w1, hw1⟩ : ∃ w1, w1 = w.alloc (.cells #[.int .i64 16, .int .i64 (ia : Nat), .int .i64 (ib : Nat), .int .i64 (ic : Nat)] 33) := ⟨_, rfl⟩
  rw [← hw1, ← hgI]
  have BI : Blk w1 gI 33 #[.int .i64 16, .int .i64 (ia : Nat), .int .i64 (ib : Nat), .int .i64 (ic : Nat)] := by rw [hw1, hgI]; exact Blk.new _ _ _
  have c01 : Chg [] w w1 := by rw [hw1]; exact (Chg.refl [] w).alloc _
  have X1 := HH.out.chg0 c01
  have i0 : w1.cell? ⟨gI, 0, none⟩ = some (.int .i64 16) := BI.cellv 0 rfl
  have i1 : w1.cell? ⟨gI, 1, none⟩ = some (.int .i64 (ia : Nat)) := BI.cellv 1 rfl
  have i2 : w1.cell? ⟨gI, 2, none⟩ = some (.int .i64 (ib : Nat)) := BI.cellv 2 rfl
  have i3 : w1.cell? ⟨gI, 3, none⟩ = some (.int .i64 (ic : Nat)) := BI.cellv 3 rfl
  obtain ⟨b, cap, hvg, x2, y, hb', s0, s1, s2, s3, s4⟩ := X1.at_ hg
  have z0 := (X1.g g hg).frozen 0
  have z2 := (X1.g g hg).frozen 2
  have z3 := (X1.g g hg).frozen 3
  have H1 := Lib.hid (And.intro X1 (And.intro c01 BI)); clear X1 c01 BI hw1 hgI hvg
  go_wp2_with fail
  go_ret
  have cE : Chg [a.gg g] w1 (w1.setCell ⟨a.gg g, 3, none⟩ (.int .i64 ((ia : Int) * 256 + (ib : Int)))) := ((Chg.refl [a.gg g] w1).setCell (.inl (by simp)) _)
  exact ⟨rfl, H1.out.1.gset hg ({ X.gs g with cnt := (ia : Int) * 256 + (ib : Int) }) rfl cE (fun j hj => .inl (by simpa using hj)) (by have h := ((H1.out.1.g g hg).set_ 3 (.int .i64 ((ia : Int) * 256 + (ib : Int)))); exact h), (H1.out.2.1.mono (by simp)).trans cE⟩
set_option maxHeartbeats 6400000 in
set_option maxRecDepth 100000 in
theorem rplain_jump (w : World) (a : XAt) (X : Mdl) (h : XM w a X) (g gc : Nat) (i : Ins) (hi : i.o = 14) (hg : g < X.n) (ha : i.a < 256) (hb : i.b < 256) :
    Calls Tryz.prog 113 #[.pointer (some ⟨a.gX, 0, none⟩), .int .i64 (g : Nat), insV i, .pointer (some ⟨gc, 0, none⟩)] w (PlPost a ({ X with gs := updV X.gs g { X.gs g with pc := (i.a : Nat) } }) g (.bool true) w) := by
  obtain ⟨io, ia, ib, ic⟩ := i
  have hi : io = 14 := hi
  subst hi
  have ha : (ia : Int) < 256 := by have h : ia < 256 := ha; omega
  have hb : (ib : Int) < 256 := by have h : ib < 256 := hb; omega
  have e3 : (0 : Int) ≤ g := by omega
  have e4 : (g : Int) < (X.n : Int) := by omega
  have HH := Lib.hid h; clear h
  unfold insV
  go_enter Tryz.func113, Tryz.ntmps113
  go_upto_region 1 with fail
  obtain ⟨gI, hgI⟩ : ∃ g', g' = w.heap.size := ⟨_, rfl⟩
  obtain ⟨w1, hw1⟩ : ∃ w1, w1 = w.alloc (.cells #[.int .i64 14, .int .i64 (ia : Nat), .int .i64 (ib : Nat), .int .i64 (ic : Nat)] 33) := ⟨_, rfl⟩
  rw [← hw1, ← hgI]
  have BI : Blk w1 gI 33 #[.int .i64 14, .int .i64 (ia : Nat), .int .i64 (ib : Nat), .int .i64 (ic : Nat)] := by rw [hw1, hgI]; exact Blk.new _ _ _
  have c01 : Chg [] w w1 := by rw [hw1]; exact (Chg.refl [] w).alloc _
  have X1 := HH.out.chg0 c01
  have i0 : w1.cell? ⟨gI, 0, none⟩ = some (.int .i64 14) := BI.cellv 0 rfl
  have i1 : w1.cell? ⟨gI, 1, none⟩ = some (.int .i64 (ia : Nat)) := BI.cellv 1 rfl
  have i2 : w1.cell? ⟨gI, 2, none⟩ = some (.int .i64 (ib : Nat)) := BI.cellv 2 rfl
  have i3 : w1.cell? ⟨gI, 3, none⟩ = some (.int .i64 (ic : Nat)) := BI.cellv 3 rfl
  obtain ⟨b, cap, hvg, x2, y, hb', s0, s1, s2, s3, s4⟩ := X1.at_ hg
  have z0 := (X1.g g hg).frozen 0
  have z2 := (X1.g g hg).frozen 2
  have z3 := (X1.g g hg).frozen 3
  have H1 := Lib.hid (And.intro X1 (And.intro c01 BI)); clear X1 c01 BI hw1 hgI hvg
  go_wp2_with fail
  go_ret
  have cE : Chg [a.gg g] w1 (w1.setCell ⟨a.gg g, 2, none⟩ (.int .i64 (ia : Nat))) := ((Chg.refl [a.gg g] w1).setCell (.inl (by simp)) _)
  exact ⟨rfl, H1.out.1.gset hg ({ X.gs g with pc := (ia : Nat) }) rfl cE (fun j hj => .inl (by simpa using hj)) (by have h := ((H1.out.1.g g hg).set_ 2 (.int .i64 (ia : Nat))); exact h), (H1.out.2.1.mono (by simp)).trans cE⟩
set_option maxHeartbeats 6400000 in
set_option maxRecDepth 100000 in
theorem rplain_dec0 (w : World) (a : XAt) (X : Mdl) (h : XM w a X) (g gc : Nat) (i : Ins) (hi : i.o = 17) (hg : g < X.n) (ha : i.a < 256) (hb : i.b < 256) (hc : (X.gs g).cnt = 0) :
    Calls Tryz.prog 113 #[.pointer (some ⟨a.gX, 0, none⟩), .int .i64 (g : Nat), insV i, .pointer (some ⟨gc, 0, none⟩)] w (PlPost a (X) g (.bool true) w) := by
  obtain ⟨io, ia, ib, ic⟩ := i
  have hi : io = 17 := hi
  subst hi
  have ha : (ia : Int) < 256 := by have h : ia < 256 := ha; omega
  have hb : (ib : Int) < 256 := by have h : ib < 256 := hb; omega
  have e3 : (0 : Int) ≤ g := by omega
  have e4 : (g : Int) < (X.n : Int) := by omega
  have HH := Lib.hid h; clear h
  unfold insV
  go_enter Tryz.func113, Tryz.ntmps113
  go_upto_region 1 with fail
  obtain ⟨gI, hgI⟩ : ∃ g', g' = w.heap.size := ⟨_, rfl⟩
  obtain ⟨w1, hw1⟩ : ∃ w1, w1 = w.alloc (.cells #[.int .i64 17, .int .i64 (ia : Nat), .int .i64 (ib : Nat), .int .i64 (ic : Nat)] 33) := ⟨_, rfl⟩
  rw [← hw1, ← hgI]
  have BI : Blk w1 gI 33 #[.int .i64 17, .int .i64 (ia : Nat), .int .i64 (ib : Nat), .int .i64 (ic : Nat)] := by rw [hw1, hgI]; exact Blk.new _ _ _
  have c01 : Chg [] w w1 := by rw [hw1]; exact (Chg.refl [] w).alloc _
  have X1 := HH.out.chg0 c01
  have i0 : w1.cell? ⟨gI, 0, none⟩ = some (.int .i64 17) := BI.cellv 0 rfl
  have i1 : w1.cell? ⟨gI, 1, none⟩ = some (.int .i64 (ia : Nat)) := BI.cellv 1 rfl
  have i2 : w1.cell? ⟨gI, 2, none⟩ = some (.int .i64 (ib : Nat)) := BI.cellv 2 rfl
  have i3 : w1.cell? ⟨gI, 3, none⟩ = some (.int .i64 (ic : Nat)) := BI.cellv 3 rfl
  obtain ⟨b, cap, hvg, x2, y, hb', s0, s1, s2, s3, s4⟩ := X1.at_ hg
  have z0 := (X1.g g hg).frozen 0
  have z2 := (X1.g g hg).frozen 2
  have z3 := (X1.g g hg).frozen 3
  rw [hc] at s3
  have H1 := Lib.hid (And.intro X1 (And.intro c01 BI)); clear X1 c01 BI hw1 hgI hvg
  go_wp2_with fail
  go_ret
  exact ⟨rfl, H1.out.1, H1.out.2.1.mono (by simp)⟩
set_option maxHeartbeats 6400000 in
set_option maxRecDepth 100000 in
theorem rplain_dec (w : World) (a : XAt) (X : Mdl) (h : XM w a X) (g gc : Nat) (i : Ins) (hi : i.o = 17) (hg : g < X.n) (ha : i.a < 256) (hb : i.b < 256) (n : Nat) (hc : (X.gs g).cnt = (n : Nat)) (h1 : 1 ≤ n) (h2 : n ≤ 1000000) :
    Calls Tryz.prog 113 #[.pointer (some ⟨a.gX, 0, none⟩), .int .i64 (g : Nat), insV i, .pointer (some ⟨gc, 0, none⟩)] w (PlPost a ({ X with gs := updV X.gs g { X.gs g with pc := (i.a : Nat), cnt := (X.gs g).cnt - 1 } }) g (.bool true) w) := by
  obtain ⟨io, ia, ib, ic⟩ := i
  have hi : io = 17 := hi
  subst hi
  have ha : (ia : Int) < 256 := by have h : ia < 256 := ha; omega
  have hb : (ib : Int) < 256 := by have h : ib < 256 := hb; omega
  have e5 : (n : Int) > 0 := by omega
  have e3 : (0 : Int) ≤ g := by omega
  have e4 : (g : Int) < (X.n : Int) := by omega
  have HH := Lib.hid h; clear h
  unfold insV
  go_enter Tryz.func113, Tryz.ntmps113
  go_upto_region 1 with fail
  obtain ⟨gI, hgI⟩ : ∃ g', g' = w.heap.size := ⟨_, rfl⟩
  obtain ⟨w1, hw1⟩ : ∃ w1, w1 = w.alloc (.cells #[.int .i64 17, .int .i64 (ia : Nat), .int .i64 (ib : Nat), .int .i64 (ic : Nat)] 33) := ⟨_, rfl⟩
  rw [← hw1, ← hgI]
  have BI : Blk w1 gI 33 #[.int .i64 17, .int .i64 (ia : Nat), .int .i64 (ib : Nat), .int .i64 (ic : Nat)] := by rw [hw1, hgI]; exact Blk.new _ _ _
  have c01 : Chg [] w w1 := by rw [hw1]; exact (Chg.refl [] w).alloc _
  have X1 := HH.out.chg0 c01
  have i0 : w1.cell? ⟨gI, 0, none⟩ = some (.int .i64 17) := BI.cellv 0 rfl
  have i1 : w1.cell? ⟨gI, 1, none⟩ = some (.int .i64 (ia : Nat)) := BI.cellv 1 rfl
  have i2 : w1.cell? ⟨gI, 2, none⟩ = some (.int .i64 (ib : Nat)) := BI.cellv 2 rfl
  have i3 : w1.cell? ⟨gI, 3, none⟩ = some (.int .i64 (ic : Nat)) := BI.cellv 3 rfl
  obtain ⟨b, cap, hvg, x2, y, hb', s0, s1, s2, s3, s4⟩ := X1.at_ hg
  have z0 := (X1.g g hg).frozen 0
  have z2 := (X1.g g hg).frozen 2
  have z3 := (X1.g g hg).frozen 3
  rw [hc] at s3
  have H1 := Lib.hid (And.intro X1 (And.intro c01 BI)); clear X1 c01 BI hw1 hgI hvg
  go_wp2_with fail
  go_ret
  have cE : Chg [a.gg g] w1 ((w1.setCell ⟨a.gg g, 3, none⟩ (.int .i64 ((n : Int) - 1))).setCell ⟨a.gg g, 2, none⟩ (.int .i64 (ia : Nat))) := (((Chg.refl [a.gg g] w1).setCell (.inl (by simp)) _).setCell (.inl (by simp)) _)
  exact ⟨rfl, H1.out.1.gset hg ({ X.gs g with pc := (ia : Nat), cnt := (n : Int) - 1 }) rfl cE (fun j hj => .inl (by simpa using hj)) (by have h := (((H1.out.1.g g hg).set_ 3 (.int .i64 ((n : Int) - 1))).set_ 2 (.int .i64 (ia : Nat))); exact h), (H1.out.2.1.mono (by simp)).trans cE⟩
set_option maxHeartbeats 6400000 in
set_option maxRecDepth 100000 in
theorem rplain_exit (w : World) (a : XAt) (X : Mdl) (h : XM w a X) (g gc : Nat) (i : Ins) (hi : i.o = 0) (hg : g < X.n) (ha : i.a < 256) (hb : i.b < 256) :
    Calls Tryz.prog 113 #[.pointer (some ⟨a.gX, 0, none⟩), .int .i64 (g : Nat), insV i, .pointer (some ⟨gc, 0, none⟩)] w (NwPost (.bool false) w) := by
  obtain ⟨io, ia, ib, ic⟩ := i
  have hi : io = 0 := hi
  subst hi
  have ha : (ia : Int) < 256 := by have h : ia < 256 := ha; omega
  have hb : (ib : Int) < 256 := by have h : ib < 256 := hb; omega
  have e3 : (0 : Int) ≤ g := by omega
  have e4 : (g : Int) < (X.n : Int) := by omega
  have HH := Lib.hid h; clear h
  unfold insV
  go_enter Tryz.func113, Tryz.ntmps113
  go_upto_region 1 with fail
  obtain ⟨gI, hgI⟩ : ∃ g', g' = w.heap.size := ⟨_, rfl⟩
  obtain ⟨w1, hw1⟩ : ∃ w1, w1 = w.alloc (.cells #[.int .i64 0, .int .i64 (ia : Nat), .int .i64 (ib : Nat), .int .i64 (ic : Nat)] 33) := ⟨_, rfl⟩
  rw [← hw1, ← hgI]
  have BI : Blk w1 gI 33 #[.int .i64 0, .int .i64 (ia : Nat), .int .i64 (ib : Nat), .int .i64 (ic : Nat)] := by rw [hw1, hgI]; exact Blk.new _ _ _
  have c01 : Chg [] w w1 := by rw [hw1]; exact (Chg.refl [] w).alloc _
  have X1 := HH.out.chg0 c01
  have i0 : w1.cell? ⟨gI, 0, none⟩ = some (.int .i64 0) := BI.cellv 0 rfl
  have i1 : w1.cell? ⟨gI, 1, none⟩ = some (.int .i64 (ia : Nat)) := BI.cellv 1 rfl
  have i2 : w1.cell? ⟨gI, 2, none⟩ = some (.int .i64 (ib : Nat)) := BI.cellv 2 rfl
  have i3 : w1.cell? ⟨gI, 3, none⟩ = some (.int .i64 (ic : Nat)) := BI.cellv 3 rfl
  obtain ⟨b, cap, hvg, x2, y, hb', s0, s1, s2, s3, s4⟩ := X1.at_ hg
  have z0 := (X1.g g hg).frozen 0
  have z2 := (X1.g g hg).frozen 2
  have z3 := (X1.g g hg).frozen 3
  have H1 := Lib.hid (And.intro X1 (And.intro c01 BI)); clear X1 c01 BI hw1 hgI hvg
  go_wp2_with fail
  go_ret
  exact ⟨rfl, H1.out.2.1⟩
set_option maxHeartbeats 6400000 in
set_option maxRecDepth 100000 in
theorem rplain_spawn (w : World) (a : XAt) (X : Mdl) (h : XM w a X) (g gc : Nat) (i : Ins) (hi : i.o = 8) (hg : g < X.n) (ha : i.a < 256) (hb : i.b < 256) :
    Calls Tryz.prog 113 #[.pointer (some ⟨a.gX, 0, none⟩), .int .i64 (g : Nat), insV i, .pointer (some ⟨gc, 0, none⟩)] w (NwPost (.bool false) w) := by
  obtain ⟨io, ia, ib, ic⟩ := i
  have hi : io = 8 := hi
  subst hi
  have ha : (ia : Int) < 256 := by have h : ia < 256 := ha; omega
  have hb : (ib : Int) < 256 := by have h : ib < 256 := hb; omega
  have e3 : (0 : Int) ≤ g := by omega
  have e4 : (g : Int) < (X.n : Int) := by omega
  have HH := Lib.hid h; clear h
  unfold insV
  go_enter Tryz.func113, Tryz.ntmps113
  go_upto_region 1 with fail
  obtain ⟨gI, hgI⟩ : ∃ g', g' = w.heap.size := ⟨_, rfl⟩
  obtain ⟨w1, hw1⟩ : ∃ w1, w1 = w.alloc (.cells #[.int .i64 8, .int .i64 (ia : Nat), .int .i64 (ib : Nat), .int .i64 (ic : Nat)] 33) := ⟨_, rfl⟩
  rw [← hw1, ← hgI]
  have BI : Blk w1 gI 33 #[.int .i64 8, .int .i64 (ia : Nat), .int .i64 (ib : Nat), .int .i64 (ic : Nat)] := by rw [hw1, hgI]; exact Blk.new _ _ _
  have c01 : Chg [] w w1 := by rw [hw1]; exact (Chg.refl [] w).alloc _
  have X1 := HH.out.chg0 c01
  have i0 : w1.cell? ⟨gI, 0, none⟩ = some (.int .i64 8) := BI.cellv 0 rfl
  have i1 : w1.cell? ⟨gI, 1, none⟩ = some (.int .i64 (ia : Nat)) := BI.cellv 1 rfl
  have i2 : w1.cell? ⟨gI, 2, none⟩ = some (.int .i64 (ib : Nat)) := BI.cellv 2 rfl
  have i3 : w1.cell? ⟨gI, 3, none⟩ = some (.int .i64 (ic : Nat)) := BI.cellv 3 rfl
  obtain ⟨b, cap, hvg, x2, y, hb', s0, s1, s2, s3, s4⟩ := X1.at_ hg
  have z0 := (X1.g g hg).frozen 0
  have z2 := (X1.g g hg).frozen 2
  have z3 := (X1.g g hg).frozen 3
  have H1 := Lib.hid (And.intro X1 (And.intro c01 BI)); clear X1 c01 BI hw1 hgI hvg
  go_wp2_with fail
  go_ret
  exact ⟨rfl, H1.out.2.1⟩
set_option maxHeartbeats 6400000 in
set_option maxRecDepth 100000 in
theorem rplain_yield (w : World) (a : XAt) (X : Mdl) (h : XM w a X) (g gc : Nat) (i : Ins) (hi : i.o = 9) (hg : g < X.n) (ha : i.a < 256) (hb : i.b < 256) :
    Calls Tryz.prog 113 #[.pointer (some ⟨a.gX, 0, none⟩), .int .i64 (g : Nat), insV i, .pointer (some ⟨gc, 0, none⟩)] w (NwPost (.bool false) w) := by
  obtain ⟨io, ia, ib, ic⟩ := i
  have hi : io = 9 := hi
  subst hi
  have ha : (ia : Int) < 256 := by have h : ia < 256 := ha; omega
  have hb : (ib : Int) < 256 := by have h : ib < 256 := hb; omega
  have e3 : (0 : Int) ≤ g := by omega
  have e4 : (g : Int) < (X.n : Int) := by omega
  have HH := Lib.hid h; clear h
  unfold insV
  go_enter Tryz.func113, Tryz.ntmps113
  go_upto_region 1 with fail
  obtain ⟨gI, hgI⟩ : ∃ g', g' = w.heap.size := ⟨_, rfl⟩
  obtain ⟨w1, hw1⟩ : ∃ w1, w1 = w.alloc (.cells #[.int .i64 9, .int .i64 (ia : Nat), .int .i64 (ib : Nat), .int .i64 (ic : Nat)] 33) := ⟨_, rfl⟩
  rw [← hw1, ← hgI]
  have BI : Blk w1 gI 33 #[.int .i64 9, .int .i64 (ia : Nat), .int .i64 (ib : Nat), .int .i64 (ic : Nat)] := by rw [hw1, hgI]; exact Blk.new _ _ _
  have c01 : Chg [] w w1 := by rw [hw1]; exact (Chg.refl [] w).alloc _
  have X1 := HH.out.chg0 c01
  have i0 : w1.cell? ⟨gI, 0, none⟩ = some (.int .i64 9) := BI.cellv 0 rfl
  have i1 : w1.cell? ⟨gI, 1, none⟩ = some (.int .i64 (ia : Nat)) := BI.cellv 1 rfl
  have i2 : w1.cell? ⟨gI, 2, none⟩ = some (.int .i64 (ib : Nat)) := BI.cellv 2 rfl
  have i3 : w1.cell? ⟨gI, 3, none⟩ = some (.int .i64 (ic : Nat)) := BI.cellv 3 rfl
  obtain ⟨b, cap, hvg, x2, y, hb', s0, s1, s2, s3, s4⟩ := X1.at_ hg
  have z0 := (X1.g g hg).frozen 0
  have z2 := (X1.g g hg).frozen 2
  have z3 := (X1.g g hg).frozen 3
  have H1 := Lib.hid (And.intro X1 (And.intro c01 BI)); clear X1 c01 BI hw1 hgI hvg
  go_wp2_with fail
  go_ret
  exact ⟨rfl, H1.out.2.1⟩
set_option maxHeartbeats 6400000 in
set_option maxRecDepth 100000 in
theorem rother_exit (w : World) (a : XAt) (X : Mdl) (h : XM w a X) (g gc : Nat) (i : Ins) (hi : i.o = 0) (hg : g < X.n) (ha : i.a < 256) (hb : i.b < 256) :
    Calls Tryz.prog 114 #[.pointer (some ⟨a.gX, 0, none⟩), .int .i64 (g : Nat), insV i, .pointer (some ⟨gc, 0, none⟩)] w (PlPost a ({ X with gs := updV X.gs g { X.gs g with st := 5 } }) g (.tuple #[]) w) := by
  obtain ⟨io, ia, ib, ic⟩ := i
  have hi : io = 0 := hi
  subst hi
  have ha : (ia : Int) < 256 := by have h : ia < 256 := ha; omega
  have hb : (ib : Int) < 256 := by have h : ib < 256 := hb; omega
  have e3 : (0 : Int) ≤ g := by omega
  have e4 : (g : Int) < (X.n : Int) := by omega
  have HH := Lib.hid h; clear h
  unfold insV
  go_enter Tryz.func114, Tryz.ntmps114
  go_upto_region 1 with fail
  obtain ⟨gI, hgI⟩ : ∃ g', g' = w.heap.size := ⟨_, rfl⟩
  obtain ⟨w1, hw1⟩ : ∃ w1, w1 = w.alloc (.cells #[.int .i64 0, .int .i64 (ia : Nat), .int .i64 (ib : Nat), .int .i64 (ic : Nat)] 33) := ⟨_, rfl⟩
  rw [← hw1, ← hgI]
  have BI : Blk w1 gI 33 #[.int .i64 0, .int .i64 (ia : Nat), .int .i64 (ib : Nat), .int .i64 (ic : Nat)] := by rw [hw1, hgI]; exact Blk.new _ _ _
  have c01 : Chg [] w w1 := by rw [hw1]; exact (Chg.refl [] w).alloc _
  have X1 := HH.out.chg0 c01
  have i0 : w1.cell? ⟨gI, 0, none⟩ = some (.int .i64 0) := BI.cellv 0 rfl
  have i1 : w1.cell? ⟨gI, 1, none⟩ = some (.int .i64 (ia : Nat)) := BI.cellv 1 rfl
  have i2 : w1.cell? ⟨gI, 2, none⟩ = some (.int .i64 (ib : Nat)) := BI.cellv 2 rfl
  have i3 : w1.cell? ⟨gI, 3, none⟩ = some (.int .i64 (ic : Nat)) := BI.cellv 3 rfl
  obtain ⟨b, cap, hvg, x2, y, hb', s0, s1, s2, s3, s4⟩ := X1.at_ hg
  have z0 := (X1.g g hg).frozen 0
  have z2 := (X1.g g hg).frozen 2
  have z3 := (X1.g g hg).frozen 3
  have H1 := Lib.hid (And.intro X1 (And.intro c01 BI)); clear X1 c01 BI hw1 hgI hvg
  go_wp2_with fail
  have cE : Chg [a.gg g] w1 (w1.setCell ⟨a.gg g, 0, none⟩ (.int .i64 5)) := ((Chg.refl [a.gg g] w1).setCell (.inl (by simp)) _)
  exact ⟨rfl, _, results_none rfl _ _ _, rfl, H1.out.1.gset hg ({ X.gs g with st := 5 }) rfl cE (fun j hj => .inl (by simpa using hj)) (by have h := ((H1.out.1.g g hg).set_ 0 (.int .i64 5)); exact h), (H1.out.2.1.mono (by simp)).trans cE⟩
set_option maxHeartbeats 6400000 in
set_option maxRecDepth 100000 in
theorem rother_yield (w : World) (a : XAt) (X : Mdl) (h : XM w a X) (g gc : Nat) (i : Ins) (hi : i.o = 9) (hg : g < X.n) (ha : i.a < 256) (hb : i.b < 256) :
    Calls Tryz.prog 114 #[.pointer (some ⟨a.gX, 0, none⟩), .int .i64 (g : Nat), insV i, .pointer (some ⟨gc, 0, none⟩)] w (PlPost a (X) g (.tuple #[]) w) := by
  obtain ⟨io, ia, ib, ic⟩ := i
  have hi : io = 9 := hi
  subst hi
  have ha : (ia : Int) < 256 := by have h : ia < 256 := ha; omega
  have hb : (ib : Int) < 256 := by have h : ib < 256 := hb; omega
  have e3 : (0 : Int) ≤ g := by omega
  have e4 : (g : Int) < (X.n : Int) := by omega
  have HH := Lib.hid h; clear h
  unfold insV
  go_enter Tryz.func114, Tryz.ntmps114
  go_upto_region 1 with fail
  obtain ⟨gI, hgI⟩ : ∃ g', g' = w.heap.size := ⟨_, rfl⟩
  obtain ⟨w1, hw1⟩ : ∃ w1, w1 = w.alloc (.cells #[.int .i64 9, .int .i64 (ia : Nat), .int .i64 (ib : Nat), .int .i64 (ic : Nat)] 33) := ⟨_, rfl⟩
  rw [← hw1, ← hgI]
  have BI : Blk w1 gI 33 #[.int .i64 9, .int .i64 (ia : Nat), .int .i64 (ib : Nat), .int .i64 (ic : Nat)] := by rw [hw1, hgI]; exact Blk.new _ _ _
  have c01 : Chg [] w w1 := by rw [hw1]; exact (Chg.refl [] w).alloc _
  have X1 := HH.out.chg0 c01
  have i0 : w1.cell? ⟨gI, 0, none⟩ = some (.int .i64 9) := BI.cellv 0 rfl
  have i1 : w1.cell? ⟨gI, 1, none⟩ = some (.int .i64 (ia : Nat)) := BI.cellv 1 rfl
  have i2 : w1.cell? ⟨gI, 2, none⟩ = some (.int .i64 (ib : Nat)) := BI.cellv 2 rfl
  have i3 : w1.cell? ⟨gI, 3, none⟩ = some (.int .i64 (ic : Nat)) := BI.cellv 3 rfl
  obtain ⟨b, cap, hvg, x2, y, hb', s0, s1, s2, s3, s4⟩ := X1.at_ hg
  have z0 := (X1.g g hg).frozen 0
  have z2 := (X1.g g hg).frozen 2
  have z3 := (X1.g g hg).frozen 3
  have H1 := Lib.hid (And.intro X1 (And.intro c01 BI)); clear X1 c01 BI hw1 hgI hvg
  go_wp2_with fail
  exact ⟨rfl, _, results_none rfl _ _ _, rfl, H1.out.1, H1.out.2.1.mono (by simp)⟩
end Go.Proofs.YthjplmminmhiaaaGreatDoor
