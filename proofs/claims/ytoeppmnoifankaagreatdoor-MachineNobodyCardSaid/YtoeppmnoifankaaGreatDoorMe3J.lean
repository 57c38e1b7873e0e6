/- Package machine: Commits, Commit. -/
/- Package machine: New of a script that does not decode; the two scripts that told() asks with. -/
import Derived.Test.YtoeppmnoifankaaGreatDoorMe0
namespace Go.Proofs.YtoeppmnoifankaaGreatDoor
open Go.RowKit Go.Maps

theorem ld_cm (w : World) {g : Nat} {a b c d e f : Value} (h : Blk w g 53 #[a, b, c, d, e, f]) : (loadVar 53 ⟨g, 0, none⟩).run Tryz.prog w = .ok (.agg #[a, b, c, d, e, f]) w := run_loadVar_row w g _ _ _ (0, 0) _ h Tryz.underlying53 rfl (by kernel_rfl)
section
variable {W : Bs} {w : World} {p : MAt} {m : Mac} (M : MM W w p m)
include M
set_option maxHeartbeats 1600000 in
set_option maxRecDepth 100000 in
theorem m_commits : Calls Tryz.prog 16 #[.pointer (some ⟨p.gm, 0, none⟩)] w (QuPost (.int .i64 (m.cms.length : Nat)) w) := by
  have O : OwnG comC 6 53 w p.vco m.cms := M.k .commits
  obtain ⟨A, c, hv⟩ := O.slice
  have c24 : w.cell? ⟨p.gm, 24, none⟩ = some p.vco := M.mb.cellv 24 rfl
  rw [hv] at c24
  clear hv O M
  go_enter Tryz.func16, Tryz.ntmps16
  go_wp2_with fail
  go_ret
  exact ⟨rfl, rfl⟩
set_option maxHeartbeats 1600000 in
set_option maxRecDepth 100000 in
theorem m_commit_at (i : Nat) (x : ComA) (hx : m.cms[i]? = some x) : Calls Tryz.prog 14 #[.pointer (some ⟨p.gm, 0, none⟩), .int .i64 (i : Nat)] w (NwPost (.tuple #[.agg (comC x).toArray, .bool true]) w) := by
  have O : OwnG comC 6 53 w p.vco m.cms := M.k .commits
  have hi := (List.getElem?_eq_some_iff.1 hx).1
  have KC := fun (w' : World) (c : Chg [] w w') => m_commits (M.chg0 c)
  have HKC := Lib.hid KC; clear KC
  have HM := Lib.hid (And.intro M (And.intro O hx)); clear M O hx
  go_enter Tryz.func14, Tryz.ntmps14
  go_upto_region 1 with fail
  obtain ⟨w1, hw1⟩ : ∃ w1, w1 = w.alloc (.cells #[.int .i64 0, .int .i64 0, .int .i64 0, .int .i64 0, .int .i64 0, .bool false] 53) := ⟨_, rfl⟩
  obtain ⟨gE, hgE⟩ : ∃ gE, gE = w.heap.size := ⟨_, rfl⟩
  rw [← hw1, ← hgE]
  have B1 : Blk w1 gE 53 #[.int .i64 0, .int .i64 0, .int .i64 0, .int .i64 0, .int .i64 0, .bool false] := by rw [hw1, hgE]; exact Blk.new _ _ _
  have c01 : Chg [] w w1 := by rw [hw1]; exact (Chg.refl [] w).alloc _
  have O1 := HM.out.2.1.chg0 c01
  obtain ⟨A, cp, hv⟩ := O1.slice
  have c24 : w1.cell? ⟨p.gm, 24, none⟩ = some p.vco := (HM.out.1.chg0 c01).mb.cellv 24 rfl
  rw [hv] at c24 O1
  obtain ⟨gb, hA, hc, -, -, hnc, hlt⟩ := O1.cell comC_len HM.out.2.2
  subst hA
  have i0 : w1.cell? ⟨gb, i * 6, none⟩ = some (.int .i64 x.g) := hc 0 _ rfl
  have i1 : w1.cell? ⟨gb, i * 6 + 1, none⟩ = some (.int .i64 x.f) := hc 1 _ rfl
  have i2 : w1.cell? ⟨gb, i * 6 + 2, none⟩ = some (.int .i64 x.pc) := hc 2 _ rfl
  have i3 : w1.cell? ⟨gb, i * 6 + 3, none⟩ = some (.int .i64 x.op) := hc 3 _ rfl
  have i4 : w1.cell? ⟨gb, i * 6 + 4, none⟩ = some (.int .i64 x.v) := hc 4 _ rfl
  have i5 : w1.cell? ⟨gb, i * 6 + 5, none⟩ = some (.bool x.flt) := hc 5 _ rfl
  have k0 : w1.cell? ⟨gE, 0, none⟩ = some (.int .i64 0) := B1.cellv 0 rfl
  have k1 : w1.cell? ⟨gE, 1, none⟩ = some (.int .i64 0) := B1.cellv 1 rfl
  have k2 : w1.cell? ⟨gE, 2, none⟩ = some (.int .i64 0) := B1.cellv 2 rfl
  have k3 : w1.cell? ⟨gE, 3, none⟩ = some (.int .i64 0) := B1.cellv 3 rfl
  have k4 : w1.cell? ⟨gE, 4, none⟩ = some (.int .i64 0) := B1.cellv 4 rfl
  have k5 : w1.cell? ⟨gE, 5, none⟩ = some (.bool false) := B1.cellv 5 rfl
  have f0 := B1.frozen 0
  have f1 := B1.frozen 1
  have f2 := B1.frozen 2
  have f3 := B1.frozen 3
  have f4 := B1.frozen 4
  have f5 := B1.frozen 5
  have hge : w.heap.size ≤ gE := by omega
  have H1 := Lib.hid (And.intro B1 (And.intro c01 hge)); clear B1 c01 hge hw1 hgE O1 hc hv hnc hlt
  have e1 : ¬ (i : Int) < 0 := by omega
  have e2 : ¬ ((m.cms.length : Nat) : Int) ≤ (i : Int) := by omega
  have e3 : (i : Int) < ((m.cms.length : Nat) : Int) := by omega
  have e4 : (0 : Int) ≤ i := by omega
  go_wp2_with fail
  refine (HKC.out w1 H1.out.2.1).mono ?_
  rintro e w2 ⟨rfl, rfl⟩
  go_wp2_with fail
  have B2 := (((((H1.out.1.setv 0 (.int .i64 x.g) rfl).setv 1 (.int .i64 x.f) rfl).setv 2 (.int .i64 x.pc) rfl).setv 3 (.int .i64 x.op) rfl).setv 4 (.int .i64 x.v) rfl).setv 5 (.bool x.flt) (cs' := #[.int .i64 x.g, .int .i64 x.f, .int .i64 x.pc, .int .i64 x.op, .int .i64 x.v, .bool x.flt]) rfl
  refine ⟨rfl, _, results_ct (P := Tryz.prog) (fn := Tryz.f14) rfl (by rfl) (by rfl) (ld_cm _ B2), rfl, ?_⟩
  exact H1.out.2.1.newS ((((((((Chg.refl [gE] _).setCell (.inl (by simp)) _).setCell (.inl (by simp)) _).setCell (.inl (by simp)) _).setCell (.inl (by simp)) _).setCell (.inl (by simp)) _).setCell (.inl (by simp)) _)) (fun k hk => by have e : k = gE := (by simpa using hk); have := H1.out.2.2; omega)
end
end Go.Proofs.YtoeppmnoifankaaGreatDoor
namespace Go.Proofs.YtoeppmnoifankaaGreatDoor
open Go.RowKit Go.Maps

set_option maxHeartbeats 6400000 in
set_option maxRecDepth 100000 in
theorem m_new_bad (w : World) (P n wo k : Nat) (b1 b2 : Nat) (vb : Value) (bs : List Nat) (hP1 : 1 ≤ P) (hP : P ≤ 64) (hn : 4 ≤ n) (hn2 : n ≤ 262144) (R : RdV w w.heap.size vb (u8s bs)) (hl : bs.length ≤ 100000) (hb : ∀ x ∈ bs, x < 256) (hd : decP bs = .error k) (hwo : wo = n * 64) :
    Calls Tryz.prog 27 #[.agg #[.int .i64 (P : Nat), .int .i64 (wo : Nat), .float .f64 b1, .float .f64 b2], vb] w (NwPost (.tuple #[.pointer none, .int .i64 6, .int .i64 (k : Nat)]) w) := by
  have HR := Lib.hid R; clear R
  have KM := fun w' => cf_may w' P wo b1 b2 hP1 hP (by omega) (by omega) (by omega)
  have HKM := Lib.hid KM; clear KM
  have Hwo := Lib.hid hwo; clear hwo
  go_enter Tryz.func27, Tryz.ntmps27
  obtain ⟨gc, hgc⟩ : ∃ gc, gc = w.heap.size := ⟨_, rfl⟩
  obtain ⟨w1, hw1⟩ : ∃ w1, w1 = w.alloc (.cells #[.int .i64 (P : Nat), .int .i64 (wo : Nat), .float .f64 b1, .float .f64 b2] 24) := ⟨_, rfl⟩
  have B1 : Blk w1 gc 24 #[.int .i64 (P : Nat), .int .i64 (wo : Nat), .float .f64 b1, .float .f64 b2] := by rw [hw1, hgc]; exact Blk.new _ _ _
  have c01 : Chg [] w w1 := by rw [hw1]; exact (Chg.refl [] w).alloc _
  go_upto_region 1 with fail
  rw [← hw1, ← hgc]
  have q0 : w1.cell? ⟨gc, 0, none⟩ = some (.int .i64 (P : Nat)) := B1.cellv 0 rfl
  have q1 : w1.cell? ⟨gc, 1, none⟩ = some (.int .i64 (wo : Nat)) := B1.cellv 1 rfl
  have q2 : w1.cell? ⟨gc, 2, none⟩ = some (.float .f64 b1) := B1.cellv 2 rfl
  have q3 : w1.cell? ⟨gc, 3, none⟩ = some (.float .f64 b2) := B1.cellv 3 rfl
  have H1 := Lib.hid (And.intro B1 (And.intro c01 hgc)); clear B1 c01 hw1 hgc
  go_wp2_with fail
  refine (HKM.out w1).mono ?_
  rintro e w2 ⟨rfl, c12⟩
  have c02 := H1.out.2.1.trans c12
  have R2 : RdV w2 w2.heap.size vb (u8s bs) := (HR.out.chg c02 (Nat.le_refl _) (by simp)).mono c02.size
  have H2 := Lib.hid (And.intro R2 c02); clear R2 c02 c12 q0 q1 q2 q3
  go_wp2_with fail
  refine (cd_decode w2 vb bs H2.out.1 hl hb).mono ?_
  rintro e w3 (⟨G', fs', vfn, vf, hd', rfl, If, nf, c23⟩ | ⟨k', hd', rfl, c23⟩)
  · rw [hd] at hd'; cases hd'
  · have ee : k = k' := by rw [hd] at hd'; injection hd'
    obtain rfl := ee
    have H3 := Lib.hid c23; clear c23 hd' hd
    go_wp2_with fail
    go_ret3
    refine ⟨rfl, ?_⟩
    have c04 := H2.out.2.trans H3.out
    have c4 : Chg [] w (w3.alloc (.cells #[.int .i64 0, .slice none 0 0] 30)) := c04.alloc _
    first
      | exact c4
      | exact c4.newS (T := [w3.heap.size]) ((((Chg.refl [w3.heap.size] _).setCell (.inl (by simp)) _).setCell (.inl (by simp)) _)) (fun k hk => by have e : k = w3.heap.size := (by simpa using hk); have := c04.size; omega)
theorem dec28_bad : decP [1, 0, 1, 99, 0, 0, 0] = .error 3 := by rfl
theorem dec28_ok : ∃ i : Ins, decP [1, 0, 1, 0, 0, 0, 0] = .ok (0, [[i]]) ∧ i.o = 0 := ⟨_, rfl, rfl⟩
end Go.Proofs.YtoeppmnoifankaaGreatDoor
