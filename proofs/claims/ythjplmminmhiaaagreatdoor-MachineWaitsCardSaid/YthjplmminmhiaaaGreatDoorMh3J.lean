/- MachineYields, in plain Lean: the step. -/
/- MachineYields: the machine keeps the invariant, from its beginning on. -/
/- MachineYields: machine and model keep step, whatever the run. -/
/- MachineYields: goroutines that yield to one another on one P all come to their ends, each with all of its yields. (Printed by wip/genmi9.py.) -/
/- MachineWaits: two goroutines that wake one another in turns; when one is left waiting it is a deadlock. (Printed by wip/genml10.py.) -/
/- A closed fact of MachineWaits's row. -/
/- A choice, read off an argument. -/
/- A configuration, read off an argument. -/
/- The last step of a law's row: the call returned true and nothing that was there has changed. No program's number in sight. -/
import Derived.Test.YthjplmminmhiaaaGreatDoorMi7J
import Derived.Test.YthjplmminmhiaaaGreatDoorMf5J
import Derived.Test.YthjplmminmhiaaaGreatDoorMe3J
import Derived.Test.YthjplmminmhiaaaGreatDoorMl8J
import Derived.Test.YthjplmminmhiaaaGreatDoorRows
import Derived.OpenShut
import Derived.WalkKit
import Derived.ProofKit
import Derived.Lib.SmallJoins
import Derived.Test.YthjplmminmhiaaaGreatDoorMemJ
import Derived.Carry
import Derived.Deep.Slices
import Derived.Deep.Fields
namespace Go.Proofs.YthjplmminmhiaaaGreatDoor
open Go.RowKit Go.Maps

section
variable {k y s i : Nat} {m : Mac} {L : List Nat}
end
end Go.Proofs.YthjplmminmhiaaaGreatDoor
namespace Go.Proofs.YthjplmminmhiaaaGreatDoor
open Go.RowKit Go.Maps

section
variable {k y s i : Nat} {m : Mac} {g : Nat} {L : List Nat}
end
end Go.Proofs.YthjplmminmhiaaaGreatDoor
namespace Go.Proofs.YthjplmminmhiaaaGreatDoor
open Go.RowKit Go.Maps

/-- Behind i steps; the run stands at s. -/
def YJ (k y : Nat) (wB : World) (gW : Nat) (wo : Int) (b1 b2 : Nat) (va vf : Value) (i : Nat) (s : Int) (w : World) : Prop :=
  ∃ p m a X Q cP cV, BothM wB w gW (1 : Nat) wo b1 b2 va cP cV p m a X ∧ Rel m X ∧ YI k y i i m Q ∧ s = stV m ∧ (p.vq = .slice none 0 0 ∧ p.vtm = .slice none 0 0 ∧ p.vfr = .slice none 0 0) ∧ a.vf = vf ∧ a.ck = 0
end Go.Proofs.YthjplmminmhiaaaGreatDoor
namespace Go.Proofs.YthjplmminmhiaaaGreatDoor
open Go.RowKit Go.Maps

theorem rdG_blk {α : Type} {f : α → List Value} {sz : Nat} {E : TypeId} {w : World} {g n c : Nat} {cs : Array Value} {xs : List α} (hf : ∀ x, (f x).length = sz) (B : Blk w g E cs) (hcs : cs = (xs.flatMap f).toArray) (hn : n = xs.length) : RdG f sz w w.heap.size (.slice (some ⟨g, 0, none⟩) n c) xs := by
  subst hcs hn
  refine ⟨⟨_, _, rfl⟩, fun A' n c' e i x hx => ?_⟩
  injection e with e1 e2 e3
  refine ⟨g, 0, e1.symm, B.lt, fun j u hu => ?_⟩
  have hj : j < sz := by have := (List.getElem?_eq_some_iff.1 hu).1; rw [hf] at this; exact this
  rw [Nat.zero_add]
  refine B.cellv _ ?_
  rw [List.getElem?_toArray, flat_at hf hx hj]
  exact hu
/-- A program of two functions. -/
theorem PrR.two {w : World} {gF c : Nat} {v1 v2 : Value} {l1 l2 : List Ins} (BF : Blk w gF 34 #[v1, v2]) (R1 : RdG insC 4 w w.heap.size v1 l1) (R2 : RdG insC 4 w w.heap.size v2 l2) : PrR w w.heap.size (.slice (some ⟨gF, 0, none⟩) 2 c) [v1, v2] [l1, l2] := by
  obtain ⟨A1, c1, e1⟩ := R1.ex
  obtain ⟨A2, c2, e2⟩ := R2.ex
  refine ⟨⟨⟨_, _, rfl⟩, fun A n c' e i y hy => ?_, fun y hy => ?_⟩, rfl, fun i u l h1 h2 => ?_⟩
  · injection e with e3 e4 e5
    refine ⟨gF, 0, e3.symm, BF.lt, ?_⟩
    rw [Nat.zero_add]
    exact BF.cellv _ (by rw [← hy]; exact List.getElem?_toArray)
  · rcases List.mem_cons.1 hy with rfl | hy
    · rw [e1]; rfl
    · rw [List.mem_singleton.1 hy, e2]; rfl
  · match i with
    | 0 =>
      have e3 : v1 = u := by simpa using h1
      have e4 : l1 = l := by simpa using h2
      subst e3 e4; exact R1
    | 1 =>
      have e3 : v2 = u := by simpa using h1
      have e4 : l2 = l := by simpa using h2
      subst e3 e4; exact R2
    | i + 2 => simp at h1
instance decOkIns (G F S : Nat) (i : Ins) : Decidable (okIns G F S i) := by unfold okIns; infer_instance
/-- Numbers as cells. -/
def dnC (n : Nat) (f : Nat → Nat) : Array Value := ((List.range n).map fun j => Value.int .i64 ((f j : Nat) : Int)).toArray
def YcRel (w7 : World) (k gd : Nat) (cms : List ComA) (gk : Nat) (idx : Value) (w : World) : Prop := ∃ j : Nat, gk + j = cms.length + 1 ∧ j ≤ cms.length ∧ idx = .int .i64 (j : Nat) ∧ Blk w gd 3 (dnC (k + 1) (yds (cms.take j))) ∧ Chg [] w7 w
def YeRel (w8 : World) (k : Nat) (gk : Nat) (idx : Value) (w : World) : Prop := ∃ j : Nat, gk + j = k + 2 ∧ 1 ≤ j ∧ j ≤ k + 1 ∧ idx = .int .i64 (j : Nat) ∧ Chg [] w8 w
def YfRel (w1 : World) (k : Nat) (gk : Nat) (v idx : Value) (w : World) : Prop := ∃ (i : Nat) (A : Option Addr) (c : Nat), gk + i = k + 1 ∧ i ≤ k ∧ idx = .int .i64 (i : Nat) ∧ v = .slice A i c ∧ OwnG insC 4 33 w (.slice A i c) (List.replicate i ⟨8, 1, 0, 0⟩) ∧ (∀ b ∈ fpv (.slice A i c), w1.heap.size ≤ b) ∧ Chg [] w1 w
end Go.Proofs.YthjplmminmhiaaaGreatDoor
namespace Go.Proofs.YthjplmminmhiaaaGreatDoor
open Go.RowKit Go.Maps

def SkRel (w0 : World) (X : Mdl) (gk : Nat) (v idx : Value) (w : World) : Prop := ∃ (j : Nat) (b : Bool), gk + j = X.n + 1 ∧ j ≤ X.n ∧ idx = .int .i64 (j : Nat) ∧ v = .bool b ∧ (b = true ↔ ∃ i, i < j ∧ (X.gs i).st = 3) ∧ w = w0
set_option maxHeartbeats 6400000 in
set_option maxRecDepth 100000 in
theorem rstuck_ok (w : World) (a : XAt) (X : Mdl) (h : XM w a X) (hn : X.n ≤ 1000) (h1 : ∀ j, j < X.n → ¬ (X.gs j).st = 1) (h3 : ∃ j, j < X.n ∧ (X.gs j).st = 3) : Calls Tryz.prog 15 #[.pointer (some ⟨a.gX, 0, none⟩)] w (QuPost (.bool true) w) := by
  have c5 : w.cell? ⟨a.gX, 5, none⟩ = some (.slice none 0 0) := h.x.cellv 5 rfl
  obtain ⟨n, hn'⟩ : ∃ n, n = X.n := ⟨_, rfl⟩
  have hn : n ≤ 1000 := by rw [hn']; exact hn
  have c2 : ∃ A c, w.cell? ⟨a.gX, 2, none⟩ = some (.slice A n c) := by
    obtain ⟨A, c, hv⟩ := h.o.slice
    have hl : (ptrs a.gg X.n).length = X.n := by unfold ptrs; simp
    rw [hl, ← hn'] at hv
    exact ⟨A, c, by rw [← hv]; exact h.x.cellv 2 rfl⟩
  obtain ⟨A0, c0, c2⟩ := c2
  have HB := Lib.hid (And.intro h (And.intro h1 (And.intro h3 hn'))); clear h h1 h3 hn'
  go_enter Tryz.func15, Tryz.ntmps15
  go_wp2_with fail
  go_loopg [3, 4] (n + 1) (fun gk v idx wr => SkRel w X gk v idx wr)
  case atStart => exact ⟨0, false, by have := HB.out.2.2.2; omega, by omega, rfl, rfl, by simp, rfl⟩
  case round =>
    obtain ⟨j, b, hgk, hj, rfl, rfl, hb, rfl⟩ := hrel
    rw [← HB.out.2.2.2] at hgk hj
    by_cases hlt : j < n
    · have hjX : j < X.n := by rw [← HB.out.2.2.2]; exact hlt
      obtain ⟨bb, cap, hvg, x2, y, hb', s0, -, -, -, -⟩ := HB.out.1.at_ hjX
      rw [← HB.out.2.2.2] at x2
      have n1 := HB.out.2.1 j hjX
      obtain ⟨t, ht⟩ : ∃ t, t = (X.gs j).st := ⟨_, rfl⟩
      rw [← ht] at s0 n1
      have d1 : (j : Int) < (n : Int) := by omega
      have d0 : (0 : Int) ≤ (j : Int) := by omega
      have d2 : (t == 1) = false := by rw [beq_eq_false_iff_ne]; exact n1
      have HT := Lib.hid (And.intro ht hb); clear ht hb hvg c2
      cases b with
      | true =>
        go_wp2_with fail
        go_roundg (n - j)
        case measure => omega
        case rel => exact ⟨j + 1, true, by rw [← HB.out.2.2.2]; omega, by rw [← HB.out.2.2.2]; omega, by go_num, rfl, by
          refine ⟨fun _ => ?_, fun _ => rfl⟩
          obtain ⟨i, hi, hs⟩ := HT.out.2.1 (by simp)
          exact ⟨i, by omega, hs⟩, rfl⟩
      | false =>
        go_wp2_with fail
        go_roundg (n - j)
        case measure => omega
        case rel => exact ⟨j + 1, (t == 3), by rw [← HB.out.2.2.2]; omega, by rw [← HB.out.2.2.2]; omega, by go_num, by first | rfl | simp, by
          have hno : ¬ ∃ i, i < j ∧ (X.gs i).st = 3 := fun hh => by have := HT.out.2.2 hh; cases this
          rw [beq_iff_eq, HT.out.1]
          refine ⟨fun hh => ⟨j, by omega, hh⟩, fun ⟨i, hi, hs⟩ => ?_⟩
          by_cases e : i = j
          · rw [← e]; exact hs
          · exact absurd ⟨i, by omega, hs⟩ hno, rfl⟩
    · have d1 : ¬ (j : Int) < (n : Int) := by omega
      have hbt : b = true := by
        obtain ⟨i, hi, hs⟩ := HB.out.2.2.1
        rw [← HB.out.2.2.2] at hi
        exact hb.2 ⟨i, by omega, hs⟩
      subst hbt
      go_wp2_with fail
      go_ret
      exact ⟨by first | rfl | simp, rfl⟩
set_option maxRecDepth 100000 in
theorem okWFirst : ∀ k < 51, 1 ≤ (wFirst k).length ∧ (wFirst k).length ≤ 64 ∧ ∀ x ∈ wFirst k, okIns 0 2 (wFirst k).length x := by decide
set_option maxRecDepth 100000 in
theorem okWOther : 1 ≤ wOther.length ∧ wOther.length ≤ 64 ∧ ∀ x ∈ wOther, okIns 0 2 wOther.length x := by decide
theorem okWaits {k : Nat} (h : k ≤ 50) : OkP 0 [wFirst k, wOther] := by
  refine ⟨by omega, by show 1 ≤ 2; omega, by show 2 ≤ 16; omega, fun l hl => ?_⟩
  rcases List.mem_cons.1 hl with rfl | hl
  · exact okWFirst k (by omega)
  · rw [List.mem_singleton.1 hl]; exact okWOther
set_option maxHeartbeats 16000000 in
set_option maxRecDepth 100000 in
theorem waits_any (ps wo : Int) (b1 b2 : Nat) (a1 : Int) (w : World) : Calls Tryz.prog 4 #[.agg #[.int .i64 ps, .int .i64 wo, .float .f64 b1, .float .f64 b2], .int .i64 a1] w (NwPost (.bool true) w) := by
  obtain ⟨n1, hn1, en1⟩ := mod28 a1 50 (by omega) (by omega)
  have en1 : wrap64 ((IntKind.u64.wrap a1).tmod 50) = n1 := en1
  go_enter Tryz.func4, Tryz.ntmps4
  go_upto_region 1 with fail
  obtain ⟨w1, hw1⟩ : ∃ w1, w1 = w.alloc (.cells #[.int .i64 ps, .int .i64 wo, .float .f64 b1, .float .f64 b2] 24) := ⟨_, rfl⟩
  obtain ⟨gC, hgC⟩ : ∃ g, g = w.heap.size := ⟨_, rfl⟩
  rw [← hw1, ← hgC]
  have BC : Blk w1 gC 24 #[.int .i64 ps, .int .i64 wo, .float .f64 b1, .float .f64 b2] := by rw [hw1, hgC]; exact Blk.new w _ _
  have c01 : Chg [] w w1 := by rw [hw1]; exact (Chg.refl [] w).alloc _
  have H1 := Lib.hid (And.intro BC c01); clear c01 BC hw1 hgC
  go_upto_region 2 with fail
  clear en1
  obtain ⟨k, hk⟩ : ∃ k, k = n1 + 1 := ⟨_, rfl⟩
  have hs1 : (1 : Int) + (n1 : Nat) = (k : Int) := by omega
  rw [hs1]
  have bk : 1 ≤ k ∧ k ≤ 50 := by omega
  clear hs1 hk hn1
  go_upto_region 3 with fail
  obtain ⟨gF1, hgF1⟩ : ∃ g, g = w1.heap.size := ⟨_, rfl⟩
  obtain ⟨w2, hw2⟩ : ∃ w2, w2 = w1.alloc (.cells #[.int .i64 8, .int .i64 1, .int .i64 0, .int .i64 0, .int .i64 16, .int .i64 0, .int .i64 (k : Nat), .int .i64 0, .int .i64 11, .int .i64 1, .int .i64 0, .int .i64 0, .int .i64 12, .int .i64 2, .int .i64 0, .int .i64 0, .int .i64 17, .int .i64 2, .int .i64 0, .int .i64 0, .int .i64 0, .int .i64 0, .int .i64 0, .int .i64 0] 33) := ⟨_, rfl⟩
  rw [← hw2, ← hgF1]
  have B1 : Blk w2 gF1 33 #[.int .i64 8, .int .i64 1, .int .i64 0, .int .i64 0, .int .i64 16, .int .i64 0, .int .i64 (k : Nat), .int .i64 0, .int .i64 11, .int .i64 1, .int .i64 0, .int .i64 0, .int .i64 12, .int .i64 2, .int .i64 0, .int .i64 0, .int .i64 17, .int .i64 2, .int .i64 0, .int .i64 0, .int .i64 0, .int .i64 0, .int .i64 0, .int .i64 0] := by rw [hw2, hgF1]; exact Blk.new _ _ _
  have c12 : Chg [] w1 w2 := by rw [hw2]; exact (Chg.refl [] w1).alloc _
  have H2 := Lib.hid (And.intro B1 c12); clear c12 B1 hw2 hgF1
  go_upto_region 4 with fail
  obtain ⟨gF2, hgF2⟩ : ∃ g, g = w2.heap.size := ⟨_, rfl⟩
  obtain ⟨w3, hw3⟩ : ∃ w3, w3 = w2.alloc (.cells #[.int .i64 9, .int .i64 0, .int .i64 0, .int .i64 0, .int .i64 12, .int .i64 1, .int .i64 0, .int .i64 0, .int .i64 11, .int .i64 2, .int .i64 0, .int .i64 0, .int .i64 14, .int .i64 1, .int .i64 0, .int .i64 0] 33) := ⟨_, rfl⟩
  rw [← hw3, ← hgF2]
  have B2 : Blk w3 gF2 33 #[.int .i64 9, .int .i64 0, .int .i64 0, .int .i64 0, .int .i64 12, .int .i64 1, .int .i64 0, .int .i64 0, .int .i64 11, .int .i64 2, .int .i64 0, .int .i64 0, .int .i64 14, .int .i64 1, .int .i64 0, .int .i64 0] := by rw [hw3, hgF2]; exact Blk.new _ _ _
  have c23 : Chg [] w2 w3 := by rw [hw3]; exact (Chg.refl [] w2).alloc _
  have BC3 := (H2.out.2.trans c23).blk H1.out.1 (by simp)
  have B13 := c23.blk H2.out.1 (by simp)
  have t0 : w3.cell? ⟨gC, 0, none⟩ = some (.int .i64 ps) := BC3.cellv 0 rfl
  have t1 : w3.cell? ⟨gC, 1, none⟩ = some (.int .i64 wo) := BC3.cellv 1 rfl
  have t2 : w3.cell? ⟨gC, 2, none⟩ = some (.float .f64 b1) := BC3.cellv 2 rfl
  have t3 : w3.cell? ⟨gC, 3, none⟩ = some (.float .f64 b2) := BC3.cellv 3 rfl
  have l0 := BC3.lt
  have H3 := Lib.hid (And.intro B13 (And.intro B2 ((H1.out.2.trans H2.out.2).trans c23))); clear c23 B13 B2 BC3 hw3 hgF2
  refine wp_region_takes (fuel := 4) 5 (fun w' => Chg [] w3 w') [0, 1, 2] (by kernel_rfl) (by kernel_rfl) (fun _ _ _ _ _ h => h) ((Chg.refl [] w3).drew) ?_
  simp only [List.filterMap_cons, List.filterMap_nil, List.getElem?_cons_zero, List.getElem?_cons_succ]
  iterate 3
    refine wpTake_step (fun K hK => ?_)
    rw [if_pos (by rfl)]
    refine ⟨?_, fun w' hS' => ?_, ?_⟩
    rotate_left 1
    focus
      have j0 := hS'.cellv l0 (by simp) t0
      have j1 := hS'.cellv l0 (by simp) t1
      have j2 := hS'.cellv l0 (by simp) t2
      have j3 := hS'.cellv l0 (by simp) t3
      go_simp
      try with_reducible rfl
      done
    simp only [Act.put, List.setIfInBounds_toArray, List.set_cons_zero, List.set_cons_succ]
    refine hK _ ?_
    clear hK K
  refine wpTake_nil ?_
  generalize hx0 : w3.drew = x0
  have D0 : Chg [] w3 x0 := by rw [← hx0]; exact (Chg.refl [] w3).drew
  clear hx0
  refine wpAnyS_ready (rs := [3]) (by kernel_rfl) (by simp) ?_
  refine AllReadyS.one (by simp only [List.getElem?_toArray, List.getElem?_cons_zero, List.getElem?_cons_succ]; rfl) (fun K hK => ?_)
  rw [if_pos (by rfl)]
  go_simp
  obtain ⟨gF, hgF⟩ : ∃ g, g = x0.heap.size := ⟨_, rfl⟩
  obtain ⟨x3, hx3⟩ : ∃ x3, x3 = x0.alloc (.cells #[.slice (some ⟨gF1, 0, none⟩) 6 6, .slice (some ⟨gF2, 0, none⟩) 4 4] 34) := ⟨_, rfl⟩
  rw [← hx3, ← hgF]
  have BF : Blk x3 gF 34 #[.slice (some ⟨gF1, 0, none⟩) 6 6, .slice (some ⟨gF2, 0, none⟩) 4 4] := by rw [hx3, hgF]; exact Blk.new _ _ _
  have D3 : Chg [] w3 x3 := by rw [hx3]; exact D0.alloc _
  clear hx3 hgF
  refine hK _ _ (D3) ?_
  clear hK K
  try simp only [Act.put, List.setIfInBounds_toArray, List.set_cons_zero, List.set_cons_succ]
  refine wpAnyS_ready (rs := [4]) (by kernel_rfl) (by simp) ?_
  refine AllReadyS.one (by simp only [List.getElem?_toArray, List.getElem?_cons_zero, List.getElem?_cons_succ]; rfl) (fun K hK => ?_)
  rw [if_pos (by rfl)]
  go_simp
  go_at_call 7
  refine (one_ok x3 0 _ _ _ _ rfl).mono ?_
  rintro e x4 ⟨rfl, c34⟩
  dsimp only
  have D4 : Chg [] w3 x4 := D3.trans c34
  refine hK _ _ (D4) ?_
  clear hK K
  try simp only [Act.put, List.setIfInBounds_toArray, List.set_cons_zero, List.set_cons_succ]
  refine wpAnyS_tail 5 2 (by kernel_rfl) rfl ?_
  simp only [List.drop_succ_cons, List.drop_zero]
  have BF4 := c34.blk BF (by simp)
  have BA4 := D4.blk H3.out.1 (by simp)
  have BB4 := D4.blk H3.out.2.1 (by simp)
  have PR : PrR x4 x4.heap.size (.slice (some ⟨gF, 0, none⟩) 2 2) [.slice (some ⟨gF1, 0, none⟩) 6 6, .slice (some ⟨gF2, 0, none⟩) 4 4] [wFirst k, wOther] := PrR.two BF4 (rdG_blk (xs := wFirst k) insC_len BA4 rfl rfl) (rdG_blk (xs := wOther) insC_len BB4 rfl rfl)
  have cw4 : Chg [] w x4 := H3.out.2.2.trans D4
  have KZ := both_ok x4 ps wo 0 b1 b2 (some ⟨gF, 0, none⟩) 2 _ [wFirst k, wOther] PR (okWaits bk.2) (by unfold sumL; simp [wFirst, wOther])
  have HZ := Lib.hid (And.intro cw4 (And.intro PR KZ))
  clear cw4 KZ PR BA4 BB4 BF4 BF D3 D4 c34 D0 t0 t1 t2 t3 l0 H3
  go_wp2_with fail
  refine (HZ.out.2.2).mono ?_
  intro e x5 hZ
  obtain ⟨P, nn, -, hPl, hPh, hn4, hn19, gW, gA, gX, gg, gs, gl, vg, p, m, rfl, FS⟩ := hZ
  obtain ⟨s0, J0⟩ := GJ.start (J := WJ k) FS hPl (by omega) (fun X h1 h2 h3 h4 h5 h6 h7 => WJ.start X h1 h2 h3 h4 h5 h6 h7)
  have RJ := WJ.run (k := k) (by omega) (gW := gW) (wo := ((nn * 64 : Nat) : Int)) (b1 := b1) (b2 := b2) (va := .slice (some ⟨gA, 0, none⟩) 1 1) HZ.out.2.1 hPl (by omega) (3000 * P) (by omega)
  obtain ⟨gm, f0, f2, l0, -⟩ := RJ.cells 0 s0 x5 J0
  have KR : Calls Tryz.prog 13 #[.pointer (some ⟨gW, 0, none⟩), .int .i64 3000] x5 (RunQ (3000 * P) _) := run_ok x5 gW P 3000 _ s0 RJ hPl (by omega) (by omega) J0
  have HR := Lib.hid KR
  clear KR RJ J0 FS hPl hPh hn4 hn19
  go_wp2_with fail
  refine (HR.out).mono ?_
  rintro e x6 ⟨i2, s, rfl, ⟨p6, m6, a6, X6, loc6, cP6, cV6, B6, R6, L6, C6, -, -, -, hJ, -, -, -, -, -⟩, -⟩
  have KS := fun (w' : World) (c : Chg [] x6 w') => m_status (B6.M.chg0 c) (by rw [C6.sl]; exact C6.ng) (by rw [C6.tm]; simp)
  have hst := hJ.stV R6 L6 C6
  have hXn : X6.n ≤ 1000 := by have := hJ.n; omega
  have cx6 : Chg [] x4 x6 := B6.M.c
  have m0 : x6.cell? ⟨gW, 0, none⟩ = some (.pointer (some ⟨p6.gm, 0, none⟩)) := B6.W.cellv 0 rfl
  have m1 : x6.cell? ⟨gW, 1, none⟩ = some (.pointer (some ⟨a6.gX, 0, none⟩)) := B6.W.cellv 1 rfl
  have lW := B6.W.lt
  clear f0 f2 l0 HR R6 L6 hJ
  rcases hst with e0 | ⟨e3, hno, hsome⟩
  · rw [e0] at KS
    have H6 := Lib.hid (And.intro KS cx6); clear KS cx6 B6 C6 e0
    go_wp2_with fail
    refine (H6.out.1 _ (Chg.refl [] x6)).mono ?_
    rintro e x7 ⟨rfl, k7, hx7⟩
    have c67 : Chg [] x6 x7 := by rw [hx7]; exact (Chg.refl [] x6).drewN _
    have H7 := Lib.hid c67; clear c67 hx7
    go_wp2_with fail
    refine (told28_yes x7).mono ?_
    rintro e x8 ⟨rfl, c78⟩
    have H8 := Lib.hid c78; clear c78
    go_wp2_with fail
    go_ret
    exact ⟨rfl, ((HZ.out.1.trans H6.out.2).trans H7.out).trans H8.out⟩
  · rw [e3] at KS
    have H6 := Lib.hid (And.intro B6 (And.intro KS (And.intro cx6 (And.intro hno (And.intro hsome hXn))))); clear KS cx6 B6 C6 e3 hno hsome hXn
    go_wp2_with fail
    refine (H6.out.2.1 _ (Chg.refl [] x6)).mono ?_
    rintro e x7 ⟨rfl, k7, hx7⟩
    have c67 : Chg [] x6 x7 := by rw [hx7]; exact (Chg.refl [] x6).drewN _
    have H7 := Lib.hid c67; clear c67 hx7
    go_wp2_with fail
    refine (told28_yes x7).mono ?_
    rintro e x8 ⟨rfl, c78⟩
    have c68 := H7.out.trans c78
    have m0 := c68.cellv lW (by simp) m0
    have m1 := c68.cellv lW (by simp) m1
    have H8 := Lib.hid c68; clear c78 c68
    go_wp2_with fail
    refine (H6.out.2.1 _ H8.out).mono ?_
    rintro e x9 ⟨rfl, k9, hx9⟩
    have c89 : Chg [] x8 x9 := by rw [hx9]; exact (Chg.refl [] x8).drewN _
    have c69 := H8.out.trans c89
    have m1 := c89.cellv (Nat.lt_of_lt_of_le lW H8.out.size) (by simp) m1
    have H9 := Lib.hid c69; clear c89 c69 hx9
    go_wp2_with fail
    refine (rstuck_ok x9 a6 X6 (H6.out.1.hX.chg0 H9.out) H6.out.2.2.2.2.2 H6.out.2.2.2.1 H6.out.2.2.2.2.1).mono ?_
    rintro e x10 ⟨rfl, rfl⟩
    go_wp2_with fail
    go_ret
    exact ⟨by first | rfl | simp, (HZ.out.1.trans H6.out.2.2.1).trans H9.out⟩
theorem waits_all (ps wo : Int) (b1 b2 : Nat) (a1 : Int) (W : World) (_ : Tab W) : Calls Tryz.prog 4 #[.agg #[.int .i64 ps, .int .i64 wo, .float .f64 b1, .float .f64 b2], .int .i64 a1] W (NwPost (.bool true) W) := waits_any ps wo b1 b2 a1 W
end Go.Proofs.YthjplmminmhiaaaGreatDoor
namespace Go.Proofs.YthjplmminmhiaaaGreatDoor
open Go.ChangeShapes Go.WideShapes Go.ChangeAt Go.RowKit

set_option maxHeartbeats 16000000 in
set_option maxRecDepth 100000 in
theorem machineWaits_k2 : joinedFacts Tryz.pinned.checked.prog 4 Tryz.f4 (OpenSpec.ofChange Rows.machineWaitsSpec).bare Rows.machineWaitsRow = true := by
  unfold joinedFacts
  simp only [Bool.and_eq_true]
  repeat' apply And.intro
  all_goals as_aux_lemma => kernel_rfl
end Go.Proofs.YthjplmminmhiaaaGreatDoor
namespace Go.Proofs.YthjplmminmhiaaaGreatDoor
open Go.ChangeShapes Go.WideShapes Go.ChangeAt Go.RowKit

section
variable {H : Type} {enc : TypeId × Value → H} {w : World} {spare : Nat → Bool} {b0 : Nat} {v : Value} {d : DataW H} {p : List MemPlace}
end
end Go.Proofs.YthjplmminmhiaaaGreatDoor
namespace Go.Proofs.YthjplmminmhiaaaGreatDoor
open Go.ChangeShapes Go.WideShapes Go.ChangeAt Go.RowKit

section
variable {H : Type} {enc : TypeId × Value → H} {P : Program} {w : World} {spare : Nat → Bool} {b0 base : Nat} {held : Bool} {v : Value} {d : DataW H} {p : List MemPlace} {t : TypeId} {cs : List Value} {fuel : Nat} {x : DataW H × List MemPlace}
theorem trod_float28 {k : FloatKind} (ht : P.underlying t = some (.float k)) (h : DataW.trod enc P w base spare held fuel t cs = some x) : ∃ b, cs = [.float k b] := by
  cases fuel with
  | zero => simp [DataW.trod] at h
  | succ n =>
    unfold DataW.trod at h
    rw [ht] at h
    split at h <;> simp_all
set_option maxRecDepth 100000 in
theorem open_config (hv : Value.okWide Tryz.prog w .any b0 24 v) (h : DataW.Trod enc Tryz.prog w 0 spare true 24 v d p) : ∃ (q u : Int) (b k : Nat), v = .agg #[.int .i64 q, .int .i64 u, .float .f64 b, .float .f64 k] := by
  obtain ⟨v0, v1, v2, v3, y0, y1, y2, y3, n, rfl, -, -, h0, h1, h2, h3⟩ := Go.Joins.open_agg4 Tryz.underlying24 (by kernel_rfl) (by kernel_rfl) hv h
  obtain ⟨q, e0, -⟩ := DataW.trod_int Tryz.underlying3 h0
  obtain ⟨u, e1, -⟩ := DataW.trod_int Tryz.underlying3 h1
  obtain ⟨b, e2⟩ := trod_float28 Tryz.underlying22 h2
  obtain ⟨k, e3⟩ := trod_float28 Tryz.underlying22 h3
  exact ⟨q, u, b, k, by simp_all⟩
end
end Go.Proofs.YthjplmminmhiaaaGreatDoor
namespace Go.Proofs.YthjplmminmhiaaaGreatDoor
open Go.ChangeShapes Go.WideShapes Go.ChangeAt Go.RowKit Go.Deep

theorem law_own : ownKnob Tryz.prog.godebug = none := by kernel_rfl
theorem law_laidOut : laidOutB Tryz.prog = true := by kernel_rfl

section
variable {H : Type} {enc : TypeId × Value → H} {P : Program}
theorem trodAll_stays {W W' : World} (hl : laidOutB P = true) (hb : Below W.heap.size W W') : ∀ (ts : List TypeId) (vs : List Value) (ds : List (DataW H)) (ps : List MemPlace),
    (∀ t ∈ ts, P.readableRec t = true ∧ t < P.types.size) → DataW.TrodAll enc P W 0 (fun _ => true) true ts vs ds ps → (∀ x ∈ ps, x.block < W.heap.size) →
    DataW.TrodAll enc P W' 0 (fun b => decide (b < W.heap.size)) true ts vs ds ps
  | [], [], [], _, _, h, _ => h
  | t :: ts, v :: vs, d :: ds, ps, ht, h, hlt => by
    obtain ⟨p, q, h1, h2, rfl⟩ := h
    have h0 := ht t (by simp)
    exact ⟨p, q, Below.trod hl h0.1 h0.2 h1 hb (fun x hx => hlt x (by simp [hx])), trodAll_stays hl hb ts vs ds q (fun t' h' => ht t' (by simp [h'])) h2 (fun x hx => hlt x (by simp [hx])), rfl⟩
  | [], _ :: _, _, _, _, h, _ => h.elim
  | [], [], _ :: _, _, _, h, _ => h.elim
  | _ :: _, [], _, _, _, h, _ => h.elim
  | _ :: _, _ :: _, [], _, _, h, _ => h.elim

/-- 'true, and each argument reads as it did'. -/
theorem law_post {f : Func} {s : ChangeSpec} {tb : TypeId} {W W' : World} {args : Array Value} {ds gs : List (DataW H)} {before : List MemPlace} (hl : laidOutB P = true)
    (ht : P.underlying tb = some .bool) (hrt : f.resultTypes = #[tb]) (hp : ∀ t ∈ f.params.toList, P.readableRec t = true ∧ t < P.types.size) (hv : s.vars = [])
    (hfn : s.fn H ds = { results := [.lit (.bool true)], args := ds })
    (hW : DataW.Whole enc P f.params.toList s.vars false W args.toList ds gs before) (hb : Below W.heap.size W W') :
    s.post enc P f false true false false W args (.bool true) W' := by
  have hlt : ∀ p ∈ before, p.block < W.heap.size := fun p hp => hW.lt p hp
  have hW0 := hW
  obtain ⟨p, q, hA, hV, rfl, _, _⟩ := hW
  rw [hv] at hV
  obtain ⟨rfl, rfl⟩ := trodVars_none hV
  refine ⟨ds, [], p ++ [], [], p, [], hW0, ?_, ?_, ?_, ?_, fun h => by cases h⟩
  · rw [List.append_nil, hfn, hrt]
    exact trodAll_cons_mk (shut_bool ht _) trodAll_mk0
  · rw [List.append_nil, hfn]
    exact trodAll_stays hl hb _ _ _ _ hp hA (fun x hx => hlt x (by simp [hx]))
  · rw [List.append_nil, hfn, hv]
    exact rfl
  · exact hb.frame _
end

section
variable {H : Type} {enc : TypeId × Value → H} {P : Program} {w : World} {base : Nat} {spare : Nat → Bool} {held : Bool}
end
end Go.Proofs.YthjplmminmhiaaaGreatDoor
