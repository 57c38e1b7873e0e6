/- Both forms of the heap, where arguments are bad: Of, Alloc, Flush, New. -/
/- Both forms of the heap: New. -/
import Derived.Test.YtcnchgbngcnijaaGreatDoorRh7
import Derived.Test.YtcnchgbngcnijaaGreatDoorMGa
import Derived.Test.YtcnchgbngcnijaaGreatDoorHpN
import Derived.Test.YtcnchgbngcnijaaGreatDoorMRa
namespace Go.Proofs.YtcnchgbngcnijaaGreatDoor
open Go.RowKit Go.Maps

theorem szK_le : ∀ k, szK k ≤ 256 := fun k => by
  by_cases h : k < 16
  · have := (kF h).2.2
    revert h
    intro h
    have : ∀ j : Fin 16, szK j.1 ≤ 256 := by decide
    exact this ⟨k, h⟩
  · unfold szK
    rw [List.getD_eq_getElem?_getD, List.getElem?_eq_none (by show szL.length ≤ k; have : szL.length = 16 := rfl; omega)]
    decide
def ConRel (w0 : World) (gk : Nat) (idx : Value) (w : World) : Prop := ∃ k, gk + k = 17 ∧ k ≤ 16 ∧ idx = .int .i64 (k : Nat) ∧ Chg [] w0 w
set_option maxHeartbeats 1600000 in
set_option maxRecDepth 100000 in
theorem cof_no (w : World) (n : Int) (h : n < 1 ∨ 256 < n) : Calls Tryz.prog 74 #[.int .i64 n] w (NwPost (.int .i64 (-1)) w) := by
  go_enter Tryz.func74, Tryz.ntmps74
  go_wp2_with fail
  refine (table_ok w).mono ?_
  rintro e w1 ⟨rfl, c1⟩
  have HC := Lib.hid c1; clear c1
  go_wp2_with fail
  go_loopg [6] 17 (fun gk idx wr => ConRel w gk idx wr)
  case atStart => exact ⟨0, by omega, by omega, rfl, HC.out⟩
  case round =>
    obtain ⟨k, hgk, hk, rfl, c⟩ := hrel
    have HD := Lib.hid c; clear c
    by_cases ek : k < 16
    · have hix := idx_sz wr k ek
      have hi' : (k : Int) < 16 := by omega
      obtain ⟨s, hs⟩ : ∃ s, s = szK k := ⟨_, rfl⟩
      have hle : s ≤ 256 := by rw [hs]; exact szK_le k
      rw [← hs] at hix
      clear hs
      by_cases h1 : (1 : Int) ≤ n
      · have h4 : ¬ n ≤ (s : Int) := by omega
        clear h hle
        go_wp2_with fail
        go_roundg (16 - k)
        case measure => omega
        case rel => exact ⟨k + 1, by omega, by omega, by go_num, HD.out⟩
      · clear h hle
        go_wp2_with fail
        go_roundg (16 - k)
        case measure => omega
        case rel => exact ⟨k + 1, by omega, by omega, by go_num, HD.out⟩
    · obtain rfl : k = 16 := by omega
      have hi' : ¬ ((16 : Nat) : Int) < 16 := by omega
      clear h
      go_wp2_with fail
      go_ret
      exact ⟨rfl, HD.out⟩
set_option maxHeartbeats 1600000 in
theorem rof_no (w : World) (n : Int) (h : n < 1 ∨ 256 < n) : Calls Tryz.prog 37 #[.int .i64 n] w (NwPost (.int .i64 (-1)) w) := by
  go_enter Tryz.func37, Tryz.ntmps37
  by_cases h1 : n < 1
  · have d1 : decide (n < 1) = true := decide_eq_true h1
    clear h
    go_wp2_with fail
    go_ret
    exact ⟨rfl, Chg.refl _ _⟩
  · have d1 : decide (n < 1) = false := decide_eq_false h1
    have h2 : 256 < n := by omega
    have d2 : decide (256 < n) = true := decide_eq_true h2
    clear h
    go_wp2_with fail
    go_ret
    exact ⟨rfl, Chg.refl _ _⟩
/-- No such P, or no such size. -/
def AlBad (P : Nat) (p n : Int) : Prop := p < 0 ∨ (P : Int) ≤ p ∨ n < 1 ∨ 256 < n
set_option maxHeartbeats 1600000 in
set_option maxRecDepth 100000 in
theorem rhalloc_no (w : World) (h : RhH) (A : HpA) (N m : Nat) (Q : RhS w h A N m) (p n : Int) (black : Bool) (hb : AlBad A.P p n) : Calls Tryz.prog 86 #[.pointer (some ⟨h.g, 0, none⟩), .int .i64 p, .int .i64 n, .bool black] w (NwPost (.tuple #[.int .i64 0, .slice none 0 0, .int .i64 1]) w) := by
  have b2 := Q.b2
  have hgl := Q.b.lt
  clear Q
  go_enter Tryz.func86, Tryz.ntmps86
  go_wp2_with fail
  by_cases hn : n < 1 ∨ 256 < n
  · refine (rof_no w n hn).mono ?_
    rintro e w1 ⟨rfl, c1⟩
    have b2 : w1.cell? ⟨h.g, 2, none⟩ = some (.slice (some ⟨h.gP, 0, none⟩) A.P A.P) := c1.cellv hgl (by simp) b2
    have HC := Lib.hid c1; clear c1 hb hn
    by_cases h1 : p < 0
    · have d1 : decide (p < 0) = true := decide_eq_true h1
      go_wp2_with fail
      go_ret3
      exact ⟨rfl, HC.out⟩
    · have d1 : decide (p < 0) = false := decide_eq_false h1
      by_cases h2 : (A.P : Int) ≤ p
      · have d2 : decide ((A.P : Int) ≤ p) = true := decide_eq_true h2
        go_wp2_with fail
        go_ret3
        exact ⟨rfl, HC.out⟩
      · have d2 : decide ((A.P : Int) ≤ p) = false := decide_eq_false h2
        go_wp2_with fail
        go_ret3
        exact ⟨rfl, HC.out⟩
  · obtain ⟨k, rfl⟩ : ∃ k : Nat, n = k := ⟨n.toNat, by omega⟩
    refine (rof_ok w k (by omega) (by omega)).mono ?_
    rintro e w1 ⟨q, -, rfl, c1⟩
    have b2 : w1.cell? ⟨h.g, 2, none⟩ = some (.slice (some ⟨h.gP, 0, none⟩) A.P A.P) := c1.cellv hgl (by simp) b2
    have HC := Lib.hid c1; clear c1
    by_cases h1 : p < 0
    · have d1 : decide (p < 0) = true := decide_eq_true h1
      clear hb hn
      go_wp2_with fail
      go_ret3
      exact ⟨rfl, HC.out⟩
    · have d1 : decide (p < 0) = false := decide_eq_false h1
      have h2 : (A.P : Int) ≤ p := by unfold AlBad at hb; omega
      have d2 : decide ((A.P : Int) ≤ p) = true := decide_eq_true h2
      clear hb hn
      go_wp2_with fail
      go_ret3
      exact ⟨rfl, HC.out⟩
set_option maxHeartbeats 1600000 in
set_option maxRecDepth 100000 in
theorem halloc_no (W w : World) (H : HpH) (A : HpA) (N b : Nat) (Q : HpS W w H A N b) (p n : Int) (black : Bool) (hb : AlBad A.P p n) : Calls Tryz.prog 25 #[.pointer (some ⟨H.gh, 0, none⟩), .int .i64 p, .int .i64 n, .bool black] w (NwPost (.tuple #[.int .i64 0, .slice none 0 0, .int .i64 1]) w) := by
  have b2 : w.cell? ⟨H.gh, 2, none⟩ = some H.vo := Q.hb.cellv 2 rfl
  obtain ⟨Bv, cv, hvo⟩ := Q.vo_sl
  rw [hvo] at b2
  have hgl := Q.hb.lt
  clear Q
  go_enter Tryz.func25, Tryz.ntmps25
  go_wp2_with fail
  by_cases hn : n < 1 ∨ 256 < n
  · refine (cof_no w n hn).mono ?_
    rintro e w1 ⟨rfl, c1⟩
    have b2 : w1.cell? ⟨H.gh, 2, none⟩ = some (.slice Bv A.P cv) := c1.cellv hgl (by simp) b2
    have HC := Lib.hid c1; clear c1 hb hn
    by_cases h1 : p < 0
    · have d1 : decide (p < 0) = true := decide_eq_true h1
      go_wp2_with fail
      go_ret3
      exact ⟨rfl, HC.out⟩
    · have d1 : decide (p < 0) = false := decide_eq_false h1
      by_cases h2 : (A.P : Int) ≤ p
      · have d2 : decide ((A.P : Int) ≤ p) = true := decide_eq_true h2
        go_wp2_with fail
        go_ret3
        exact ⟨rfl, HC.out⟩
      · have d2 : decide ((A.P : Int) ≤ p) = false := decide_eq_false h2
        go_wp2_with fail
        go_ret3
        exact ⟨rfl, HC.out⟩
  · obtain ⟨k, rfl⟩ : ∃ k : Nat, n = k := ⟨n.toNat, by omega⟩
    refine (cof_ok w k (by omega) (by omega)).mono ?_
    rintro e w1 ⟨q, -, rfl, c1⟩
    have b2 : w1.cell? ⟨H.gh, 2, none⟩ = some (.slice Bv A.P cv) := c1.cellv hgl (by simp) b2
    have HC := Lib.hid c1; clear c1
    by_cases h1 : p < 0
    · have d1 : decide (p < 0) = true := decide_eq_true h1
      clear hb hn
      go_wp2_with fail
      go_ret3
      exact ⟨rfl, HC.out⟩
    · have d1 : decide (p < 0) = false := decide_eq_false h1
      have h2 : (A.P : Int) ≤ p := by unfold AlBad at hb; omega
      have d2 : decide ((A.P : Int) ≤ p) = true := decide_eq_true h2
      clear hb hn
      go_wp2_with fail
      go_ret3
      exact ⟨rfl, HC.out⟩
set_option maxHeartbeats 1600000 in
set_option maxRecDepth 100000 in
theorem rhflush_no (w : World) (h : RhH) (A : HpA) (N m : Nat) (Q : RhS w h A N m) (p : Int) (hb : p < 0 ∨ (A.P : Int) ≤ p) : Calls Tryz.prog 88 #[.pointer (some ⟨h.g, 0, none⟩), .int .i64 p] w (NwPost (.tuple #[]) w) := by
  have b2 := Q.b2
  clear Q
  go_enter Tryz.func88, Tryz.ntmps88
  go_wp2_with fail
  go_loopg [4] 1 (fun gk idx wr => gk = 1 ∧ idx = .int .i64 0 ∧ wr = w)
  case atStart => exact ⟨rfl, rfl, rfl⟩
  case round =>
    obtain ⟨rfl, rfl, rfl⟩ := hrel
    by_cases h1 : 0 ≤ p
    · have d1 : decide (0 ≤ p) = true := decide_eq_true h1
      have h2 : ¬ p < (A.P : Int) := by omega
      have d2 : decide (p < (A.P : Int)) = false := decide_eq_false h2
      clear hb
      go_wp2_with fail
      go_end0
      exact ⟨rfl, Chg.refl _ _⟩
    · have d1 : decide (0 ≤ p) = false := decide_eq_false h1
      clear hb
      go_wp2_with fail
      go_end0
      exact ⟨rfl, Chg.refl _ _⟩
set_option maxHeartbeats 1600000 in
set_option maxRecDepth 100000 in
theorem hflush_no (W w : World) (H : HpH) (A : HpA) (N b : Nat) (Q : HpS W w H A N b) (p : Int) (hb : p < 0 ∨ (A.P : Int) ≤ p) : Calls Tryz.prog 35 #[.pointer (some ⟨H.gh, 0, none⟩), .int .i64 p] w (NwPost (.tuple #[]) w) := by
  have b2 : w.cell? ⟨H.gh, 2, none⟩ = some H.vo := Q.hb.cellv 2 rfl
  obtain ⟨Bv, cv, hvo⟩ := Q.vo_sl
  rw [hvo] at b2
  clear Q
  go_enter Tryz.func35, Tryz.ntmps35
  by_cases h1 : p < 0
  · have d1 : decide (p < 0) = true := decide_eq_true h1
    clear hb
    go_wp2_with fail
    go_end0
    exact ⟨rfl, Chg.refl _ _⟩
  · have d1 : decide (p < 0) = false := decide_eq_false h1
    have h2 : (A.P : Int) ≤ p := by omega
    have d2 : decide ((A.P : Int) ≤ p) = true := decide_eq_true h2
    clear hb
    go_wp2_with fail
    go_end0
    exact ⟨rfl, Chg.refl _ _⟩
end Go.Proofs.YtcnchgbngcnijaaGreatDoor
namespace Go.Proofs.YtcnchgbngcnijaaGreatDoor
open Go.RowKit Go.Maps

set_option maxHeartbeats 1600000 in
set_option maxRecDepth 100000 in
theorem hnew_bad (w : World) (z p : Int) (h : ¬ okW z ∨ p < 1 ∨ 64 < p) : Calls Tryz.prog 23 #[.int .i64 z, .int .i64 p] w (NwPost (.tuple #[.pointer none, .int .i64 1]) w) := by
  go_enter Tryz.func23, Tryz.ntmps23
  go_wp2_with fail
  by_cases hz : okW z
  · obtain ⟨h1, h2, h3⟩ := hz
    rw [Int.tmod_eq_emod_of_nonneg (by omega)] at h3
    refine (s_new w (z.toNat / 64) z (by omega) (by omega) (by omega)).mono ?_
    rintro e w1 ⟨ga, h', rfl, S⟩
    have HS := Lib.hid S.c; clear S
    have hok : okW z := ⟨h1, h2, by rw [Int.tmod_eq_emod_of_nonneg (by omega)]; exact h3⟩
    have h4 : p < 1 ∨ 64 < p := h.resolve_left (fun hn => hn hok)
    clear h hok
    by_cases p1 : p < 1
    · have d1 : decide (p < 1) = true := decide_eq_true p1
      clear h4
      go_wp2_with fail
      go_ret2
      exact ⟨rfl, HS.out⟩
    · have d1 : decide (p < 1) = false := decide_eq_false p1
      have p2 : 64 < p := by omega
      have d2 : decide (64 < p) = true := decide_eq_true p2
      clear h4
      go_wp2_with fail
      go_ret2
      exact ⟨rfl, HS.out⟩
  · refine (anew_bad w z hz).mono ?_
    rintro e w1 ⟨rfl, c1⟩
    have HS := Lib.hid c1; clear c1 h hz
    go_wp2_with fail
    go_ret2
    exact ⟨rfl, HS.out⟩
set_option maxHeartbeats 1600000 in
set_option maxRecDepth 100000 in
theorem rhnew_bad (w : World) (z p : Int) (h : ¬ okW z ∨ p < 1 ∨ 64 < p) (hz2 : okW z → z ≤ 2048) : Calls Tryz.prog 39 #[.int .i64 z, .int .i64 p] w (NwPost (.pointer none) w) := by
  go_enter Tryz.func39, Tryz.ntmps39
  go_wp2_with fail
  by_cases hz : okW z
  · have hz3 := hz2 hz
    have hok := hz
    obtain ⟨h1, h2, h3⟩ := hz
    rw [Int.tmod_eq_emod_of_nonneg (by omega)] at h3
    obtain ⟨n, rfl⟩ : ∃ n : Nat, z = ((n * 64 : Nat) : Int) := ⟨z.toNat / 64, by omega⟩
    refine (ranew_ok w n (by omega) (by omega)).mono ?_
    rintro e w1 ⟨ra, rfl, -, c1, -, -⟩
    have HS := Lib.hid c1; clear c1
    have h4 : p < 1 ∨ 64 < p := h.resolve_left (fun hn => hn hok)
    clear h hok hz2 h3
    by_cases p1 : p < 1
    · have d1 : decide (p < 1) = true := decide_eq_true p1
      clear h4
      go_wp2_with fail
      go_ret
      exact ⟨rfl, HS.out⟩
    · have d1 : decide (p < 1) = false := decide_eq_false p1
      have p2 : 64 < p := by omega
      have d2 : decide (64 < p) = true := decide_eq_true p2
      clear h4
      go_wp2_with fail
      go_ret
      exact ⟨rfl, HS.out⟩
  · refine (ranew_bad w z hz).mono ?_
    rintro e w1 ⟨rfl, c1⟩
    have HS := Lib.hid c1; clear c1 h hz hz2
    go_wp2_with fail
    go_ret
    exact ⟨rfl, HS.out⟩
theorem madeOwn (P : Nat) : madeCells (Array.replicate 16 (Value.int .i64 0)) (P * 16) = own1 P fun _ _ => -1 := by
  apply Array.ext_getElem?
  intro i
  by_cases hi : i < P * 16
  · obtain ⟨q, l, hl, rfl⟩ : ∃ q l, l < 16 ∧ i = q * 16 + l := ⟨i / 16, i % 16, Nat.mod_lt _ (by omega), by omega⟩
    rw [own1_at _ (show q < P by omega) hl]
    unfold madeCells
    rw [Array.getElem?_map, Array.getElem?_eq_getElem (by rw [Array.size_range]; exact hi), Array.getElem_range]
    have e : (q * 16 + l) % 16 = l := by omega
    simp [e, hl]
  · rw [Array.getElem?_eq_none (by rw [size_madeCells]; omega), Array.getElem?_eq_none (by rw [own1_size]; omega)]
def RhnwPost (w : World) (n P : Nat) (e : Ending) (w' : World) : Prop := ∃ h, e = .returned (.pointer (some ⟨h.g, 0, none⟩)) ∧ RhS w' h (hp0 n P) 0 0 ∧ Chg [] w w' ∧ ∀ k, RhF h (hp0 n P) k → w.heap.size ≤ k
set_option maxHeartbeats 1600000 in
set_option maxRecDepth 100000 in
theorem rhnew_ok (w : World) (n P : Nat) (h4 : 4 ≤ n) (hn : n ≤ 200) (hP1 : 1 ≤ P) (hP : P ≤ 64) : Calls Tryz.prog 39 #[.int .i64 ((n * 64 : Nat) : Int), .int .i64 (P : Nat)] w (RhnwPost w n P) := by
  have hmk : ∀ W : World, (Instr.makeSlice 70 (.int .i64 (P : Nat)) (.int .i64 (P : Nat))).run Tryz.prog W = .ok (.slice (some ⟨W.heap.size, 0, none⟩) P P) (W.alloc (.cells (own1 P fun _ _ => -1) 134)) := fun W => by
    obtain ⟨i, hi, hzz⟩ := Option.map_eq_some_iff.1 (show (Tryz.prog.info? 134).map (fun i => (i.zero.map Value.cells, i.size, i.bytes)) = some (some (Array.replicate 16 (Value.int .i64 0)), 16, 128) by kernel_rfl)
    simp only [Prod.mk.injEq] at hzz
    obtain ⟨hz, hs, hb⟩ := hzz
    obtain ⟨z, hz, hzc⟩ := Option.map_eq_some_iff.1 hz
    have hr := run_make (P := Tryz.prog) W 70 134 i z Tryz.underlying70 hi hz .i64 .i64 (P : Nat) (P : Nat) (by omega) (Int.le_refl _) (by rw [hb]; omega) (by omega)
    rw [hs, hzc, Int.toNat_natCast, madeOwn] at hr
    exact hr
  have p1 : ¬ (P : Int) < 1 := by omega
  have p2 : ¬ (64 : Int) < (P : Int) := by omega
  have d1 : decide ((P : Int) < 1) = false := decide_eq_false p1
  have d2 : decide ((64 : Int) < (P : Int)) = false := decide_eq_false p2
  go_enter Tryz.func39, Tryz.ntmps39
  go_wp2_with fail
  refine (ranew_ok w n h4 hn).mono ?_
  rintro e w1 ⟨ra, rfl, M, c1, f1, hmw⟩
  have HS := Lib.hid (And.intro M (And.intro c1 (And.intro f1 hmw))); clear M c1 f1 hmw
  go_wp2_with fail
  go_ret
  obtain ⟨w2, hw2⟩ : ∃ w2, w2 = w1.alloc (.cells (ceC fun _ => .slice none 0 0) 114) := ⟨_, rfl⟩
  have B2 := Blk.new w1 114 (ceC fun _ => .slice none 0 0)
  have C2 := (Chg.refl [] w1).alloc (.cells (ceC fun _ => .slice none 0 0) 114)
  have z2 : (w1.alloc (.cells (ceC fun _ => .slice none 0 0) 114)).heap.size = w1.heap.size + 1 := World.size_alloc _ _
  rw [← hw2] at B2 C2 z2
  obtain ⟨w3, hw3⟩ : ∃ w3, w3 = w2.alloc (.cells (own1 P fun _ _ => -1) 134) := ⟨_, rfl⟩
  have B3 := Blk.new w2 134 (own1 P fun _ _ => -1)
  have C3 := (Chg.refl [] w2).alloc (.cells (own1 P fun _ _ => -1) 134)
  have z3 : (w2.alloc (.cells (own1 P fun _ _ => -1) 134)).heap.size = w2.heap.size + 1 := World.size_alloc _ _
  rw [← hw3] at B3 C3 z3
  obtain ⟨w4, hw4⟩ : ∃ w4, w4 = w3.alloc (.cells #[.pointer (some ⟨ra.g, 0, none⟩), .pointer (some ⟨w1.heap.size, 0, none⟩), .slice (some ⟨w2.heap.size, 0, none⟩) P P] 72) := ⟨_, rfl⟩
  have B4 := Blk.new w3 72 #[.pointer (some ⟨ra.g, 0, none⟩), .pointer (some ⟨w1.heap.size, 0, none⟩), .slice (some ⟨w2.heap.size, 0, none⟩) P P]
  have C4 := (Chg.refl [] w3).alloc (.cells #[.pointer (some ⟨ra.g, 0, none⟩), .pointer (some ⟨w1.heap.size, 0, none⟩), .slice (some ⟨w2.heap.size, 0, none⟩) P P] 72)
  rw [← hw4] at B4 C4
  suffices h : RhnwPost w n P (.returned (.pointer (some ⟨w3.heap.size, 0, none⟩))) w4 by
    rw [hw4, hw3, hw2] at h
    simp only [World.size_alloc] at h
    exact h
  have hra : ∀ k, RaF ra (newA n) k → k < w1.heap.size := fun k hk => HS.out.1.lt hk
  have hs1 := HS.out.2.1.size
  have cr : ∀ k, CrF w1.heap.size (fun _ => .slice none 0 0) k → k = w1.heap.size := fun k hk => by
    rcases hk with h | ⟨j, hj, h⟩
    · exact h
    · simp [fpa] at h
  have M4 := ((HS.out.1.chg0 C2).chg0 C3).chg0 C4
  have J4 : ArI 0 (newA n) := newA_I 0 n (by omega) (by omega)
  refine ⟨⟨w3.heap.size, ra, w1.heap.size, fun _ => .slice none 0 0, w2.heap.size⟩, rfl, ⟨B4, ⟨[], M4⟩, J4, ⟨C4.blk (C3.blk B2 (by simp)) (by simp), fun j hj => RowI.nil _, fun j hj => by simp [fpa]⟩, C4.blk B3 (by simp), fun k hk hF => ?_, ⟨fun hF => ?_, fun hF => ?_⟩, ⟨fun hF => ?_, fun hF => ?_⟩, ?_, hn⟩, ((HS.out.2.1.trans C2).trans C3).trans C4, fun k hk => ?_⟩
  · have h1 := cr k hk; have h2 := hra k hF; omega
  · have h2 : w3.heap.size < w1.heap.size := hra _ hF; show False; omega
  · have h1 := cr _ hF; show False; have h1 : w3.heap.size = w1.heap.size := h1; omega
  · have h2 : w2.heap.size < w1.heap.size := hra _ hF; show False; omega
  · have h1 := cr _ hF; show False; have h1 : w2.heap.size = w1.heap.size := h1; omega
  · show ra.mw ≤ 0; rw [HS.out.2.2.2]; exact Nat.le_refl 0
  · rcases hk with h | h | h | h
    · exact HS.out.2.2.1 k h
    · have h1 := cr k h; omega
    · have h1 : k = w3.heap.size := h; omega
    · have h1 : k = w2.heap.size := h; omega
end Go.Proofs.YtcnchgbngcnijaaGreatDoor
