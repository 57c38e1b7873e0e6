/- Package central: Waiting. -/
import Derived.Test.YtmafiagakoglkaaGreatDoorCe5
namespace Go.Proofs.YtmafiagakoglkaaGreatDoor
open Go.RowKit Go.Maps

def waN (r : Nat → List Nat) : Nat → List Nat
  | 0 => []
  | k + 1 => waN r k ++ r (k * 4 + 2) ++ r (k * 4 + 3)
theorem waN_len (r : Nat → List Nat) : ∀ n, (waN r n).length = unsN r n
  | 0 => rfl
  | n + 1 => by rw [waN, unsN, List.length_append, List.length_append, waN_len r n]
theorem waN_mem {r : Nat → List Nat} {x : Nat} : ∀ {n : Nat}, x ∈ waN r n ↔ ∃ k, k < n ∧ (x ∈ r (k * 4 + 2) ∨ x ∈ r (k * 4 + 3))
  | 0 => by simp [waN]
  | n + 1 => by
    rw [waN, List.mem_append, List.mem_append, waN_mem]
    constructor
    · rintro ((⟨k, hk, h⟩ | h) | h)
      · exact ⟨k, by omega, h⟩
      · exact ⟨n, by omega, .inl h⟩
      · exact ⟨n, by omega, .inr h⟩
    · rintro ⟨k, hk, h⟩
      by_cases e : k = n
      · subst e
        rcases h with h | h
        · exact .inl (.inr h)
        · exact .inr h
      · exact .inl (.inl ⟨k, by omega, h⟩)
def WtRel (w0 : World) (r : Nat → List Nat) (gk : Nat) (vo idx : Value) (w : World) : Prop :=
  ∃ k, gk + k = 17 ∧ k ≤ 16 ∧ idx = .int .i64 (k : Nat) ∧ OwnI 3 w vo (intsN (waN r k)) ∧ Chg [] w0 w ∧ ∀ j ∈ fpv vo, w0.heap.size ≤ j
set_option maxHeartbeats 6400000 in
set_option maxRecDepth 100000 in
theorem cwaiting_ok (w : World) (gc gl : Nat) (v : Nat → Value) (r : Nat → List Nat) (I : IsCe w gc gl v r) (hl : ∀ j, (r j).length ≤ 10000) (hx : ∀ j, ∀ x ∈ r j, x ≤ 1000000) : Calls Tryz.prog 111 #[.pointer (some ⟨gc, 0, none⟩)] w (NwL (intsN (waN r 16)) w) := by
  have b0 : w.cell? ⟨gc, 0, none⟩ = some (.slice (some ⟨gl, 0, none⟩) 16 16) := I.b.cellv 0 rfl
  have HI := Lib.hid (And.intro I (And.intro hl hx))
  clear I hl hx
  go_enter Tryz.func111, Tryz.ntmps111
  go_wp2_with fail
  go_loopg [3, 13] 17 (fun gk vo idx wr => WtRel w r gk vo idx wr)
  case atStart => exact ⟨0, by omega, by omega, rfl, OwnI.nil _ _, Chg.refl _ _, fun j hj => by simp [fpv, Value.ownBlock] at hj⟩
  case round =>
    obtain ⟨k, hgk, hk, rfl, O, C, F⟩ := hrel
    by_cases e : k < 16
    · have hk' : (k : Int) < 16 := by omega
      have hk0 : (0 : Int) ≤ (k : Int) := by omega
      have I2 := HI.out.1.chg0 C
      obtain ⟨A0, n0, d0, v0⟩ := (I2.o (k * 4) (by omega)).slice'
      obtain ⟨A1, n1, d1, v1⟩ := (I2.o (k * 4 + 1) (by omega)).slice'
      obtain ⟨A2, n2, d2, v2⟩ := (I2.o (k * 4 + 2) (by omega)).slice'
      obtain ⟨A3, n3, d3, v3⟩ := (I2.o (k * 4 + 3) (by omega)).slice'
      have c0 := I2.cell (j := k * 4) (by omega)
      have c1 := I2.cell (j := k * 4 + 1) (by omega)
      have c2 := I2.cell (j := k * 4 + 2) (by omega)
      have c3 := I2.cell (j := k * 4 + 3) (by omega)
      have wfl : ∀ j, (∀ y ∈ intsN (r j), WfI y) ∧ (intsN (r j)).length ≤ maxLen ∧ (intsN (r j)).length ≤ 100000 := fun j => by
        refine ⟨fun y hy => ?_, ?_, ?_⟩
        · unfold intsN at hy
          obtain ⟨y', hy', rfl⟩ := List.mem_map.1 hy
          have := HI.out.2.2 j y' hy'
          unfold WfI; omega
        · have := HI.out.2.1 j; unfold intsN maxLen; rw [List.length_map]; omega
        · have := HI.out.2.1 j; unfold intsN; rw [List.length_map]; omega
      have s2 := (HI.out.1.o (k * 4 + 2) (by omega)).sl (wfl _).1 (wfl _).2.1
      have s3 := (HI.out.1.o (k * 4 + 3) (by omega)).sl (wfl _).1 (wfl _).2.1
      rw [v0] at c0
      rw [v1] at c1
      rw [v2] at c2 s2
      rw [v3] at c3 s3
      have hu := unsN_le HI.out.2.1 k
      have hlO : (intsN (waN r k)).length ≤ 100000000 := by unfold intsN; rw [List.length_map, waN_len]; omega
      obtain ⟨Ao, no, co, rfl⟩ := O.slice'
      have HC := Lib.hid (And.intro C (And.intro O (And.intro F (And.intro s2 (And.intro s3 (And.intro wfl hlO)))))); clear C I2 v0 v1 v2 v3 hu O F s2 s3 wfl hlO
      have hlt : ∀ j ∈ fpv (.slice Ao no co), j < wr.heap.size := fun j hj => HC.out.2.1.lt hj
      go_upto_region 6 with fail
      obtain ⟨lc, hlc⟩ : ∃ lc, lc = wr.heap.size := ⟨_, rfl⟩
      obtain ⟨W1, hW1⟩ : ∃ W1 : World, W1 = wr.alloc (.cells #[.slice A0 n0 d0, .slice A1 n1 d1, .slice A2 n2 d2, .slice A3 n3 d3] 123) := ⟨_, rfl⟩
      rw [← hlc, ← hW1]
      have B1 : Blk W1 lc 123 #[.slice A0 n0 d0, .slice A1 n1 d1, .slice A2 n2 d2, .slice A3 n3 d3] := by rw [hW1, hlc]; exact Blk.new _ _ _
      have l2 : W1.cell? ⟨lc, 2, none⟩ = some (.slice A2 n2 d2) := B1.cellv 2 rfl
      have l3 : W1.cell? ⟨lc, 3, none⟩ = some (.slice A3 n3 d3) := B1.cellv 3 rfl
      have C1 : Chg [] wr W1 := by rw [hW1]; exact (Chg.refl [] wr).alloc _
      have D1 : Chg [] w W1 := HC.out.1.trans C1
      have O1 := HC.out.2.1.chg0 C1
      have hnl : lc ∉ fpv (.slice Ao no co) := fun hm => by have := hlt lc hm; omega
      have HC1 := Lib.hid (And.intro D1 O1)
      have hlcW : lc < W1.heap.size := B1.lt
      clear C1 hlc hW1 hlt
      have k1 : Chg [] w W1.drew := D1.drew
      have O1d := O1.drew
      have z2 : W1.drew.cell? ⟨lc, 2, none⟩ = some (.slice A2 n2 d2) := B1.drew.cellv 2 rfl
      have z3 : W1.drew.cell? ⟨lc, 3, none⟩ = some (.slice A3 n3 d3) := B1.drew.cellv 3 rfl
      have hl1 := HC.out.2.2.2.2.2.2
      have q2 := (HC.out.2.2.2.2.2.1 (k * 4 + 2)).2.2
      have q3 := (HC.out.2.2.2.2.2.1 (k * 4 + 3)).2.2
      go_region_held3 (fun w' => w'.cell? ⟨lc, 2, none⟩ = some (.slice A2 n2 d2) ∧ w'.cell? ⟨lc, 3, none⟩ = some (.slice A3 n3 d3)) (go_keep)
        (first
          | (refine step_cat_n (by rfl) _ _ (by rfl) slty (by rfl) O5 (by rfl) (HC.out.2.2.2.2.1.chg D5 (Nat.le_refl _) (by simp)) ((intsN (waN r k)).length + (intsN (r (k * 4 + 2))).length + (intsN (r (k * 4 + 3))).length) (by rw [List.length_append]) (by omega) ?_; intro A6 c6 w6 O6 t6; have D6 : Chg [] w w6 := Chg.new D5 t6.c F5; have F6 := (fun j hj => (t6.f j hj).elim (F5 j) (fun h => Nat.le_trans D5.size h) : ∀ j ∈ fpv (.slice A6 ((intsN (waN r k)).length + (intsN (r (k * 4 + 2))).length + (intsN (r (k * 4 + 3))).length) c6), w.heap.size ≤ j); have y2 : w6.cell? ⟨lc, 2, none⟩ = some (.slice A2 n2 d2) := t6.c.cellv hl5 hn5 x2; have y3 : w6.cell? ⟨lc, 3, none⟩ = some (.slice A3 n3 d3) := t6.c.cellv hl5 hn5 x3)
          | (refine step_cat_n (by rfl) _ _ (by rfl) slty (by rfl) (by first | exact O1d | exact O1) (by rfl) (HC.out.2.2.2.1.chg (by assumption : Chg [] w _) (Nat.le_refl _) (by simp)) ((intsN (waN r k)).length + (intsN (r (k * 4 + 2))).length) rfl (by omega) ?_; intro A5 c5 w5 O5 t5; have D5 : Chg [] w w5 := Chg.new (by assumption) t5.c HC.out.2.2.1; have F5 := (fun j hj => (t5.f j hj).elim (HC.out.2.2.1 j) (fun h => Nat.le_trans k1.size h) : ∀ j ∈ fpv (.slice A5 ((intsN (waN r k)).length + (intsN (r (k * 4 + 2))).length) c5), w.heap.size ≤ j); have x2 : w5.cell? ⟨lc, 2, none⟩ = some (.slice A2 n2 d2) := t5.c.cellv hlcW hnl z2; have x3 : w5.cell? ⟨lc, 3, none⟩ = some (.slice A3 n3 d3) := t5.c.cellv hlcW hnl z3; have hl5 : lc < w5.heap.size := Nat.lt_of_lt_of_le hlcW t5.c.size; have hn5 : lc ∉ fpv (.slice A5 ((intsN (waN r k)).length + (intsN (r (k * 4 + 2))).length) c5) := (fun hm => (t5.f lc hm).elim hnl (fun h => Nat.lt_irrefl _ (Nat.lt_of_lt_of_le hlcW h)))))
      have e9 : intsN (waN r (k + 1)) = intsN (waN r k) ++ intsN (r (k * 4 + 2)) ++ intsN (r (k * 4 + 3)) := by unfold intsN; rw [waN, List.map_append, List.map_append]
      have HZ := Lib.hid (And.intro (e9 ▸ O6) (And.intro D6 F6)); clear e9 O6 D6 F6 t6 O5 D5 F5 t5 x2 x3 y2 y3 hl5 hn5 z2 z3 l2 l3 B1 D1 O1 O1d
      go_wp2_with fail
      go_roundg (16 - k)
      case measure => omega
      case rel => exact ⟨k + 1, by omega, by omega, by go_num, HZ.out.1, HZ.out.2.1, HZ.out.2.2⟩
    · obtain rfl : k = 16 := by omega
      have HC := Lib.hid (And.intro O (And.intro C F)); clear C O F e
      obtain ⟨Ao, no, co, rfl⟩ := HC.out.1.slice'
      go_wp2_with fail
      go_ret
      exact ⟨_, rfl, HC.out.1, HC.out.2.1, HC.out.2.2⟩
end Go.Proofs.YtmafiagakoglkaaGreatDoor
