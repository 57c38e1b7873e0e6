/- Package central: Del. -/
/- Package central: Put. -/
/- Package central: Unswept, Any. -/
/- Package central: Begin. -/
/- Package central: Waiting. -/
/- Package central: New; classes: Count, Of. -/
import Derived.Test.YtoeppmnoifankaaGreatDoorMSerJ
import Derived.Deep.RegionHeld3
import Derived.Deep.RegionLaw
import Derived.Deep.DeepCutAuto
import Derived.Test.YtoeppmnoifankaaGreatDoorMClJ
namespace Go.Proofs.YtoeppmnoifankaaGreatDoor
open Go.RowKit Go.Maps

/-- The first row, in their order, in which a span stands: out of it. -/
def delR (r : Nat → List Nat) (id j : Nat) : Nat → List Nat := updV r j ((r j).erase id)
def DlPost (gc gl : Nat) (v : Nat → Value) (r : Nat → List Nat) (id : Nat) (w : World) (e : Ending) (w' : World) : Prop :=
  ((∀ j, j < 64 → id ∉ r j) ∧ e = .returned (.bool false) ∧ Chg [] w w') ∨ ∃ j, j < 64 ∧ id ∈ r j ∧ (∀ i, i < j → id ∉ r i) ∧ e = .returned (.bool true) ∧ CeTo gc gl v (delR r id j) w w'
def DlRel (w0 : World) (r : Nat → List Nat) (id d n base gk : Nat) (idx : Value) (w : World) : Prop :=
  ∃ i, gk + i = n + 1 ∧ i ≤ n ∧ idx = .int .i64 (i : Nat) ∧ (∀ j, j < base + i * d → id ∉ r j) ∧ w = w0
end Go.Proofs.YtoeppmnoifankaaGreatDoor
namespace Go.Proofs.YtoeppmnoifankaaGreatDoor
open Go.RowKit Go.Maps

/-- The rows without a span. -/
def DelTo (r : Nat → List Nat) (id : Nat) (r1 : Nat → List Nat) : Prop := (r1 = r ∧ ∀ j, j < 64 → id ∉ r j) ∨ ∃ j, j < 64 ∧ id ∈ r j ∧ (∀ i, i < j → id ∉ r i) ∧ r1 = delR r id j
def sd (full : Bool) : Nat := if full then 1 else 0
def CpPost (gc gl : Nat) (v : Nat → Value) (r : Nat → List Nat) (k id : Nat) (full : Bool) (w : World) (e : Ending) (w' : World) : Prop :=
  e = .returned (.tuple #[]) ∧ ∃ r1, DelTo r id r1 ∧ CeTo gc gl v (updV r1 (k * 4 + sd full) (r1 (k * 4 + sd full) ++ [id])) w w'
end Go.Proofs.YtoeppmnoifankaaGreatDoor
namespace Go.Proofs.YtoeppmnoifankaaGreatDoor
open Go.RowKit Go.Maps

def unsN (r : Nat → List Nat) : Nat → Nat
  | 0 => 0
  | k + 1 => unsN r k + (r (k * 4 + 2)).length + (r (k * 4 + 3)).length
def UsRel (w0 : World) (r : Nat → List Nat) (gk : Nat) (n idx : Value) (w : World) : Prop :=
  ∃ k, gk + k = 17 ∧ k ≤ 16 ∧ idx = .int .i64 (k : Nat) ∧ n = .int .i64 (unsN r k : Nat) ∧ Chg [] w0 w
/-- The first unswept row that is not empty gives its first one. -/
def AyPost (gc gl : Nat) (v : Nat → Value) (r : Nat → List Nat) (w : World) (e : Ending) (w' : World) : Prop :=
  ((∀ k, k < 16 → r (k * 4 + 2) = [] ∧ r (k * 4 + 3) = []) ∧ e = .returned (.tuple #[.int .i64 0, .int .i64 0, .bool false]) ∧ Chg [] w w') ∨
  ∃ k f x xs, k < 16 ∧ f < 2 ∧ r (k * 4 + 2 + f) = x :: xs ∧ e = .returned (.tuple #[.int .i64 (k : Nat), .int .i64 (x : Nat), .bool true]) ∧ CeTo gc gl v (updV r (k * 4 + 2 + f) xs) w w'
/-- The same, and it is the first. -/
def AyPost2 (gc gl : Nat) (v : Nat → Value) (r : Nat → List Nat) (w : World) (e : Ending) (w' : World) : Prop :=
  ((∀ k, k < 16 → r (k * 4 + 2) = [] ∧ r (k * 4 + 3) = []) ∧ e = .returned (.tuple #[.int .i64 0, .int .i64 0, .bool false]) ∧ Chg [] w w') ∨
  ∃ k f x xs, k < 16 ∧ f < 2 ∧ (∀ i, i < k → r (i * 4 + 2) = [] ∧ r (i * 4 + 3) = []) ∧ (∀ i, i < f → r (k * 4 + 2 + i) = []) ∧ r (k * 4 + 2 + f) = x :: xs ∧ e = .returned (.tuple #[.int .i64 (k : Nat), .int .i64 (x : Nat), .bool true]) ∧ CeTo gc gl v (updV r (k * 4 + 2 + f) xs) w w'
def AyRel (w0 : World) (r : Nat → List Nat) (gk : Nat) (idx : Value) (w : World) : Prop :=
  ∃ k, gk + k = 17 ∧ k ≤ 16 ∧ idx = .int .i64 (k : Nat) ∧ (∀ i, i < k → r (i * 4 + 2) = [] ∧ r (i * 4 + 3) = []) ∧ w = w0
def AzRel (w0 : World) (r : Nat → List Nat) (k gk : Nat) (idx : Value) (w : World) : Prop :=
  ∃ f, gk + f = 3 ∧ f ≤ 2 ∧ idx = .int .i64 (f : Nat) ∧ (∀ i, i < f → r (k * 4 + 2 + i) = []) ∧ w = w0
end Go.Proofs.YtoeppmnoifankaaGreatDoor
namespace Go.Proofs.YtoeppmnoifankaaGreatDoor
open Go.RowKit Go.Maps

/-- All swept rows laid behind the unswept ones. -/
def bgR (r : Nat → List Nat) (m : Nat) : Nat → List Nat := fun j => if j / 4 * 2 + j % 2 < m then (if j % 4 < 2 then [] else r j ++ r (j - 2)) else r j
def BgRel (w0 : World) (gc gl : Nat) (v : Nat → Value) (r : Nat → List Nat) (d n base gk : Nat) (idx : Value) (w : World) : Prop :=
  ∃ i v', gk + i = n + 1 ∧ i ≤ n ∧ idx = .int .i64 (i : Nat) ∧ IsCe w gc gl v' (bgR r (base + i * d)) ∧ StP (CeF gc gl v) (CeF gc gl v') w0 w
end Go.Proofs.YtoeppmnoifankaaGreatDoor
namespace Go.Proofs.YtoeppmnoifankaaGreatDoor
open Go.RowKit Go.Maps

def waN (r : Nat → List Nat) : Nat → List Nat
  | 0 => []
  | k + 1 => waN r k ++ r (k * 4 + 2) ++ r (k * 4 + 3)
def WtRel (w0 : World) (r : Nat → List Nat) (gk : Nat) (vo idx : Value) (w : World) : Prop :=
  ∃ k, gk + k = 17 ∧ k ≤ 16 ∧ idx = .int .i64 (k : Nat) ∧ OwnI 3 w vo (intsN (waN r k)) ∧ Chg [] w0 w ∧ ∀ j ∈ fpv vo, w0.heap.size ≤ j
end Go.Proofs.YtoeppmnoifankaaGreatDoor
namespace Go.Proofs.YtoeppmnoifankaaGreatDoor
open Go.RowKit Go.Maps

set_option maxHeartbeats 1600000 in
set_option maxRecDepth 100000 in
theorem cnew_ok (w : World) : Calls Tryz.prog 134 #[] w fun e w' => ∃ gc gl, e = .returned (.pointer (some ⟨gc, 0, none⟩)) ∧ IsCe w' gc gl (fun _ => .slice none 0 0) (fun _ => []) ∧ Chg [] w w' ∧ ∀ k, CeF gc gl (fun _ => .slice none 0 0) k → w.heap.size ≤ k := by
  have hmk : ∀ W : World, (Instr.makeSlice 313 (.int .i64 16) (.int .i64 16)).run Tryz.prog W = .ok (.slice (some ⟨W.heap.size, 0, none⟩) 16 16) (W.alloc (.cells (ceC fun _ => .slice none 0 0) 334)) := fun W => by
    obtain ⟨i, hi, hzz⟩ := Option.map_eq_some_iff.1 (show (Tryz.prog.info? 334).map (fun i => (i.zero, i.size, i.bytes)) = some (some (.agg #[.slice none 0 0, .slice none 0 0, .slice none 0 0, .slice none 0 0]), 4, 96) by kernel_rfl)
    simp only [Prod.mk.injEq] at hzz
    obtain ⟨hz, hs, hb⟩ := hzz
    have hr := run_make (P := Tryz.prog) W 313 334 i _ Tryz.underlying313 hi hz .i64 .i64 16 16 (by decide) (Int.le_refl _) (by rw [hb]; decide) (by decide)
    have em : madeCells (Value.agg #[.slice none 0 0, .slice none 0 0, .slice none 0 0, .slice none 0 0]).cells (Int.toNat 16 * 4) = ceC fun _ => .slice none 0 0 := by kernel_rfl
    rw [hs, em] at hr
    exact hr
  go_enter Tryz.func134, Tryz.ntmps134
  go_wp2_with fail
  refine (count_ok w).mono ?_
  rintro e w1 ⟨rfl, c⟩
  have HC := Lib.hid c; clear c
  go_wp2_with fail
  go_ret
  have B1 := Blk.new w1 334 (ceC fun _ => .slice none 0 0)
  have B2 := Blk.new (w1.alloc (.cells (ceC fun _ => .slice none 0 0) 334)) 315 #[.slice (some ⟨w1.heap.size, 0, none⟩) 16 16]
  rw [World.size_alloc] at B2
  refine ⟨_, w1.heap.size, rfl, ⟨B2, B1.alloc _, fun j hj => OwnI.nil _ _, fun i j hi hj hne k hk => by simp [fpv, Value.ownBlock] at hk⟩, (HC.out.alloc _).alloc _, fun k hk => ?_⟩
  have hsz := HC.out.size
  rcases hk with rfl | rfl | ⟨j, -, hk⟩
  · omega
  · exact hsz
  · simp [fpv, Value.ownBlock] at hk
end Go.Proofs.YtoeppmnoifankaaGreatDoor
