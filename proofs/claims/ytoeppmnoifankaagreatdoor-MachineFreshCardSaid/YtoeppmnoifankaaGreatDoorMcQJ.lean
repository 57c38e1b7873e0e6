/- Packages queue, timer, wait, barrier, as long as nobody is in them. -/
/- The machine's small parts as data: a ring's cells. No program in sight. -/
import Derived.Test.YtoeppmnoifankaaGreatDoorMOw
import Derived.Test.YtoeppmnoifankaaGreatDoorMCl
import Derived.Test.YtoeppmnoifankaaGreatDoorMBitJ
namespace Go.Proofs.YtoeppmnoifankaaGreatDoor
open Go.RowKit Go.Maps

/-- A new block of that content. -/
def NbPost (t : TypeId) (cs : Array Value) (w : World) (e : Ending) (w' : World) : Prop := ∃ g, e = .returned (.pointer (some ⟨g, 0, none⟩)) ∧ w.heap.size ≤ g ∧ Blk w' g t cs ∧ Chg [] w w'
set_option maxHeartbeats 1600000 in
set_option maxRecDepth 100000 in
theorem q_new (w : World) : Calls Tryz.prog 136 #[] w (NbPost 257 #[.slice none 0 0] w) := by
  go_enter Tryz.func136, Tryz.ntmps136
  go_wp2_with fail
  go_ret
  exact ⟨w.heap.size, rfl, Nat.le_refl _, Blk.new _ _ _, (Chg.refl _ _).alloc _⟩
set_option maxHeartbeats 1600000 in
set_option maxRecDepth 100000 in
theorem tm_new (w : World) : Calls Tryz.prog 74 #[] w (NbPost 196 #[.slice none 0 0, .int .i64 0] w) := by
  go_enter Tryz.func74, Tryz.ntmps74
  go_wp2_with fail
  go_ret
  exact ⟨w.heap.size, rfl, Nat.le_refl _, Blk.new _ _ _, (Chg.refl _ _).alloc _⟩
/-- Where one waits: 32 lists. -/
def wtC (v : Nat → Value) : Array Value := ((List.range 32).map v).toArray
set_option maxHeartbeats 1600000 in
set_option maxRecDepth 100000 in
theorem wt_new (w : World) : Calls Tryz.prog 75 #[] w (NbPost 242 (wtC fun _ => .slice none 0 0) w) := by
  go_enter Tryz.func75, Tryz.ntmps75
  go_wp2_with fail
  go_ret
  exact ⟨w.heap.size, rfl, Nat.le_refl _, Blk.new _ _ _, (Chg.refl _ _).alloc _⟩
/-- A barrier's pairs, and how many. -/
def brC : Array Value := ((List.range 33).map fun _ => Value.int .i64 0).toArray
set_option maxHeartbeats 1600000 in
set_option maxRecDepth 100000 in
theorem br_new (w : World) : Calls Tryz.prog 76 #[] w (NbPost 183 brC w) := by
  go_enter Tryz.func76, Tryz.ntmps76
  go_wp2_with fail
  go_ret
  exact ⟨w.heap.size, rfl, Nat.le_refl _, Blk.new _ _ _, (Chg.refl _ _).alloc _⟩
section
variable (w : World) (g : Nat)
set_option maxHeartbeats 1600000 in
set_option maxRecDepth 100000 in
theorem q_len0 (B : Blk w g 257 #[.slice none 0 0]) : Calls Tryz.prog 178 #[.pointer (some ⟨g, 0, none⟩)] w (QuPost (.int .i64 0) w) := by
  have c0 := B.cellv 0 rfl
  go_enter Tryz.func178, Tryz.ntmps178
  go_wp2_with fail
  go_ret
  exact ⟨rfl, rfl⟩
set_option maxHeartbeats 1600000 in
set_option maxRecDepth 100000 in
theorem q_put0 (B : Blk w g 257 #[.slice none 0 0]) : Calls Tryz.prog 102 #[.pointer (some ⟨g, 0, none⟩), .slice none 0 0] w fun e w' => e = .returned (.tuple #[]) ∧ Blk w' g 257 #[.slice none 0 0] ∧ Chg [g] w w' := by
  have c0 := B.cellv 0 rfl
  have f0 := B.frozen 0
  have HB := Lib.hid B; clear B
  go_enter Tryz.func102, Tryz.ntmps102
  go_wp2_with fail
  go_end0
  exact ⟨rfl, HB.out.setv 0 _ rfl, (Chg.refl _ _).setCell (.inl (by simp)) _⟩
set_option maxHeartbeats 1600000 in
set_option maxRecDepth 100000 in
theorem lclone_nil (w : World) : Calls Tryz.prog 34 #[.slice none 0 0] w (NwPost (.slice none 0 0) w) := by
  have hnil : ∀ w : World, (binOp BinOp.eql 37 (.slice none 0 0) (.slice none 0 0)).run Tryz.prog w = .ok (.bool true) w := fun _ => by kernel_rfl
  go_enter Tryz.func34, Tryz.ntmps34
  go_wp2_with fail
  go_ret
  exact ⟨rfl, Chg.refl _ _⟩
set_option maxHeartbeats 1600000 in
set_option maxRecDepth 100000 in
theorem q_all0 (B : Blk w g 257 #[.slice none 0 0]) : Calls Tryz.prog 92 #[.pointer (some ⟨g, 0, none⟩)] w (NwPost (.slice none 0 0) w) := by
  have c0 := B.cellv 0 rfl
  go_enter Tryz.func92, Tryz.ntmps92
  go_wp2_with fail
  refine (lclone_nil w).mono ?_
  rintro e w1 ⟨rfl, c1⟩
  go_wp2_with fail
  go_ret
  exact ⟨rfl, c1⟩
set_option maxHeartbeats 1600000 in
set_option maxRecDepth 100000 in
theorem tm_len0 (B : Blk w g 196 #[.slice none 0 0, .int .i64 0]) : Calls Tryz.prog 81 #[.pointer (some ⟨g, 0, none⟩)] w (QuPost (.int .i64 0) w) := by
  have c0 := B.cellv 0 rfl
  go_enter Tryz.func81, Tryz.ntmps81
  go_wp2_with fail
  go_ret
  exact ⟨rfl, rfl⟩
set_option maxHeartbeats 1600000 in
set_option maxRecDepth 100000 in
theorem tm_due0 (B : Blk w g 196 #[.slice none 0 0, .int .i64 0]) (now : Int) : Calls Tryz.prog 48 #[.pointer (some ⟨g, 0, none⟩), .int .i64 now] w (QuPost (.slice none 0 0) w) := by
  go_enter Tryz.func48, Tryz.ntmps48
  have HB := Lib.hid B; clear B
  go_wp2_with fail
  go_loopg [5] 1 (fun gk idx wr => gk = 1 ∧ idx = .slice none 0 0 ∧ wr = w)
  case atStart => exact ⟨rfl, rfl, rfl⟩
  case round =>
    obtain ⟨rfl, rfl, rfl⟩ := hrel
    go_wp2_with fail
    refine (tm_len0 _ g HB.out).mono ?_
    rintro e w1 ⟨rfl, rfl⟩
    go_wp2_with fail
    go_ret
    exact ⟨rfl, rfl⟩
end
end Go.Proofs.YtoeppmnoifankaaGreatDoor
namespace Go.Proofs.YtoeppmnoifankaaGreatDoor
open Go.RowKit

/-- A ring: its 256 places, where its row begins, how long it is, who is next, and whether somebody is. -/
structure RgR where
  l : Nat → Int
  fr : Nat
  n : Nat
  nx : Int
  hs : Bool
def rgC (r : RgR) : Array Value := (((List.range 256).map fun i => Value.int .i64 (r.l i)) ++ ([.int .i64 (r.fr : Nat), .int .i64 (r.n : Nat), .int .i64 r.nx, .bool r.hs] : List Value)).toArray
theorem rgC_at (r : RgR) {i : Nat} (hi : i < 256) : (rgC r)[i]? = some (.int .i64 (r.l i)) := by
  unfold rgC
  rw [List.getElem?_toArray, List.getElem?_append_left (by simpa using hi), List.getElem?_map, List.getElem?_range hi]; rfl
theorem rgC_hi (r : RgR) (i : Nat) : (rgC r)[256 + i]? = [Value.int .i64 (r.fr : Nat), .int .i64 (r.n : Nat), .int .i64 r.nx, .bool r.hs][i]? := by
  unfold rgC
  rw [List.getElem?_toArray, List.getElem?_append_right (by simp)]; simp
theorem rgC_fr (r : RgR) : (rgC r)[256]? = some (.int .i64 (r.fr : Nat)) := rgC_hi r 0
theorem rgC_n (r : RgR) : (rgC r)[257]? = some (.int .i64 (r.n : Nat)) := rgC_hi r 1
theorem rgC_nx (r : RgR) : (rgC r)[258]? = some (.int .i64 r.nx) := rgC_hi r 2
theorem rgC_hs (r : RgR) : (rgC r)[259]? = some (.bool r.hs) := rgC_hi r 3
theorem rgC_size (r : RgR) : (rgC r).size = 260 := by unfold rgC; simp
theorem rgC_ext {a : Array Value} (r : RgR) (hs : a.size = 260) (hl : ∀ i, i < 256 → a[i]? = some (.int .i64 (r.l i))) (h0 : a[256]? = some (.int .i64 (r.fr : Nat))) (h1 : a[257]? = some (.int .i64 (r.n : Nat))) (h2 : a[258]? = some (.int .i64 r.nx)) (h3 : a[259]? = some (.bool r.hs)) : a = rgC r := by
  apply Array.ext_getElem?
  intro i
  by_cases hi : i < 256
  · rw [hl i hi, rgC_at r hi]
  · have : i = 256 ∨ i = 257 ∨ i = 258 ∨ i = 259 ∨ 260 ≤ i := by omega
    rcases this with rfl | rfl | rfl | rfl | h
    · rw [h0, rgC_fr]
    · rw [h1, rgC_n]
    · rw [h2, rgC_nx]
    · rw [h3, rgC_hs]
    · rw [Array.getElem?_eq_none (by omega), Array.getElem?_eq_none (by rw [rgC_size]; omega)]
section
variable (r : RgR)
theorem rgC_setl {i : Nat} (hi : i < 256) (x : Int) : (rgC r).setIfInBounds i (.int .i64 x) = rgC { r with l := fun k => if k = i then x else r.l k } := by
  refine rgC_ext _ (by simp [rgC_size]) (fun k hk => ?_) ?_ ?_ ?_ ?_
  · rw [Array.getElem?_setIfInBounds]
    by_cases e : i = k
    · subst e; rw [if_pos rfl, if_pos (by rw [rgC_size]; omega)]; simp
    · rw [if_neg e, rgC_at r hk]; simp [show ¬ k = i from fun h => e h.symm]
  · rw [Array.getElem?_setIfInBounds_ne (by omega), rgC_fr]
  · rw [Array.getElem?_setIfInBounds_ne (by omega), rgC_n]
  · rw [Array.getElem?_setIfInBounds_ne (by omega), rgC_nx]
  · rw [Array.getElem?_setIfInBounds_ne (by omega), rgC_hs]
theorem rgC_setfr (x : Nat) : (rgC r).setIfInBounds 256 (.int .i64 (x : Nat)) = rgC { r with fr := x } := by
  refine rgC_ext _ (by simp [rgC_size]) (fun k hk => ?_) ?_ ?_ ?_ ?_
  · rw [Array.getElem?_setIfInBounds_ne (by omega), rgC_at r hk]
  · rw [Array.getElem?_setIfInBounds, if_pos rfl, if_pos (by rw [rgC_size]; omega)]
  · rw [Array.getElem?_setIfInBounds_ne (by omega), rgC_n]
  · rw [Array.getElem?_setIfInBounds_ne (by omega), rgC_nx]
  · rw [Array.getElem?_setIfInBounds_ne (by omega), rgC_hs]
theorem rgC_setn (x : Nat) : (rgC r).setIfInBounds 257 (.int .i64 (x : Nat)) = rgC { r with n := x } := by
  refine rgC_ext _ (by simp [rgC_size]) (fun k hk => ?_) ?_ ?_ ?_ ?_
  · rw [Array.getElem?_setIfInBounds_ne (by omega), rgC_at r hk]
  · rw [Array.getElem?_setIfInBounds_ne (by omega), rgC_fr]
  · rw [Array.getElem?_setIfInBounds, if_pos rfl, if_pos (by rw [rgC_size]; omega)]
  · rw [Array.getElem?_setIfInBounds_ne (by omega), rgC_nx]
  · rw [Array.getElem?_setIfInBounds_ne (by omega), rgC_hs]
end
/-- An empty ring. -/
def rg0 : RgR := ⟨fun _ => 0, 0, 0, 0, false⟩
/-- Whom a ring holds. -/
def RgR.xs (r : RgR) : List Int := (if r.hs then [r.nx] else []) ++ (List.range r.n).map fun i => r.l ((r.fr + i) % 256)
end Go.Proofs.YtoeppmnoifankaaGreatDoor
