/- Packages queue, timer, wait, barrier, as long as nobody is in them. -/
/- The machine's small parts as data: a ring's cells. No program in sight. -/
/- Package ring: a P's goroutines, as long as its row is not full and nobody is told to be next. -/
import Derived.Test.YtepnlcemlnkpdaaGreatDoorMOw
import Derived.Test.YtepnlcemlnkpdaaGreatDoorMcCJ
import Derived.Test.YtepnlcemlnkpdaaGreatDoorMemJ
namespace Go.Proofs.YtepnlcemlnkpdaaGreatDoor
set_option maxHeartbeats 16000000
set_option maxRecDepth 100000
open Go.RowKit Go.Maps
def NbPost (t : TypeId) (cs : Array Value) (w : World) (e : Ending) (w' : World) : Prop := ∃ g, e = .returned (.pointer (some ⟨g, 0, none⟩)) ∧ w.heap.size ≤ g ∧ Blk w' g t cs ∧ Chg [] w w'
theorem q_new (w : World) : Calls Tryz.prog 98 #[] w (NbPost 261 #[.slice none 0 0] w) := by
  go_enter Tryz.func98, Tryz.ntmps98
  go_wp2_with fail
  go_ret
  exact ⟨w.heap.size, rfl, Nat.le_refl _, Blk.new _ _ _, (Chg.refl _ _).alloc _⟩
theorem tm_new (w : World) : Calls Tryz.prog 44 #[] w (NbPost 157 #[.slice none 0 0, .int .i64 0] w) := by
  go_enter Tryz.func44, Tryz.ntmps44
  go_wp2_with fail
  go_ret
  exact ⟨w.heap.size, rfl, Nat.le_refl _, Blk.new _ _ _, (Chg.refl _ _).alloc _⟩
def wtC (v : Nat → Value) : Array Value := ((List.range 32).map v).toArray
theorem wt_new (w : World) : Calls Tryz.prog 45 #[] w (NbPost 192 (wtC fun _ => .slice none 0 0) w) := by
  go_enter Tryz.func45, Tryz.ntmps45
  go_wp2_with fail
  go_ret
  exact ⟨w.heap.size, rfl, Nat.le_refl _, Blk.new _ _ _, (Chg.refl _ _).alloc _⟩
def brC : Array Value := ((List.range 33).map fun _ => Value.int .i64 0).toArray
theorem br_new (w : World) : Calls Tryz.prog 46 #[] w (NbPost 197 brC w) := by
  go_enter Tryz.func46, Tryz.ntmps46
  go_wp2_with fail
  go_ret
  exact ⟨w.heap.size, rfl, Nat.le_refl _, Blk.new _ _ _, (Chg.refl _ _).alloc _⟩
section
variable (w : World) (g : Nat)
theorem q_len0 (B : Blk w g 261 #[.slice none 0 0]) : Calls Tryz.prog 209 #[.pointer (some ⟨g, 0, none⟩)] w (QuPost (.int .i64 0) w) := by
  have c0 := B.cellv 0 rfl
  go_enter Tryz.func209, Tryz.ntmps209
  go_wp2_with fail
  go_ret
  exact ⟨rfl, rfl⟩
theorem q_put0 (B : Blk w g 261 #[.slice none 0 0]) : Calls Tryz.prog 127 #[.pointer (some ⟨g, 0, none⟩), .slice none 0 0] w fun e w' => e = .returned (.tuple #[]) ∧ Blk w' g 261 #[.slice none 0 0] ∧ Chg [g] w w' := by
  have c0 := B.cellv 0 rfl
  have f0 := B.frozen 0
  have HB := Lib.hid B; clear B
  go_enter Tryz.func127, Tryz.ntmps127
  go_wp2_with fail
  go_end0
  exact ⟨rfl, HB.out.setv 0 _ rfl, (Chg.refl _ _).setCell (.inl (by simp)) _⟩
theorem lclone_nil (w : World) : Calls Tryz.prog 53 #[.slice none 0 0] w (NwPost (.slice none 0 0) w) := by
  have hnil : ∀ w : World, (binOp BinOp.eql 37 (.slice none 0 0) (.slice none 0 0)).run Tryz.prog w = .ok (.bool true) w := fun _ => by kernel_rfl
  go_enter Tryz.func53, Tryz.ntmps53
  go_wp2_with fail
  go_ret
  exact ⟨rfl, Chg.refl _ _⟩
theorem q_all0 (B : Blk w g 261 #[.slice none 0 0]) : Calls Tryz.prog 107 #[.pointer (some ⟨g, 0, none⟩)] w (NwPost (.slice none 0 0) w) := by
  have c0 := B.cellv 0 rfl
  go_enter Tryz.func107, Tryz.ntmps107
  go_wp2_with fail
  refine (lclone_nil w).mono ?_
  rintro e w1 ⟨rfl, c1⟩
  go_wp2_with fail
  go_ret
  exact ⟨rfl, c1⟩
theorem tm_len0 (B : Blk w g 157 #[.slice none 0 0, .int .i64 0]) : Calls Tryz.prog 34 #[.pointer (some ⟨g, 0, none⟩)] w (QuPost (.int .i64 0) w) := by
  have c0 := B.cellv 0 rfl
  go_enter Tryz.func34, Tryz.ntmps34
  go_wp2_with fail
  go_ret
  exact ⟨rfl, rfl⟩
theorem tm_due0 (B : Blk w g 157 #[.slice none 0 0, .int .i64 0]) (now : Int) : Calls Tryz.prog 81 #[.pointer (some ⟨g, 0, none⟩), .int .i64 now] w (QuPost (.slice none 0 0) w) := by
  go_enter Tryz.func81, Tryz.ntmps81
  have HB := Lib.hid B; clear B
  go_wp2_with fail
  go_loopg [5] 1 (fun gk idx wr => gk = 1 ∧ idx = .slice none 0 0 ∧ wr = w)
  case atStart => exact ⟨rfl, rfl, rfl⟩
  case round =>
    obtain ⟨rfl, rfl, rfl⟩ := hrel
    go_wp2_with fail
    refine (tm_len0 _ g HB.out).mono ?_
    rintro e w1 ⟨rfl, rfl⟩
    go_wp2_with fail
    go_ret
    exact ⟨rfl, rfl⟩
end
open Go.RowKit
structure RgR where
  l : Nat → Int
  fr : Nat
  n : Nat
  nx : Int
  hs : Bool
def rgC (r : RgR) : Array Value := (((List.range 256).map fun i => Value.int .i64 (r.l i)) ++ ([.int .i64 (r.fr : Nat), .int .i64 (r.n : Nat), .int .i64 r.nx, .bool r.hs] : List Value)).toArray
theorem rgC_at (r : RgR) {i : Nat} (hi : i < 256) : (rgC r)[i]? = some (.int .i64 (r.l i)) := by
  unfold rgC
  rw [List.getElem?_toArray, List.getElem?_append_left (by simpa using hi), List.getElem?_map, List.getElem?_range hi]; rfl
theorem rgC_hi (r : RgR) (i : Nat) : (rgC r)[256 + i]? = [Value.int .i64 (r.fr : Nat), .int .i64 (r.n : Nat), .int .i64 r.nx, .bool r.hs][i]? := by
  unfold rgC
  rw [List.getElem?_toArray, List.getElem?_append_right (by simp)]; simp
theorem rgC_fr (r : RgR) : (rgC r)[256]? = some (.int .i64 (r.fr : Nat)) := rgC_hi r 0
theorem rgC_n (r : RgR) : (rgC r)[257]? = some (.int .i64 (r.n : Nat)) := rgC_hi r 1
theorem rgC_nx (r : RgR) : (rgC r)[258]? = some (.int .i64 r.nx) := rgC_hi r 2
theorem rgC_hs (r : RgR) : (rgC r)[259]? = some (.bool r.hs) := rgC_hi r 3
theorem rgC_size (r : RgR) : (rgC r).size = 260 := by unfold rgC; simp
theorem rgC_ext {a : Array Value} (r : RgR) (hs : a.size = 260) (hl : ∀ i, i < 256 → a[i]? = some (.int .i64 (r.l i))) (h0 : a[256]? = some (.int .i64 (r.fr : Nat))) (h1 : a[257]? = some (.int .i64 (r.n : Nat))) (h2 : a[258]? = some (.int .i64 r.nx)) (h3 : a[259]? = some (.bool r.hs)) : a = rgC r := by
  apply Array.ext_getElem?
  intro i
  by_cases hi : i < 256
  · rw [hl i hi, rgC_at r hi]
  · have : i = 256 ∨ i = 257 ∨ i = 258 ∨ i = 259 ∨ 260 ≤ i := by omega
    rcases this with rfl | rfl | rfl | rfl | h
    · rw [h0, rgC_fr]
    · rw [h1, rgC_n]
    · rw [h2, rgC_nx]
    · rw [h3, rgC_hs]
    · rw [Array.getElem?_eq_none (by omega), Array.getElem?_eq_none (by rw [rgC_size]; omega)]
section
variable (r : RgR)
theorem rgC_setl {i : Nat} (hi : i < 256) (x : Int) : (rgC r).setIfInBounds i (.int .i64 x) = rgC { r with l := fun k => if k = i then x else r.l k } := by
  refine rgC_ext _ (by simp [rgC_size]) (fun k hk => ?_) ?_ ?_ ?_ ?_
  · rw [Array.getElem?_setIfInBounds]
    by_cases e : i = k
    · subst e; rw [if_pos rfl, if_pos (by rw [rgC_size]; omega)]; simp
    · rw [if_neg e, rgC_at r hk]; simp [show ¬ k = i from fun h => e h.symm]
  · rw [Array.getElem?_setIfInBounds_ne (by omega), rgC_fr]
  · rw [Array.getElem?_setIfInBounds_ne (by omega), rgC_n]
  · rw [Array.getElem?_setIfInBounds_ne (by omega), rgC_nx]
  · rw [Array.getElem?_setIfInBounds_ne (by omega), rgC_hs]
theorem rgC_setfr (x : Nat) : (rgC r).setIfInBounds 256 (.int .i64 (x : Nat)) = rgC { r with fr := x } := by
  refine rgC_ext _ (by simp [rgC_size]) (fun k hk => ?_) ?_ ?_ ?_ ?_
  · rw [Array.getElem?_setIfInBounds_ne (by omega), rgC_at r hk]
  · rw [Array.getElem?_setIfInBounds, if_pos rfl, if_pos (by rw [rgC_size]; omega)]
  · rw [Array.getElem?_setIfInBounds_ne (by omega), rgC_n]
  · rw [Array.getElem?_setIfInBounds_ne (by omega), rgC_nx]
  · rw [Array.getElem?_setIfInBounds_ne (by omega), rgC_hs]
theorem rgC_setn (x : Nat) : (rgC r).setIfInBounds 257 (.int .i64 (x : Nat)) = rgC { r with n := x } := by
  refine rgC_ext _ (by simp [rgC_size]) (fun k hk => ?_) ?_ ?_ ?_ ?_
  · rw [Array.getElem?_setIfInBounds_ne (by omega), rgC_at r hk]
  · rw [Array.getElem?_setIfInBounds_ne (by omega), rgC_fr]
  · rw [Array.getElem?_setIfInBounds, if_pos rfl, if_pos (by rw [rgC_size]; omega)]
  · rw [Array.getElem?_setIfInBounds_ne (by omega), rgC_nx]
  · rw [Array.getElem?_setIfInBounds_ne (by omega), rgC_hs]
end
def rg0 : RgR := ⟨fun _ => 0, 0, 0, 0, false⟩
def RgR.xs (r : RgR) : List Int := (if r.hs then [r.nx] else []) ++ (List.range r.n).map fun i => r.l ((r.fr + i) % 256)
def RgPost (g : Nat) (v : Value) (r : RgR) (w : World) (e : Ending) (w' : World) : Prop := e = .returned v ∧ Blk w' g 264 (rgC r) ∧ Chg [g] w w'
theorem rg_zero : (Tryz.prog.info? 264).map (fun i => (i.zero.map Value.cells, i.size)) = some (some (rgC rg0).toList.toArray, 260) := by kernel_rfl
theorem rg_new (w : World) : Calls Tryz.prog 99 #[] w fun e w' => ∃ g, e = .returned (.pointer (some ⟨g, 0, none⟩)) ∧ w.heap.size ≤ g ∧ Blk w' g 264 (rgC rg0) ∧ Chg [] w w' := by
  go_enter Tryz.func99, Tryz.ntmps99
  go_wp2_with fail
  go_ret
  exact ⟨w.heap.size, rfl, Nat.le_refl _, Blk.new _ _ _, (Chg.refl _ _).alloc _⟩
section
variable (w : World) (g : Nat) (r : RgR) (hB : Blk w g 264 (rgC r))
include hB
theorem rg_at (i : Nat) (hf : r.fr < 256) (hi : i ≤ 256) : Calls Tryz.prog 167 #[.pointer (some ⟨g, 0, none⟩), .int .i64 (i : Nat)] w (NwPost (.pointer (some ⟨g, (r.fr + i) % 256, none⟩)) w) := by
  have c0 := hB.cellv 256 (rgC_fr r)
  have d0 : (0 : Int) ≤ (((r.fr + i) % 256 : Nat) : Int) := by omega
  have d1 : (((r.fr + i) % 256 : Nat) : Int) < 256 := by omega
  have e1 : ((r.fr : Int) + (i : Int)).tmod 256 = (((r.fr + i) % 256 : Nat) : Int) := by rw [Int.tmod_eq_emod_of_nonneg (by omega)]; omega
  go_enter Tryz.func167, Tryz.ntmps167
  go_wp2_with fail
  go_quiet (fail)
  go_wp2_with fail
  go_ret
  exact ⟨rfl, (Chg.refl _ _).drewN _⟩
theorem rg_first (hf : r.fr < 256) (h0 : 0 < r.n) (hn : r.n ≤ 256) : Calls Tryz.prog 267 #[.pointer (some ⟨g, 0, none⟩)] w (RgPost g (.int .i64 (r.l r.fr)) { r with fr := (r.fr + 1) % 256, n := r.n - 1 } w) := by
  have K := rg_at w g r hB 0 hf (by omega)
  rw [Nat.add_zero, Nat.mod_eq_of_lt hf] at K
  have HB := Lib.hid (And.intro K hB); clear hB K
  go_enter Tryz.func267, Tryz.ntmps267
  go_wp2_with fail
  refine HB.out.1.mono ?_
  rintro e w1 ⟨rfl, c1⟩
  have B1 := c1.blk HB.out.2 (by simp)
  have c0 := B1.cellv r.fr (rgC_at r hf)
  have ca := B1.cellv 256 (rgC_fr r)
  have cb := B1.cellv 257 (rgC_n r)
  have fa := B1.frozen 256
  have fb := B1.frozen 257
  have HC := Lib.hid (And.intro c1 B1); clear c1 B1
  have e1 : ((r.fr : Int) + 1).tmod 256 = (((r.fr + 1) % 256 : Nat) : Int) := by rw [Int.tmod_eq_emod_of_nonneg (by omega)]; omega
  have e2 : (r.n : Int) - 1 = ((r.n - 1 : Nat) : Int) := by omega
  go_wp2_with fail
  have hgl : g < w1.heap.size := HC.out.2.lt
  refine wp_region_takes (fuel := 9) 16 (fun w' => Chg [g] w1 w' ∧ w'.cell? ⟨g, 257, none⟩ = some (.int .i64 (r.n : Nat))) [0, 1, 2, 3, 4, 8, 9, 10, 11, 12] (by kernel_rfl) (by kernel_rfl) (fun _ _ _ _ _ h => h) (⟨((Chg.refl [] w1).drew).mono (by simp), cb⟩) ?_
  simp only [List.filterMap_cons, List.filterMap_nil, qGa, qGb]
  iterate 10
    refine wpTake_step (fun K hK => ?_)
    rw [if_pos (by rfl)]
    refine ⟨?_, fun w' hS' => ?_, ?_⟩
    rotate_left 1
    focus
      have yb := hS'.2
      go_simp
      try with_reducible rfl
      done
    simp only [Act.put, qSa, qSb, qSc]
    refine hK _ ?_
    clear hK K
  refine wpTake_nil ?_
  generalize hx0 : w1.drew = x0
  have D0 : Chg [] w1 x0 := by rw [← hx0]; exact (Chg.refl [] w1).drew
  clear hx0
  refine wpAnyS_ready (rs := [5]) (by kernel_rfl) (by simp) ?_
  refine AllReadyS.o (fun K hK => ?_)
  have y1 := D0.cellv hgl (by simp) ca
  rw [if_pos (by rfl)]
  go_simp
  refine hK _ _ (⟨D0.mono (by simp), D0.cellv hgl (by simp) cb⟩) ?_
  clear hK K
  try simp only [Act.put, qSa, qSb, qSc]
  refine wpAnyS_more (fuel := 4) [6, 7, 13, 14] (by kernel_rfl) (fun _ _ _ _ _ h => h) ⟨D0.mono (by simp), D0.cellv hgl (by simp) cb⟩ ?_
  simp only [List.filterMap_cons, List.filterMap_nil, qGa, qGb]
  iterate 4
    refine wpTake_step (fun K hK => ?_)
    rw [if_pos (by rfl)]
    refine ⟨?_, fun w' hS' => ?_, ?_⟩
    rotate_left 1
    focus
      have yb := hS'.2
      go_simp
      try with_reducible rfl
      done
    simp only [Act.put, qSa, qSb, qSc]
    refine hK _ ?_
    clear hK K
  refine wpTake_nil ?_
  refine wpAnyS_ready (rs := [15]) (by kernel_rfl) (by simp) ?_
  refine AllReadyS.o (fun K hK => ?_)
  have y2 : x0.frozen? ⟨g, 256, none⟩ = false := (D0.blk HC.out.2 (by simp)).frozen 256
  rw [if_pos (by rfl)]
  go_simp
  refine hK _ _ (⟨(D0.mono (by simp)).setCell (.inl (by simp)) _, by rw [World.cell?_setCell_other _ _ _ _ (by simp)]; exact D0.cellv hgl (by simp) cb⟩) ?_
  clear hK K
  try simp only [Act.put, qSa, qSb, qSc]
  refine wpAnyS_tail 16 3 (by kernel_rfl) rfl ?_
  simp only [qDa, qDb]
  have y3 := D0.cellv hgl (by simp) cb
  have y4 : x0.frozen? ⟨g, 257, none⟩ = false := (D0.blk HC.out.2 (by simp)).frozen 257
  have HD := Lib.hid (And.intro D0 HC.out); clear D0 HC HB
  go_wp2_with fail
  have z1 : ((r.fr : Int) + 1) % 256 = (((r.fr + 1) % 256 : Nat) : Int) := by omega
  rw [z1]
  go_ret
  have B2 := ((HD.out.1.blk HD.out.2.2 (by simp)).setv 256 _ (rgC_setfr r ((r.fr + 1) % 256))).setv 257 _ (rgC_setn _ (r.n - 1))
  exact ⟨rfl, B2, (((HD.out.2.1.trans HD.out.1).mono (by simp)).setCell (.inl (by simp)) _).setCell (.inl (by simp)) _⟩
theorem rg_behind (x : Int) (hf : r.fr < 256) (h1 : r.n < 256) : Calls Tryz.prog 185 #[.pointer (some ⟨g, 0, none⟩), .int .i64 x] w (RgPost g (.slice none 0 0) { r with l := fun k => if k = (r.fr + r.n) % 256 then x else r.l k, n := r.n + 1 } w) := by
  have cb := hB.cellv 257 (rgC_n r)
  have d0 : decide ((r.n : Int) < 256) = true := decide_eq_true (by omega)
  have d1 : (r.n : Int) < 256 := by omega
  go_enter Tryz.func185, Tryz.ntmps185
  have KA := rg_at w g r hB r.n hf (by omega)
  have HB := Lib.hid (And.intro hB KA); clear hB KA
  go_wp2_with fail
  refine HB.out.2.mono ?_
  rintro e x1 ⟨rfl, D1⟩
  have B1 := D1.blk HB.out.1 (by simp)
  have f1 := B1.frozen ((r.fr + r.n) % 256)
  have c9 := B1.cellv ((r.fr + r.n) % 256) (rgC_at r (by omega))
  have HD := Lib.hid (And.intro D1 B1)
  clear D1 B1 HB
  go_upto_region 3 with fail
  obtain ⟨x2, hx2⟩ : ∃ x2, x2 = x1.setCell ⟨g, (r.fr + r.n) % 256, none⟩ (.int .i64 x) := ⟨_, rfl⟩
  rw [← hx2]
  have B2 : Blk x2 g 264 (rgC { r with l := fun k => if k = (r.fr + r.n) % 256 then x else r.l k }) := by rw [hx2]; exact HD.out.2.setv _ _ (rgC_setl r (by omega) x)
  have C2 : Chg [g] w x2 := by rw [hx2]; exact (HD.out.1.mono (by simp)).setCell (.inl (by simp)) _
  have c2 : x2.cell? ⟨g, 257, none⟩ = some (.int .i64 (r.n : Nat)) := B2.cellv 257 (rgC_n _)
  have f2 := B2.frozen 257
  have HE := Lib.hid (And.intro B2 C2)
  clear B2 C2 hx2 HD
  go_wp2_with fail
  have e9 : (r.n : Int) + 1 = ((r.n + 1 : Nat) : Int) := by omega
  rw [e9]
  go_ret
  exact ⟨rfl, HE.out.1.setv 257 _ (rgC_setn _ (r.n + 1)), HE.out.2.setCell (.inl (by simp)) _⟩
end
end Go.Proofs.YtepnlcemlnkpdaaGreatDoor
