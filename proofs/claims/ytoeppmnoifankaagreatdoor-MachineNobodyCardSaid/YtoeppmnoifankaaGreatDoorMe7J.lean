/- A machine that is nil: View and Room; MachineNobody's walk. -/
/- A choice, read off an argument. -/
/- The last step of a law's row: the call returned true and nothing that was there has changed. No program's number in sight. -/
import Derived.Test.YtoeppmnoifankaaGreatDoorMe5
import Derived.Test.YtoeppmnoifankaaGreatDoorMe6
import Derived.Test.YtoeppmnoifankaaGreatDoorMHpJ
import Derived.Test.YtoeppmnoifankaaGreatDoorRows
import Derived.WalkKit
import Derived.ProofKit
import Derived.OpenShut
import Derived.Lib.SmallJoins
import Derived.Test.YtoeppmnoifankaaGreatDoorMem
import Derived.Carry
import Derived.Deep.Slices
import Derived.Deep.Fields
namespace Go.Proofs.YtoeppmnoifankaaGreatDoor
open Go.RowKit Go.Maps

theorem szK_le28 : ∀ k, szK k ≤ 256 := fun k => by
  by_cases h : k < 16
  · have : ∀ j : Fin 16, szK j.1 ≤ 256 := by decide
    exact this ⟨k, h⟩
  · unfold szK
    rw [List.getD_eq_getElem?_getD, List.getElem?_eq_none (by show szL.length ≤ k; have : szL.length = 16 := rfl; omega)]
    decide
def ConRel28 (w0 : World) (gk : Nat) (idx : Value) (w : World) : Prop := ∃ k, gk + k = 17 ∧ k ≤ 16 ∧ idx = .int .i64 (k : Nat) ∧ Chg [] w0 w
set_option maxHeartbeats 1600000 in
set_option maxRecDepth 100000 in
theorem cof_out28 (w : World) (n : Int) (h : n < 1 ∨ 256 < n) : Calls Tryz.prog 31 #[.int .i64 n] w (NwPost (.int .i64 (-1)) w) := by
  go_enter Tryz.func31, Tryz.ntmps31
  go_wp2_with fail
  refine (table_ok w).mono ?_
  rintro e w1 ⟨rfl, c1⟩
  have HC := Lib.hid c1; clear c1
  go_wp2_with fail
  go_loopg [6] 17 (fun gk idx wr => ConRel28 w gk idx wr)
  case atStart => exact ⟨0, by omega, by omega, rfl, HC.out⟩
  case round =>
    obtain ⟨k, hgk, hk, rfl, c⟩ := hrel
    have HD := Lib.hid c; clear c
    by_cases ek : k < 16
    · have hix := idx_sz wr k ek
      have hi' : (k : Int) < 16 := by omega
      obtain ⟨s, hs⟩ : ∃ s, s = szK k := ⟨_, rfl⟩
      have hle : s ≤ 256 := by rw [hs]; exact szK_le28 k
      rw [← hs] at hix
      clear hs
      by_cases h1 : (1 : Int) ≤ n
      · have h4 : ¬ n ≤ (s : Int) := by omega
        clear h hle
        go_wp2_with fail
        go_roundg (16 - k)
        case measure => omega
        case rel => exact ⟨k + 1, by omega, by omega, by go_num, HD.out⟩
      · clear h hle
        go_wp2_with fail
        go_roundg (16 - k)
        case measure => omega
        case rel => exact ⟨k + 1, by omega, by omega, by go_num, HD.out⟩
    · obtain rfl : k = 16 := by omega
      have hi' : ¬ ((16 : Nat) : Int) < 16 := by omega
      clear h
      go_wp2_with fail
      go_ret
      exact ⟨rfl, HD.out⟩
def CofPost28 (w : World) (e : Ending) (w' : World) : Prop := ∃ k : Int, e = .returned (.int .i64 k) ∧ Chg [] w w'
theorem cof_any28 (w : World) (n : Int) : Calls Tryz.prog 31 #[.int .i64 n] w (CofPost28 w) := by
  by_cases h : n < 1 ∨ 256 < n
  · exact (cof_out28 w n h).mono fun e w' ⟨he, c⟩ => ⟨-1, he, c⟩
  · obtain ⟨m, rfl⟩ : ∃ m : Nat, n = m := ⟨n.toNat, by omega⟩
    exact (cof_ok w m (by omega) (by omega)).mono fun e w' ⟨k, _, he, c⟩ => ⟨(k : Nat), he, c⟩
theorem n_room (w : World) (n : Int) : Calls Tryz.prog 9 #[.pointer none, .int .i64 n] w (NwPost (.int .i64 0) w) := by
  have K := n_arena w
  have K2 := cof_any28 w n
  have K3 := fun w' c => n_aroom w' c
  go_enter Tryz.func9, Tryz.ntmps9
  go_wp2_with fail
  refine K.mono ?_
  rintro e w1 ⟨rfl, rfl⟩
  go_wp2_with fail
  refine K2.mono ?_
  rintro e w2 ⟨k, rfl, c2⟩
  have H2 := Lib.hid c2; clear c2
  go_wp2_with fail
  refine (K3 w2 k).mono ?_
  rintro e w3 ⟨rfl, rfl⟩
  go_wp2_with fail
  go_ret
  exact ⟨rfl, H2.out⟩
def vwZ : Array Value := #[.int .i64 0, .int .i64 0, .int .i64 0, .slice none 0 0, .slice none 0 0, .slice none 0 0, .int .i64 0, .int .i64 0, .int .i64 0]
set_option maxHeartbeats 1600000 in
set_option maxRecDepth 100000 in
theorem n_view (w : World) : Calls Tryz.prog 12 #[.pointer none] w (NwPost (.agg vwZ) w) := by
  go_enter Tryz.func12, Tryz.ntmps12
  go_wp2_with fail
  refine ⟨rfl, _, results_cell_row (P := Tryz.prog) (fn := Tryz.f12) rfl _ _ w.heap.size 41 _ _ _ rfl (heap_alloc_new w (.cells vwZ 41)) Tryz.underlying41 rfl (by kernel_rfl), rfl, (Chg.refl [] w).alloc _⟩
set_option maxHeartbeats 6400000 in
set_option maxRecDepth 100000 in
theorem nobody_any (q vic tick : Int) (pre : Bool) (g : Int) (w : World) : Calls Tryz.prog 4 #[.agg #[.int .i64 q, .int .i64 vic, .bool pre, .int .i64 tick], .int .i64 g] w (NwPost (.bool true) w) := by
  have K1 := fun w' => n_view w'
  have K2 := fun w' => n_credit w' g
  have K3 := fun w' => n_commit w' g
  have K4 := fun w' => told28_yes w'
  have K5 := fun w' => n_step w' q vic tick pre
  have K6 := fun w' => n_commits w'
  have K7 := fun w' => n_freed w'
  have K8 := fun w' => n_live w'
  have K9 := fun w' => n_room w' g
  have K10 := fun w' => n_steps w'
  have K11 := fun w' => n_enabled w' 0
  have K12 := fun w' => n_goal w'
  have HK := Lib.hid (And.intro K1 (And.intro K2 (And.intro K3 (And.intro K4 (And.intro K5 (And.intro K6 (And.intro K7 (And.intro K8 (And.intro K9 (And.intro K10 (And.intro K11 K12)))))))))))
  clear K1 K2 K3 K4 K5 K6 K7 K8 K9 K10 K11 K12
  go_enter Tryz.func4, Tryz.ntmps4
  go_upto_region 2 with fail
  obtain ⟨w1, hw1⟩ : ∃ w1, w1 = w.alloc (.cells #[.int .i64 q, .int .i64 vic, .bool pre, .int .i64 tick] 43) := ⟨_, rfl⟩
  obtain ⟨gB, hgB⟩ : ∃ gB, gB = w.heap.size := ⟨_, rfl⟩
  rw [← hw1, ← hgB]
  have B1 : Blk w1 gB 43 #[.int .i64 q, .int .i64 vic, .bool pre, .int .i64 tick] := by rw [hw1, hgB]; exact Blk.new _ _ _
  have c01 : Chg [] w w1 := by rw [hw1]; exact (Chg.refl [] w).alloc _
  have H1 := Lib.hid (And.intro B1 c01); clear B1 c01 hw1 hgB
  go_wp2_with fail
  refine (HK.out.1 w1).mono ?_
  rintro e w2 ⟨rfl, c2⟩
  have H2 := Lib.hid (And.intro (c2.blk H1.out.1 (by simp)) (H1.out.2.trans c2)); clear c2
  unfold vwZ
  go_upto_region 3 with fail
  obtain ⟨w3, hw3⟩ : ∃ w3, w3 = w2.alloc (.cells vwZ 41) := ⟨_, rfl⟩
  obtain ⟨gV, hgV⟩ : ∃ gV, gV = w2.heap.size := ⟨_, rfl⟩
  have hw3' := hw3
  unfold vwZ at hw3'
  rw [← hw3', ← hgV]
  have B3 : Blk w3 gV 41 vwZ := by rw [hw3, hgV]; exact Blk.new _ _ _
  have c23 : Chg [] w2 w3 := by rw [hw3]; exact (Chg.refl [] w2).alloc _
  have H3 := Lib.hid (And.intro B3 (And.intro (c23.blk H2.out.1 (by simp)) (H2.out.2.trans c23))); clear B3 c23 hw3 hw3' hgV
  go_wp2_with fail
  refine (HK.out.2.1 w3).mono ?_
  rintro e w3' ⟨rfl, rfl⟩
  go_wp2_with fail
  refine (HK.out.2.2.1 w3').mono ?_
  rintro e w4 ⟨rfl, c4⟩
  have H4 := Lib.hid (And.intro (c4.blk H3.out.1 (by simp)) (And.intro (c4.blk H3.out.2.1 (by simp)) (H3.out.2.2.trans c4))); clear c4
  go_upto_region 5 with fail
  obtain ⟨w5, hw5⟩ : ∃ w5, w5 = w4.alloc (.cells #[.int .i64 0, .int .i64 0, .int .i64 0, .int .i64 0, .int .i64 0, .bool false] 53) := ⟨_, rfl⟩
  rw [← hw5]
  have c45 : Chg [] w4 w5 := by rw [hw5]; exact (Chg.refl [] w4).alloc _
  have H5 := Lib.hid (And.intro (c45.blk H4.out.1 (by simp)) (And.intro (c45.blk H4.out.2.1 (by simp)) (H4.out.2.2.trans c45))); clear c45 hw5
  go_wp2_with fail
  refine (HK.out.2.2.2.1 w5).mono ?_
  rintro e w6 ⟨rfl, c6⟩
  have B6 := c6.blk H5.out.2.1 (by simp)
  have t0 : w6.cell? ⟨gB, 0, none⟩ = some (.int .i64 q) := B6.cellv 0 rfl
  have t1 : w6.cell? ⟨gB, 1, none⟩ = some (.int .i64 vic) := B6.cellv 1 rfl
  have t2 : w6.cell? ⟨gB, 2, none⟩ = some (.bool pre) := B6.cellv 2 rfl
  have t3 : w6.cell? ⟨gB, 3, none⟩ = some (.int .i64 tick) := B6.cellv 3 rfl
  have H6 := Lib.hid (And.intro (c6.blk H5.out.1 (by simp)) (H5.out.2.2.trans c6)); clear c6 B6
  go_wp2_with fail
  refine (HK.out.2.2.2.2.1 w6).mono ?_
  rintro e w7 ⟨rfl, c7⟩
  have H7 := Lib.hid (And.intro (c7.blk H6.out.1 (by simp)) (H6.out.2.trans c7)); clear c7 t0 t1 t2 t3
  have hfd : ∀ w : World, (Instr.field 57 (.agg #[.int .i64 0, .int .i64 (-1), .int .i64 0]) 0).run Tryz.prog w = .ok (.int .i64 0) w := fun _ => by kernel_rfl
  go_wp2_with fail
  refine (HK.out.2.2.2.2.2.1 w7).mono ?_
  rintro e w7' ⟨rfl, rfl⟩
  go_wp2_with fail
  refine (HK.out.2.2.2.2.2.2.1 w7').mono ?_
  rintro e w8 ⟨rfl, rfl⟩
  go_wp2_with fail
  refine (HK.out.2.2.2.2.2.2.2.1 w8).mono ?_
  rintro e w9 ⟨rfl, rfl⟩
  go_wp2_with fail
  refine (HK.out.2.2.2.2.2.2.2.2.1 w9).mono ?_
  rintro e w10 ⟨rfl, c10⟩
  have H10 := Lib.hid (And.intro (c10.blk H7.out.1 (by simp)) (H7.out.2.trans c10)); clear c10
  go_wp2_with fail
  refine (HK.out.2.2.2.2.2.2.2.2.2.1 w10).mono ?_
  rintro e w11 ⟨rfl, rfl⟩
  go_wp2_with fail
  refine (HK.out.2.2.2.2.2.2.2.2.2.2.1 w11).mono ?_
  rintro e w12 ⟨rfl, rfl⟩
  have v4 : w12.cell? ⟨gV, 4, none⟩ = some (.slice none 0 0) := H10.out.1.cellv 4 rfl
  have v5 : w12.cell? ⟨gV, 5, none⟩ = some (.slice none 0 0) := H10.out.1.cellv 5 rfl
  go_wp2_with fail
  refine (HK.out.2.2.2.2.2.2.2.2.2.2.2 w12).mono ?_
  rintro e w13 ⟨rfl, c13⟩
  have H13 := Lib.hid (H10.out.2.trans c13); clear c13
  go_wp2_with fail
  go_ret
  exact ⟨rfl, H13.out⟩
theorem nobody_all (q vic : Int) (pre : Bool) (tick g : Int) (W : World) (_ : Tab W) : Calls Tryz.prog 4 #[.agg #[.int .i64 q, .int .i64 vic, .bool pre, .int .i64 tick], .int .i64 g] W (NwPost (.bool true) W) := nobody_any q vic tick pre g W
end Go.Proofs.YtoeppmnoifankaaGreatDoor
namespace Go.Proofs.YtoeppmnoifankaaGreatDoor
open Go.ChangeShapes Go.WideShapes Go.ChangeAt Go.RowKit

section
variable {H : Type} {enc : TypeId × Value → H} {w : World} {spare : Nat → Bool} {b0 : Nat} {v : Value} {d : DataW H} {p : List MemPlace}
set_option maxRecDepth 100000 in
theorem open_choice (hv : Value.okWide Tryz.prog w .any b0 43 v) (h : DataW.Trod enc Tryz.prog w 0 spare true 43 v d p) : ∃ (q u : Int) (b : Bool) (k : Int), v = .agg #[.int .i64 q, .int .i64 u, .bool b, .int .i64 k] := by
  obtain ⟨v0, v1, v2, v3, y0, y1, y2, y3, n, rfl, -, -, h0, h1, h2, h3⟩ := Go.Joins.open_agg4 Tryz.underlying43 (by kernel_rfl) (by kernel_rfl) hv h
  obtain ⟨q, e0, -⟩ := DataW.trod_int Tryz.underlying3 h0
  obtain ⟨u, e1, -⟩ := DataW.trod_int Tryz.underlying3 h1
  obtain ⟨b, e2, -⟩ := DataW.trod_bool Tryz.underlying4 h2
  obtain ⟨k, e3, -⟩ := DataW.trod_int Tryz.underlying3 h3
  exact ⟨q, u, b, k, by simp_all⟩
end
end Go.Proofs.YtoeppmnoifankaaGreatDoor
namespace Go.Proofs.YtoeppmnoifankaaGreatDoor
open Go.ChangeShapes Go.WideShapes Go.ChangeAt Go.RowKit Go.Deep

theorem law_own : ownKnob Tryz.prog.godebug = none := by kernel_rfl
theorem law_laidOut : laidOutB Tryz.prog = true := by kernel_rfl

section
variable {H : Type} {enc : TypeId × Value → H} {P : Program}
theorem trodAll_stays {W W' : World} (hl : laidOutB P = true) (hb : Below W.heap.size W W') : ∀ (ts : List TypeId) (vs : List Value) (ds : List (DataW H)) (ps : List MemPlace),
    (∀ t ∈ ts, P.readableRec t = true ∧ t < P.types.size) → DataW.TrodAll enc P W 0 (fun _ => true) true ts vs ds ps → (∀ x ∈ ps, x.block < W.heap.size) →
    DataW.TrodAll enc P W' 0 (fun b => decide (b < W.heap.size)) true ts vs ds ps
  | [], [], [], _, _, h, _ => h
  | t :: ts, v :: vs, d :: ds, ps, ht, h, hlt => by
    obtain ⟨p, q, h1, h2, rfl⟩ := h
    have h0 := ht t (by simp)
    exact ⟨p, q, Below.trod hl h0.1 h0.2 h1 hb (fun x hx => hlt x (by simp [hx])), trodAll_stays hl hb ts vs ds q (fun t' h' => ht t' (by simp [h'])) h2 (fun x hx => hlt x (by simp [hx])), rfl⟩
  | [], _ :: _, _, _, _, h, _ => h.elim
  | [], [], _ :: _, _, _, h, _ => h.elim
  | _ :: _, [], _, _, _, h, _ => h.elim
  | _ :: _, _ :: _, [], _, _, h, _ => h.elim

/-- 'true, and each argument reads as it did'. -/
theorem law_post {f : Func} {s : ChangeSpec} {tb : TypeId} {W W' : World} {args : Array Value} {ds gs : List (DataW H)} {before : List MemPlace} (hl : laidOutB P = true)
    (ht : P.underlying tb = some .bool) (hrt : f.resultTypes = #[tb]) (hp : ∀ t ∈ f.params.toList, P.readableRec t = true ∧ t < P.types.size) (hv : s.vars = [])
    (hfn : s.fn H ds = { results := [.lit (.bool true)], args := ds })
    (hW : DataW.Whole enc P f.params.toList s.vars false W args.toList ds gs before) (hb : Below W.heap.size W W') :
    s.post enc P f false true false false W args (.bool true) W' := by
  have hlt : ∀ p ∈ before, p.block < W.heap.size := fun p hp => hW.lt p hp
  have hW0 := hW
  obtain ⟨p, q, hA, hV, rfl, _, _⟩ := hW
  rw [hv] at hV
  obtain ⟨rfl, rfl⟩ := trodVars_none hV
  refine ⟨ds, [], p ++ [], [], p, [], hW0, ?_, ?_, ?_, ?_, fun h => by cases h⟩
  · rw [List.append_nil, hfn, hrt]
    exact trodAll_cons_mk (shut_bool ht _) trodAll_mk0
  · rw [List.append_nil, hfn]
    exact trodAll_stays hl hb _ _ _ _ hp hA (fun x hx => hlt x (by simp [hx]))
  · rw [List.append_nil, hfn, hv]
    exact rfl
  · exact hb.frame _
end

section
variable {H : Type} {enc : TypeId × Value → H} {P : Program} {w : World} {base : Nat} {spare : Nat → Bool} {held : Bool}
end
end Go.Proofs.YtoeppmnoifankaaGreatDoor
