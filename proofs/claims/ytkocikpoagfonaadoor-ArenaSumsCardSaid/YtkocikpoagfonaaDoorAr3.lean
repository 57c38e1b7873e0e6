/- The walks of package arena: Find, Len, Live, Left, Marked, Mark. -/
import Derived.Test.YtkocikpoagfonaaDoorAr2
import Derived.Laws.ResultCell
namespace Go.Proofs.YtkocikpoagfonaaDoor
open Go.RowKit

theorem results_cell_tmp_row {P : Program} {fn : Func} {p u : Tmp} {ty : TypeId} (h : fn.results = #[.cell p ty, .tmp u]) (tmps : Array Value) (w : World) (g : Nat) (t : TypeId) (cs : Array Value) (fr : Nat × Nat) (d : TypeDesc)
    (hp : tmps.getD p undef = .pointer (some ⟨g, 0, none⟩)) (hg : w.heap[g]? = some (.cells cs t fr))
    (hu : P.underlying ty = some d) (hd : (match d with | .struct _ | .array _ _ => true | _ => false) = true) (hi : (P.info? ty).map (·.size) = some cs.size) :
    (results fn tmps).run P w = .ok (.tuple #[.agg cs, tmps.getD u undef]) w := by
  have hp' : tmps[p]?.getD undef = .pointer (some ⟨g, 0, none⟩) := by simpa using hp
  rw [results_cell_tmp h]
  simp [hp', asAddr, run_loadVar_row w g t ty cs fr d hg hu hd hi, Result.andThen]
/-- Where an object is. -/
def At (a : Ar) (x : Int) (id i : Nat) : Prop := ∃ s, a.sp id = some s ∧ i < slK s.k ∧ s.F i = true ∧ x = ((s.addr i : Nat) : Int)
theorem ArOk.find {N : Nat} {a : Ar} (ok : ArOk N a) {x : Int} {xs : List Int} (ho : obI a x = some xs) : ∃ id i s, a.sp id = some s ∧ i < slK s.k ∧ s.F i = true ∧ x = ((s.addr i : Nat) : Int) ∧ a.ow (x.toNat / 64) = some id ∧ s.addr i / 64 = x.toNat / 64 ∧ id < N := by
  unfold obI at ho
  by_cases hx : 0 ≤ x
  · rw [if_pos hx] at ho
    obtain ⟨id, s, i, h1, h2, h3, h4⟩ := (ok.ob x.toNat).1 (by rw [ho]; rfl)
    have hk := (ok.pg id s h1).1
    have h5 := sl_sz hk h2
    have h6 := (kF hk).2.2.1
    refine ⟨id, i, s, h1, h2, h3, by omega, ?_, by rw [h4], ok.top id s h1⟩
    refine ok.ow id s _ h1 ?_ ?_ <;> rw [h4] <;> unfold Sp.addr
    · omega
    · rw [Nat.add_mul] at h5; omega
  · rw [if_neg hx] at ho; cases ho
section
variable (w : World) (h : ArH) (a : Ar) (M : ArM w h a)
include M
def FdPost (a : Ar) (x : Int) (w : World) (e : Ending) (w' : World) : Prop :=
  Chg [] w w' ∧ ((obI a x = none ∧ e = .returned (.tuple #[.agg #[.int .i64 0, .int .i64 0], .bool false])) ∨ ∃ id i, (obI a x).isSome = true ∧ At a x id i ∧ e = .returned (.tuple #[.agg #[.int .i64 (id : Nat), .int .i64 (i : Nat)], .bool true]))
set_option maxHeartbeats 1600000 in
set_option maxRecDepth 100000 in
theorem find_ok (ok : ArOk h.N a) (hN : h.N ≤ 1000000) (x : Int) (hx : Wf64 x) : Calls Tryd.prog 22 #[.pointer (some ⟨h.ga, 0, none⟩), .int .i64 x] w (FdPost a x w) := by
  have C0 := (Chg.refl [] w).alloc (.cells #[.int .i64 0, .int .i64 0] 42)
  have HM := Lib.hid (And.intro (M.chg0 C0) (And.intro C0 (Blk.new w 42 #[.int .i64 0, .int .i64 0]))); clear C0 M
  go_enter Tryd.func22, Tryd.ntmps22
  go_upto_region 1 with fail
  obtain ⟨W, hW⟩ : ∃ W, W = (w.alloc (.cells #[.int .i64 0, .int .i64 0] 42)) := ⟨_, rfl⟩
  obtain ⟨gr, hgr⟩ : ∃ gr, gr = w.heap.size := ⟨_, rfl⟩
  rw [← hW, ← hgr] at HM ⊢
  have hg0 := Lib.hid hgr
  clear hW
  have M := HM.out.1
  have b3 : W.cell? ⟨h.ga, 3, none⟩ = some (.map (some h.bj)) := M.b.cellv 3 rfl
  have hl := M.j.look tyJ hx
  rw [obV_I] at hl
  cases ho : obI a x with
  | none =>
    rw [ho] at hl
    have hl' : (Instr.lookup 52 (.map (some h.bj)) (.int .i64 x) false).run Tryd.prog W = .ok (.slice none 0 0) W := hl
    have hnil := Lib.run_eql_slice_nil (P := Tryd.prog) W 32 3 none 0 0 0 0 Tryd.underlying32
    have c0 : W.cell? ⟨gr, 0, none⟩ = some (.int .i64 0) := HM.out.2.2.cellv 0 rfl
    have c1 : W.cell? ⟨gr, 1, none⟩ = some (.int .i64 0) := HM.out.2.2.cellv 1 rfl
    have f0 := HM.out.2.2.frozen 0
    have f1 := HM.out.2.2.frozen 1
    have HO := Lib.hid ho; clear ho hl M hgr ok
    go_wp2_with fail
    exact ⟨rfl, _, results_cell_tmp_row (P := Tryd.prog) (fn := Tryd.f22) rfl _ _ gr 42 _ _ _ rfl ((HM.out.2.2.setv 0 (.int .i64 0) rfl).setv 1 (.int .i64 0) rfl) Tryd.underlying42 rfl (by kernel_rfl), ((HM.out.2.1.setCell (p := ⟨gr, 0, none⟩) (.inr (by show w.heap.size ≤ gr; have := hg0.out; omega)) _).setCell (p := ⟨gr, 1, none⟩) (.inr (by show w.heap.size ≤ gr; have := hg0.out; omega)) _), .inl ⟨HO.out, rfl⟩⟩
  | some xs =>
    rw [ho] at hl
    have hl' : (Instr.lookup 52 (.map (some h.bj)) (.int .i64 x) false).run Tryd.prog W = .ok (.slice (some ⟨h.C x.toNat, 0, none⟩) xs.length xs.length) W := hl
    have hnil := Lib.run_eql_slice_nil (P := Tryd.prog) W 32 3 (some ⟨h.C x.toNat, 0, none⟩) xs.length xs.length 0 0 Tryd.underlying32
    obtain ⟨id, i, s, h1, h2, h3, h4, h5, h6, h7⟩ := ok.find ho
    have hx0 : 0 ≤ x := by omega
    have b1 : W.cell? ⟨h.ga, 1, none⟩ = some (.map (some h.bs)) := M.b.cellv 1 rfl
    have b2 : W.cell? ⟨h.ga, 2, none⟩ = some (.map (some h.bo)) := M.b.cellv 2 rfl
    have hd : x.tdiv 64 = ((x.toNat / 64 : Nat) : Int) := by rw [Int.tdiv_eq_ediv_of_nonneg hx0]; omega
    have hd2 : x / 64 = ((x.toNat / 64 : Nat) : Int) := by omega
    have hlo : (Instr.lookup 51 (.map (some h.bo)) (.int .i64 ((x.toNat / 64 : Nat) : Int)) false).run Tryd.prog W = .ok (.int .i64 (id : Nat)) W := by
      have := M.o.look tyO (x := ((x.toNat / 64 : Nat) : Int)) (by have := hx.2; unfold Wf64; omega)
      rw [natV_nat] at this
      unfold owV at this
      rw [h5] at this
      exact this
    have hls : (Instr.lookup 50 (.map (some h.bs)) (.int .i64 (id : Nat)) false).run Tryd.prog W = .ok (.pointer (some ⟨(h.B id).g, 0, none⟩)) W := by
      have := M.s.look tyS (x := (id : Int)) (by unfold Wf64; omega)
      rw [natV_nat] at this
      unfold spV at this
      rw [h1] at this
      exact this
    have I := M.S id s h1
    have c0 : W.cell? ⟨gr, 0, none⟩ = some (.int .i64 0) := HM.out.2.2.cellv 0 rfl
    have c1 : W.cell? ⟨gr, 1, none⟩ = some (.int .i64 0) := HM.out.2.2.cellv 1 rfl
    obtain ⟨xd, hxd⟩ : ∃ xd, xd = x.toNat / 64 := ⟨_, rfl⟩
    rw [← hxd] at hd hd2 hlo
    have hxb : (xd : Int) ≤ 1000000000000000000 := by have := hx.2; omega
    have hxw : wrap64 (xd : Int) = (xd : Int) := by rw [wrap64_small (by omega) (by omega)]
    generalize h.C x.toNat = cx at hl' hnil
    have HO := Lib.hid (And.intro (And.intro h1 (And.intro h2 (And.intro h3 h4))) (And.intro I (by rw [ho]; rfl : (obI a x).isSome = true))); clear ho hl M h1 h2 h3 h4 h5 h6 h7 I hxd ok hgr
    go_wp2_with fail
    rw [HO.out.1.2.2.2]
    refine (sat_ok W (h.B id) s HO.out.2.1 i HO.out.1.2.1).mono ?_
    rintro e w2 ⟨rfl, C2⟩
    have B2 := C2.blk HM.out.2.2 (by simp)
    have c0 : w2.cell? ⟨gr, 0, none⟩ = some (.int .i64 0) := B2.cellv 0 rfl
    have c1 : w2.cell? ⟨gr, 1, none⟩ = some (.int .i64 0) := B2.cellv 1 rfl
    have f0 := B2.frozen 0
    have f1 := B2.frozen 1
    have HB := Lib.hid (And.intro B2 (HM.out.2.1.trans C2)); clear B2 C2
    go_wp2_with fail
    exact ⟨rfl, _, results_cell_tmp_row (P := Tryd.prog) (fn := Tryd.f22) rfl _ _ gr 42 _ _ _ rfl ((HB.out.1.setv 0 (.int .i64 (id : Nat)) rfl).setv 1 (.int .i64 (i : Nat)) rfl) Tryd.underlying42 rfl (by kernel_rfl), ((HB.out.2.setCell (p := ⟨gr, 0, none⟩) (.inr (by show w.heap.size ≤ gr; have := hg0.out; omega)) _).setCell (p := ⟨gr, 1, none⟩) (.inr (by show w.heap.size ≤ gr; have := hg0.out; omega)) _), .inr ⟨id, i, HO.out.2.2, ⟨s, HO.out.1⟩, rfl⟩⟩
set_option maxHeartbeats 1600000 in
set_option maxRecDepth 100000 in
theorem alen_ok (x : Int) (hx : Wf64 x) : Calls Tryd.prog 17 #[.pointer (some ⟨h.ga, 0, none⟩), .int .i64 x] w (QuPost (.int .i64 (((obI a x).getD []).length : Nat)) w) := by
  have b3 : w.cell? ⟨h.ga, 3, none⟩ = some (.map (some h.bj)) := M.b.cellv 3 rfl
  have hl := M.j.look tyJ hx
  rw [obV_I] at hl
  cases ho : obI a x with
  | none =>
    rw [ho] at hl
    have hl' : (Instr.lookup 52 (.map (some h.bj)) (.int .i64 x) false).run Tryd.prog w = .ok (.slice none 0 0) w := hl
    clear ho hl M
    go_enter Tryd.func17, Tryd.ntmps17
    go_wp2_with fail
    go_ret
    exact ⟨rfl, rfl⟩
  | some xs =>
    rw [ho] at hl
    have hl' : (Instr.lookup 52 (.map (some h.bj)) (.int .i64 x) false).run Tryd.prog w = .ok (.slice (some ⟨h.C x.toNat, 0, none⟩) xs.length xs.length) w := hl
    clear ho hl M
    go_enter Tryd.func17, Tryd.ntmps17
    go_wp2_with fail
    go_ret
    exact ⟨rfl, rfl⟩
set_option maxHeartbeats 1600000 in
set_option maxRecDepth 100000 in
theorem alive_ok : Calls Tryd.prog 24 #[.pointer (some ⟨h.ga, 0, none⟩)] w (QuPost (.int .i64 (a.live : Nat)) w) := by
  have b4 : w.cell? ⟨h.ga, 4, none⟩ = some (.int .i64 (a.live : Nat)) := M.b.cellv 4 rfl
  go_enter Tryd.func24, Tryd.ntmps24
  go_wp2_with fail
  go_ret
  exact ⟨rfl, rfl⟩
set_option maxHeartbeats 1600000 in
set_option maxRecDepth 100000 in
theorem aleft_ok (hl : a.l.length ≤ 1000000) (hs : sumR a.l ≤ 1000000) : Calls Tryd.prog 38 #[.pointer (some ⟨h.ga, 0, none⟩)] w (NwPost (.int .i64 (sumR a.l : Nat)) w) := by
  have b0 : w.cell? ⟨h.ga, 0, none⟩ = some (.pointer (some ⟨h.gp, 0, none⟩)) := M.b.cellv 0 rfl
  go_enter Tryd.func38, Tryd.ntmps38
  go_wp2_with fail
  refine (left_ok w _ _ _ _ M.P hl hs).mono ?_
  rintro e w1 ⟨rfl, c1⟩
  have HC := Lib.hid c1; clear c1
  go_wp2_with fail
  go_ret
  exact ⟨rfl, HC.out⟩
def MdPost (a : Ar) (x : Int) (w : World) (e : Ending) (w' : World) : Prop :=
  Chg [] w w' ∧ ((obI a x = none ∧ e = .returned (.bool false)) ∨ ∃ id i s, (obI a x).isSome = true ∧ a.sp id = some s ∧ i < slK s.k ∧ s.F i = true ∧ x = ((s.addr i : Nat) : Int) ∧ e = .returned (.bool (s.M i)))
set_option maxHeartbeats 1600000 in
set_option maxRecDepth 100000 in
theorem amarked_ok (ok : ArOk h.N a) (hN : h.N ≤ 1000000) (x : Int) (hx : Wf64 x) : Calls Tryd.prog 12 #[.pointer (some ⟨h.ga, 0, none⟩), .int .i64 x] w (MdPost a x w) := by
  have HM := Lib.hid M
  go_enter Tryd.func12, Tryd.ntmps12
  go_wp2_with fail
  refine (find_ok w h a M ok hN x hx).mono ?_
  rintro e w1 ⟨c1, ⟨ho, rfl⟩ | ⟨id, i, ho, ⟨s, h1, h2, h3, h4⟩, rfl⟩⟩
  · have HC := Lib.hid (And.intro c1 ho); clear c1 ho M ok
    go_upto_region 2 with fail
    have C2 := HC.out.1.alloc (.cells #[.int .i64 0, .int .i64 0] 42)
    have H2 := Lib.hid C2; clear C2
    generalize w1.alloc (.cells #[.int .i64 0, .int .i64 0] 42) = W at H2 ⊢
    go_quiet (fail)
    go_wp2_with fail
    go_ret
    exact ⟨H2.out.drewN _, .inl ⟨HC.out.2, rfl⟩⟩
  · have hid := ok.top id s h1
    have HC := Lib.hid (And.intro (And.intro h1 (And.intro h2 (And.intro h3 h4))) (And.intro c1 ho)); clear c1 ho M ok h1 h2 h3 h4
    go_upto_region 2 with fail
    have C2 := HC.out.2.1.alloc (.cells #[.int .i64 (id : Nat), .int .i64 (i : Nat)] 42)
    have BB := Blk.new w1 42 #[.int .i64 (id : Nat), .int .i64 (i : Nat)]
    have H2 := Lib.hid (And.intro C2 BB); clear C2 BB
    generalize w1.alloc (.cells #[.int .i64 (id : Nat), .int .i64 (i : Nat)] 42) = W at H2 ⊢
    generalize w1.heap.size = gb at H2 ⊢
    have M2 := (HM.out.chg0 H2.out.1).chg0 ((Chg.refl [] W).drew)
    have k1 : Chg [] W W.drew := (Chg.refl [] W).drew
    have b1 : W.drew.cell? ⟨h.ga, 1, none⟩ = some (.map (some h.bs)) := M2.b.cellv 1 rfl
    have q0 : W.drew.cell? ⟨gb, 0, none⟩ = some (.int .i64 (id : Nat)) := H2.out.2.drew.cellv 0 rfl
    have q1 : W.drew.cell? ⟨gb, 1, none⟩ = some (.int .i64 (i : Nat)) := H2.out.2.drew.cellv 1 rfl
    have hls : (Instr.lookup 50 (.map (some h.bs)) (.int .i64 (id : Nat)) false).run Tryd.prog W.drew = .ok (.pointer (some ⟨(h.B id).g, 0, none⟩)) W.drew := by
      have := M2.s.look tyS (x := (id : Int)) (by unfold Wf64; omega)
      rw [natV_nat] at this
      unfold spV at this
      rw [HC.out.1.1] at this
      exact this
    have HI := Lib.hid (M2.S id s HC.out.1.1); clear M2
    go_region_held3 (fun w' => w'.cell? ⟨h.ga, 1, none⟩ = some (.map (some h.bs)) ∧ w'.cell? ⟨gb, 0, none⟩ = some (.int .i64 (id : Nat)) ∧ w'.cell? ⟨gb, 1, none⟩ = some (.int .i64 (i : Nat)) ∧ Chg [] W w') (go_keep)
      (first | (go_at_call 35; refine (smarked_ok _ (h.B id) s HI.out i).mono ?_; rintro e w' ⟨rfl, rfl⟩))
    rw [hasI_nat HC.out.1.2.1]
    have H3 := Lib.hid (H2.out.1.trans k1)
    go_wp2_with fail
    go_ret
    exact ⟨H3.out, .inr ⟨id, i, s, HC.out.2.2, HC.out.1.1, HC.out.1.2.1, HC.out.1.2.2.1, HC.out.1.2.2.2, rfl⟩⟩
def markS (s : Sp) (i : Nat) : Sp := ⟨s.first, s.k, s.F, setF s.M i, s.fr⟩
def MkPost (h : ArH) (a : Ar) (x : Int) (w : World) (e : Ending) (w' : World) : Prop :=
  (obI a x = none ∧ e = .returned (.bool false) ∧ Chg [] w w') ∨ ∃ id i s, (obI a x).isSome = true ∧ a.sp id = some s ∧ i < slK s.k ∧ s.F i = true ∧ x = ((s.addr i : Nat) : Int) ∧ e = .returned (.bool (!(s.M i))) ∧ ArM w' h { a with sp := updF a.sp id (some (markS s i)) } ∧ Chg (h.B id).l w w'
set_option maxHeartbeats 1600000 in
set_option maxRecDepth 100000 in
theorem amark_ok (ok : ArOk h.N a) (hN : h.N ≤ 1000000) (x : Int) (hx : Wf64 x) : Calls Tryd.prog 26 #[.pointer (some ⟨h.ga, 0, none⟩), .int .i64 x] w (MkPost h a x w) := by
  have HM := Lib.hid M
  go_enter Tryd.func26, Tryd.ntmps26
  go_wp2_with fail
  refine (find_ok w h a M ok hN x hx).mono ?_
  rintro e w1 ⟨c1, ⟨ho, rfl⟩ | ⟨id, i, ho, ⟨s, h1, h2, h3, h4⟩, rfl⟩⟩
  · have HC := Lib.hid (And.intro c1 ho); clear c1 ho M ok
    go_upto_region 2 with fail
    have C2 := HC.out.1.alloc (.cells #[.int .i64 0, .int .i64 0] 42)
    have H2 := Lib.hid C2; clear C2
    generalize w1.alloc (.cells #[.int .i64 0, .int .i64 0] 42) = W at H2 ⊢
    go_quiet (fail)
    go_wp2_with fail
    go_ret
    exact .inl ⟨HC.out.2, rfl, H2.out.drewN _⟩
  · have hid := ok.top id s h1
    have HC := Lib.hid (And.intro (And.intro h1 (And.intro h2 (And.intro h3 h4))) (And.intro c1 ho)); clear c1 ho M ok h1 h2 h3 h4
    go_upto_region 2 with fail
    have C2 := HC.out.2.1.alloc (.cells #[.int .i64 (id : Nat), .int .i64 (i : Nat)] 42)
    have BB := Blk.new w1 42 #[.int .i64 (id : Nat), .int .i64 (i : Nat)]
    have H2 := Lib.hid (And.intro C2 BB); clear C2 BB
    generalize w1.alloc (.cells #[.int .i64 (id : Nat), .int .i64 (i : Nat)] 42) = W at H2 ⊢
    generalize w1.heap.size = gb at H2 ⊢
    have k1 : Chg [] W W.drew := (Chg.refl [] W).drew
    have M2 := (HM.out.chg0 H2.out.1).chg0 k1
    have b1 : W.drew.cell? ⟨h.ga, 1, none⟩ = some (.map (some h.bs)) := M2.b.cellv 1 rfl
    have q0 : W.drew.cell? ⟨gb, 0, none⟩ = some (.int .i64 (id : Nat)) := H2.out.2.drew.cellv 0 rfl
    have q1 : W.drew.cell? ⟨gb, 1, none⟩ = some (.int .i64 (i : Nat)) := H2.out.2.drew.cellv 1 rfl
    have hls : (Instr.lookup 50 (.map (some h.bs)) (.int .i64 (id : Nat)) false).run Tryd.prog W.drew = .ok (.pointer (some ⟨(h.B id).g, 0, none⟩)) W.drew := by
      have := M2.s.look tyS (x := (id : Int)) (by unfold Wf64; omega)
      rw [natV_nat] at this
      unfold spV at this
      rw [HC.out.1.1] at this
      exact this
    have HI := Lib.hid (And.intro (M2.S id s HC.out.1.1) (And.intro M2 (H2.out.1.trans k1))); clear M2
    go_region_held3 (fun w' => w'.cell? ⟨h.ga, 1, none⟩ = some (.map (some h.bs)) ∧ w'.cell? ⟨gb, 0, none⟩ = some (.int .i64 (id : Nat)) ∧ w'.cell? ⟨gb, 1, none⟩ = some (.int .i64 (i : Nat))) (go_keep)
      (first | (go_at_call 46; refine (smark_ok _ (h.B id) s HI.out.1 i HC.out.1.2.1).mono ?_; rintro e w' ⟨rfl, I5, C5⟩; have H5 := Lib.hid (And.intro I5 C5); have B5 := C5.blk HI.out.2.1.b (HI.out.1.far HI.out.2.1.b (by unfold SpT; decide)); have G5 := C5.blk H2.out.2.drew (HI.out.1.far H2.out.2.drew (by unfold SpT; decide)); have z1 : w'.cell? ⟨h.ga, 1, none⟩ = some (.map (some h.bs)) := B5.cellv 1 rfl; have z2 : w'.cell? ⟨gb, 0, none⟩ = some (.int .i64 (id : Nat)) := G5.cellv 0 rfl; have z3 : w'.cell? ⟨gb, 1, none⟩ = some (.int .i64 (i : Nat)) := G5.cellv 1 rfl; clear B5 G5))
    have hF := HC.out.1.2.2.1
    have eF : (s.F i && !(s.M i)) = !(s.M i) := by rw [hF]; rfl
    have eM : (if s.F i then setF s.M i else s.M) = setF s.M i := by rw [hF]; rfl
    rw [eF]
    have H6 := Lib.hid (And.intro (ArM.span HI.out.2.1 HC.out.1.1 (s' := markS s i) (by have := H5.out.1; rw [eM] at this; exact this) H5.out.2) ((HI.out.2.2.mono (by simp)).trans H5.out.2)); clear hF eF eM H5
    go_wp2_with fail
    go_ret
    exact .inr ⟨id, i, s, HC.out.2.2, HC.out.1.1, HC.out.1.2.1, HC.out.1.2.2.1, HC.out.1.2.2.2, rfl, H6.out.1, H6.out.2⟩
end
end Go.Proofs.YtkocikpoagfonaaDoor
