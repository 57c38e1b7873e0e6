/- The document's model: New, spawn. -/
/- Room, of an arena that has no spans yet. -/
/- A machine just made: its parts put together. -/
import Derived.Test.YtcpljjacamibeaaGreatDoorMf4
import Derived.Test.YtcpljjacamibeaaGreatDoorMcN
import Derived.Test.YtcpljjacamibeaaGreatDoorMd1J
import Derived.Maps.RangeWalk
import Derived.Test.YtcpljjacamibeaaGreatDoorMe1J
namespace Go.Proofs.YtcpljjacamibeaaGreatDoor
set_option maxHeartbeats 16000000
set_option maxRecDepth 100000
open Go.RowKit Go.Maps
def mdC (G : Int) (vf vg vgl vob vt : Value) (wt : Nat → Value) (ck : Int) : Array Value := (([.int .i64 G, vf, vg, vgl, vob, vt] : List Value) ++ (List.range 32).map wt ++ ([.int .i64 ck] : List Value)).toArray
def mgC (st f pc cnt : Int) (vs : Value) : Array Value := #[.int .i64 st, .int .i64 f, .int .i64 pc, .int .i64 cnt, vs]
theorem tyMG : SlV Tryz.prog 62 86 (.pointer none) 8 := ⟨Tryz.underlying62, by kernel_rfl, rfl, by decide⟩
theorem slvI28 : SlV Tryz.prog 37 3 (.int .i64 0) 8 := ⟨Tryz.underlying37, by kernel_rfl, rfl, by decide⟩
def RspPost (w : World) (gX : Nat) (cs : Array Value) (vg : Value) (ps : List Value) (f v : Int) (e : Ending) (w' : World) : Prop :=
  ∃ gg gs vg', e = .returned (.int .i64 (ps.length : Nat)) ∧ Blk w' gX 71 (cs.setIfInBounds 2 vg') ∧ OwnV 86 w' vg' (ps ++ [.pointer (some ⟨gg, 0, none⟩)]) ∧ (∀ k ∈ fpv vg', k ∈ fpv vg ∨ w.heap.size ≤ k) ∧ Blk w' gg 85 (mgC 1 f 0 0 (.slice (some ⟨gs, 0, none⟩) 16 16)) ∧
    Blk w' gs 3 ((zcells (.int .i64 0) 16).setIfInBounds 0 (.int .i64 v)) ∧ w.heap.size ≤ gg ∧ w.heap.size ≤ gs ∧ gg ∉ fpv vg' ∧ gs ∉ fpv vg' ∧ gs ≠ gg ∧ Chg (gX :: fpv vg) w w'
theorem rspawn_ok (w : World) (gX : Nat) (cs : Array Value) (vg : Value) (ps : List Value) (f v : Int) (B : Blk w gX 71 cs) (hcs : cs[2]? = some vg) (O : OwnV 86 w vg ps) (hl : ps.length ≤ 100000) :
    Calls Tryz.prog 66 #[.pointer (some ⟨gX, 0, none⟩), .int .i64 f, .int .i64 v] w (RspPost w gX cs vg ps f v) := by
  obtain ⟨A, c, rfl⟩ := O.slice
  have hmk : ∀ W : World, (Instr.makeSlice 37 (.int .i64 16) (.int .i64 16)).run Tryz.prog W = .ok (.slice (some ⟨W.heap.size, 0, none⟩) 16 16) (W.alloc (.cells (zcells (.int .i64 0) 16) 3)) := fun W => run_make_z (P := Tryz.prog) 37 3 (.int .i64 0) 8 Tryz.underlying37 (by kernel_rfl) rfl .i64 .i64 16 (by omega) (by omega) W
  have hng := O.ne_blkV B (by decide)
  have HB := Lib.hid (And.intro B (And.intro O (And.intro hcs hng))); clear B O hcs hng
  go_enter Tryz.func66, Tryz.ntmps66
  go_upto_region 2 with fail
  obtain ⟨gs, hgs⟩ : ∃ gs, gs = w.heap.size := ⟨_, rfl⟩
  obtain ⟨gg, hgg⟩ : ∃ gg, gg = w.heap.size + 1 := ⟨_, rfl⟩
  rw [← hgg, ← hgs]
  obtain ⟨w2, hw2⟩ : ∃ w2, w2 = (w.alloc (.cells (zcells (.int .i64 0) 16) 3)).alloc (.cells #[.int .i64 1, .int .i64 f, .int .i64 0, .int .i64 0, .slice (some ⟨gs, 0, none⟩) 16 16] 85) := ⟨_, rfl⟩
  rw [← hw2]
  have c02 : Chg [] w w2 := by rw [hw2]; exact ((Chg.refl [] w).alloc _).alloc _
  have Bs : Blk w2 gs 3 (zcells (.int .i64 0) 16) := by rw [hw2, hgs]; exact (Blk.new w _ _).alloc _
  have Bg : Blk w2 gg 85 (mgC 1 f 0 0 (.slice (some ⟨gs, 0, none⟩) 16 16)) := by
    rw [hw2, hgg]
    have h := Blk.new (w.alloc (.cells (zcells (.int .i64 0) 16) 3)) 85 #[.int .i64 1, .int .i64 f, .int .i64 0, .int .i64 0, .slice (some ⟨gs, 0, none⟩) 16 16]
    rw [World.size_alloc] at h
    exact h
  have hne : gs ≠ gg := by omega
  have n1 : w.heap.size ≤ gs := by omega
  have n2 : w.heap.size ≤ gg := by omega
  have s0 : w2.cell? ⟨gs, 0, none⟩ = some (.int .i64 0) := Bs.cellv 0 (by simp [zcells])
  have s1 := Bs.frozen 0
  have g4 : w2.cell? ⟨gg, 4, none⟩ = some (.slice (some ⟨gs, 0, none⟩) 16 16) := Bg.cellv 4 rfl
  have H2 := Lib.hid (And.intro c02 (And.intro Bs (And.intro Bg (And.intro hne (And.intro n1 n2))))); clear c02 Bs Bg hne n1 n2 hw2 hgs hgg hmk
  go_upto_region 3 with fail
  obtain ⟨w3, hw3⟩ : ∃ w3, w3 = w2.setCell ⟨gs, 0, none⟩ (.int .i64 v) := ⟨_, rfl⟩
  rw [← hw3]
  have c23 : Chg [gs] w2 w3 := by rw [hw3]; exact (Chg.refl [gs] w2).setCell (.inl (by simp)) _
  have Bs : Blk w3 gs 3 ((zcells (.int .i64 0) 16).setIfInBounds 0 (.int .i64 v)) := by rw [hw3]; exact H2.out.2.1.set_ 0 _
  have Bg := c23.blk H2.out.2.2.1 (by have := H2.out.2.2.2.1; simp; omega)
  have c03 : Chg [] w w3 := H2.out.1.newS c23 (fun k hk => by have e : k = gs := (by simpa using hk); rw [e]; exact H2.out.2.2.2.2.1)
  have BX := c03.blk HB.out.1 (by simp)
  have OX := HB.out.2.1.chg0 c03
  have x2 : w3.cell? ⟨gX, 2, none⟩ = some (.slice A ps.length c) := BX.cellv 2 HB.out.2.2.1
  have x3 := BX.frozen 2
  clear hw3 s0 s1 g4 c23
  have HP : ∀ w' : World, Blk (w'.alloc (.cells #[.pointer (some ⟨gg, 0, none⟩)] 86)) w'.heap.size 86 #[.pointer (some ⟨gg, 0, none⟩)] := fun w' => Blk.new _ _ _
  have H3 := Lib.hid (And.intro Bs (And.intro Bg (And.intro c03 (And.intro BX (And.intro OX HP))))); clear Bs Bg c03 BX OX HP
  go_upto_region 4 with (at_builtin; refine wpList_cat_v tyMG rfl _ _ rfl (v := .slice A ps.length c) rfl (H3.out.2.2.2.2.1.alloc _) rfl (RdV.one_ (H3.out.2.2.2.2.2 _) rfl) (by simp; omega) ?_; intro A4 c4 w4 O4 S4; have B4 := S4.c.blk (H3.out.2.2.2.1.alloc _) HB.out.2.2.2; have x4 : w4.cell? ⟨gX, 2, none⟩ = some (.slice A ps.length c) := B4.cellv 2 HB.out.2.2.1; have x5 := B4.frozen 2; have HB4 := Lib.hid B4; clear B4)
  rw [List.length_singleton] at O4 S4
  obtain ⟨vg, hvg⟩ : ∃ vg, vg = Value.slice A ps.length c := ⟨_, rfl⟩
  obtain ⟨w5, hw5⟩ : ∃ w5, w5 = w4.setCell ⟨gX, 2, none⟩ (.slice A4 (ps.length + 1) c4) := ⟨_, rfl⟩
  rw [← hw5]
  have c45 : Chg [gX] w4 w5 := by rw [hw5]; exact (Chg.refl [gX] w4).setCell (.inl (by simp)) _
  have B5 : Blk w5 gX 71 (cs.setIfInBounds 2 (.slice A4 (ps.length + 1) c4)) := by rw [hw5]; exact HB4.out.set_ 2 _
  have hn5 := O4.ne_blkV HB4.out (by decide)
  have O5 := O4.chg c45 (fun k hk hm => hn5 (by have e : k = gX := (by simpa using hm); rw [← e]; exact hk))
  have hlt : ∀ k ∈ fpv (.slice A ps.length c), k < w.heap.size := fun k hk => HB.out.2.1.lt hk
  have hX := HB.out.1.lt
  have m1 := H2.out.2.2.2.2.1
  have m2 := H2.out.2.2.2.2.2
  have Bg5 := c45.blk (S4.c.blk (H3.out.2.1.alloc _) (fun hm => by have := hlt _ hm; omega)) (by simp; omega)
  have Bs5 := c45.blk (S4.c.blk (H3.out.1.alloc _) (fun hm => by have := hlt _ hm; omega)) (by simp; omega)
  have c35 : Chg (gX :: fpv (.slice A ps.length c)) w w5 := (((H3.out.2.2.1.alloc _).mono (by simp)).trans (S4.c.mono fun k hk => .inl (by simp [hk]))).trans (c45.mono fun k hk => .inl (by have e : k = gX := (by simpa using hk); simp [e]))
  have hf5 : ∀ k ∈ fpv (.slice A4 (ps.length + 1) c4), k ∈ fpv (.slice A ps.length c) ∨ w.heap.size ≤ k := fun k hk => by
    rcases S4.f k hk with h | h
    · exact .inl h
    · exact .inr (Nat.le_trans (H3.out.2.2.1.alloc _).size h)
  have hfg : ∀ k, w.heap.size ≤ k → k < w3.heap.size → k ∉ fpv (.slice A4 (ps.length + 1) c4) := fun k h1 h2 hm => by
    rcases S4.f k hm with h | h
    · have := hlt _ h; omega
    · rw [World.size_alloc] at h; omega
  have e5 : (w5.cell? ⟨gX, 2, none⟩) = some (.slice A4 (ps.length + 1) c4) := B5.cellv 2 (by
    have := (Array.getElem?_eq_some_iff.1 HB.out.2.2.1).1
    rw [Array.getElem?_setIfInBounds, if_pos rfl, if_pos this])
  have H5 := Lib.hid (And.intro B5 (And.intro O5 (And.intro hf5 (And.intro Bg5 (And.intro Bs5 (And.intro (hfg _ m2 H3.out.2.1.lt) (And.intro (hfg _ m1 H3.out.1.lt) c35)))))))
  clear B5 O5 hf5 Bg5 Bs5 hfg c35 hw5 c45 x4 x5 x2 x3 hlt hn5 O4 S4 hvg vg
  go_wp2_with fail
  go_ret
  exact ⟨gg, gs, _, rfl, H5.out.1, H5.out.2.1, H5.out.2.2.1, H5.out.2.2.2.1, H5.out.2.2.2.2.1, m2, m1, H5.out.2.2.2.2.2.1, H5.out.2.2.2.2.2.2.1, H2.out.2.2.2.1, H5.out.2.2.2.2.2.2.2⟩
def RnwPost (w : World) (G : Nat) (vf : Value) (e : Ending) (w' : World) : Prop :=
  ∃ gX gg gs gl vg, e = .returned (.pointer (some ⟨gX, 0, none⟩)) ∧ Blk w' gX 71 (mdC G vf vg (.slice (some ⟨gl, 0, none⟩) G G) (.slice none 0 0) (.slice none 0 0) (fun _ => .slice none 0 0) 0) ∧
    OwnV 86 w' vg [.pointer (some ⟨gg, 0, none⟩)] ∧ Blk w' gg 85 (mgC 1 0 0 0 (.slice (some ⟨gs, 0, none⟩) 16 16)) ∧ Blk w' gs 3 (zcells (.int .i64 0) 16) ∧ Blk w' gl 3 (zcells (.int .i64 0) G) ∧
    w.heap.size ≤ gX ∧ w.heap.size ≤ gg ∧ w.heap.size ≤ gs ∧ w.heap.size ≤ gl ∧ (∀ k ∈ fpv vg, w.heap.size ≤ k) ∧ gl ≠ gX ∧ gg ≠ gX ∧ gs ≠ gX ∧ gl ≠ gg ∧ gl ≠ gs ∧ gs ≠ gg ∧ gX ∉ fpv vg ∧ gl ∉ fpv vg ∧ gg ∉ fpv vg ∧ gs ∉ fpv vg ∧ Chg [] w w'
theorem rmodel_ok (w : World) (G : Nat) (A : Option Addr) (n c : Nat) (hG : G ≤ 1000) : Calls Tryz.prog 19 #[.agg #[.int .i64 (G : Nat), .slice A n c]] w (RnwPost w G (.slice A n c)) := by
  go_enter Tryz.func19, Tryz.ntmps19
  go_upto_region 1 with fail
  obtain ⟨w1, hw1⟩ : ∃ w1, w1 = w.alloc (.cells #[.int .i64 (G : Nat), .slice A n c] 30) := ⟨_, rfl⟩
  obtain ⟨gP, hgP⟩ : ∃ gP, gP = w.heap.size := ⟨_, rfl⟩
  rw [← hw1, ← hgP]
  have B1 : Blk w1 gP 30 #[.int .i64 (G : Nat), .slice A n c] := by rw [hw1, hgP]; exact Blk.new _ _ _
  have c01 : Chg [] w w1 := by rw [hw1]; exact (Chg.refl [] w).alloc _
  have p0 : w1.cell? ⟨gP, 0, none⟩ = some (.int .i64 (G : Nat)) := B1.cellv 0 rfl
  have p1 : w1.cell? ⟨gP, 1, none⟩ = some (.slice A n c) := B1.cellv 1 rfl
  have l0 := B1.lt
  have H1 := Lib.hid c01; clear c01 B1 hw1 hgP
  refine wp_region_takes (fuel := 4) 4 (fun w' => Chg [] w1 w') [0, 1, 2] (by kernel_rfl) (by kernel_rfl) (fun _ _ _ _ _ h => h) ((Chg.refl [] w1).drew) ?_
  simp only [List.filterMap_cons, List.filterMap_nil, qGa, qGb]
  iterate 3
    refine wpTake_step (fun K hK => ?_)
    rw [if_pos (by rfl)]
    refine ⟨?_, fun w' hS' => ?_, ?_⟩
    rotate_left 1
    focus
      have j0 := hS'.cellv l0 (by simp) p0
      have j1 := hS'.cellv l0 (by simp) p1
      go_simp
      try with_reducible rfl
      done
    simp only [Act.put, qSa, qSb, qSc]
    refine hK _ ?_
    clear hK K
  refine wpTake_nil ?_
  generalize hx0 : w1.drew = x0
  have D0 : Chg [] w1 x0 := by rw [← hx0]; exact (Chg.refl [] w1).drew
  clear hx0
  refine wpAnyS_ready (rs := [3]) (by kernel_rfl) (by simp) ?_
  refine AllReadyS.o (fun K hK => ?_)
  refine step_make slvI28 rfl (by rfl) (by rfl) (by rfl) (by rfl) (by omega) ?_
  intro gl x2 L2 c2 hgl
  have D2 := D0.trans c2
  have hgl2 : w1.heap.size ≤ gl := by have := D0.size; omega
  clear hgl
  refine hK _ _ (D2) ?_
  clear hK K
  try simp only [Act.put, qSa, qSb, qSc]
  refine wpAnyS_tail 4 3 (by kernel_rfl) rfl ?_
  simp only [qDa, qDb]
  go_upto_region 2 with fail
  obtain ⟨w3, hw3⟩ : ∃ w3, w3 = x2.alloc (.cells (mdC G (.slice A n c) (.slice none 0 0) (.slice (some ⟨gl, 0, none⟩) G G) (.slice none 0 0) (.slice none 0 0) (fun _ => .slice none 0 0) 0) 71) := ⟨_, rfl⟩
  obtain ⟨gX, hgX⟩ : ∃ gX, gX = x2.heap.size := ⟨_, rfl⟩
  change Code.wp _ _ _ _ (x2.alloc (.cells (mdC G (.slice A n c) (.slice none 0 0) (.slice (some ⟨gl, 0, none⟩) G G) (.slice none 0 0) (.slice none 0 0) (fun _ => .slice none 0 0) 0) 71))
  rw [← hw3, ← hgX]
  have BX : Blk w3 gX 71 (mdC G (.slice A n c) (.slice none 0 0) (.slice (some ⟨gl, 0, none⟩) G G) (.slice none 0 0) (.slice none 0 0) (fun _ => .slice none 0 0) 0) := by rw [hw3, hgX]; exact Blk.new _ _ _
  have c13 : Chg [] w1 w3 := by rw [hw3]; exact D2.alloc _
  have BL : Blk w3 gl 3 (zcells (.int .i64 0) G) := by rw [hw3]; exact L2.alloc _
  have hlX : gl ≠ gX := by rw [hgX]; have := L2.lt; omega
  have hXw : w.heap.size ≤ gX := by rw [hgX]; have := H1.out.size; have := D2.size; omega
  have hlw : w.heap.size ≤ gl := by have := H1.out.size; omega
  have KS := rspawn_ok w3 gX _ (.slice none 0 0) [] 0 0 BX rfl (OwnV.nil _ _) (by simp)
  have H3 := Lib.hid (And.intro (H1.out.trans c13) (And.intro BL (And.intro hlX (And.intro hXw (And.intro hlw (And.intro BX.lt KS))))))
  clear BX c13 BL hlX hXw hlw KS hw3 hgX D0 c2 D2 hgl2 L2 p0 p1 l0
  go_wp2_with fail
  refine (H3.out.2.2.2.2.2.2).mono ?_
  rintro e w4 ⟨gg, gs, vg, rfl, BX, OV, hf, Bg, Bs, n1, n2, n3, n4, n5, c34⟩
  have e0 : fpv (.slice none 0 0) = [] := rfl
  rw [e0] at c34 hf
  have hs3 := H3.out.1.size
  have hlX4 := c34.blk H3.out.2.1 (by have := H3.out.2.2.1; simpa using this)
  have hf4 : ∀ k ∈ fpv vg, w3.heap.size ≤ k := fun k hk => by
    rcases hf k hk with h | h
    · simp at h
    · exact h
  have hX3 := H3.out.2.2.2.2.2.1
  have hl3 := H3.out.2.1.lt
  have cw4 : Chg [] w w4 := H3.out.1.newS c34 (fun k hk => by have e : k = gX := (by simpa using hk); rw [e]; exact H3.out.2.2.2.1)
  have H4 := Lib.hid (And.intro BX (And.intro OV (And.intro Bg (And.intro Bs (And.intro n1 (And.intro n2 (And.intro n3 (And.intro n4 (And.intro n5 (And.intro hlX4 (And.intro hf4 cw4)))))))))))
  clear BX OV Bg Bs n1 n2 n3 n4 n5 hlX4 hf4 cw4 c34 hf
  go_wp2_with fail
  go_ret
  have n1 := H4.out.2.2.2.2.1
  have n2 := H4.out.2.2.2.2.2.1
  have hf4 := H4.out.2.2.2.2.2.2.2.2.2.2.1
  exact ⟨gX, gg, gs, gl, vg, rfl, H4.out.1, H4.out.2.1, H4.out.2.2.1, H4.out.2.2.2.1, H4.out.2.2.2.2.2.2.2.2.2.1, H3.out.2.2.2.1, by omega, by omega, H3.out.2.2.2.2.1, fun k hk => by have := hf4 k hk; omega, H3.out.2.2.1, by omega, by omega, by omega, by omega, H4.out.2.2.2.2.2.2.2.2.1, fun hm => by have := hf4 _ hm; omega, fun hm => by have := hf4 _ hm; omega, H4.out.2.2.2.2.2.2.1, H4.out.2.2.2.2.2.2.2.1, H4.out.2.2.2.2.2.2.2.2.2.2.2⟩
def ArmRel (w1 : World) (N : Nat) (gk : Nat) (acc idx : Value) (w : World) : Prop := (gk = 2 ∧ acc = .int .i64 0 ∧ idx = .int .i64 0 ∧ Chg [] w1 w) ∨ (gk = 1 ∧ acc = .int .i64 (N : Nat) ∧ idx = .int .i64 1 ∧ Chg [] w1 w)
def rkK : Kd → Nat
  | .prog => 0
  | .globs => 1
  | .mach => 2
  | .heap => 3
  | .sched => 4
  | .phases => 5
  | .states => 6
  | .timers => 7
  | .waits => 8
  | .psl => 9
  | .proc _ => 9
  | .notes _ => 9
  | .gsl => 10
  | .gor _ => 10
  | .commits => 10
  | .parked => 10
  | .freed => 10
theorem rkK_inj (k k' : Kd) (h : rkK k = rkK k') (h9 : rkK k < 9) : k = k' := by
  cases k <;> cases k' <;> simp [rkK] at h h9 ⊢
theorem mm_made {w wr : World} {p : MAt} {m : Mac} (a : Nat → Nat) (h0 : w.heap.size ≤ a 0) (c : Chg [] w wr) (mono : ∀ r, r < 9 → a r ≤ a (r + 1))
    (rg : ∀ k j, MF p m k j → (rkK k < 9 ∧ a (rkK k) ≤ j ∧ j < a (rkK k + 1)) ∨ (rkK k = 9 ∧ a 9 ≤ j))
    (lp : ∀ k k' j, rkK k = 9 → rkK k' = 9 → MF p m k j → MF p m k' j → k = k') (hi9 : ∀ k j, rkK k = 9 → MF p m k j → j < wr.heap.size) (h9 : a 9 ≤ wr.heap.size) (hk : ∀ k, MC ⟨w, []⟩ p m wr k) : MM ⟨w, []⟩ wr p m := by
  have le : ∀ d r, r + d ≤ 9 → a r ≤ a (r + d) := by
    intro d
    induction d with
    | zero => intro r _; exact Nat.le_refl _
    | succ d ih => intro r h; exact Nat.le_trans (ih r (by omega)) (mono (r + d) (by omega))
  refine ⟨c, fun k j h => .inr ?_, fun k j h => ?_, fun k k' j h h' => ?_, hk⟩
  · show w.heap.size ≤ j
    rcases rg k j h with ⟨h9, h1, _⟩ | ⟨h9, h1⟩
    · have := le (rkK k) 0 (by omega)
      rw [Nat.zero_add] at this
      omega
    · have := le 9 0 (by omega)
      rw [Nat.zero_add] at this
      omega
  · rcases rg k j h with ⟨h8, h1, h2⟩ | ⟨h8, h1⟩
    · have := le (9 - (rkK k + 1)) (rkK k + 1) (by omega)
      rw [show rkK k + 1 + (9 - (rkK k + 1)) = 9 by omega] at this
      omega
    · exact hi9 k j h8 h
  · have key : ∀ k k', MF p m k j → MF p m k' j → rkK k < rkK k' → False := fun k k' h h' hlt => by
      rcases rg k j h with ⟨h9, h1, h2⟩ | ⟨h9, h1⟩ <;> rcases rg k' j h' with ⟨h9', h1', h2'⟩ | ⟨h9', h1'⟩
      · have := le (rkK k' - (rkK k + 1)) (rkK k + 1) (by omega)
        rw [show rkK k + 1 + (rkK k' - (rkK k + 1)) = rkK k' by omega] at this
        omega
      · have := le (9 - (rkK k + 1)) (rkK k + 1) (by omega)
        rw [show rkK k + 1 + (9 - (rkK k + 1)) = 9 by omega] at this
        omega
      · omega
      · omega
    rcases Nat.lt_trichotomy (rkK k) (rkK k') with h1 | h1 | h1
    · exact (key k k' h h' h1).elim
    · rcases rg k j h with ⟨h9, _⟩ | ⟨h9, _⟩
      · exact rkK_inj k k' h1 h9
      · exact lp k k' j h9 (by omega) h h'
    · exact (key k' k h' h h1).elim
def aSt (x0 x1 x2 x3 x4 x5 x6 x7 x8 x9 : Nat) : Nat → Nat
  | 0 => x0
  | 1 => x1
  | 2 => x2
  | 3 => x3
  | 4 => x4
  | 5 => x5
  | 6 => x6
  | 7 => x7
  | 8 => x8
  | _ => x9
def mk0p (gm : Nat) (H : HpH) (gst : Nat) (vps : Value) (bp bn : Nat → Nat) (gsd gq : Nat) (vr : Value) (gr : Nat → Nat) (gtm gwt gl G gph bsd : Nat) (vfn : Value) (vf : Nat → Value) : MAt :=
  { gm := gm, H := H, N := 0, b := 0, gst := gst, vst := .slice none 0 0, vgs := .slice none 0 0, bg := fun _ => 0, vps := vps, bp := bp, bn := bn, gsd := gsd, gq := gq, vr := vr, vq := .slice none 0 0, gr := gr, gtm := gtm, vtm := .slice none 0 0, gwt := gwt, vwt := fun _ => .slice none 0 0, vgl := .slice (some ⟨gl, 0, none⟩) G G, gph := gph, bsd := bsd, vco := .slice none 0 0, vpk := .slice none 0 0, vfr := .slice none 0 0, vfn := vfn, vf := vf, vpo := .pointer none, vro := .pointer none, vcr := .pointer none, vsc := fun _ => .pointer none }
def mk0m (G : Nat) (fs : List (List Ins)) (wo pct : Int) (on : Bool) (part : Int) (n P : Nat) : Mac :=
  { nglob := (G : Nat), fs := fs, words := wo, pct := pct, on := on, part := part, A := hp0 n P, sts := [], ng := 0, gs := fun _ => ⟨0, 0, 0, fun _ => 0, 0, 0⟩, np := P, ps := fun _ => ⟨-1, 0, 0, false, 0, 0, 0⟩, ntl := fun _ _ => 0, ntn := fun _ => 0, rg := fun _ => rg0, com := [], made := 0, tm := [], wt := fun _ => [], gl := List.replicate G 0, clock := 0, ph := { ph := 0, cyc := 0, said := List.replicate P false, cnt := 0, rs := 0 }, gT := 0, gG := 0, gR := 0, force := 0, pk := [], cms := [], fr := [], steps := 0, out := false }
theorem OwnI.zer {w : World} {g n : Nat} (h : Blk w g 3 (zcells (.int .i64 0) n)) (hl : n ≤ 1000000) : OwnI 3 w (.slice (some ⟨g, 0, none⟩) n n) (List.replicate n 0) := by
  have h' : Blk w g 3 ((List.replicate n (0 : Int)).map (Value.int .i64)).toArray := by rw [zcells_list] at h; rw [List.map_replicate]; exact h
  have hn : (List.replicate n (0 : Int)).length = n := by simp
  generalize List.replicate n (0 : Int) = xs at h' hn
  subst hn
  exact ⟨⟨by simp, .inr ⟨g, xs.length, _, rfl, Nat.zero_le _, h', Nat.le_refl _, by unfold maxLen; omega, by simp, by simp [List.take_of_length_le]⟩⟩⟩
end Go.Proofs.YtcpljjacamibeaaGreatDoor
