/- The walk of the document's Same. -/
import Derived.Test.YtfkgooliglcjkaaSame2
namespace Go.Proofs.Ytfkgooliglcjkaa
open Go.RowKit Go.Maps

theorem sameB_head {V W : Vw} (h : headB V W = false) : sameB V W = false := by unfold sameB; rw [h]; rfl
theorem sameB_gl {V W : Vw} (h : V.globals ≠ W.globals) : sameB V W = false := by unfold sameB; rw [decide_eq_false h]; simp
theorem sameB_gs {V W : Vw} (h : V.gs ≠ W.gs) : sameB V W = false := by unfold sameB; rw [decide_eq_false h]; simp
theorem sameB_os {V W : Vw} (h : V.objects ≠ W.objects) : sameB V W = false := by unfold sameB; rw [decide_eq_false h]; simp
theorem sameB_yes {V W : Vw} (h1 : headB V W = true) (h2 : V.globals = W.globals) (h3 : V.gs = W.gs) (h4 : V.objects = W.objects) : sameB V W = true := by unfold sameB; rw [h1, decide_eq_true h2, decide_eq_true h3, decide_eq_true h4]; rfl
theorem bn {a b : Bool} (h : ¬ a = b) : (a != b) = true := by cases a <;> cases b <;> simp_all
def RsRel {α : Type} (w0 : World) (xs ys : List α) (gk : Nat) (idx : Value) (w : World) : Prop := ∃ i, gk + i = xs.length + 1 ∧ i ≤ xs.length ∧ idx = .int .i64 (i : Nat) ∧ xs.take i = ys.take i ∧ Chg [] w0 w
set_option maxHeartbeats 12800000 in
set_option maxRecDepth 100000 in
theorem rsame_ok (w : World) (v u : Value) (V W : Vw) (h : VwAt w w.heap.size v V) (k : VwAt w w.heap.size u W) (hS : Small V) (hT : Small W) : Calls Try.prog 33 #[v, u] w (FdPost (sameB V W) w) := by
  obtain ⟨g, A1, c1, A2, c2, rfl, h1, h2, h3, h4, h5⟩ := h.ex
  obtain ⟨A0, c0, rfl⟩ := h1.ex
  obtain ⟨g', E1, d1, E2, d2, rfl, k1, k2, k3, k4, k5⟩ := k.ex
  obtain ⟨E0, d0, rfl⟩ := k1.ex
  have C1 := ((Chg.refl [] w).alloc (.cells (vwBox V A0 c0 A1 c1 A2 c2) 26)).alloc (.cells (vwBox W E0 d0 E1 d1 E2 d2) 26)
  have B1 := (Blk.new w 26 (vwBox V A0 c0 A1 c1 A2 c2)).alloc (.cells (vwBox W E0 d0 E1 d1 E2 d2) 26)
  have B2 := Blk.new (w.alloc (.cells (vwBox V A0 c0 A1 c1 A2 c2) 26)) 26 (vwBox W E0 d0 E1 d1 E2 d2)
  rw [World.size_alloc] at B2
  have HB := Lib.hid (And.intro C1 (And.intro B1 B2))
  have HV := Lib.hid (And.intro h1 (And.intro h2 h3))
  have HW := Lib.hid (And.intro k1 (And.intro k2 k3))
  unfold vwBox at HB
  have hO := hS.o
  have hO' := hT.o
  have hG := hS.g
  have hG' := hT.g
  clear C1 B1 B2 h h1 h2 h3 h4 h5 k k1 k2 k3 k4 k5
  by_cases q0 : V.phase = W.phase
  · have n0 : (V.phase != W.phase) = false := by rw [bne_eq_false_iff_eq]; exact q0
    by_cases q1 : V.cycle = W.cycle
    · have n1 : (V.cycle != W.cycle) = false := by rw [bne_eq_false_iff_eq]; exact q1
      by_cases q2 : V.clock = W.clock
      · have n2 : (V.clock != W.clock) = false := by rw [bne_eq_false_iff_eq]; exact q2
        by_cases q3 : V.grey = W.grey
        · have n3 : (V.grey != W.grey) = false := by rw [bne_eq_false_iff_eq]; exact q3
          by_cases q4 : V.notes = W.notes
          · have n4 : (V.notes != W.notes) = false := by rw [bne_eq_false_iff_eq]; exact q4
            by_cases q5 : V.roots = W.roots
            · have n5 : (V.roots != W.roots) = false := by rw [bne_eq_false_iff_eq]; exact q5
              have HH := Lib.hid (show headB V W = true from decide_eq_true ⟨q0, q1, q2, q3, q4, q5⟩); clear q0 q1 q2 q3 q4 q5
              go_enter Try.func33, Try.ntmps33
              go_wp2_with fail
              clear n0 n1 n2 n3 n4 n5
              generalize ((w.alloc (.cells #[.int .i64 V.phase, .int .i64 V.cycle, .int .i64 V.clock, .slice A0 V.globals.length c0, .slice A1 V.gs.length c1, .slice A2 V.objects.length c2, .int .i64 V.grey, .int .i64 V.notes, .int .i64 V.roots] 26)).alloc (.cells #[.int .i64 W.phase, .int .i64 W.cycle, .int .i64 W.clock, .slice E0 W.globals.length d0, .slice E1 W.gs.length d1, .slice E2 W.objects.length d2, .int .i64 W.grey, .int .i64 W.notes, .int .i64 W.roots] 26)) = X at HB ⊢
              refine (ints_ok _ _ _ V.globals W.globals (HV.out.1.chg HB.out.1 (Nat.le_refl _) (by simp)).rd (HW.out.1.chg HB.out.1 (Nat.le_refl _) (by simp)).rd).mono ?_
              rintro e w1 ⟨rfl, n, rfl⟩
              obtain ⟨-, -, -, -, r4, r5, -, -, -⟩ := boxC (HB.out.2.1.drewN n)
              obtain ⟨-, -, -, -, s4, s5, -, -, -⟩ := boxC (HB.out.2.2.drewN n)
              have HD := Lib.hid (And.intro (HB.out.1.drewN n) (And.intro (HB.out.2.1.drewN n) (HB.out.2.2.drewN n)))
              clear HB
              generalize X.drewN n = wd at HD r4 r5 s4 s5 ⊢
              by_cases hg : V.globals = W.globals
              · rw [decide_eq_true hg]
                have HGl := Lib.hid hg; clear hg
                by_cases lg : V.gs.length = W.gs.length
                · have m1 : ((V.gs.length : Int) != (W.gs.length : Int)) = false := by simp [lg]
                  have m2 : (V.gs.length != W.gs.length) = false := by simp [lg]
                  by_cases lo : V.objects.length = W.objects.length
                  · have m3 : ((V.objects.length : Int) != (W.objects.length : Int)) = false := by simp [lo]
                    have m4 : (V.objects.length != W.objects.length) = false := by simp [lo]
                    have HL := Lib.hid (And.intro lg lo); clear lg lo
                    go_wp2_with fail
                    clear m1 m2 m3 m4 r4 r5 s4 s5
                    go_loopg [5] (V.gs.length + 1) (fun gk idx wr => RsRel wd V.gs W.gs gk idx wr)
                    case atStart => exact ⟨0, by omega, by omega, rfl, rfl, Chg.refl _ _⟩
                    case round =>
                      obtain ⟨i, hgk, hin, rfl, ht, C⟩ := hrel
                      have CC := HD.out.1.trans C
                      have r4 : wr.cell? ⟨w.heap.size, 4, none⟩ = some (.slice A1 V.gs.length c1) := (C.blk HD.out.2.1 (by simp)).cellv 4 rfl
                      have s4 : wr.cell? ⟨w.heap.size + 1, 4, none⟩ = some (.slice E1 W.gs.length d1) := (C.blk HD.out.2.2 (by simp)).cellv 4 rfl
                      by_cases e : i < V.gs.length
                      · obtain ⟨x, hx⟩ : ∃ x, V.gs[i]? = some x := ⟨_, List.getElem?_eq_getElem e⟩
                        obtain ⟨y, hy⟩ : ∃ y, W.gs[i]? = some y := ⟨_, List.getElem?_eq_getElem (by have := HL.out.1; omega)⟩
                        obtain ⟨b1, o1, s1, rfl, hb1, i0, i1, i2, hs1, -⟩ := (HV.out.2.1.chg CC (Nat.le_refl _) (by simp)).at_ i x hx
                        obtain ⟨b2, o2, s2, rfl, hb2, j0, j1, j2, hs2, -⟩ := (HW.out.2.1.chg CC (Nat.le_refl _) (by simp)).at_ i y hy
                        obtain ⟨As, cs, rfl⟩ := hs1.ex
                        obtain ⟨At, ct, rfl⟩ := hs2.ex
                        have hi' : (i : Int) < (V.gs.length : Int) := by omega
                        have hi2 : (i : Int) < (W.gs.length : Int) := by have := HL.out.1; omega
                        have hi3 : i < W.gs.length := by have := HL.out.1; omega
                        have hi0 : (0 : Int) ≤ (i : Int) := by omega
                        have HX := Lib.hid (And.intro ht (And.intro C (And.intro hx (And.intro hy (And.intro hs1 hs2))))); clear ht C hx hy hs1 hs2 hb1 hb2 CC
                        by_cases qa : x.state = y.state
                        · have na : (x.state != y.state) = false := by rw [bne_eq_false_iff_eq]; exact qa
                          by_cases qp : x.p = y.p
                          · have np : (x.p != y.p) = false := by rw [bne_eq_false_iff_eq]; exact qp
                            by_cases qs : x.stack = y.stack
                            · have KH := Lib.hid (fun (n : Nat) => (show Calls Try.prog 14 #[.slice As x.stack.length cs, .slice At y.stack.length ct] (wr.drewN n) (fun e w'' => e = .returned (.bool true) ∧ ∃ m, w'' = wr.drewN m) from
                                  (ints_ok _ _ _ x.stack y.stack (HX.out.2.2.2.2.1.rd.drewN n) (HX.out.2.2.2.2.2.rd.drewN n)).mono fun e w'' h => ⟨by rw [h.1, decide_eq_true qs], by obtain ⟨_, m, h2⟩ := h; exact ⟨n + m, by rw [h2, drewN_drewN]⟩⟩))
                              have HE := Lib.hid (show x = y by
                                obtain ⟨xa, xb, xc⟩ := x
                                obtain ⟨ya, yb, yc⟩ := y
                                simp only at qa qp qs
                                rw [qa, qp, qs]); clear qa qp qs
                              go_wp2_with fail
                              go_quiet ((go_at_call 14; with_reducible exact KH.out _))
                              go_wp2_with fail
                              go_roundg (V.gs.length - i)
                              case measure => omega
                              case rel => exact ⟨i + 1, by omega, by omega, by go_num, by rw [take_sn HX.out.2.2.1, take_sn HX.out.2.2.2.1, HX.out.1, HE.out], HX.out.2.1.drewN _⟩
                            · have KH := Lib.hid (fun (n : Nat) => (show Calls Try.prog 14 #[.slice As x.stack.length cs, .slice At y.stack.length ct] (wr.drewN n) (fun e w'' => e = .returned (.bool false) ∧ ∃ m, w'' = wr.drewN m) from
                                  (ints_ok _ _ _ x.stack y.stack (HX.out.2.2.2.2.1.rd.drewN n) (HX.out.2.2.2.2.2.rd.drewN n)).mono fun e w'' h => ⟨by rw [h.1, decide_eq_false qs], by obtain ⟨_, m, h2⟩ := h; exact ⟨n + m, by rw [h2, drewN_drewN]⟩⟩))
                              have HE := Lib.hid (sameB_gs (ne_at HX.out.2.2.1 HX.out.2.2.2.1 (fun h => qs (congrArg Gr.stack h)))); clear qa qp qs
                              go_wp2_with fail
                              go_quiet ((go_at_call 14; with_reducible exact KH.out _))
                              go_wp2_with fail
                              try rw [Exit.noGoto_ret]
                              go_ret
                              exact ⟨by rw [HE.out]; rfl, (HD.out.1.trans HX.out.2.1).drewN _⟩
                          · have np : (x.p != y.p) = true := by rw [bne_iff_ne]; exact qp
                            have HE := Lib.hid (sameB_gs (ne_at HX.out.2.2.1 HX.out.2.2.2.1 (fun h => qp (congrArg Gr.p h)))); clear qa qp
                            go_wp2_with fail
                            go_quiet (fail)
                            go_wp2_with fail
                            try rw [Exit.noGoto_ret]
                            go_ret
                            exact ⟨by rw [HE.out]; rfl, (HD.out.1.trans HX.out.2.1).drewN _⟩
                        · have na : (x.state != y.state) = true := by rw [bne_iff_ne]; exact qa
                          have HE := Lib.hid (sameB_gs (ne_at HX.out.2.2.1 HX.out.2.2.2.1 (fun h => qa (congrArg Gr.state h)))); clear qa
                          go_wp2_with fail
                          go_quiet (fail)
                          go_wp2_with fail
                          try rw [Exit.noGoto_ret]
                          go_ret
                          exact ⟨by rw [HE.out]; rfl, (HD.out.1.trans HX.out.2.1).drewN _⟩
                      · have e2 : V.gs.length = i := by omega
                        have hi' : ¬ (i : Int) < (V.gs.length : Int) := by omega
                        have e3 : V.gs = W.gs := by
                          rw [← e2, List.take_length, HL.out.1, List.take_length] at ht; exact ht
                        have HX := Lib.hid (And.intro e3 (And.intro CC (And.intro (C.blk HD.out.2.1 (by simp)) (C.blk HD.out.2.2 (by simp))))); clear ht C e3 e2 hgk hin e CC s4
                        go_wp2_with fail
                        clear r4 hi'
                        obtain ⟨wq, rfl⟩ : ∃ wq : World, wq = wr := ⟨_, rfl⟩
                        go_loopg [6] (V.objects.length + 1) (fun gk idx wr => RsRel wq V.objects W.objects gk idx wr)
                        case atStart => exact ⟨0, by omega, by omega, rfl, rfl, Chg.refl _ _⟩
                        case round =>
                          obtain ⟨i, hgk, hin, rfl, ht, C⟩ := hrel
                          have CC := HX.out.2.1.trans C
                          have r5 : wr.cell? ⟨w.heap.size, 5, none⟩ = some (.slice A2 V.objects.length c2) := (C.blk HX.out.2.2.1 (by simp)).cellv 5 rfl
                          have s5 : wr.cell? ⟨w.heap.size + 1, 5, none⟩ = some (.slice E2 W.objects.length d2) := (C.blk HX.out.2.2.2 (by simp)).cellv 5 rfl
                          by_cases e : i < V.objects.length
                          · obtain ⟨x, hx⟩ : ∃ x, V.objects[i]? = some x := ⟨_, List.getElem?_eq_getElem e⟩
                            obtain ⟨y, hy⟩ : ∃ y, W.objects[i]? = some y := ⟨_, List.getElem?_eq_getElem (by have := HL.out.2; omega)⟩
                            obtain ⟨b1, o1, s1, rfl, hb1, i0, i1, i2, hs1, -⟩ := (HV.out.2.2.chg CC (Nat.le_refl _) (by simp)).at_ i x hx
                            obtain ⟨b2, o2, s2, rfl, hb2, j0, j1, j2, hs2, -⟩ := (HW.out.2.2.chg CC (Nat.le_refl _) (by simp)).at_ i y hy
                            obtain ⟨As, cs, rfl⟩ := hs1.ex
                            obtain ⟨At, ct, rfl⟩ := hs2.ex
                            have hi' : (i : Int) < (V.objects.length : Int) := by omega
                            have hi2 : (i : Int) < (W.objects.length : Int) := by have := HL.out.2; omega
                            have hi3 : i < W.objects.length := by have := HL.out.2; omega
                            have hi0 : (0 : Int) ≤ (i : Int) := by omega
                            have l1 := lt_of_cell' i0
                            have l2 := lt_of_cell' j0
                            have l3 := lt_of_cell' r5
                            have l4 := lt_of_cell' s5
                            have HX2 := Lib.hid (And.intro ht (And.intro C (And.intro hx (And.intro hy (And.intro hs1 (And.intro hs2 CC)))))); clear ht C hx hy hs1 hs2 hb1 hb2 CC
                            go_upto_region 11 with fail
                            go_cut [7, 8] from 133 to 142 (fun v7 v8 wc => ∃ g7 g8, v7 = .pointer (some ⟨g7, 0, none⟩) ∧ v8 = .pointer (some ⟨g8, 0, none⟩) ∧ Blk wc g7 30 #[.int .i64 x.addr, .slice As x.slots.length cs, .bool x.marked] ∧ Blk wc g8 30 #[.int .i64 y.addr, .slice At y.slots.length ct, .bool y.marked] ∧ Chg [] wr wc)
                            case first =>
                              go_region_held3 (fun w' => w'.cell? ⟨w.heap.size, 5, none⟩ = some (.slice (some ⟨b1, o1, none⟩) V.objects.length c2) ∧ w'.cell? ⟨w.heap.size + 1, 5, none⟩ = some (.slice (some ⟨b2, o2, none⟩) W.objects.length d2) ∧
                                w'.cell? ⟨b1, o1 + i * 3, none⟩ = some (.int .i64 x.addr) ∧ w'.cell? ⟨b1, o1 + i * 3 + 1, none⟩ = some (.slice As x.slots.length cs) ∧ w'.cell? ⟨b1, o1 + i * 3 + 2, none⟩ = some (.bool x.marked) ∧
                                w'.cell? ⟨b2, o2 + i * 3, none⟩ = some (.int .i64 y.addr) ∧ w'.cell? ⟨b2, o2 + i * 3 + 1, none⟩ = some (.slice At y.slots.length ct) ∧ w'.cell? ⟨b2, o2 + i * 3 + 2, none⟩ = some (.bool y.marked))
                                (go_keep) (fail)
                              all_goals
                                go_wp2_with fail
                                go_meet
                                first
                                  | exact ⟨_, _, rfl, rfl, ((Blk.new wr 30 _).alloc _).drew, (by simpa using (Blk.new (wr.alloc (.cells #[.int .i64 x.addr, .slice As x.slots.length cs, .bool x.marked] 30)) 30 _).drew), (((Chg.refl [] wr).alloc _).alloc _).drew⟩
                                  | exact ⟨_, _, rfl, rfl, (by simpa using (Blk.new (wr.alloc (.cells #[.int .i64 y.addr, .slice At y.slots.length ct, .bool y.marked] 30)) 30 _).drew), ((Blk.new wr 30 _).alloc _).drew, (((Chg.refl [] wr).alloc _).alloc _).drew⟩
                            case rest =>
                              obtain ⟨g7, g8, rfl, rfl, K7, K8, C⟩ := hcut
                              have z0 := K7.cellv 0 rfl
                              have z1 := K7.cellv 1 rfl
                              have z2 := K7.cellv 2 rfl
                              have y0 := K8.cellv 0 rfl
                              have y1 := K8.cellv 1 rfl
                              have y2 := K8.cellv 2 rfl
                              have CW := Lib.hid C
                              have HC := Lib.hid (HX2.out.2.1.trans C); clear C K7 K8 r5 s5 i0 i1 i2 j0 j1 j2 l1 l2 l3 l4
                              by_cases qa : x.addr = y.addr
                              · have na : (x.addr != y.addr) = false := by rw [bne_eq_false_iff_eq]; exact qa
                                cases hm : x.marked with
                                | false =>
                                  rw [hm] at z2
                                  cases hm' : y.marked with
                                  | false =>
                                    rw [hm'] at y2
                                    have HE := Lib.hid (And.intro qa (hm.trans hm'.symm)); clear qa hm hm'
                                    have CZ := HX.out.2.1.trans HC.out
                                    have CY := Lib.hid CZ; clear CZ
                                    go_wp2_with fail
                                    refine (ints_ok _ _ _ x.slots y.slots ((HX2.out.2.2.2.2.1.chg CW.out (HX2.out.2.2.2.2.2.2.size) (by simp)).rd) ((HX2.out.2.2.2.2.2.1.chg CW.out (HX2.out.2.2.2.2.2.2.size) (by simp)).rd)).mono ?_
                                    rintro e w3 ⟨rfl, n3, rfl⟩
                                    clear z0 z1 z2 y0 y1 y2
                                    by_cases qs : x.slots = y.slots
                                    · rw [decide_eq_true qs]
                                      have HQ := Lib.hid (show x = y by
                                        have h1 := HE.out.1
                                        have h2 := HE.out.2
                                        obtain ⟨xa, xb, xc⟩ := x
                                        obtain ⟨ya, yb, yc⟩ := y
                                        simp only at h1 h2 qs
                                        rw [h1, h2, qs]); clear qs
                                      go_wp2_with fail
                                      go_roundg (V.objects.length - i)
                                      case measure => omega
                                      case rel => exact ⟨i + 1, by omega, by omega, by go_num, by rw [take_sn HX2.out.2.2.1, take_sn HX2.out.2.2.2.1, HX2.out.1, HQ.out], HC.out.drewN _⟩
                                    · rw [decide_eq_false qs]
                                      have HQ := Lib.hid (sameB_os (ne_at HX2.out.2.2.1 HX2.out.2.2.2.1 (fun h => qs (congrArg Ob.slots h)))); clear qs
                                      go_wp2_with fail
                                      try rw [Exit.noGoto_ret]
                                      go_ret
                                      exact ⟨by rw [HQ.out]; rfl, CY.out.drewN _⟩
                                  | true =>
                                    rw [hm'] at y2
                                    have HE := Lib.hid (sameB_os (ne_at HX2.out.2.2.1 HX2.out.2.2.2.1 (fun h => by rw [h, hm'] at hm; cases hm))); clear qa hm hm'
                                    have CY := Lib.hid (HX.out.2.1.trans HC.out)
                                    go_wp2_with fail
                                    try rw [Exit.noGoto_ret]
                                    go_ret
                                    exact ⟨by rw [HE.out]; rfl, CY.out⟩
                                | true =>
                                  rw [hm] at z2
                                  cases hm' : y.marked with
                                  | false =>
                                    rw [hm'] at y2
                                    have HE := Lib.hid (sameB_os (ne_at HX2.out.2.2.1 HX2.out.2.2.2.1 (fun h => by rw [h, hm'] at hm; cases hm))); clear qa hm hm'
                                    have CY := Lib.hid (HX.out.2.1.trans HC.out)
                                    go_wp2_with fail
                                    try rw [Exit.noGoto_ret]
                                    go_ret
                                    exact ⟨by rw [HE.out]; rfl, CY.out⟩
                                  | true =>
                                    rw [hm'] at y2
                                    have HE := Lib.hid (And.intro qa (hm.trans hm'.symm)); clear qa hm hm'
                                    have CZ := HX.out.2.1.trans HC.out
                                    have CY := Lib.hid CZ; clear CZ
                                    go_wp2_with fail
                                    refine (ints_ok _ _ _ x.slots y.slots ((HX2.out.2.2.2.2.1.chg CW.out (HX2.out.2.2.2.2.2.2.size) (by simp)).rd) ((HX2.out.2.2.2.2.2.1.chg CW.out (HX2.out.2.2.2.2.2.2.size) (by simp)).rd)).mono ?_
                                    rintro e w3 ⟨rfl, n3, rfl⟩
                                    clear z0 z1 z2 y0 y1 y2
                                    by_cases qs : x.slots = y.slots
                                    · rw [decide_eq_true qs]
                                      have HQ := Lib.hid (show x = y by
                                        have h1 := HE.out.1
                                        have h2 := HE.out.2
                                        obtain ⟨xa, xb, xc⟩ := x
                                        obtain ⟨ya, yb, yc⟩ := y
                                        simp only at h1 h2 qs
                                        rw [h1, h2, qs]); clear qs
                                      go_wp2_with fail
                                      go_roundg (V.objects.length - i)
                                      case measure => omega
                                      case rel => exact ⟨i + 1, by omega, by omega, by go_num, by rw [take_sn HX2.out.2.2.1, take_sn HX2.out.2.2.2.1, HX2.out.1, HQ.out], HC.out.drewN _⟩
                                    · rw [decide_eq_false qs]
                                      have HQ := Lib.hid (sameB_os (ne_at HX2.out.2.2.1 HX2.out.2.2.2.1 (fun h => qs (congrArg Ob.slots h)))); clear qs
                                      go_wp2_with fail
                                      try rw [Exit.noGoto_ret]
                                      go_ret
                                      exact ⟨by rw [HQ.out]; rfl, CY.out.drewN _⟩
                              · have na : (x.addr != y.addr) = true := by rw [bne_iff_ne]; exact qa
                                have HE := Lib.hid (sameB_os (ne_at HX2.out.2.2.1 HX2.out.2.2.2.1 (fun h => qa (congrArg Ob.addr h)))); clear qa
                                have CY := Lib.hid (HX.out.2.1.trans HC.out)
                                go_wp2_with fail
                                try rw [Exit.noGoto_ret]
                                go_ret
                                exact ⟨by rw [HE.out]; rfl, CY.out⟩
                          · have e2 : V.objects.length = i := by omega
                            have hi' : ¬ (i : Int) < (V.objects.length : Int) := by omega
                            have e3 : V.objects = W.objects := by
                              rw [← e2, List.take_length, HL.out.2, List.take_length] at ht; exact ht
                            have HS := Lib.hid (sameB_yes HH.out HGl.out HX.out.1 e3)
                            have HZ := Lib.hid CC; clear ht C e3 e2 hgk hin e CC s5
                            go_wp2_with fail
                            go_ret
                            exact ⟨by rw [HS.out]; rfl, HZ.out⟩
                  · have m3 : ((V.objects.length : Int) != (W.objects.length : Int)) = true := by rw [bne_iff_ne]; omega
                    have m4 : (V.objects.length != W.objects.length) = true := by rw [bne_iff_ne]; exact lo
                    have HS := Lib.hid (sameB_os (fun h => lo (by rw [h])) : sameB V W = false); clear lg lo
                    go_wp2_with fail
                    go_ret
                    exact ⟨by rw [HS.out]; rfl, HD.out.1⟩
                · have m1 : ((V.gs.length : Int) != (W.gs.length : Int)) = true := by rw [bne_iff_ne]; omega
                  have m2 : (V.gs.length != W.gs.length) = true := by rw [bne_iff_ne]; exact lg
                  have HS := Lib.hid (sameB_gs (fun h => lg (by rw [h])) : sameB V W = false); clear lg
                  go_wp2_with fail
                  go_ret
                  exact ⟨by rw [HS.out]; rfl, HD.out.1⟩
              · rw [decide_eq_false hg]
                have HS := Lib.hid (sameB_gl hg); clear hg
                go_wp2_with fail
                go_ret
                exact ⟨by rw [HS.out]; rfl, HD.out.1⟩
            · have n5 : (V.roots != W.roots) = true := by rw [bne_iff_ne]; exact q5
              have HH := Lib.hid (sameB_head (show headB V W = false from decide_eq_false (fun h => q5 h.2.2.2.2.2))); clear q0 q1 q2 q3 q4 q5
              go_enter Try.func33, Try.ntmps33
              go_wp2_with fail
              go_ret
              exact ⟨by rw [HH.out]; rfl, HB.out.1⟩
          · have n4 : (V.notes != W.notes) = true := by rw [bne_iff_ne]; exact q4
            have HH := Lib.hid (sameB_head (show headB V W = false from decide_eq_false (fun h => q4 h.2.2.2.2.1))); clear q0 q1 q2 q3 q4
            go_enter Try.func33, Try.ntmps33
            go_wp2_with fail
            go_ret
            exact ⟨by rw [HH.out]; rfl, HB.out.1⟩
        · have n3 : (V.grey != W.grey) = true := by rw [bne_iff_ne]; exact q3
          have HH := Lib.hid (sameB_head (show headB V W = false from decide_eq_false (fun h => q3 h.2.2.2.1))); clear q0 q1 q2 q3
          go_enter Try.func33, Try.ntmps33
          go_wp2_with fail
          go_ret
          exact ⟨by rw [HH.out]; rfl, HB.out.1⟩
      · have n2 : (V.clock != W.clock) = true := by rw [bne_iff_ne]; exact q2
        have HH := Lib.hid (sameB_head (show headB V W = false from decide_eq_false (fun h => q2 h.2.2.1))); clear q0 q1 q2
        go_enter Try.func33, Try.ntmps33
        go_wp2_with fail
        go_ret
        exact ⟨by rw [HH.out]; rfl, HB.out.1⟩
    · have n1 : (V.cycle != W.cycle) = true := by rw [bne_iff_ne]; exact q1
      have HH := Lib.hid (sameB_head (show headB V W = false from decide_eq_false (fun h => q1 h.2.1))); clear q0 q1
      go_enter Try.func33, Try.ntmps33
      go_wp2_with fail
      go_ret
      exact ⟨by rw [HH.out]; rfl, HB.out.1⟩
  · have n0 : (V.phase != W.phase) = true := by rw [bne_iff_ne]; exact q0
    have HH := Lib.hid (sameB_head (show headB V W = false from decide_eq_false (fun h => q0 h.1))); clear q0
    go_enter Try.func33, Try.ntmps33
    go_wp2_with fail
    go_ret
    exact ⟨by rw [HH.out]; rfl, HB.out.1⟩
end Go.Proofs.Ytfkgooliglcjkaa
