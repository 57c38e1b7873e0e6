/- Objects with addresses of their own: the walk. -/
import Derived.Test.YtfkgooliglcjkaaVwOwn
import Derived.Test.YtfkgooliglcjkaaVwLess
namespace Go.Proofs.Ytfkgooliglcjkaa
open Go.RowKit Go.Maps

theorem ow_vw {w wr W : World} {v : Value} {V : Vw} (h : VwAt w w.heap.size v V) (c : Chg [] w wr) (d : Chg [] wr W) : VwAt W W.heap.size v V := (h.chg (c.trans d) (Nat.le_refl _) (by simp)).mono (c.trans d).size
set_option maxHeartbeats 1600000 in
set_option maxRecDepth 100000 in
theorem own_ok (w : World) (v : Value) (V : Vw) (h : VwAt w w.heap.size v V) (hS : Small V) : Calls Try.prog 12 #[v] w (OwnPost V w) := by
  have HV := Lib.hid h
  obtain ⟨g, A1, c1, A2, c2, rfl, h1, h2, h3, h4, h5⟩ := h.ex
  obtain ⟨A0, c0, rfl⟩ := h1.ex
  have C1 := (Chg.refl [] w).alloc (.cells (vwBox V A0 c0 A1 c1 A2 c2) 26)
  have B1 := Blk.new w 26 (vwBox V A0 c0 A1 c1 A2 c2)
  have HB := Lib.hid (And.intro C1 (And.intro B1 h3)); clear C1 B1 h h1 h2 h3 h4 h5
  have hl := hS.o
  go_enter Try.func12, Try.ntmps12
  go_wp2_with fail
  go_loopg [3] (V.objects.length + 1) (fun gk idx wr => OwRel (w.alloc (.cells (vwBox V A0 c0 A1 c1 A2 c2) 26)) V gk idx wr)
  case atStart => exact ⟨0, by omega, by omega, rfl, fun j o hj => by omega, Chg.refl [] _⟩
  case round =>
    obtain ⟨i, hgk, hin, rfl, hall, C⟩ := hrel
    obtain ⟨b0, b1, b2, b3, b4, b5, b6, b7, b8⟩ := VwAt.box (C.blk HB.out.2.1 (by simp))
    by_cases e : i < V.objects.length
    · obtain ⟨o, ho⟩ : ∃ o, V.objects[i]? = some o := ⟨_, List.getElem?_eq_getElem e⟩
      obtain ⟨b, off, s, rfl, hbb, i0, i1, i2, hsl, hwa⟩ := (HB.out.2.2.chg (HB.out.1.trans C) (Nat.le_refl _) (by simp)).at_ i o ho
      clear hsl i1 i2
      have hi' : (i : Int) < (V.objects.length : Int) := by omega
      have HX := Lib.hid (And.intro ho (And.intro hall C)); clear ho hall C hbb
      by_cases h0 : o.addr = 0
      · have hx : (o.addr == 0) = true := by rw [beq_iff_eq]; exact h0
        go_upto_region 4 with fail
        go_quiet (fail)
        go_wp2_with fail
        try rw [Exit.noGoto_ret]
        go_ret
        exact ⟨false, rfl, fun h => absurd h (by decide), (HB.out.1.trans HX.out.2.2).drewN _⟩
      · have hx : (o.addr == 0) = false := by rw [beq_eq_false_iff_ne]; exact h0
        by_cases hk : findI V o.addr = (i : Int)
        · have hat : V.at_ o.addr = some i := by
            rw [findI_eq] at hk
            cases hm : V.at_ o.addr with
            | none => rw [hm] at hk; simp at hk
            | some k => rw [hm] at hk; have h9 : (k : Int) = (i : Int) := hk
                        congr 1; omega
          have hq : (findI V o.addr != (i : Int)) = false := by rw [bne_eq_false_iff_eq]; exact hk
          have HH := Lib.hid (And.intro h0 hat); clear hk hat
          go_upto_region 4 with fail
          have k1 : Chg [] wr wr.drew := (Chg.refl [] wr).drew
          have ilt := lt_of_cell' i0
          go_region_held3 (fun w' => w'.cell? ⟨w.heap.size, 0, none⟩ = some (.int .i64 V.phase) ∧ w'.cell? ⟨w.heap.size, 1, none⟩ = some (.int .i64 V.cycle) ∧ w'.cell? ⟨w.heap.size, 2, none⟩ = some (.int .i64 V.clock) ∧ w'.cell? ⟨w.heap.size, 3, none⟩ = some (.slice A0 V.globals.length c0) ∧ w'.cell? ⟨w.heap.size, 4, none⟩ = some (.slice A1 V.gs.length c1) ∧ w'.cell? ⟨w.heap.size, 5, none⟩ = some (.slice (some ⟨b, off, none⟩) V.objects.length c2) ∧ w'.cell? ⟨w.heap.size, 6, none⟩ = some (.int .i64 V.grey) ∧ w'.cell? ⟨w.heap.size, 7, none⟩ = some (.int .i64 V.notes) ∧ w'.cell? ⟨w.heap.size, 8, none⟩ = some (.int .i64 V.roots) ∧ w'.cell? ⟨b, off + i * 3, none⟩ = some (.int .i64 o.addr) ∧ Chg [] wr w')
            (go_keep)
            (first | (go_at_call 26; refine (rfind_ok _ _ V o.addr (ow_vw HV.out (HB.out.1.trans HX.out.2.2) ?_) hS).mono ?_; assumption; rintro e w' ⟨rfl, C⟩; have D := Chg.trans ‹Chg [] wr _› C; obtain ⟨z0, z1, z2, z3, z4, z5, z6, z7, z8⟩ := VwAt.box ((HX.out.2.2.trans D).blk HB.out.2.1 (by simp)); have z9 := D.cellv ilt (by simp) i0))
          have HD := Lib.hid (HX.out.2.2.trans ‹Chg [] wr _›)
          go_wp2_with fail
          go_roundg (V.objects.length - i)
          case measure => omega
          case rel => exact ⟨i + 1, by omega, by omega, by go_num, fun j o' hj ho' => by
            rcases Nat.lt_or_ge j i with h1 | h1
            · exact HX.out.2.1 j o' h1 ho'
            · have e3 : j = i := by omega
              subst e3
              have e4 := HX.out.1.symm.trans ho'
              injection e4 with e4
              subst e4
              exact HH.out, HD.out⟩
        · have hq : (findI V o.addr != (i : Int)) = true := by rw [bne_iff_ne]; exact hk
          clear hk
          go_upto_region 4 with fail
          have k1 : Chg [] wr wr.drew := (Chg.refl [] wr).drew
          have ilt := lt_of_cell' i0
          go_region_held3 (fun w' => w'.cell? ⟨w.heap.size, 0, none⟩ = some (.int .i64 V.phase) ∧ w'.cell? ⟨w.heap.size, 1, none⟩ = some (.int .i64 V.cycle) ∧ w'.cell? ⟨w.heap.size, 2, none⟩ = some (.int .i64 V.clock) ∧ w'.cell? ⟨w.heap.size, 3, none⟩ = some (.slice A0 V.globals.length c0) ∧ w'.cell? ⟨w.heap.size, 4, none⟩ = some (.slice A1 V.gs.length c1) ∧ w'.cell? ⟨w.heap.size, 5, none⟩ = some (.slice (some ⟨b, off, none⟩) V.objects.length c2) ∧ w'.cell? ⟨w.heap.size, 6, none⟩ = some (.int .i64 V.grey) ∧ w'.cell? ⟨w.heap.size, 7, none⟩ = some (.int .i64 V.notes) ∧ w'.cell? ⟨w.heap.size, 8, none⟩ = some (.int .i64 V.roots) ∧ w'.cell? ⟨b, off + i * 3, none⟩ = some (.int .i64 o.addr) ∧ Chg [] wr w')
            (go_keep)
            (first | (go_at_call 26; refine (rfind_ok _ _ V o.addr (ow_vw HV.out (HB.out.1.trans HX.out.2.2) ?_) hS).mono ?_; assumption; rintro e w' ⟨rfl, C⟩; have D := Chg.trans ‹Chg [] wr _› C; obtain ⟨z0, z1, z2, z3, z4, z5, z6, z7, z8⟩ := VwAt.box ((HX.out.2.2.trans D).blk HB.out.2.1 (by simp)); have z9 := D.cellv ilt (by simp) i0))
          have HD := Lib.hid (HX.out.2.2.trans ‹Chg [] wr _›)
          go_wp2_with fail
          try rw [Exit.noGoto_ret]
          go_ret
          exact ⟨false, rfl, fun h => absurd h (by decide), HB.out.1.trans HD.out⟩
    · have e2 : V.objects.length = i := by omega
      have hi' : ¬ (i : Int) < (V.objects.length : Int) := by omega
      have HX := Lib.hid (And.intro hall (And.intro C e2)); clear hall C hgk hin e2
      go_wp2_with fail
      go_ret
      exact ⟨true, rfl, fun _ => ⟨fun j o ho => HX.out.1 j o (by have := (List.getElem?_eq_some_iff.1 ho).1; have := HX.out.2.2; omega) ho⟩, HB.out.1.trans HX.out.2.1⟩
end Go.Proofs.Ytfkgooliglcjkaa
