/- told of layer 9. -/
import Derived.Test.YtmafiagakoglkaaGreatDoorMHa
import Derived.Test.YtmafiagakoglkaaGreatDoorMSer
namespace Go.Proofs.YtmafiagakoglkaaGreatDoor
open Go.RowKit Go.Maps

set_option maxHeartbeats 1600000 in
set_option maxRecDepth 100000 in
theorem hnew_no (w : World) : Calls Tryz.prog 11 #[.int .i64 256, .int .i64 0] w (NwPost (.tuple #[.pointer none, .int .i64 1]) w) := by
  go_enter Tryz.func11, Tryz.ntmps11
  go_wp2_with fail
  refine (s_new w 4 256 (by decide) (by decide) (by decide)).mono ?_
  rintro e w1 ⟨ga, h, rfl, S⟩
  have HS := Lib.hid S.c; clear S
  go_wp2_with fail
  go_ret2
  exact ⟨rfl, HS.out⟩
set_option maxHeartbeats 3200000 in
set_option maxRecDepth 100000 in
theorem told9_ok (w : World) (T0 : Tab w) : Calls Tryz.prog 10 #[] w (NwPost (.bool true) w) := by
  have HT := Lib.hid T0; clear T0
  go_enter Tryz.func10, Tryz.ntmps10
  go_wp2_with fail
  refine (hnew_ok w 4 2 256 (by decide) (by decide) (by decide) (by decide) (by decide)).mono ?_
  rintro e w1 ⟨H, rfl, Q⟩
  have HQ := Lib.hid Q; clear Q
  go_wp2_with fail
  refine (hnew_no w1).mono ?_
  rintro e w2 ⟨rfl, c⟩
  have H2 := Lib.hid (HQ.out.chg0 c); clear c
  go_wp2_with fail
  refine (halloc_ok w w2 H (hp0 4 2) 0 0 H2.out (hp0_inv 4 2 (by decide)) HT.out (by decide) (by decide) 0 1 (by decide) (by decide) (by decide) false).mono ?_
  rintro e w3 ⟨q, x, gone, cc, vg, A3, N3, b3, H3, hof, hal, rfl, hN3, hb3, hE, Q3, -, -, -, I3⟩
  obtain ⟨rfl, rfl, rfl, rfl⟩ := td_one (of_one hof) hal
  have H3' := Lib.hid (And.intro Q3 I3); clear Q3 I3 hal hof
  have hg3 := hE.gh
  go_wp2_with fail
  have k := halloc_ok w w3 H3 tA1 N3 b3 H3'.out.1 H3'.out.2 HT.out (by omega) (by omega) 0 1 (by decide) (by decide) (by decide) false
  rw [hg3] at k
  refine k.mono ?_
  clear k
  rintro e w4 ⟨q, x, gone, cc, vg4, A4, N4, b4, H4, hof, hal, rfl, hN4, hb4, hE4, Q4, -, -, -, I4⟩
  obtain ⟨rfl, rfl, rfl, rfl⟩ := td_two (of_one hof) hal
  have H4' := Lib.hid (And.intro Q4 I4); clear Q4 I4 hal hof
  have hg4 := hE4.gh.trans hg3
  go_wp2_with fail
  have k := halloc_ok w w4 H4 tA2 N4 b4 H4'.out.1 H4'.out.2 HT.out (by omega) (by omega) 1 1 (by decide) (by decide) (by decide) true
  rw [hg4] at k
  refine k.mono ?_
  clear k
  rintro e w5 ⟨q, x, gone, cc, vg5, A5, N5, b5, H5, hof, hal, rfl, hN5, hb5, hE5, Q5, -, -, -, I5⟩
  obtain ⟨rfl, rfl, rfl, rfl⟩ := td_three (of_one hof) hal
  have H5' := Lib.hid (And.intro Q5 I5); clear Q5 I5 hal hof
  have hg5 := hE5.gh.trans hg4
  go_wp2_with fail
  have k := hbegin_ok w w5 H5 tA3 N5 b5 H5'.out.1 H5'.out.2 HT.out (by omega)
  rw [hg5] at k
  refine k.mono ?_
  clear k
  rintro e w6 (⟨hu, -⟩ | ⟨-, rfl, r1, hF, I6, H6, hE6, Q6, -⟩)
  · have : unsN tA3.r 16 = 0 := rfl
    omega
  have e1 := td_rows hF
  subst e1
  have e2 : bgR (updV (fun _ => ([] : List Nat)) 0 [0, 1]) 32 = fun j => if j = 2 then [0, 1] else [] := funext td_bg
  rw [e2] at I6 Q6
  have H6' := Lib.hid (And.intro Q6 I6); clear Q6 I6 hF e2
  have hg6 := hE6.gh.trans hg5
  go_wp2_with fail
  have k := hsweep_ok w w6 H6 { tA3 with r := fun j => if j = 2 then [0, 1] else [], own := faO tA3.own tA3.P } N5 b5 H6'.out.1 HT.out (H6'.out.2.B H6'.out.1.S.I.ok (by omega)) (by omega) (fun j _ x hx => by obtain ⟨-, s, hs, -⟩ := H6'.out.2.r j x hx; exact ⟨s, hs⟩)
  rw [hg6] at k
  refine k.mono ?_
  clear k
  rintro e w7 (⟨hno, -⟩ | ⟨k, f, x, xs, s, u, h7, v7, r7, hk, hf, hr, hs, hput, rfl, Q7, -, L7, -⟩)
  · have h1 := (hno 0 (by decide)).1
    cases h1
  have hj : k * 4 + 2 + f = 2 := by
    by_cases h1 : k * 4 + 2 + f = 2
    · exact h1
    · have hr' : (if k * 4 + 2 + f = 2 then [0, 1] else ([] : List Nat)) = x :: xs := hr
      rw [if_neg h1] at hr'; cases hr'
  have hk0 : k = 0 := by omega
  have hf0 : f = 0 := by omega
  subst hk0
  subst hf0
  have hr' : ([0, 1] : List Nat) = x :: xs := hr
  injection hr' with hx0 hxs
  subst hx0
  subst hxs
  have hs' : some tS2 = some s := hs
  injection hs' with hs'
  subst hs'
  have hun : unsN r7 16 = 1 := td_uns (s := sweptS tS2) hput rfl
  have I7 := H6'.out.2.swept (j := 2) (s := tS2) rfl hs (by decide) hput
  have hB7 := (I7.B Q7.S.I.ok (by omega)).l
  have hgone := td_gone
  rw [hgone] at L7
  obtain ⟨Au, nu, cu, rfl⟩ := L7.o.slice'
  have H7' := Lib.hid (And.intro Q7 (And.intro L7 (And.intro hun hB7))); clear I7 hB7 Q7 L7 hput hgone hs hr
  obtain ⟨W8, hW8⟩ : ∃ W8 : World, W8 = w7.alloc (.cells #[.int .i64 64, .int .i64 65] 3) := ⟨_, rfl⟩
  have c8 : Chg [] w7 W8 := by rw [hW8]; exact (Chg.refl _ _).alloc _
  have B8 : Blk W8 w7.heap.size 3 (([64, 65] : List Int).map (Value.int .i64)).toArray := by rw [hW8]; exact Blk.new _ _ _
  have H8 := Lib.hid (And.intro c8 (And.intro B8 hW8)); clear c8 B8 hW8
  go_wp2_with fail
  rw [← H8.out.2.2]
  refine (ints_ok W8 _ _ [64, 65] [64, 65] (H7'.out.2.1.o.chg0 H8.out.1).rd (RdI.blk (xs := [64, 65]) H8.out.2.1 (by simp))).mono ?_
  rintro e w9 hB
  obtain ⟨rfl, c9⟩ := hB.chg
  rw [decide_eq_true (Eq.refl ([64, 65] : List Int))]
  have H9 := Lib.hid ((H7'.out.1.chg0 H8.out.1).chg0 c9); clear hB c9
  go_wp2_with fail
  have k := hunswept_ok H9.out (fun j => Nat.le_trans (H7'.out.2.2.2 j) (by decide))
  rw [hg6] at k
  refine k.mono ?_
  clear k
  rintro e w10 ⟨rfl, c10⟩
  rw [H7'.out.2.2.1]
  have H10 := Lib.hid (H9.out.chg0 c10); clear c10
  go_wp2_with fail
  have k := harena_ok H10.out
  rw [hg6] at k
  refine k.mono ?_
  clear k
  rintro e w11 ⟨rfl, rfl⟩
  go_wp2_with fail
  go_ret
  exact ⟨rfl, H10.out.S.c⟩
end Go.Proofs.YtmafiagakoglkaaGreatDoor
