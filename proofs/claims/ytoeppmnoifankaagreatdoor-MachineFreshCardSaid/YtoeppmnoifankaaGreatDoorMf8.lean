/- MachineFresh: a machine that has nothing yet has room for as many objects as its pages bear. -/
import Derived.Test.YtoeppmnoifankaaGreatDoorMf7
namespace Go.Proofs.YtoeppmnoifankaaGreatDoor
open Go.RowKit Go.Maps

section
variable {W : Bs} {w : World} {p : MAt} {m : Mac} (M : MM W w p m)
include M
set_option maxHeartbeats 1600000 in
set_option maxRecDepth 100000 in
theorem m_room (f q n k N : Nat) (he : ∀ id, m.A.a.sp id = none) (hl : m.A.a.l = [⟨f, q⟩]) (hq : q ≤ 262144) (h0 : 1 ≤ n) (h1 : n ≤ 256) (hk : OfSays n k) (hN : N = q / pgK k * slK k) :
    Calls Tryz.prog 9 #[.pointer (some ⟨p.gm, 0, none⟩), .int .i64 (n : Nat)] w (NwPost (.int .i64 (N : Nat)) w) := by
  have K1 := m_arena M
  have K2 := cof_ok w n h0 h1
  have K3 : ∀ w', Chg [] w w' → Calls Tryz.prog 30 #[.pointer (some ⟨p.H.ah.ga, 0, none⟩), .int .i64 (k : Nat)] w' (NwPost (.int .i64 (N : Nat)) w') := fun w' c =>
    aroom_ok w' p.H.ah m.A.a k f q N ((M.chg0 c).hp.S.M) hk.1 he hl hq hN
  have HK := Lib.hid (And.intro K1 (And.intro K2 (And.intro K3 hk))); clear K1 K2 K3 hk hN M he hl hq
  go_enter Tryz.func9, Tryz.ntmps9
  go_wp2_with fail
  refine (HK.out.1).mono ?_
  rintro e w1 ⟨rfl, rfl⟩
  go_wp2_with fail
  refine (HK.out.2.1).mono ?_
  rintro e w2 ⟨k', hk', rfl, c2⟩
  obtain rfl := OfSays.uniq hk' HK.out.2.2.2
  have H2 := Lib.hid c2; clear c2 hk'
  go_wp2_with fail
  refine (HK.out.2.2.1 w2 H2.out).mono ?_
  rintro e w3 ⟨rfl, c3⟩
  have H3 := Lib.hid (H2.out.trans c3); clear c3
  go_wp2_with fail
  go_ret
  exact ⟨rfl, H3.out⟩
set_option maxHeartbeats 1600000 in
set_option maxRecDepth 100000 in
theorem m_room_no : Calls Tryz.prog 9 #[.pointer (some ⟨p.gm, 0, none⟩), .int .i64 (-1)] w (NwPost (.int .i64 0) w) := by
  have K1 := m_arena M
  have K2 := cof_out28 w (-1) (by omega)
  have K3 : ∀ w', Chg [] w w' → Calls Tryz.prog 30 #[.pointer (some ⟨p.H.ah.ga, 0, none⟩), .int .i64 (-1)] w' (NwPost (.int .i64 0) w') := fun w' c =>
    aroom_no w' p.H.ah m.A.a (-1) ((M.chg0 c).hp.S.M) rfl
  have HK := Lib.hid (And.intro K1 (And.intro K2 K3)); clear K1 K2 K3 M
  go_enter Tryz.func9, Tryz.ntmps9
  go_wp2_with fail
  refine (HK.out.1).mono ?_
  rintro e w1 ⟨rfl, rfl⟩
  go_wp2_with fail
  refine (HK.out.2.1).mono ?_
  rintro e w2 ⟨rfl, c2⟩
  have H2 := Lib.hid c2; clear c2
  go_wp2_with fail
  refine (HK.out.2.2 w2 H2.out).mono ?_
  rintro e w3 ⟨rfl, c3⟩
  have H3 := Lib.hid (H2.out.trans c3); clear c3
  go_wp2_with fail
  go_ret
  exact ⟨rfl, H3.out⟩
end
def insE : Ins := ⟨0, 0, 0, 0⟩
theorem ok1 : OkP 0 [[insE]] := by
  refine ⟨by omega, by decide, by decide, fun l hl => ?_⟩
  have e : l = [insE] := by simpa using hl
  subst e
  refine ⟨by decide, by decide, fun i hi => ?_⟩
  have e : i = insE := by simpa using hi
  subst e
  exact ⟨by decide, by decide, by decide, by decide, by decide⟩
/-- A program of one function of one instruction, written out. -/
theorem PrR.one1 {w : World} {gi gf : Nat} (Bi : Blk w gi 33 #[.int .i64 0, .int .i64 0, .int .i64 0, .int .i64 0]) (Bf : Blk w gf 34 #[.slice (some ⟨gi, 0, none⟩) 1 1]) : PrR w w.heap.size (.slice (some ⟨gf, 0, none⟩) 1 1) [.slice (some ⟨gi, 0, none⟩) 1 1] [[insE]] := by
  refine ⟨RdV.one_ Bf rfl, rfl, fun i u l h1 h2 => ?_⟩
  cases i with
  | succ i => simp at h1
  | zero =>
    have e1 : u = .slice (some ⟨gi, 0, none⟩) 1 1 := by simpa using h1.symm
    have e2 : l = [insE] := by simpa using h2.symm
    subst e1 e2
    refine ⟨⟨_, _, rfl⟩, fun A n c e i x hx => ?_⟩
    injection e with e1 e2 e3
    cases i with
    | succ i => simp at hx
    | zero =>
      have ex : x = insE := by simpa using hx.symm
      subst ex
      exact ⟨gi, 0, e1.symm, Bi.lt, fun j u hu => by
        have e0 : 0 + 0 * 4 + j = j := by omega
        rw [e0]
        exact Bi.cellv j (by rw [← hu]; exact List.getElem?_toArray)⟩
set_option maxHeartbeats 16000000 in
set_option maxRecDepth 100000 in
theorem fresh_any (ps wo : Int) (b1 b2 : Nat) (sz : Int) (w : World) : Calls Tryz.prog 3 #[.agg #[.int .i64 ps, .int .i64 wo, .float .f64 b1, .float .f64 b2], .int .i64 sz] w (NwPost (.bool true) w) := by
  obtain ⟨n1, hn1, en1⟩ := mod28 sz 256 (by omega) (by omega)
  have en1 : wrap64 ((IntKind.u64.wrap sz).tmod 256) = n1 := en1
  go_enter Tryz.func3, Tryz.ntmps3
  go_upto_region 1 with fail
  obtain ⟨w1, hw1⟩ : ∃ w1, w1 = w.alloc (.cells #[.int .i64 ps, .int .i64 wo, .float .f64 b1, .float .f64 b2] 24) := ⟨_, rfl⟩
  obtain ⟨gC, hgC⟩ : ∃ g, g = w.heap.size := ⟨_, rfl⟩
  rw [← hw1, ← hgC]
  have BC : Blk w1 gC 24 #[.int .i64 ps, .int .i64 wo, .float .f64 b1, .float .f64 b2] := by rw [hw1, hgC]; exact Blk.new w _ _
  have c01 : Chg [] w w1 := by rw [hw1]; exact (Chg.refl [] w).alloc _
  have t0 : w1.cell? ⟨gC, 0, none⟩ = some (.int .i64 ps) := BC.cellv 0 rfl
  have t1 : w1.cell? ⟨gC, 1, none⟩ = some (.int .i64 wo) := BC.cellv 1 rfl
  have t2 : w1.cell? ⟨gC, 2, none⟩ = some (.float .f64 b1) := BC.cellv 2 rfl
  have t3 : w1.cell? ⟨gC, 3, none⟩ = some (.float .f64 b2) := BC.cellv 3 rfl
  have l0 := BC.lt
  have H1 := Lib.hid c01; clear c01 BC hw1 hgC
  go_upto_region 2 with fail
  clear en1
  have hs1 : (1 : Int) + (n1 : Nat) = ((n1 + 1 : Nat) : Int) := by omega
  try rw [hs1]
  obtain ⟨n, hn⟩ : ∃ n, n = n1 + 1 := ⟨_, rfl⟩
  try rw [← hn]
  have hn0 : 1 ≤ n := by omega
  have hn256 : n ≤ 256 := by omega
  clear hs1 hn hn1
  refine wp_region_takes (fuel := 5) 5 (fun w' => Chg [] w1 w') [0, 1] (by kernel_rfl) (by kernel_rfl) (fun _ _ _ _ _ h => h) ((Chg.refl [] w1).drew) ?_
  simp only [List.filterMap_cons, List.filterMap_nil, List.getElem?_cons_zero, List.getElem?_cons_succ]
  refine wpTake_step (fun K hK => ?_)
  rw [if_pos (by rfl)]
  refine ⟨?_, fun w' hS' => ?_, ?_⟩
  rotate_left 1
  focus
    have j0 := hS'.cellv l0 (by simp) t0
    have j1 := hS'.cellv l0 (by simp) t1
    have j2 := hS'.cellv l0 (by simp) t2
    have j3 := hS'.cellv l0 (by simp) t3
    go_simp
    try with_reducible rfl
    done
  simp only [Act.put, List.setIfInBounds_toArray, List.set_cons_zero, List.set_cons_succ]
  refine hK _ ?_
  clear hK K
  refine wpTake_step (fun K hK => ?_)
  rw [if_pos (by rfl)]
  refine ⟨?_, fun w' hS' => ?_, ?_⟩
  rotate_left 1
  focus
    have j0 := hS'.cellv l0 (by simp) t0
    have j1 := hS'.cellv l0 (by simp) t1
    have j2 := hS'.cellv l0 (by simp) t2
    have j3 := hS'.cellv l0 (by simp) t3
    go_simp
    try with_reducible rfl
    done
  simp only [Act.put, List.setIfInBounds_toArray, List.set_cons_zero, List.set_cons_succ]
  refine hK _ ?_
  clear hK K
  refine wpTake_nil ?_
  generalize hx0 : w1.drew = x0
  have D0 : Chg [] w1 x0 := by rw [← hx0]; exact (Chg.refl [] w1).drew
  clear hx0
  refine wpAnyS_ready (rs := [2]) (by kernel_rfl) (by simp) ?_
  refine AllReadyS.cons (by simp only [List.getElem?_toArray, List.getElem?_cons_zero, List.getElem?_cons_succ]; rfl) (fun K hK => ?_) ?_
  · rw [if_pos (by rfl)]
    go_simp
    refine hK _ _ ((D0.alloc _)) ?_
    clear hK K
    try simp only [Act.put, List.setIfInBounds_toArray, List.set_cons_zero, List.set_cons_succ]
    refine wpAnyS_ready (rs := [3]) (by kernel_rfl) (by simp) ?_
    refine AllReadyS.cons (by simp only [List.getElem?_toArray, List.getElem?_cons_zero, List.getElem?_cons_succ]; rfl) (fun K hK => ?_) ?_
    · rw [if_pos (by rfl)]
      go_simp
      refine hK _ _ (((D0.alloc _).alloc _)) ?_
      clear hK K
      try simp only [Act.put, List.setIfInBounds_toArray, List.set_cons_zero, List.set_cons_succ]
      refine wpAnyS_ready (rs := [4]) (by kernel_rfl) (by simp) ?_
      refine AllReadyS.cons (by simp only [List.getElem?_toArray, List.getElem?_cons_zero, List.getElem?_cons_succ]; rfl) (fun K hK => ?_) ?_
      · rw [if_pos (by rfl)]
        go_simp
        go_at_call 6
        refine (one_ok _ 0 _ _ _ _ rfl).mono ?_
        rintro e x3 ⟨rfl, c3⟩
        dsimp only
        have D3 := ((D0.alloc _).alloc _).trans c3
        refine hK _ _ (D3) ?_
        clear hK K
        try simp only [Act.put, List.setIfInBounds_toArray, List.set_cons_zero, List.set_cons_succ]
        refine wpAnyS_tail 5 2 (by kernel_rfl) rfl ?_
        simp only [List.drop_succ_cons, List.drop_zero]
        have cw := H1.out.trans D3
        have Bi := c3.blk ((Blk.new x0 33 #[.int .i64 0, .int .i64 0, .int .i64 0, .int .i64 0]).alloc (.cells #[.slice (some ⟨x0.heap.size, 0, none⟩) 1 1] 34)) (by simp)
        have Bf : Blk x3 (x0.heap.size + 1) 34 #[.slice (some ⟨x0.heap.size, 0, none⟩) 1 1] := by
          have h := Blk.new (x0.alloc (.cells #[.int .i64 0, .int .i64 0, .int .i64 0, .int .i64 0] 33)) 34 #[.slice (some ⟨x0.heap.size, 0, none⟩) 1 1]
          rw [World.size_alloc] at h
          exact c3.blk h (by simp)
        have KZ := both_ok x3 ps wo 0 b1 b2 (some ⟨x0.heap.size + 1, 0, none⟩) 1 _ [[insE]] (PrR.one1 Bi Bf) ok1 (by decide)
        have HZ := Lib.hid (And.intro cw KZ)
        clear cw KZ Bi Bf
        go_wp2_with fail
        refine (HZ.out.2).mono ?_
        intro e x5 hZ
        obtain ⟨P, nn, hP1, hP6, hn4, hn19, gW, gA, gX, gg, gs, gl, vg, p, m, rfl, ⟨pct, on, part, t, g, r, ht, hm⟩, -, -, -, -, M, -, BW, -⟩ := hZ
        obtain ⟨wz, hwz⟩ : ∃ wz, wz = nn * 64 := ⟨_, rfl⟩
        obtain ⟨q, hq⟩ : ∃ q, q = nn - 1 := ⟨_, rfl⟩
        have he : ∀ id, m.A.a.sp id = none := fun id => by rw [hm]; rfl
        have hl : m.A.a.l = [⟨1, q⟩] := by
          rw [hm, hq]
          show newL nn = _
          unfold newL
          rw [if_pos (by omega)]
        have f0 : x5.cell? ⟨gW, 0, none⟩ = some (.pointer (some ⟨p.gm, 0, none⟩)) := BW.cellv 0 rfl
        have HM := Lib.hid (And.intro (M.base0 HZ.out.1) (And.intro BW (And.intro he (And.intro hl (And.intro (show q ≤ 262144 by omega) (And.intro hwz hq))))))
        clear M BW he hl hm ht hwz hq
        go_wp2_with fail
        refine (rof_ok x5 n hn0 hn256).mono ?_
        rintro e w6 ⟨k, hk, rfl, c56⟩
        have BW6 := c56.blk HM.out.2.1 (by simp)
        have f0 : w6.cell? ⟨gW, 0, none⟩ = some (.pointer (some ⟨p.gm, 0, none⟩)) := BW6.cellv 0 rfl
        have f3 : w6.cell? ⟨gW, 3, none⟩ = some (.int .i64 (wz : Nat)) := by rw [HM.out.2.2.2.2.2.1]; exact BW6.cellv 3 rfl
        have l0 := BW6.lt
        obtain ⟨N, hN⟩ : ∃ N, N = q / pgK k * slK k := ⟨_, rfl⟩
        obtain ⟨z1, z2, z3, z4, z5, z6, z7, z8⟩ := szI_pos hk.1
        have HQ0 := And.intro HM.out.2.2.1 (And.intro HM.out.2.2.2.1 (And.intro HM.out.2.2.2.2.1 (And.intro hk hN)))
        have M6 := HM.out.1.chg0 c56
        have hwz := HM.out.2.2.2.2.2.1
        have hqn := HM.out.2.2.2.2.2.2
        have HQ := Lib.hid HQ0
        have H6 := Lib.hid (And.intro M6 M6.c)
        clear HQ0 M6 hk z1 z2 z3 z4 z5 c56 BW6
        obtain ⟨pg, hpg⟩ : ∃ s, s = pgK k := ⟨_, rfl⟩
        obtain ⟨sl, hsl⟩ : ∃ s, s = slK k := ⟨_, rfl⟩
        rw [← hpg] at z6 z7
        rw [← hsl] at z8
        rw [← hpg, ← hsl] at hN
        obtain ⟨Q, hQ⟩ : ∃ Q, Q = q / pg := ⟨_, rfl⟩
        rw [← hQ] at hN
        have hQq : Q ≤ 18 := by rw [hQ]; exact Nat.le_trans (Nat.div_le_self _ _) (by omega)
        have hN1 : N ≤ 18000 := by rw [hN]; have := Nat.mul_le_mul hQq z8; omega
        have p0 : ¬ pg = 0 := by omega
        have p1 : IntKind.i64.wrap ((wz : Int) / 64) = (nn : Int) := by rw [IntKind.wrap_i64]; omega
        have p2 : IntKind.i64.wrap ((nn : Int) - 1) = (q : Int) := by rw [IntKind.wrap_i64]; omega
        have e1 : (q : Int).tdiv (pg : Int) = (Q : Int) := by rw [hQ, Int.tdiv_eq_ediv_of_nonneg (by omega)]; exact (Int.natCast_ediv q pg).symm
        have e2 : (Q : Int) * (sl : Int) = (N : Int) := by rw [hN]; exact (Int.natCast_mul Q sl).symm
        have p3 : IntKind.i64.wrap ((q : Int).tdiv (pg : Int)) = (Q : Int) := by rw [e1, IntKind.wrap_i64]; omega
        have p4 : IntKind.i64.wrap ((Q : Int) * (sl : Int)) = (N : Int) := by rw [e2, IntKind.wrap_i64]; omega
        have p6 : wrap64 ((q : Int) / (pg : Int)) = (Q : Int) := by rw [← Int.tdiv_eq_ediv_of_nonneg (by omega), e1]; unfold wrap64; omega
        have p7 : wrap64 ((Q : Int) * (sl : Int)) = (N : Int) := by rw [e2]; unfold wrap64; omega
        have KPg : ∀ w', Calls Tryz.prog 10 #[.int .i64 (k : Nat)] w' (NwPost (.int .i64 (pg : Nat)) w') := fun w' => by rw [hpg]; exact rpages_ok w' k HQ.out.2.2.2.1.1
        have KSl : ∀ w', Calls Tryz.prog 11 #[.int .i64 (k : Nat)] w' (NwPost (.int .i64 (sl : Nat)) w') := fun w' => by rw [hsl]; exact rslots_ok w' k HQ.out.2.2.2.1.1
        have HPS := Lib.hid (And.intro KPg KSl)
        have HP67 := Lib.hid (And.intro p6 p7); clear p6 p7
        clear KPg KSl e1 e2 hN hQ hQq hN1 z6 z7 z8 hpg hsl hwz hqn hn4 hn19 hP1 hP6
        go_upto_region 6 with fail
        refine wp_region_takes (fuel := 32) 20 (fun w' => Chg [] w6 w') [] (by kernel_rfl) (by kernel_rfl) (fun _ _ _ _ _ h => h) ((Chg.refl [] w6).drew) ?_
        simp only [List.filterMap_cons, List.filterMap_nil, List.getElem?_cons_zero, List.getElem?_cons_succ]
        refine wpTake_nil ?_
        generalize hx0 : w6.drew = x0
        have D0 : Chg [] w6 x0 := by rw [← hx0]; exact (Chg.refl [] w6).drew
        clear hx0
        refine wpAnyS_ready (rs := [0]) (by kernel_rfl) (by simp) ?_
        refine AllReadyS.cons (by simp only [List.getElem?_toArray, List.getElem?_cons_zero, List.getElem?_cons_succ]; rfl) (fun K hK => ?_) ?_
        · rw [if_pos (by rfl)]
          go_simp
          go_at_call 8
          refine (told28_yes _).mono ?_
          rintro e x1 ⟨rfl, c1⟩
          dsimp only
          have D1 := D0.trans c1
          refine hK _ _ (D1) ?_
          clear hK K
          try simp only [Act.put, List.setIfInBounds_toArray, List.set_cons_zero, List.set_cons_succ]
          refine wpAnyS_more (fuel := 16) [1, 2, 3, 4, 5, 6, 8, 9, 10, 11, 12, 13, 14, 15, 18] (by kernel_rfl) (fun _ _ _ _ _ h => h) D1 ?_
          simp only [List.filterMap_cons, List.filterMap_nil, List.getElem?_cons_zero, List.getElem?_cons_succ]
          refine wpTake_step (fun K hK => ?_)
          rw [if_pos (by rfl)]
          refine ⟨?_, fun w' hS' => ?_, ?_⟩
          rotate_left 1
          focus
            have j0 := hS'.cellv l0 (by simp) f0
            have j1 := hS'.cellv l0 (by simp) f3
            go_simp
            try with_reducible rfl
            done
          simp only [Act.put, List.setIfInBounds_toArray, List.set_cons_zero, List.set_cons_succ]
          refine hK _ ?_
          clear hK K
          refine wpTake_step (fun K hK => ?_)
          rw [if_pos (by rfl)]
          refine ⟨?_, fun w' hS' => ?_, ?_⟩
          rotate_left 1
          focus
            have j0 := hS'.cellv l0 (by simp) f0
            have j1 := hS'.cellv l0 (by simp) f3
            go_simp
            try with_reducible rfl
            done
          simp only [Act.put, List.setIfInBounds_toArray, List.set_cons_zero, List.set_cons_succ]
          refine hK _ ?_
          clear hK K
          refine wpTake_step (fun K hK => ?_)
          rw [if_pos (by rfl)]
          refine ⟨?_, fun w' hS' => ?_, ?_⟩
          rotate_left 1
          focus
            have j0 := hS'.cellv l0 (by simp) f0
            have j1 := hS'.cellv l0 (by simp) f3
            go_simp
            try with_reducible rfl
            done
          simp only [Act.put, List.setIfInBounds_toArray, List.set_cons_zero, List.set_cons_succ]
          refine hK _ ?_
          clear hK K
          refine wpTake_step (fun K hK => ?_)
          rw [if_pos (by rfl)]
          refine ⟨?_, fun w' hS' => ?_, ?_⟩
          rotate_left 1
          focus
            have j0 := hS'.cellv l0 (by simp) f0
            have j1 := hS'.cellv l0 (by simp) f3
            go_simp
            try with_reducible rfl
            done
          simp only [Act.put, List.setIfInBounds_toArray, List.set_cons_zero, List.set_cons_succ]
          refine hK _ ?_
          clear hK K
          refine wpTake_step (fun K hK => ?_)
          rw [if_pos (by rfl)]
          refine ⟨?_, fun w' hS' => ?_, ?_⟩
          rotate_left 1
          focus
            have j0 := hS'.cellv l0 (by simp) f0
            have j1 := hS'.cellv l0 (by simp) f3
            go_simp
            try with_reducible rfl
            done
          simp only [Act.put, List.setIfInBounds_toArray, List.set_cons_zero, List.set_cons_succ]
          refine hK _ ?_
          clear hK K
          refine wpTake_step (fun K hK => ?_)
          rw [if_pos (by rfl)]
          refine ⟨?_, fun w' hS' => ?_, ?_⟩
          rotate_left 1
          focus
            have j0 := hS'.cellv l0 (by simp) f0
            have j1 := hS'.cellv l0 (by simp) f3
            go_simp
            try with_reducible rfl
            done
          simp only [Act.put, List.setIfInBounds_toArray, List.set_cons_zero, List.set_cons_succ]
          refine hK _ ?_
          clear hK K
          refine wpTake_step (fun K hK => ?_)
          rw [if_pos (by rfl)]
          refine ⟨?_, fun w' hS' => ?_, ?_⟩
          rotate_left 1
          focus
            have j0 := hS'.cellv l0 (by simp) f0
            have j1 := hS'.cellv l0 (by simp) f3
            go_simp
            try with_reducible rfl
            done
          simp only [Act.put, List.setIfInBounds_toArray, List.set_cons_zero, List.set_cons_succ]
          refine hK _ ?_
          clear hK K
          refine wpTake_step (fun K hK => ?_)
          rw [if_pos (by rfl)]
          refine ⟨?_, fun w' hS' => ?_, ?_⟩
          rotate_left 1
          focus
            have j0 := hS'.cellv l0 (by simp) f0
            have j1 := hS'.cellv l0 (by simp) f3
            go_simp
            try with_reducible rfl
            done
          simp only [Act.put, List.setIfInBounds_toArray, List.set_cons_zero, List.set_cons_succ]
          refine hK _ ?_
          clear hK K
          refine wpTake_step (fun K hK => ?_)
          rw [if_pos (by rfl)]
          refine ⟨?_, fun w' hS' => ?_, ?_⟩
          rotate_left 1
          focus
            have j0 := hS'.cellv l0 (by simp) f0
            have j1 := hS'.cellv l0 (by simp) f3
            go_simp
            try with_reducible rfl
            done
          simp only [Act.put, List.setIfInBounds_toArray, List.set_cons_zero, List.set_cons_succ]
          refine hK _ ?_
          clear hK K
          refine wpTake_step (fun K hK => ?_)
          rw [if_pos (by rfl)]
          refine ⟨?_, fun w' hS' => ?_, ?_⟩
          rotate_left 1
          focus
            have j0 := hS'.cellv l0 (by simp) f0
            have j1 := hS'.cellv l0 (by simp) f3
            go_simp
            try with_reducible rfl
            done
          simp only [Act.put, List.setIfInBounds_toArray, List.set_cons_zero, List.set_cons_succ]
          refine hK _ ?_
          clear hK K
          refine wpTake_step (fun K hK => ?_)
          rw [if_pos (by rfl)]
          refine ⟨?_, fun w' hS' => ?_, ?_⟩
          rotate_left 1
          focus
            have j0 := hS'.cellv l0 (by simp) f0
            have j1 := hS'.cellv l0 (by simp) f3
            go_simp
            try with_reducible rfl
            done
          simp only [Act.put, List.setIfInBounds_toArray, List.set_cons_zero, List.set_cons_succ]
          refine hK _ ?_
          clear hK K
          refine wpTake_step (fun K hK => ?_)
          rw [if_pos (by rfl)]
          refine ⟨?_, fun w' hS' => ?_, ?_⟩
          rotate_left 1
          focus
            have j0 := hS'.cellv l0 (by simp) f0
            have j1 := hS'.cellv l0 (by simp) f3
            go_simp
            try with_reducible rfl
            done
          simp only [Act.put, List.setIfInBounds_toArray, List.set_cons_zero, List.set_cons_succ]
          refine hK _ ?_
          clear hK K
          refine wpTake_step (fun K hK => ?_)
          rw [if_pos (by rfl)]
          refine ⟨?_, fun w' hS' => ?_, ?_⟩
          rotate_left 1
          focus
            have j0 := hS'.cellv l0 (by simp) f0
            have j1 := hS'.cellv l0 (by simp) f3
            go_simp
            try with_reducible rfl
            done
          simp only [Act.put, List.setIfInBounds_toArray, List.set_cons_zero, List.set_cons_succ]
          refine hK _ ?_
          clear hK K
          refine wpTake_step (fun K hK => ?_)
          rw [if_pos (by rfl)]
          refine ⟨?_, fun w' hS' => ?_, ?_⟩
          rotate_left 1
          focus
            have j0 := hS'.cellv l0 (by simp) f0
            have j1 := hS'.cellv l0 (by simp) f3
            go_simp
            try with_reducible rfl
            done
          simp only [Act.put, List.setIfInBounds_toArray, List.set_cons_zero, List.set_cons_succ]
          refine hK _ ?_
          clear hK K
          refine wpTake_step (fun K hK => ?_)
          rw [if_pos (by rfl)]
          refine ⟨?_, fun w' hS' => ?_, ?_⟩
          rotate_left 1
          focus
            have j0 := hS'.cellv l0 (by simp) f0
            have j1 := hS'.cellv l0 (by simp) f3
            go_simp
            try with_reducible rfl
            done
          simp only [Act.put, List.setIfInBounds_toArray, List.set_cons_zero, List.set_cons_succ]
          refine hK _ ?_
          clear hK K
          refine wpTake_nil ?_
          refine wpAnyS_ready (rs := [7]) (by kernel_rfl) (by simp) ?_
          refine AllReadyS.cons (by simp only [List.getElem?_toArray, List.getElem?_cons_zero, List.getElem?_cons_succ]; rfl) (fun K hK => ?_) ?_
          · rw [if_pos (by rfl)]
            go_simp
            go_at_call 9
            refine (m_room (H6.out.1.chg0 D1) 1 q n k N HQ.out.1 HQ.out.2.1 HQ.out.2.2.1 hn0 hn256 HQ.out.2.2.2.1 HQ.out.2.2.2.2).mono ?_
            rintro e x2 ⟨rfl, c2⟩
            dsimp only
            have D2 := D1.trans c2
            refine hK _ _ (D2) ?_
            clear hK K
            try simp only [Act.put, List.setIfInBounds_toArray, List.set_cons_zero, List.set_cons_succ]
            refine wpAnyS_ready (rs := [16]) (by kernel_rfl) (by simp) ?_
            refine AllReadyS.cons (by simp only [List.getElem?_toArray, List.getElem?_cons_zero, List.getElem?_cons_succ]; rfl) (fun K hK => ?_) ?_
            · rw [if_pos (by rfl)]
              go_simp
              go_at_call 10
              refine (HPS.out.1 _).mono ?_
              rintro e x3 ⟨rfl, c3⟩
              dsimp only
              have D3 := D2.trans c3
              refine hK _ _ (D3) ?_
              clear hK K
              try simp only [Act.put, List.setIfInBounds_toArray, List.set_cons_zero, List.set_cons_succ]
              refine wpAnyS_more (fuel := 13) [17] (by kernel_rfl) (fun _ _ _ _ _ h => h) D3 ?_
              simp only [List.filterMap_cons, List.filterMap_nil, List.getElem?_cons_zero, List.getElem?_cons_succ]
              refine wpTake_step (fun K hK => ?_)
              rw [if_pos (by rfl)]
              refine ⟨?_, fun w' hS' => ?_, ?_⟩
              rotate_left 1
              focus
                have j0 := hS'.cellv l0 (by simp) f0
                have j1 := hS'.cellv l0 (by simp) f3
                go_simp
                try with_reducible rfl
                done
              simp only [Act.put, List.setIfInBounds_toArray, List.set_cons_zero, List.set_cons_succ]
              refine hK _ ?_
              clear hK K
              refine wpTake_nil ?_
              refine wpAnyS_ready (rs := [19]) (by kernel_rfl) (by simp) ?_
              refine AllReadyS.cons (by simp only [List.getElem?_toArray, List.getElem?_cons_zero, List.getElem?_cons_succ]; rfl) (fun K hK => ?_) ?_
              · rw [if_pos (by rfl)]
                go_simp
                go_at_call 11
                refine (HPS.out.2 _).mono ?_
                rintro e x4 ⟨rfl, c4⟩
                dsimp only
                have D4 := D3.trans c4
                refine hK _ _ (D4) ?_
                clear hK K
                try simp only [Act.put, List.setIfInBounds_toArray, List.set_cons_zero, List.set_cons_succ]
                refine wpAnyS_tail 20 12 (by kernel_rfl) rfl ?_
                simp only [List.drop_succ_cons, List.drop_zero]
                have HD := Lib.hid D4
                clear D4 D0
                have p6 := HP67.out.1
                have p7 := HP67.out.2
                have f0 := HD.out.cellv l0 (by simp) f0
                go_wp2_with fail
                refine (m_room_no (H6.out.1.chg0 HD.out)).mono ?_
                rintro e x9 ⟨rfl, c9⟩
                have HD9 := Lib.hid c9; clear c9
                go_wp2_with fail
                go_ret
                exact ⟨rfl, (H6.out.2.trans HD.out).trans HD9.out⟩
              exact AllReadyS.nil
            exact AllReadyS.nil
          exact AllReadyS.nil
        exact AllReadyS.nil
      exact AllReadyS.nil
    exact AllReadyS.nil
  exact AllReadyS.nil
theorem fresh_all (ps wo : Int) (b1 b2 : Nat) (sz : Int) (W : World) (_ : Tab W) : Calls Tryz.prog 3 #[.agg #[.int .i64 ps, .int .i64 wo, .float .f64 b1, .float .f64 b2], .int .i64 sz] W (NwPost (.bool true) W) := fresh_any ps wo b1 b2 sz W
end Go.Proofs.YtoeppmnoifankaaGreatDoor
