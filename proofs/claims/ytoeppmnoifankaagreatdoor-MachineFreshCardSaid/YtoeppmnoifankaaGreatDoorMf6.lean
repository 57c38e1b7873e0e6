/- Room, of an arena that has no spans yet. -/
import Derived.Test.YtoeppmnoifankaaGreatDoorMf5
import Derived.Test.YtoeppmnoifankaaGreatDoorMcSgJ
import Derived.Maps.RangeWalk
namespace Go.Proofs.YtoeppmnoifankaaGreatDoor
open Go.RowKit Go.Maps

/-- A map that tells nothing has no entry. -/
theorem VMap.none_has {P : Program} {K : TypeId} {w : World} {b n : Nat} {f : Int → Option Value} (h : VMap P K w b n f) (hf : ∀ x, f x = none) : ∃ D : DataW Value, w.ownsMap P K heldE b n D ∧ ∀ x, has D (.int .i64 x) = false := by
  obtain ⟨D, h1, -, h2⟩ := h.ex
  exact ⟨D, h1, fun x => by rw [(h2 x).1, hf x]; rfl⟩
theorem szI_pos {k : Nat} (hk : k < 16) : szI (k : Nat) = szK k ∧ 0 < szK k ∧ szK k ≤ 256 ∧ pgI (k : Nat) = pgK k ∧ slI (k : Nat) = slK k ∧ 1 ≤ pgK k ∧ pgK k ≤ 1000 ∧ slK k ≤ 1000 := by
  have hi : isK (k : Nat) := ⟨by omega, by omega⟩
  have h1 : ∀ j : Fin 16, 0 < szK j.1 ∧ szK j.1 ≤ 256 ∧ 1 ≤ pgK j.1 ∧ pgK j.1 ≤ 1000 ∧ slK j.1 ≤ 1000 := by decide
  obtain ⟨a1, a2, a3, a4, a5⟩ := h1 ⟨k, hk⟩
  refine ⟨?_, a1, a2, ?_, ?_, a3, a4, a5⟩
  · unfold szI; rw [if_pos hi, Int.toNat_natCast]
  · unfold pgI; rw [if_pos hi, Int.toNat_natCast]
  · unfold slI; rw [if_pos hi, Int.toNat_natCast]
set_option maxHeartbeats 16000000 in
set_option maxRecDepth 100000 in
theorem aroom_no (w : World) (h : ArH) (a : Ar) (k : Int) (M : ArM w h a) (hk : szI k = 0) : Calls Tryz.prog 30 #[.pointer (some ⟨h.ga, 0, none⟩), .int .i64 k] w (NwPost (.int .i64 0) w) := by
  have K := size_ok w k
  rw [hk] at K
  clear M hk
  go_enter Tryz.func30, Tryz.ntmps30
  go_wp2_with fail
  refine K.mono ?_
  rintro e w1 ⟨rfl, c1⟩
  have HC := Lib.hid c1; clear c1
  go_wp2_with fail
  go_ret
  exact ⟨rfl, HC.out⟩
def ArmRel (w1 : World) (N : Nat) (gk : Nat) (acc idx : Value) (w : World) : Prop := (gk = 2 ∧ acc = .int .i64 0 ∧ idx = .int .i64 0 ∧ Chg [] w1 w) ∨ (gk = 1 ∧ acc = .int .i64 (N : Nat) ∧ idx = .int .i64 1 ∧ Chg [] w1 w)
set_option maxHeartbeats 16000000 in
set_option maxRecDepth 100000 in
theorem aroom_ok (w : World) (h : ArH) (a : Ar) (k f q N : Nat) (M : ArM w h a) (hk : k < 16) (he : ∀ id, a.sp id = none) (hl : a.l = [⟨f, q⟩]) (hq : q ≤ 262144) (hN : N = q / pgK k * slK k) : Calls Tryz.prog 30 #[.pointer (some ⟨h.ga, 0, none⟩), .int .i64 (k : Nat)] w (NwPost (.int .i64 (N : Nat)) w) := by
  obtain ⟨z1, z2, z3, z4, z5, z6, z7, z8⟩ := szI_pos hk
  have K := size_ok w k
  rw [z1] at K
  have KP := fun w' => pages_ok w' k
  have KS := fun w' => slots_ok w' k
  rw [z4] at KP
  rw [z5] at KS
  have z2' : ¬ (szK k : Int) = 0 := by omega
  obtain ⟨sz, hsz⟩ : ∃ s, s = szK k := ⟨_, rfl⟩
  rw [← hsz] at K z2'
  have HM := Lib.hid (And.intro M (And.intro K (And.intro KP KS))); clear M K KP KS z1 z2 z3 z4 z5 hsz
  obtain ⟨pg, hpg⟩ : ∃ s, s = pgK k := ⟨_, rfl⟩
  obtain ⟨sl, hsl⟩ : ∃ s, s = slK k := ⟨_, rfl⟩
  rw [← hpg] at z6 z7
  rw [← hsl] at z8
  rw [← hpg, ← hsl] at HM hN
  obtain ⟨Q, hQ⟩ : ∃ Q, Q = q / pg := ⟨_, rfl⟩
  rw [← hQ] at hN
  have hQq : Q ≤ 262144 := by rw [hQ]; exact Nat.le_trans (Nat.div_le_self _ _) hq
  have hN1 : N ≤ 262144000 := by rw [hN]; have := Nat.mul_le_mul hQq z8; omega
  have p0 : ¬ pg = 0 := by omega
  have hw : ∀ x : Int, 0 ≤ x → x ≤ 262144000 → IntKind.i64.wrap x = x := fun x h1 h2 => by rw [IntKind.wrap_i64]; omega
  have hw2 : ∀ x : Int, 0 ≤ x → x ≤ 262144000 → wrap64 x = x := fun x h1 h2 => by unfold wrap64; omega
  have e1 : (q : Int) / (pg : Int) = (Q : Int) := by rw [hQ]; exact (Int.natCast_ediv q pg).symm
  have e2 : (Q : Int) * (sl : Int) = (N : Int) := by rw [hN]; exact (Int.natCast_mul Q sl).symm
  have p1 : Value.int .i64 (IntKind.i64.wrap ((q : Int) / (pg : Int))) = Value.int .i64 (Q : Int) := by rw [e1, hw _ (by omega) (by omega)]
  have p2 : Value.int .i64 (wrap64 ((Q : Int) * (sl : Int))) = Value.int .i64 (N : Int) := by rw [e2, hw2 _ (by omega) (by omega)]
  have p3 : Value.int .i64 (IntKind.i64.wrap ((Q : Int) * (sl : Int))) = Value.int .i64 (N : Int) := by rw [e2, hw _ (by omega) (by omega)]
  have p4 : Value.int .i64 (wrap64 (N : Int)) = Value.int .i64 (N : Int) := by rw [hw2 _ (by omega) (by omega)]
  have p5 : Value.int .i64 (IntKind.i64.wrap (N : Int)) = Value.int .i64 (N : Int) := by rw [hw _ (by omega) (by omega)]
  have HPQ := Lib.hid (And.intro p1 (And.intro p2 (And.intro p3 (And.intro p4 p5)))); clear p1 p2 p3 p4 p5 hw hw2 e1 e2
  clear hN hQ hpg hsl z6 z7 z8 hQq
  go_enter Tryz.func30, Tryz.ntmps30
  go_wp2_with fail
  refine (HM.out.2.1).mono ?_
  rintro e w1 ⟨rfl, c1⟩
  have M1 := HM.out.1.chg0 c1
  have s1 : w1.cell? ⟨h.ga, 1, none⟩ = some (.map (some h.bs)) := M1.b.cellv 1 rfl
  obtain ⟨D, hown, hnone⟩ := M1.s.none_has (fun x => by unfold natV spV; simp only [he]; split <;> rfl)
  have H1 := Lib.hid (And.intro M1 (And.intro c1 (And.intro hown hnone))); clear M1 c1 hown hnone
  go_upto_region 5 with (at_range; refine wpList_range_own _ rfl _ 136 rfl 3 141 (int_keyed Tryz.underlying3) Tryz.underlying136 heldE h.bs h.m D rfl H1.out.2.2.1 ?_; intro w2 hrg hgr hs2)
  go_frame
  have c12 : Chg [] w1 w2 := (Chg.refl [] w1).grown hgr (fun k hk => by cases hk)
  obtain ⟨r0, hr0⟩ : ∃ r, r = w1.heap.size := ⟨_, rfl⟩
  rw [← hr0] at hrg ⊢
  have H2 := Lib.hid (And.intro hrg c12); clear hrg hgr hs2 c12 hr0
  go_loopg [5] 1 (fun gk acc wr => gk = 1 ∧ acc = .int .i64 0 ∧ wr = w2)
  case atStart => exact ⟨rfl, rfl, rfl⟩
  case round =>
    obtain ⟨rfl, rfl, hw⟩ := hrel
    have hw' := hw.symm
    subst hw'
    go_wp2_with (at_next; refine wpList_next_ranges _ rfl _ rfl 3 (int_keyed Tryz.underlying3) heldE (fun x : Int => Value.int .i64 x) (fun v : Value => v) (fun key kl hk => let ⟨x, e, _⟩ := Maps.keyOf_int_inv Tryz.underlying3 hk; ⟨x, e⟩) (fun v y _ => ⟨v, rfl⟩) h.bs r0 h.m D _ _ rfl H2.out.1 ?_ ?_)
    · intro _ _
      have M2 := H1.out.1.chg0 H2.out.2
      have g0 : w2.cell? ⟨h.ga, 0, none⟩ = some (.pointer (some ⟨h.gp, 0, none⟩)) := M2.b.cellv 0 rfl
      have KR := runs_ok w2 h.gp a.n h.v a.l M2.P (by rw [hl]; simp)
      have H3 := Lib.hid (And.intro M2 KR); clear M2 KR
      go_wp2_with fail
      refine (H3.out.2).mono ?_
      rintro e w3 ⟨v3, rfl, O3, c23, -⟩
      rw [hl] at O3
      obtain ⟨g3, cap, rest, rfl, B3, -, -, -⟩ := own_open O3 (by simp)
      have f0 : w3.cell? ⟨g3, 0, none⟩ = some (.int .i64 (f : Nat)) := B3.cellv 0 rfl
      have f1 : w3.cell? ⟨g3, 1, none⟩ = some (.int .i64 (q : Nat)) := B3.cellv 1 rfl
      have l3 := B3.lt
      have H4 := Lib.hid (And.intro c23 l3); clear c23 B3 O3 g0
      simp only [List.length_cons, List.length_nil, Nat.zero_add]
      go_wp2_with fail
      go_loopg [5, 43] 2 (fun gk acc idx wr => ArmRel w3 N gk acc idx wr)
      case atStart => exact .inl ⟨rfl, rfl, rfl, Chg.refl [] w3⟩
      case round =>
        rcases hrel with ⟨rfl, rfl, rfl, c⟩ | ⟨rfl, rfl, rfl, c⟩
        · have f0 : wr.cell? ⟨g3, 0, none⟩ = some (.int .i64 (f : Nat)) := c.cellv H4.out.2 (by simp) f0
          have f1 : wr.cell? ⟨g3, 1, none⟩ = some (.int .i64 (q : Nat)) := c.cellv H4.out.2 (by simp) f1
          have HC := Lib.hid c; clear c
          go_upto_region 12 with fail
          obtain ⟨w5, hw5⟩ : ∃ w5, w5 = wr.alloc (.cells #[.int .i64 (f : Nat), .int .i64 (q : Nat)] 145) := ⟨_, rfl⟩
          obtain ⟨gR, hgR⟩ : ∃ gR, gR = wr.heap.size := ⟨_, rfl⟩
          rw [← hw5, ← hgR]
          have B5 : Blk w5 gR 145 #[.int .i64 (f : Nat), .int .i64 (q : Nat)] := by rw [hw5, hgR]; exact Blk.new _ _ _
          have r1 : w5.cell? ⟨gR, 1, none⟩ = some (.int .i64 (q : Nat)) := B5.cellv 1 rfl
          have l0 := B5.lt
          have c35 : Chg [] w3 w5 := by rw [hw5]; exact HC.out.alloc _
          have H5 := Lib.hid c35; clear c35 hw5 hgR B5
          obtain ⟨p1, p2, p3, p4, p5⟩ := HPQ.out
          refine wp_region_takes (fuel := 6) 9 (fun w' => Chg [] w5 w') [0, 1, 2, 3, 6] (by kernel_rfl) (by kernel_rfl) (fun _ _ _ _ _ h => h) ((Chg.refl [] w5).drew) ?_
          simp only [List.filterMap_cons, List.filterMap_nil, List.getElem?_cons_zero, List.getElem?_cons_succ]
          refine wpTake_step (fun K hK => ?_)
          rw [if_pos (by rfl)]
          refine ⟨?_, fun w' hS' => ?_, ?_⟩
          rotate_left 1
          focus
            have j0 := hS'.cellv l0 (by simp) r1
            go_simp
            try with_reducible rfl
            done
          simp only [Act.put, List.setIfInBounds_toArray, List.set_cons_zero, List.set_cons_succ]
          refine hK _ ?_
          clear hK K
          refine wpTake_step (fun K hK => ?_)
          rw [if_pos (by rfl)]
          refine ⟨?_, fun w' hS' => ?_, ?_⟩
          rotate_left 1
          focus
            have j0 := hS'.cellv l0 (by simp) r1
            go_simp
            try with_reducible rfl
            done
          simp only [Act.put, List.setIfInBounds_toArray, List.set_cons_zero, List.set_cons_succ]
          refine hK _ ?_
          clear hK K
          refine wpTake_step (fun K hK => ?_)
          rw [if_pos (by rfl)]
          refine ⟨?_, fun w' hS' => ?_, ?_⟩
          rotate_left 1
          focus
            have j0 := hS'.cellv l0 (by simp) r1
            go_simp
            try with_reducible rfl
            done
          simp only [Act.put, List.setIfInBounds_toArray, List.set_cons_zero, List.set_cons_succ]
          refine hK _ ?_
          clear hK K
          refine wpTake_step (fun K hK => ?_)
          rw [if_pos (by rfl)]
          refine ⟨?_, fun w' hS' => ?_, ?_⟩
          rotate_left 1
          focus
            have j0 := hS'.cellv l0 (by simp) r1
            go_simp
            try with_reducible rfl
            done
          simp only [Act.put, List.setIfInBounds_toArray, List.set_cons_zero, List.set_cons_succ]
          refine hK _ ?_
          clear hK K
          refine wpTake_step (fun K hK => ?_)
          rw [if_pos (by rfl)]
          refine ⟨?_, fun w' hS' => ?_, ?_⟩
          rotate_left 1
          focus
            have j0 := hS'.cellv l0 (by simp) r1
            go_simp
            try with_reducible rfl
            done
          simp only [Act.put, List.setIfInBounds_toArray, List.set_cons_zero, List.set_cons_succ]
          refine hK _ ?_
          clear hK K
          refine wpTake_nil ?_
          generalize hx0 : w5.drew = x0
          have D0 : Chg [] w5 x0 := by rw [← hx0]; exact (Chg.refl [] w5).drew
          clear hx0
          refine wpAnyS_ready (rs := [4]) (by kernel_rfl) (by simp) ?_
          refine AllReadyS.cons (by simp only [List.getElem?_toArray, List.getElem?_cons_zero, List.getElem?_cons_succ]; rfl) (fun K hK => ?_) ?_
          · rw [if_pos (by rfl)]
            go_simp
            go_at_call 87
            refine (HM.out.2.2.1 _).mono ?_
            rintro e x1 ⟨rfl, c1⟩
            dsimp only
            have D1 := D0.trans c1
            refine hK _ _ (D1) ?_
            clear hK K
            try simp only [Act.put, List.setIfInBounds_toArray, List.set_cons_zero, List.set_cons_succ]
            refine wpAnyS_more (fuel := 4) [5] (by kernel_rfl) (fun _ _ _ _ _ h => h) D1 ?_
            simp only [List.filterMap_cons, List.filterMap_nil, List.getElem?_cons_zero, List.getElem?_cons_succ]
            refine wpTake_step (fun K hK => ?_)
            rw [if_pos (by rfl)]
            refine ⟨?_, fun w' hS' => ?_, ?_⟩
            rotate_left 1
            focus
              have j0 := hS'.cellv l0 (by simp) r1
              go_simp
              try with_reducible rfl
              done
            simp only [Act.put, List.setIfInBounds_toArray, List.set_cons_zero, List.set_cons_succ]
            refine hK _ ?_
            clear hK K
            refine wpTake_nil ?_
            refine wpAnyS_ready (rs := [7]) (by kernel_rfl) (by simp) ?_
            refine AllReadyS.cons (by simp only [List.getElem?_toArray, List.getElem?_cons_zero, List.getElem?_cons_succ]; rfl) (fun K hK => ?_) ?_
            · rw [if_pos (by rfl)]
              go_simp
              go_at_call 88
              refine (HM.out.2.2.2 _).mono ?_
              rintro e x2 ⟨rfl, c2⟩
              dsimp only
              have D2 := D1.trans c2
              refine hK _ _ (D2) ?_
              clear hK K
              try simp only [Act.put, List.setIfInBounds_toArray, List.set_cons_zero, List.set_cons_succ]
              refine wpAnyS_more (fuel := 2) [8] (by kernel_rfl) (fun _ _ _ _ _ h => h) D2 ?_
              simp only [List.filterMap_cons, List.filterMap_nil, List.getElem?_cons_zero, List.getElem?_cons_succ]
              refine wpTake_step (fun K hK => ?_)
              rw [if_pos (by rfl)]
              refine ⟨?_, fun w' hS' => ?_, ?_⟩
              rotate_left 1
              focus
                have j0 := hS'.cellv l0 (by simp) r1
                go_simp
                try with_reducible rfl
                done
              simp only [Act.put, List.setIfInBounds_toArray, List.set_cons_zero, List.set_cons_succ]
              refine hK _ ?_
              clear hK K
              refine wpTake_nil ?_
              refine wpAnyS_tail 9 2 (by kernel_rfl) rfl ?_
              simp only [List.drop_succ_cons, List.drop_zero]
              have HD := Lib.hid D2
              clear D2 D0
              go_wp2_with fail
              go_roundg 1
              case measure => omega
              case rel => exact .inr ⟨rfl, rfl, rfl, H5.out.trans HD.out⟩
            exact AllReadyS.nil
          exact AllReadyS.nil
        · clear f0 f1
          have HC := Lib.hid c; clear c
          go_wp2_with fail
          go_ret
          exact ⟨rfl, ((H1.out.2.1.trans H2.out.2).trans H4.out.1).trans HC.out⟩
    · intro x c kl y1 y2 w' cnt' hkey hleft
      exfalso
      have e0 := Maps.keyOf_int_inv (P := Tryz.prog) (q := .i64) Tryz.underlying3 hkey
      obtain ⟨x', e1, e2, e3⟩ := e0
      have e4 := H1.out.2.2.2 x'
      rw [e2, e4] at hleft
      cases hleft
end Go.Proofs.YtoeppmnoifankaaGreatDoor
