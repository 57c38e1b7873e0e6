/- The document's heap (treadmillref5): Alloc. -/
import Derived.Test.YtcnchgbngcnijaaGreatDoorMRi
import Derived.Test.YtcnchgbngcnijaaGreatDoorMOw
namespace Go.Proofs.YtcnchgbngcnijaaGreatDoor
open Go.RowKit Go.Maps

section
variable {w0 w1 w w' : World} {h h1 : RhH} {A0 A1 B : HpA} {v : Value} {g : List Int} {N N' m : Nat}
theorem SkT.base (E : RhE h1 h) (s : StP (RhF h A0) (RhF h1 A1) w0 w1) (K : SkT w1 h1 A1 w v g B N m) : SkT w0 h A0 w v g B N m := by
  obtain ⟨h', E', Q, t, L⟩ := K.ex
  exact ⟨h', E'.trans E, Q, s.trans t, ⟨L.o, L.nf, fun k hk => Nat.le_trans s.size (L.new k hk)⟩⟩
theorem SkT.mmore (K : SkT w0 h A0 w v g B N m) {m' : Nat} (hm : m ≤ m') : SkT w0 h A0 w v g B N m' := by
  obtain ⟨h', E, Q, t, L⟩ := K.ex
  exact ⟨h', E, Q.more (Nat.le_refl _) hm, t, L⟩
theorem SkT.b2 (K : SkT w0 h A0 w v g B N m) : w.cell? ⟨h.g, 2, none⟩ = some (.slice (some ⟨h.gP, 0, none⟩) B.P B.P) := by
  obtain ⟨h', E, Q, -, -⟩ := K.ex
  rw [← E.g, ← E.gP]; exact Q.b2
theorem SkT.own_at (K : SkT w0 h A0 w v g B N m) {p k : Nat} (hp : p < B.P) (hk : k < 16) : w.cell? ⟨h.gP, p * 16 + k, none⟩ = some (.int .i64 (B.own p k + 1)) ∧ w.frozen? ⟨h.gP, p * 16 + k, none⟩ = false := by
  obtain ⟨h', E, Q, -, -⟩ := K.ex
  rw [← E.gP]; exact ⟨Q.own_at hp hk, Q.p.frozen _⟩
theorem SkT.set (K : SkT w0 h A0 w v g B N m) {p k : Nat} (hp : p < B.P) (hk : k < 16) (x y : Int) (hy : y = x + 1) : SkT w0 h A0 (w.setCell ⟨h.gP, p * 16 + k, none⟩ (.int .i64 y)) v g { B with own := updV B.own p (updV (B.own p) k x) } N m := by
  obtain ⟨h', E, Q, t, L⟩ := K.ex
  rw [← E.gP]
  exact SkT.step E t L (Q.set hp hk x y hy)
theorem SkT.alloc (K : SkT w0 h A0 w v g B N m) (hN : N ≤ 100000) (hm : m ≤ 1000000) {id n : Nat} {s : Sp} (hs : B.a.sp id = some s) (h1 : 1 ≤ n) (h2 : n ≤ szK s.k) (hf : ¬ fullS s) (black : Bool) : Calls Tryz.prog 53 #[.pointer (some ⟨h.ra.g, 0, none⟩), .int .i64 (id : Nat), .int .i64 (n : Nat), .bool black] w fun e w' => ∃ y, PlcS s y ∧ e = .returned (.tuple #[.int .i64 (s.addr y : Nat), .int .i64 0]) ∧ SkT w0 h A0 w' v g { B with a := allocA B.a id s y n black } N (m + 256) := by
  obtain ⟨h', E, Q, t, L⟩ := K.ex
  rw [← E.ra]
  obtain ⟨ids, M⟩ := Q.M
  have e1 : spI B.a (id : Nat) = some s := by unfold spI; rw [if_pos (by omega), Int.toNat_natCast]; exact hs
  refine (raalloc_ok w h'.ra B.a ids M (Nat.le_trans (M.len_le Q.J.ok) hN) (Nat.le_trans Q.mw hm) N Q.J (id : Nat) (n : Nat) black).mono ?_
  rintro e w' (⟨c, rfl, -, -, hc⟩ | ⟨s', y, m', -, hs', g1, g2, g3, g4, g5, g6, rfl, hm', M', st⟩)
  · exfalso
    rcases hc with ⟨hn, -⟩ | ⟨t, ht, ⟨hn, -⟩ | ⟨-, -, hfu, -⟩⟩
    · rw [e1] at hn; cases hn
    · rw [e1] at ht; injection ht with ht; subst ht
      omega
    · rw [e1] at ht; injection ht with ht; subst ht
      exact hf hfu
  · rw [Int.toNat_natCast] at hs'
    rw [hs] at hs'; injection hs' with hs'; subst hs'
    rw [Int.toNat_natCast, Int.toNat_natCast] at M' st
    exact ⟨y, ⟨g3, g4, g5, g6⟩, rfl, SkT.step E t L (Q.arena M' (Q.J.alloc hs g4 g5 h1 h2) st rfl (by show m' ≤ m + 256; have := Q.mw; omega) rfl)⟩
end
def OwnFull (p k : Nat) (A : HpA) : Prop := A.own p k = -1 ∨ ∃ (id : Nat) (s : Sp), A.own p k = id ∧ A.a.sp id = some s ∧ fullS s
theorem rh_give_pre {w : World} {h : RhH} {A : HpA} {N m p k : Nat} (Q : RhS w h A N m) (I : HpI A none) (hN : N ≤ 6000) (hp : p < A.P) (hk : k < 16) (ho : OwnFull p k A) : Calls Tryz.prog 134 #[.pointer (some ⟨h.g, 0, none⟩), .int .i64 (p : Nat), .int .i64 (k : Nat)] w fun e w' => e = .returned (.tuple #[]) ∧ ∃ A1, PreR p k A A1 ∧ RhTo w w' h A A1 N m := by
  have B := I.B Q.J.ok hN
  refine (rhgive_ok w h A N m Q (by omega) (fun j => Nat.le_trans (B.l j) (by decide)) p k hp I.P hk (B.o p k hp hk)).mono ?_
  rintro e w' ⟨he, A1, hg, T⟩
  refine ⟨he, A1, ?_, T⟩
  rcases hg with ⟨h1, rfl⟩ | ⟨id, r', h1, hpt, rfl⟩
  · exact .inl ⟨h1, rfl⟩
  · rcases ho with h2 | ⟨id', s, h2, hs, hf⟩
    · omega
    · obtain rfl : id = id' := by omega
      refine .inr ⟨id, s, h1, hs, hf, ?_⟩
      obtain ⟨r1, full, hd, hfu, rfl⟩ := hpt
      have e1 : spI A.a (id : Nat) = some s := by unfold spI; rw [if_pos (by omega), Int.toNat_natCast]; exact hs
      have e2 : full = true := hfu.2 fun t ht => by rw [e1] at ht; injection ht with ht; rw [← ht]; exact hf
      subst e2
      have e3 := hd.none_ (fun j => I.ro p k id hp hk h1 j)
      subst e3
      rfl
def RhaPost (w : World) (h : RhH) (A : HpA) (N m p n : Nat) (black : Bool) (e : Ending) (w' : World) : Prop :=
  ∃ q x gone c vg A', OfSays n q ∧ AlcR p q n black A x gone c A' ∧ e = .returned (.tuple #[.int .i64 (x : Nat), vg, .int .i64 c]) ∧ SkT w h A w' vg gone A' (N + 1) (m + 256)
set_option maxHeartbeats 6400000 in
set_option maxRecDepth 100000 in
theorem rhalloc_ok (w : World) (h : RhH) (A : HpA) (N m : Nat) (Q : RhS w h A N m) (I : HpI A none) (hN : N + 1 ≤ 6000) (hm : m ≤ 1000000) (p n : Nat) (hp : p < A.P) (hn1 : 1 ≤ n) (hn2 : n ≤ 256) (black : Bool) : Calls Tryz.prog 86 #[.pointer (some ⟨h.g, 0, none⟩), .int .i64 (p : Nat), .int .i64 (n : Nat), .bool black] w (RhaPost w h A N m p n black) := by
  have b0 := Q.b0
  have b2 := Q.b2
  have hgl := Q.b.lt
  have hp0 : (0 : Int) ≤ (p : Int) := by omega
  have hp1 : (p : Int) < (A.P : Int) := by omega
  have hp2 : ¬ (A.P : Int) ≤ (p : Int) := by omega
  have hp3 : ¬ (p : Int) < 0 := by omega
  have hP := I.P
  have HQ := Lib.hid (And.intro Q I); clear Q I
  go_enter Tryz.func86, Tryz.ntmps86
  go_wp2_with fail
  refine (rof_ok w n hn1 hn2).mono ?_
  rintro e w1 ⟨q, hof, rfl, c1⟩
  have hq := hof.1
  have hnq := hof.2.1
  have b0 : w1.cell? ⟨h.g, 0, none⟩ = some (.pointer (some ⟨h.ra.g, 0, none⟩)) := c1.cellv hgl (by simp) b0
  have b2 : w1.cell? ⟨h.g, 2, none⟩ = some (.slice (some ⟨h.gP, 0, none⟩) A.P A.P) := c1.cellv hgl (by simp) b2
  have bo := (HQ.out.1.chg0 c1).own_at hp hq
  have hq0 : (0 : Int) ≤ (q : Int) := by omega
  have hq1 : (q : Int) < 16 := by omega
  have hq2 : ¬ (q : Int) < 0 := by omega
  have HO := Lib.hid (And.intro hof c1); clear hof c1
  go_upto_region 5 with fail
  go_cut [61] from 35 to 61 (fun v wd => Chg [] w1 wd ∧ ((v = .bool true ∧ OwnFull p q A) ∨ (v = .bool false ∧ ∃ (id : Nat) (s : Sp), A.own p q = id ∧ A.a.sp id = some s ∧ s.k = q ∧ ¬ fullS s)))
  case first =>
    rcases HQ.out.2.o p q hp hq with h0 | ⟨id, s, hid, hs, hsk⟩
    · rw [h0] at bo
      have bo2 : w1.cell? ⟨h.gP, p * 16 + q, none⟩ = some (.int .i64 0) := bo
      have HX := Lib.hid h0; clear h0 bo
      go_quiet (fail)
      go_wp2_with fail
      go_meet
      exact ⟨(Chg.refl _ _).drewN _, .inl ⟨rfl, .inl HX.out⟩⟩
    · rw [hid] at bo
      have e0 : (((id : Nat) : Int) + 1 == 0) = false := by rw [beq_eq_false_iff_ne]; omega
      have hid2 : id ≤ 1000000 := by have := HQ.out.1.J.ok.top id s hs; omega
      have ew : IntKind.i64.wrap (((id : Nat) : Int) + 1 - 1) = (id : Int) := by rw [IntKind.wrap_i64]; omega
      by_cases hf : fullS s
      · have KF := fun (W : World) (D : Chg [] w1 W) => rh_full_yes ((HQ.out.1.chg0 HO.out.2).chg0 D) (by omega : N ≤ 100000) hs hf
        have HX := Lib.hid (And.intro hid (And.intro hs (And.intro hf KF))); clear hid hs hf KF
        go_quiet ((go_at_call 62; exact Calls.quiet_of_same (HX.out.2.2.2 _ ((Chg.refl [] w1).drewN _))))
        go_wp2_with fail
        go_meet
        exact ⟨(Chg.refl _ _).drewN _, .inl ⟨rfl, .inr ⟨id, s, HX.out.1, HX.out.2.1, HX.out.2.2.1⟩⟩⟩
      · have KF := fun (W : World) (D : Chg [] w1 W) => rh_full_no ((HQ.out.1.chg0 HO.out.2).chg0 D) (by omega : N ≤ 100000) hs hf
        have HX := Lib.hid (And.intro hid (And.intro hs (And.intro hf (And.intro KF hsk)))); clear hid hs hf KF hsk
        go_quiet ((go_at_call 62; exact Calls.quiet_of_same (HX.out.2.2.2.1 _ ((Chg.refl [] w1).drewN _))))
        go_wp2_with fail
        go_meet
        exact ⟨(Chg.refl _ _).drewN _, .inr ⟨rfl, id, s, HX.out.1, HX.out.2.1, HX.out.2.2.2.2, HX.out.2.2.1⟩⟩
  case rest =>
    obtain ⟨cw, hcase⟩ := hcut
    obtain ⟨w2, rfl⟩ : ∃ W : World, W = wc := ⟨_, rfl⟩
    have Q2 := (HQ.out.1.chg0 HO.out.2).chg0 cw
    clear b0 b2 bo
    rcases hcase with ⟨rfl, hof⟩ | ⟨rfl, id, s, hid, hs, hsk, hf⟩
    · have KG := rh_give_pre Q2 HQ.out.2 (by omega) hp hq hof
      have HC := Lib.hid cw; clear cw Q2 hof
      go_wp2_with fail
      refine KG.mono ?_
      rintro e w3 ⟨rfl, A1, hpre, h1, E1, Q1, s1⟩
      clear KG
      obtain ⟨I1, ho1, hP1, ha1⟩ := hpre.inv HQ.out.2 hp hq
      have KS := rhseek_ok w3 h1 A1 N m Q1 I1 hN q hq
      rw [E1.g] at KS
      have hJ1 := Q1.J
      have H1 := Lib.hid (And.intro hpre (And.intro E1 (And.intro s1 (And.intro I1 (And.intro hP1 hJ1))))); clear hpre E1 Q1 s1 I1 ho1 hP1 ha1 hJ1
      go_wp2_with fail
      refine KS.mono ?_
      rintro e w4 ⟨id, gone, vg, ok, A2, hsk, rfl, K⟩
      clear KS
      have K2 : SkT w h A w4 vg gone A2 (N + 1) m := SkT.base H1.out.2.1 ((StP.of_chg (HO.out.2.trans HC.out) (by simp) (fun _ hh => .inl hh)).trans H1.out.2.2.1) K
      clear K
      obtain ⟨Av, nv, cv, rfl⟩ := K2.slice
      have hP2 : A2.P = A.P := by rw [hsk.own.2.1, H1.out.2.2.2.2.1]
      cases ok with
      | false =>
        have H2 := Lib.hid (And.intro hsk K2); clear hsk K2 hP2
        go_wp2_with fail
        go_ret3
        have e0 : id = 0 := by cases H2.out.1; rfl
        subst e0
        exact ⟨q, 0, gone, 3, _, A2, HO.out.1, .no H1.out.1 H2.out.1, rfl, H2.out.2.mmore (by omega)⟩
      | true =>
        obtain ⟨s, hs, hsk2, hnf⟩ := hsk.room hq H1.out.2.2.2.1 H1.out.2.2.2.2.2
        have hid2 : id ≤ 1000000 := by have := K2.J.ok.top id s hs; omega
        have hp' : p < A2.P := by omega
        have b2 := K2.b2
        rw [hP2] at b2
        obtain ⟨bo, bf⟩ := K2.own_at hp' hq
        have ew : IntKind.i64.wrap (((id : Nat) : Int) + 1) = ((id : Nat) : Int) + 1 := by rw [IntKind.wrap_i64]; omega
        have ew2 : IntKind.i64.wrap ((id : Nat) : Int) = (id : Int) := by rw [IntKind.wrap_i64]; omega
        have K3 := K2.set hp' hq (id : Nat) (((id : Nat) : Int) + 1) rfl
        obtain ⟨w5, hw5⟩ : ∃ W : World, W = w4.setCell ⟨h.gP, p * 16 + q, none⟩ (.int .i64 (((id : Nat) : Int) + 1)) := ⟨_, rfl⟩
        rw [← hw5] at K3
        have H2 := Lib.hid (And.intro hsk (And.intro hs (And.intro hsk2 (And.intro hnf (And.intro K3 (And.intro hw5 hP2)))))); clear hsk hs hsk2 hnf K3 hw5 K2 hP2
        go_upto_region 12 with fail
        have hw5 := H2.out.2.2.2.2.2.1
        rw [← hw5]
        have K3 := H2.out.2.2.2.2.1
        have b0 := K3.b0
        have b2 : w5.cell? ⟨h.g, 2, none⟩ = some (.slice (some ⟨h.gP, 0, none⟩) A.P A.P) := by rw [← H2.out.2.2.2.2.2.2]; exact K3.b2
        have bo : w5.cell? ⟨h.gP, p * 16 + q, none⟩ = some (.int .i64 (((id : Nat) : Int) + 1)) := by
          have h9 := (K3.own_at (k := q) hp' hq).1
          have e9 : updV A2.own p (updV (A2.own p) q (id : Nat)) p q = (id : Nat) := by rw [updV_same, updV_same]
          rw [← e9]
          exact h9
        have KA : ∀ W, Chg [] w5 W → _ := fun W D => (K3.chg0 D).alloc (id := id) (n := n) (by omega : N + 1 ≤ 100000) hm H2.out.2.1 hn1 (by rw [H2.out.2.2.1]; exact hnq) H2.out.2.2.2.1 black
        have HA := Lib.hid KA
        clear KA K3 hw5
        refine wp_region_takes (fuel := 6) 21 (fun w' => w'.cell? ⟨h.g, 0, none⟩ = some (.pointer (some ⟨h.ra.g, 0, none⟩)) ∧ w'.cell? ⟨h.g, 2, none⟩ = some (.slice (some ⟨h.gP, 0, none⟩) A.P A.P) ∧ w'.cell? ⟨h.gP, p * 16 + q, none⟩ = some (.int .i64 (((id : Nat) : Int) + 1))) [0, 1, 2, 3, 4, 5, 6, 7, 8, 9, 10, 11, 12, 13, 14, 15] (by kernel_rfl) (by kernel_rfl) (fun _ _ _ _ _ h => h) (⟨b0, b2, bo⟩) ?_
        simp only [List.filterMap_cons, List.filterMap_nil, List.getElem?_cons_zero, List.getElem?_cons_succ]
        iterate 16
          refine wpTake_step (fun K hK => ?_)
          rw [if_pos (by rfl)]
          refine ⟨?_, fun w' hS' => ?_, ?_⟩
          rotate_left 1
          focus
            have z0 := hS'.1
            have z1 := hS'.2.1
            have z2 := hS'.2.2
            go_simp
            try with_reducible rfl
            done
          simp only [Act.put, List.setIfInBounds_toArray, List.set_cons_zero, List.set_cons_succ]
          refine hK _ ?_
          clear hK K
        refine wpTake_nil ?_
        generalize hx0 : w5.drew = x0
        have D0 : Chg [] w5 x0 := by rw [← hx0]; exact (Chg.refl [] w5).drew
        clear hx0
        refine wpAnyS_ready (rs := [16]) (by kernel_rfl) (by simp) ?_
        refine AllReadyS.one (by simp only [List.getElem?_toArray, List.getElem?_cons_zero, List.getElem?_cons_succ]; rfl) (fun K hK => ?_)
        rw [if_pos (by rfl)]
        go_simp
        go_at_call 53
        refine (HA.out _ D0).mono ?_
        rintro e w' ⟨y, hpl, rfl, K4⟩
        dsimp only
        have y0 := K4.b0
        have y1 : w'.cell? ⟨h.g, 2, none⟩ = some (.slice (some ⟨h.gP, 0, none⟩) A.P A.P) := by rw [← H2.out.2.2.2.2.2.2]; exact K4.b2
        have y2 : w'.cell? ⟨h.gP, p * 16 + q, none⟩ = some (.int .i64 (((id : Nat) : Int) + 1)) := by
          have h9 := (K4.own_at (k := q) hp' hq).1
          have e9 : updV A2.own p (updV (A2.own p) q (id : Nat)) p q = (id : Nat) := by rw [updV_same, updV_same]
          rw [← e9]
          exact h9
        refine hK _ _ (⟨y0, y1, y2⟩) ?_
        clear hK K
        try simp only [Act.put, List.setIfInBounds_toArray, List.set_cons_zero, List.set_cons_succ]
        refine wpAnyS_more (fuel := 2) [17, 18, 19] (by kernel_rfl) (fun _ _ _ _ _ h => h) ⟨y0, y1, y2⟩ ?_
        simp only [List.filterMap_cons, List.filterMap_nil, List.getElem?_cons_zero, List.getElem?_cons_succ]
        iterate 3
          refine wpTake_step (fun K hK => ?_)
          rw [if_pos (by rfl)]
          refine ⟨?_, fun w' hS' => ?_, ?_⟩
          rotate_left 1
          focus
            have z0 := hS'.1
            have z1 := hS'.2.1
            have z2 := hS'.2.2
            go_simp
            try with_reducible rfl
            done
          simp only [Act.put, List.setIfInBounds_toArray, List.set_cons_zero, List.set_cons_succ]
          refine hK _ ?_
          clear hK K
        refine wpTake_nil ?_
        refine wpAnyS_ready (rs := [20]) (by kernel_rfl) (by simp) ?_
        refine AllReadyS.one (by simp only [List.getElem?_toArray, List.getElem?_cons_zero, List.getElem?_cons_succ]; rfl) (fun K hK => ?_)
        rw [if_pos (by rfl)]
        go_simp
        refine hK _ _ (⟨y0, y1, y2⟩) ?_
        clear hK K
        try simp only [Act.put, List.setIfInBounds_toArray, List.set_cons_zero, List.set_cons_succ]
        refine wpAnyS_tail 21 1 (by kernel_rfl) rfl ?_
        simp only [List.drop_succ_cons, List.drop_zero]
        have H3 := Lib.hid (And.intro hpl K4)
        clear hpl K4 y0 y1 y2
        go_wp2_with fail
        go_ret3
        exact ⟨q, _, gone, 0, _, _, HO.out.1, .got H1.out.1 H2.out.1 H2.out.2.1 H2.out.2.2.1 H3.out.1, rfl, H3.out.2⟩
    · have hid2 : id ≤ 1000000 := by have := Q2.J.ok.top id s hs; omega
      have b0 := Q2.b0
      have b2 := Q2.b2
      have bo := Q2.own_at hp hq
      rw [hid] at bo
      have ew2 : IntKind.i64.wrap ((id : Nat) : Int) = (id : Int) := by rw [IntKind.wrap_i64]; omega
      have KA : ∀ W, Chg [] w2 W → _ := fun W D => ((SkT.start HQ.out.1 ((HO.out.2.trans cw).trans D)).more (Nat.le_succ N)).alloc (id := id) (n := n) (by omega : N + 1 ≤ 100000) hm hs hn1 (by rw [hsk]; exact hnq) hf black
      have HA := Lib.hid KA
      have H2 := Lib.hid (And.intro hid (And.intro hs (And.intro hsk hf))); clear KA hid hs hsk hf Q2 cw
      go_upto_region 12 with fail
      refine wp_region_takes (fuel := 6) 21 (fun w' => w'.cell? ⟨h.g, 0, none⟩ = some (.pointer (some ⟨h.ra.g, 0, none⟩)) ∧ w'.cell? ⟨h.g, 2, none⟩ = some (.slice (some ⟨h.gP, 0, none⟩) A.P A.P) ∧ w'.cell? ⟨h.gP, p * 16 + q, none⟩ = some (.int .i64 (((id : Nat) : Int) + 1))) [0, 1, 2, 3, 4, 5, 6, 7, 8, 9, 10, 11, 12, 13, 14, 15] (by kernel_rfl) (by kernel_rfl) (fun _ _ _ _ _ h => h) (⟨b0, b2, bo⟩) ?_
      simp only [List.filterMap_cons, List.filterMap_nil, List.getElem?_cons_zero, List.getElem?_cons_succ]
      iterate 16
        refine wpTake_step (fun K hK => ?_)
        rw [if_pos (by rfl)]
        refine ⟨?_, fun w' hS' => ?_, ?_⟩
        rotate_left 1
        focus
          have z0 := hS'.1
          have z1 := hS'.2.1
          have z2 := hS'.2.2
          go_simp
          try with_reducible rfl
          done
        simp only [Act.put, List.setIfInBounds_toArray, List.set_cons_zero, List.set_cons_succ]
        refine hK _ ?_
        clear hK K
      refine wpTake_nil ?_
      generalize hx0 : w2.drew = x0
      have D0 : Chg [] w2 x0 := by rw [← hx0]; exact (Chg.refl [] w2).drew
      clear hx0
      refine wpAnyS_ready (rs := [16]) (by kernel_rfl) (by simp) ?_
      refine AllReadyS.one (by simp only [List.getElem?_toArray, List.getElem?_cons_zero, List.getElem?_cons_succ]; rfl) (fun K hK => ?_)
      rw [if_pos (by rfl)]
      go_simp
      go_at_call 53
      refine (HA.out _ D0).mono ?_
      rintro e w' ⟨y, hpl, rfl, K4⟩
      dsimp only
      have y0 := K4.b0
      have y1 : w'.cell? ⟨h.g, 2, none⟩ = some (.slice (some ⟨h.gP, 0, none⟩) A.P A.P) := by exact K4.b2
      have y2 : w'.cell? ⟨h.gP, p * 16 + q, none⟩ = some (.int .i64 (((id : Nat) : Int) + 1)) := by
        have h9 := (K4.own_at (k := q) hp hq).1
        rw [← H2.out.1]
        exact h9
      refine hK _ _ (⟨y0, y1, y2⟩) ?_
      clear hK K
      try simp only [Act.put, List.setIfInBounds_toArray, List.set_cons_zero, List.set_cons_succ]
      refine wpAnyS_more (fuel := 2) [17, 18, 19] (by kernel_rfl) (fun _ _ _ _ _ h => h) ⟨y0, y1, y2⟩ ?_
      simp only [List.filterMap_cons, List.filterMap_nil, List.getElem?_cons_zero, List.getElem?_cons_succ]
      iterate 3
        refine wpTake_step (fun K hK => ?_)
        rw [if_pos (by rfl)]
        refine ⟨?_, fun w' hS' => ?_, ?_⟩
        rotate_left 1
        focus
          have z0 := hS'.1
          have z1 := hS'.2.1
          have z2 := hS'.2.2
          go_simp
          try with_reducible rfl
          done
        simp only [Act.put, List.setIfInBounds_toArray, List.set_cons_zero, List.set_cons_succ]
        refine hK _ ?_
        clear hK K
      refine wpTake_nil ?_
      refine wpAnyS_ready (rs := [20]) (by kernel_rfl) (by simp) ?_
      refine AllReadyS.one (by simp only [List.getElem?_toArray, List.getElem?_cons_zero, List.getElem?_cons_succ]; rfl) (fun K hK => ?_)
      rw [if_pos (by rfl)]
      go_simp
      refine hK _ _ (⟨y0, y1, y2⟩) ?_
      clear hK K
      try simp only [Act.put, List.setIfInBounds_toArray, List.set_cons_zero, List.set_cons_succ]
      refine wpAnyS_tail 21 1 (by kernel_rfl) rfl ?_
      simp only [List.drop_succ_cons, List.drop_zero]
      have H3 := Lib.hid (And.intro hpl K4)
      clear hpl K4 y0 y1 y2
      go_wp2_with fail
      go_ret3
      exact ⟨q, _, [], 0, _, _, HO.out.1, .has H2.out.1 H2.out.2.1 H2.out.2.2.2 H3.out.1, rfl, H3.out.2⟩
end Go.Proofs.YtcnchgbngcnijaaGreatDoor
