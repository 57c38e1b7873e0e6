/- Package cache: Sweep. -/
import Derived.Test.YtmafiagakoglkaaGreatDoorHp3
namespace Go.Proofs.YtmafiagakoglkaaGreatDoor
open Go.RowKit Go.Maps

/-- One unswept span swept: the first of the first row that is not empty. -/
def HwPost (W w : World) (H : HpH) (A : HpA) (N b : Nat) (e : Ending) (w' : World) : Prop :=
  ((∀ k, k < 16 → A.r (k * 4 + 2) = [] ∧ A.r (k * 4 + 3) = []) ∧ e = .returned (.tuple #[.slice none 0 0, .bool false]) ∧ Chg [] w w') ∨
  ∃ k f x xs s u h' v' r', k < 16 ∧ f < 2 ∧ A.r (k * 4 + 2 + f) = x :: xs ∧ A.a.sp x = some s ∧ PutTo (sweepA A.a x s (sweptL s).length) (updV A.r (k * 4 + 2 + f) xs) k x r' ∧ e = .returned (.tuple #[u, .bool true]) ∧
    HpS W w' { H with ah := h', v := v' } { A with a := sweepA A.a x s (sweptL s).length, r := r' } N b ∧
    StP (HpF H A) (HpF { H with ah := h', v := v' } { A with a := sweepA A.a x s (sweptL s).length, r := r' }) w w' ∧
    LsP W (HpF { H with ah := h', v := v' } { A with a := sweepA A.a x s (sweptL s).length, r := r' }) w' u (intsN ((sweptL s).map s.addr)) ∧ h'.ga = H.ah.ga ∧ ∀ k ∈ fpv u, w.heap.size ≤ k
set_option maxHeartbeats 6400000 in
set_option maxRecDepth 100000 in
theorem hsweep_ok (W w : World) (H : HpH) (A : HpA) (N b : Nat) (Q : HpS W w H A N b) (T0 : Tab W) (B : HpB A) (hN : N ≤ 6000) (hsp : ∀ j, j < 64 → ∀ x ∈ A.r j, ∃ s, A.a.sp x = some s) : Calls Tryz.prog 25 #[.pointer (some ⟨H.gh, 0, none⟩)] w (HwPost W w H A N b) := by
  have b1 : w.cell? ⟨H.gh, 1, none⟩ = some (.pointer (some ⟨H.gc, 0, none⟩)) := Q.hb.cellv 1 rfl
  have HQ := Lib.hid (And.intro Q (And.intro T0 (And.intro B hsp))); clear Q T0 B hsp
  go_enter Tryz.func25, Tryz.ntmps25
  go_wp2_with fail
  refine (cany_ok w H.gc H.gl H.v A.r HQ.out.1.C (fun j => Nat.le_trans (HQ.out.2.2.1.l j) (by decide)) HQ.out.2.2.1.x).mono ?_
  rintro e w1 (⟨hno, rfl, c1⟩ | ⟨k, f, x, xs, hk, hf, hr, rfl, v1, I1, s1⟩)
  · have HN := Lib.hid (And.intro hno c1); clear hno c1
    go_wp2_with fail
    go_ret2
    exact .inl ⟨HN.out.1, rfl, HN.out.2⟩
  · have hj : k * 4 + 2 + f < 64 := by omega
    have hxr : x ∈ A.r (k * 4 + 2 + f) := by rw [hr]; simp
    obtain ⟨s, hs⟩ := HQ.out.2.2.2 _ hj x hxr
    have hx2 := HQ.out.2.2.1.x _ x hxr
    have Q1 := HQ.out.1.central I1 s1
    have t1 : StP (HpF H A) (HpF { H with v := v1 } { A with r := updV A.r (k * 4 + 2 + f) xs }) w w1 := st_central s1
    have b0 : w1.cell? ⟨H.gh, 0, none⟩ = some (.pointer (some ⟨H.ah.ga, 0, none⟩)) := Q1.hb.cellv 0 rfl
    have H1 := Lib.hid (And.intro hr (And.intro hs (And.intro Q1 t1))); clear hr hs Q1 t1 I1 s1 hxr b1
    have hk' : (k : Int) < 16 := by omega
    have hk0 : (0 : Int) ≤ (k : Int) := by omega
    go_wp2_with fail
    refine (s_sweep H1.out.2.2.1.S HQ.out.2.1 hN H1.out.2.1).mono ?_
    rintro e w2 ⟨u, h2, rfl, O2, f2, nf2, S2, st2⟩
    have Q2 := H1.out.2.2.1.arena S2 st2
    have t2 := H1.out.2.2.2.trans (st_arena (A := { A with r := updV A.r (k * 4 + 2 + f) xs }) (H := { H with v := v1 }) st2)
    have L2 : LsP W (HpF { H with ah := h2, v := v1 } { A with a := sweepA A.a x s (sweptL s).length, r := updV A.r (k * 4 + 2 + f) xs }) w2 u (intsN ((sweptL s).map s.addr)) :=
      ⟨O2, fun j hj hF => by
        have h3 := f2 j hj
        rcases hF with h4 | h4 | h4
        · exact nf2 j hj h4
        · have := H1.out.2.2.1.C.lt h4; omega
        · have := H1.out.2.2.1.ltO h4; omega, fun j hj => Nat.le_trans H1.out.2.2.1.S.c.size (f2 j hj)⟩
    obtain ⟨Au, nu, cu, rfl⟩ := O2.slice'
    have b0 : w2.cell? ⟨H.gh, 0, none⟩ = some (.pointer (some ⟨H.ah.ga, 0, none⟩)) := by
      have := Q2.hb.cellv 0 rfl
      rw [← S2.ga]; exact this
    have b1 : w2.cell? ⟨H.gh, 1, none⟩ = some (.pointer (some ⟨H.gc, 0, none⟩)) := Q2.hb.cellv 1 rfl
    have hghl := Q2.hb.lt
    have hl1 : ∀ j, (updV A.r (k * 4 + 2 + f) xs j).length ≤ 100000 := fun j => by
      have h3 := HQ.out.2.2.1.l j
      unfold updV
      split
      · next e =>
        rw [e, H1.out.1] at h3
        simp at h3; omega
      · omega
    have hx1 : ∀ j, ∀ y ∈ updV A.r (k * 4 + 2 + f) xs j, y ≤ 1000000 := fun j y hy => by
      unfold updV at hy
      split at hy
      · next e => exact HQ.out.2.2.1.x (k * 4 + 2 + f) y (by rw [H1.out.1]; exact List.mem_cons_of_mem _ hy)
      · exact HQ.out.2.2.1.x j y hy
    have HG := Lib.hid (And.intro S2.ga (fun j (hj : j ∈ fpv (.slice Au nu cu)) => Nat.le_trans H1.out.2.2.2.size (f2 j hj)))
    have H2 := Lib.hid (And.intro Q2 (And.intro t2 (And.intro L2 (And.intro S2 (And.intro hl1 hx1))))); clear Q2 t2 L2 O2 f2 nf2 S2 st2 hl1 hx1
    go_upto_region 7 with fail
    go_region_held3 (fun w' => w'.cell? ⟨H.gh, 0, none⟩ = some (.pointer (some ⟨H.ah.ga, 0, none⟩)) ∧ w'.cell? ⟨H.gh, 1, none⟩ = some (.pointer (some ⟨H.gc, 0, none⟩))) (go_keep)
      (first
        | (go_at_call 20; refine (s_full (ArS.chg0 H2.out.2.2.2.1 (by repeat (first | assumption | exact Chg.refl [] w2 | refine Chg.drew ?_))) HQ.out.2.1 (x : Nat) (by unfold Wf64; omega)).mono ?_; rintro e w' ⟨bo, rfl, cf, hbo⟩; have D : Chg [] w2 w' := Chg.trans (by repeat (first | assumption | exact Chg.refl [] w2 | refine Chg.drew ?_)) cf; have z0 : w'.cell? ⟨H.gh, 0, none⟩ = some (.pointer (some ⟨H.ah.ga, 0, none⟩)) := D.cellv hghl (by simp) b0; have z1 : w'.cell? ⟨H.gh, 1, none⟩ = some (.pointer (some ⟨H.gc, 0, none⟩)) := D.cellv hghl (by simp) b1)
        | (go_at_call 46; refine (cput_ok _ H.gc H.gl v1 (updV A.r (k * 4 + 2 + f) xs) (IsCe.chg0 H2.out.1.C D) k hk x hx2 bo H2.out.2.2.2.2.1 H2.out.2.2.2.2.2).mono ?_; rintro e w' ⟨rfl, r2, hd, v2, I2, s2⟩; have Q3 := (HpS.chg0 H2.out.1 D).central I2 s2; have y0 : w'.cell? ⟨H.gh, 0, none⟩ = some (.pointer (some ⟨H.ah.ga, 0, none⟩)) := (by have h0 := Q3.hb.cellv 0 rfl; rw [← H2.out.2.2.2.1.ga]; exact h0); have y1 : w'.cell? ⟨H.gh, 1, none⟩ = some (.pointer (some ⟨H.gc, 0, none⟩)) := Q3.hb.cellv 1 rfl))
    have t3 := (H2.out.2.1.then0 D).trans (st_central (A := { A with a := sweepA A.a x s (sweptL s).length, r := updV A.r (k * 4 + 2 + f) xs }) (H := { H with ah := h2, v := v1 }) (r' := updV r2 (k * 4 + sd bo) (r2 (k * 4 + sd bo) ++ [x])) s2)
    have L3 := (H2.out.2.2.1.chg0 D).st (st_central (A := { A with a := sweepA A.a x s (sweptL s).length, r := updV A.r (k * 4 + 2 + f) xs }) (H := { H with ah := h2, v := v1 }) (r' := updV r2 (k * 4 + sd bo) (r2 (k * 4 + sd bo) ++ [x])) s2)
    have hP : PutTo (sweepA A.a x s (sweptL s).length) (updV A.r (k * 4 + 2 + f) xs) k x (updV r2 (k * 4 + sd bo) (r2 (k * 4 + sd bo) ++ [x])) := ⟨r2, bo, hd, hbo, rfl⟩
    have HZ := Lib.hid (And.intro Q3 (And.intro t3 (And.intro L3 hP))); clear Q3 t3 L3 hP hd I2 s2 hbo cf D z0 z1 y0 y1 b0 b1
    go_wp2_with fail
    go_ret2
    exact .inr ⟨k, f, x, xs, s, _, h2, v2, _, hk, hf, H1.out.1, H1.out.2.1, HZ.out.2.2.2, rfl, HZ.out.1, HZ.out.2.1, HZ.out.2.2.1, HG.out.1, HG.out.2⟩
end Go.Proofs.YtmafiagakoglkaaGreatDoor
