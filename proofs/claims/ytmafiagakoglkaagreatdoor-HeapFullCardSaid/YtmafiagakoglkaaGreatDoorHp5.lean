/- Package cache: Begin, Unswept, Arena. -/
import Derived.Test.YtmafiagakoglkaaGreatDoorHpJ
namespace Go.Proofs.YtmafiagakoglkaaGreatDoor
open Go.RowKit Go.Maps

/-- Where a heap lies stays, as far as its own parts go. -/
structure HpE (H' H : HpH) : Prop where
  gh : H'.gh = H.gh
  gp : H'.gp = H.gp
  ga : H'.ah.ga = H.ah.ga
theorem HpE.refl (H : HpH) : HpE H H := ⟨rfl, rfl, rfl⟩
theorem HpE.trans {H H' H'' : HpH} (h : HpE H'' H') (k : HpE H' H) : HpE H'' H := ⟨h.gh.trans k.gh, h.gp.trans k.gp, h.ga.trans k.ga⟩
/-- A step of a heap. -/
def HpTo (W w w' : World) (H : HpH) (A A' : HpA) (N b : Nat) : Prop := ∃ H', HpE H' H ∧ HpS W w' H' A' N b ∧ StP (HpF H A) (HpF H' A') w w'
def HbPost (W w : World) (H : HpH) (A : HpA) (N b : Nat) (e : Ending) (w' : World) : Prop :=
  (0 < unsN A.r 16 ∧ e = .returned (.int .i64 5) ∧ Chg [] w w') ∨
  (unsN A.r 16 = 0 ∧ e = .returned (.int .i64 0) ∧ ∃ r1, FaR A.a A.own A.P A.r r1 ∧ HpI { A with r := bgR r1 32, own := faO A.own A.P } none ∧ HpTo W w w' H A { A with r := bgR r1 32, own := faO A.own A.P } N b)
def HbRel (W w0 : World) (H : HpH) (A : HpA) (N b gk : Nat) (idx : Value) (w : World) : Prop :=
  ∃ p r' v', gk + p = A.P + 1 ∧ p ≤ A.P ∧ idx = .int .i64 (p : Nat) ∧ FaR A.a A.own p A.r r' ∧ HpS W w { H with v := v' } { A with r := r', own := faO A.own p } N b ∧ StP (HpF H A) (HpF { H with v := v' } { A with r := r', own := faO A.own p }) w0 w
set_option maxHeartbeats 6400000 in
set_option maxRecDepth 100000 in
theorem hbegin_ok (W w : World) (H : HpH) (A : HpA) (N b : Nat) (Q : HpS W w H A N b) (I : HpI A none) (T0 : Tab W) (hN : N ≤ 6000) : Calls Tryz.prog 16 #[.pointer (some ⟨H.gh, 0, none⟩)] w (HbPost W w H A N b) := by
  have b1 : w.cell? ⟨H.gh, 1, none⟩ = some (.pointer (some ⟨H.gc, 0, none⟩)) := Q.hb.cellv 1 rfl
  have b2 : w.cell? ⟨H.gh, 2, none⟩ = some H.vo := Q.hb.cellv 2 rfl
  have hgh := Q.hb.lt
  have B := I.B Q.S.I.ok hN
  obtain ⟨Bv, cv, hvo⟩ := Q.vo_sl
  rw [hvo] at b2
  have hP := I.P
  have e0 : ({ A with r := A.r, own := faO A.own 0 } : HpA) = A := by rw [faO_zero]
  have HQ := Lib.hid (And.intro Q (And.intro T0 (And.intro B (And.intro I e0)))); clear Q T0 B I hvo e0
  go_enter Tryz.func16, Tryz.ntmps16
  go_wp2_with fail
  refine (cunswept_ok w H.gc H.gl H.v A.r HQ.out.1.C (fun j => Nat.le_trans (HQ.out.2.2.1.l j) (by decide))).mono ?_
  rintro e w1 ⟨rfl, c1⟩
  have b2 : w1.cell? ⟨H.gh, 2, none⟩ = some (.slice Bv A.P cv) := c1.cellv hgh (by simp) b2
  have hu := unsN_le HQ.out.2.2.1.l 16
  obtain ⟨u, hu0⟩ : ∃ u, u = unsN A.r 16 := ⟨_, rfl⟩
  rw [← hu0] at hu ⊢
  have HC := Lib.hid (And.intro c1 hu0); clear c1 hu0 b1
  by_cases h0 : 0 < u
  · have h0' : (0 : Int) < (u : Int) := by omega
    go_wp2_with fail
    go_ret
    exact .inl ⟨by rw [← HC.out.2]; exact h0, rfl, HC.out.1⟩
  · obtain rfl : u = 0 := by omega
    clear hu h0
    go_wp2_with fail
    go_loopg [19] (A.P + 1) (fun gk idx wr => HbRel W w H A N b gk idx wr)
    case atStart => exact ⟨0, A.r, H.v, by omega, by omega, rfl, rfl, by rw [HQ.out.2.2.2.2]; exact HQ.out.1.chg0 HC.out.1, by rw [HQ.out.2.2.2.2]; exact (StP.refl _ _).then0 HC.out.1⟩
    case round =>
      clear b2
      obtain ⟨p, r1, v1, hgk, hp, rfl, hF, Q1, t1⟩ := hrel
      have J := HQ.out.2.2.2.1.flushAll hp hF
      have b1 : wr.cell? ⟨H.gh, 1, none⟩ = some (.pointer (some ⟨H.gc, 0, none⟩)) := Q1.hb.cellv 1 rfl
      have HX := Lib.hid (And.intro hF (And.intro Q1 (And.intro t1 J))); clear hF Q1 t1 J
      by_cases ep : p < A.P
      · have hp' : (p : Int) < (A.P : Int) := by omega
        have hp0 : (0 : Int) ≤ (p : Int) := by omega
        go_wp2_with fail
        refine (flush_ok W wr { H with v := v1 } { A with r := r1, own := faO A.own p } N b HX.out.2.1 HQ.out.2.1 (HX.out.2.2.2.B HX.out.2.1.S.I.ok hN) p ep).mono ?_
        rintro e w2 ⟨rfl, v2, r2, hF2, Q2, t2⟩
        have eo : faO A.own p p = A.own p := faO_at _ _
        have e4 : ({ A with r := r2, own := updV (faO A.own p) p (flO (faO A.own p p) 16) } : HpA) = { A with r := r2, own := faO A.own (p + 1) } := by rw [eo, faO_set]
        have Q3 : HpS W w2 { H with v := v2 } { A with r := r2, own := faO A.own (p + 1) } N b := by rw [← e4]; exact Q2
        have t3 : StP (HpF H A) (HpF { H with v := v2 } { A with r := r2, own := faO A.own (p + 1) }) w w2 := by rw [← e4]; exact HX.out.2.2.1.trans t2
        have F3 : FlR A.a (A.own p) 16 r1 r2 := by rw [← eo]; exact hF2
        have HY := Lib.hid (And.intro Q3 (And.intro t3 F3)); clear Q3 t3 F3 Q2 t2 hF2 e4 eo
        go_wp2_with fail
        go_roundg (A.P - p)
        case measure => omega
        case rel => exact ⟨p + 1, r2, v2, by omega, by omega, by go_num, ⟨r1, HX.out.1, HY.out.2.2⟩, HY.out.1, HY.out.2.1⟩
      · obtain rfl : p = A.P := by omega
        have hp' : ¬ (A.P : Int) < (A.P : Int) := by omega
        clear ep
        go_wp2_with fail
        have B1 := HX.out.2.2.2.B HX.out.2.1.S.I.ok hN
        refine (cbegin_ok wr H.gc H.gl v1 r1 HX.out.2.1.C B1.l B1.x).mono ?_
        rintro e w2 ⟨rfl, v2, I2, s2⟩
        have Q3 := HX.out.2.1.central I2 s2
        have t3 := HX.out.2.2.1.trans (st_central (H := { H with v := v1 }) (A := { A with r := r1, own := faO A.own A.P }) (r' := bgR r1 32) s2)
        have J3 := HX.out.2.2.2.begin (fun j hj => by
          rw [List.eq_nil_iff_forall_not_mem]
          intro x hx
          have h1 := HX.out.1.un hj hx
          rw [HQ.out.2.2.2.1.unz HC.out.2.symm hj] at h1
          cases h1)
        have HZ := Lib.hid (And.intro Q3 (And.intro t3 J3)); clear Q3 t3 J3 I2 s2 B1
        go_wp2_with fail
        go_ret
        exact .inr ⟨HC.out.2.symm, rfl, r1, HX.out.1, HZ.out.2.2, { H with v := v2 }, ⟨rfl, rfl, rfl⟩, HZ.out.1, HZ.out.2.1⟩
section
variable {W w : World} {H : HpH} {A : HpA} {N b : Nat} (Q : HpS W w H A N b)
include Q
set_option maxHeartbeats 400000 in
theorem harena_ok : Calls Tryz.prog 12 #[.pointer (some ⟨H.gh, 0, none⟩)] w (QuPost (.pointer (some ⟨H.ah.ga, 0, none⟩)) w) := by
  have b0 : w.cell? ⟨H.gh, 0, none⟩ = some (.pointer (some ⟨H.ah.ga, 0, none⟩)) := Q.hb.cellv 0 rfl
  clear Q
  go_enter Tryz.func12, Tryz.ntmps12
  go_wp2_with fail
  go_ret
  exact ⟨rfl, rfl⟩
set_option maxHeartbeats 400000 in
theorem hunswept_ok (hl : ∀ j, (A.r j).length ≤ 100000) : Calls Tryz.prog 34 #[.pointer (some ⟨H.gh, 0, none⟩)] w (NwPost (.int .i64 (unsN A.r 16 : Nat)) w) := by
  have b1 : w.cell? ⟨H.gh, 1, none⟩ = some (.pointer (some ⟨H.gc, 0, none⟩)) := Q.hb.cellv 1 rfl
  have HQ := Lib.hid (And.intro Q hl); clear Q hl
  go_enter Tryz.func34, Tryz.ntmps34
  go_wp2_with fail
  refine (cunswept_ok w H.gc H.gl H.v A.r HQ.out.1.C HQ.out.2).mono ?_
  rintro e w1 ⟨rfl, c1⟩
  have HC := Lib.hid c1; clear c1
  go_wp2_with fail
  go_ret
  exact ⟨rfl, HC.out⟩
end
end Go.Proofs.YtmafiagakoglkaaGreatDoor
