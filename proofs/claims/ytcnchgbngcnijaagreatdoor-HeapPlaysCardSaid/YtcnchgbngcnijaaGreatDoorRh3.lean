/- The document's heap (treadmillref5): Begin, Sweep. -/
import Derived.Test.YtcnchgbngcnijaaGreatDoorMRh
import Derived.Test.YtcnchgbngcnijaaGreatDoorHp8
namespace Go.Proofs.YtcnchgbngcnijaaGreatDoor
open Go.RowKit Go.Maps

def RhbPost (w : World) (h : RhH) (A : HpA) (N m : Nat) (e : Ending) (w' : World) : Prop :=
  (0 < unsN A.r 16 ∧ e = .returned (.int .i64 5) ∧ Chg [] w w') ∨
  (unsN A.r 16 = 0 ∧ e = .returned (.int .i64 0) ∧ ∃ r1, FaR A.a A.own A.P A.r r1 ∧ RhTo w w' h A { A with r := bgR r1 32, own := faO A.own A.P } N m)
def RhbRel (w0 : World) (h : RhH) (A : HpA) (N m gk : Nat) (idx : Value) (w : World) : Prop :=
  ∃ p r', gk + p = A.P + 1 ∧ p ≤ A.P ∧ idx = .int .i64 (p : Nat) ∧ FaR A.a A.own p A.r r' ∧ RhTo w0 w h A { A with r := r', own := faO A.own p } N m
set_option maxHeartbeats 6400000 in
set_option maxRecDepth 100000 in
theorem rhbegin_ok (w : World) (h : RhH) (A : HpA) (N m : Nat) (Q : RhS w h A N m) (I : HpI A none) (hN : N ≤ 6000) : Calls Tryz.prog 87 #[.pointer (some ⟨h.g, 0, none⟩)] w (RhbPost w h A N m) := by
  have b1 := Q.b1
  have b2 := Q.b2
  have hgh := Q.b.lt
  have B := I.B Q.J.ok hN
  have hP := I.P
  have e0 : ({ A with r := A.r, own := faO A.own 0 } : HpA) = A := by rw [faO_zero]
  have HQ := Lib.hid (And.intro Q (And.intro B (And.intro I e0))); clear Q B I e0
  go_enter Tryz.func87, Tryz.ntmps87
  go_wp2_with fail
  refine (crunswept_ok w h.gc h.v A.r HQ.out.1.C (fun j => Nat.le_trans (HQ.out.2.1.l j) (by decide))).mono ?_
  rintro e w1 ⟨rfl, c1⟩
  have hu := unsN_le HQ.out.2.1.l 16
  obtain ⟨u, hu0⟩ : ∃ u, u = unsN A.r 16 := ⟨_, rfl⟩
  rw [← hu0] at hu ⊢
  have HC := Lib.hid (And.intro c1 hu0); clear c1 hu0 b1 b2
  by_cases h0 : 0 < u
  · have h0' : (0 : Int) < (u : Int) := by omega
    go_wp2_with fail
    go_ret
    exact .inl ⟨by rw [← HC.out.2]; exact h0, rfl, HC.out.1⟩
  · obtain rfl : u = 0 := by omega
    clear hu h0
    go_wp2_with fail
    go_loopg [3] (A.P + 1) (fun gk idx wr => RhbRel w h A N m gk idx wr)
    case atStart => exact ⟨0, A.r, by omega, by omega, rfl, rfl, by rw [HQ.out.2.2.2]; exact HQ.out.1.same HC.out.1⟩
    case round =>
      obtain ⟨p, r1, hgk, hp, rfl, hF, h1, E1, Q1, s1⟩ := hrel
      have J := HQ.out.2.2.1.flushAll hp hF
      have b1 : wr.cell? ⟨h.g, 1, none⟩ = some (.pointer (some ⟨h.gc, 0, none⟩)) := by rw [← E1.g, ← E1.gc]; exact Q1.b1
      have b2 : wr.cell? ⟨h.g, 2, none⟩ = some (.slice (some ⟨h.gP, 0, none⟩) A.P A.P) := by rw [← E1.g, ← E1.gP]; exact Q1.b2
      have HX := Lib.hid (And.intro hF (And.intro Q1 (And.intro s1 (And.intro J E1)))); clear hF Q1 s1 J E1
      by_cases ep : p < A.P
      · have hp' : (p : Int) < (A.P : Int) := by omega
        have hp0 : (0 : Int) ≤ (p : Int) := by omega
        have B1 := HX.out.2.2.2.1.B HX.out.2.1.J.ok hN
        have K := rhflush_ok wr h1 _ N m HX.out.2.1 (by omega) B1.l p ep hP (fun k hk => B1.o p k ep hk)
        rw [HX.out.2.2.2.2.g] at K
        clear B1
        go_wp2_with fail
        refine K.mono ?_
        rintro e w2 ⟨rfl, r2, hF2, T2⟩
        clear K
        have eo : faO A.own p p = A.own p := faO_at _ _
        have e4 : ({ A with r := r2, own := updV (faO A.own p) p (flO (faO A.own p p) 16) } : HpA) = { A with r := r2, own := faO A.own (p + 1) } := by rw [eo, faO_set]
        have T3 : RhTo w w2 h A { A with r := r2, own := faO A.own (p + 1) } N m := by rw [← e4]; exact RhTo.after HX.out.2.2.2.2 HX.out.2.2.1 T2
        have F3 : FlR A.a (A.own p) 16 r1 r2 := by rw [← eo]; exact hF2
        have HY := Lib.hid (And.intro T3 F3); clear T3 F3 T2 hF2 e4 eo
        go_wp2_with fail
        go_roundg (A.P - p)
        case measure => omega
        case rel => exact ⟨p + 1, r2, by omega, by omega, by go_num, ⟨r1, HX.out.1, HY.out.2⟩, HY.out.1⟩
      · obtain rfl : p = A.P := by omega
        have hp' : ¬ (A.P : Int) < (A.P : Int) := by omega
        clear ep
        have B1 := HX.out.2.2.2.1.B HX.out.2.1.J.ok hN
        have K := crbegin_ok wr h1.gc h1.v r1 HX.out.2.1.C B1.l
        rw [HX.out.2.2.2.2.gc] at K
        clear B1
        go_wp2_with fail
        refine K.mono ?_
        rintro e w2 ⟨rfl, T2⟩
        clear K
        rw [← HX.out.2.2.2.2.gc] at T2
        have T3 := RhTo.after HX.out.2.2.2.2 HX.out.2.2.1 (HX.out.2.1.central T2)
        have HZ := Lib.hid T3; clear T3 T2
        go_wp2_with fail
        go_ret
        exact .inr ⟨HC.out.2.symm, rfl, r1, HX.out.1, HZ.out⟩
/-- What Sweep does: the first unswept span. -/
def SwR (A : HpA) (l : List Int) (A' : HpA) : Prop :=
  ∃ k f x xs s r', k < 16 ∧ f < 2 ∧ (∀ i, i < k → A.r (i * 4 + 2) = [] ∧ A.r (i * 4 + 3) = []) ∧ (∀ i, i < f → A.r (k * 4 + 2 + i) = []) ∧ A.r (k * 4 + 2 + f) = x :: xs ∧ A.a.sp x = some s ∧ PutTo (sweepA A.a x s (sweptL s).length) (updV A.r (k * 4 + 2 + f) xs) k x r' ∧ l = intsN ((sweptL s).map s.addr) ∧ A' = { A with a := sweepA A.a x s (sweptL s).length, r := r' }
/-- The arena swept by the document's Sweep. -/
def RxPost (w : World) (h : RhH) (A : HpA) (N m id : Nat) (s : Sp) (e : Ending) (w' : World) : Prop :=
  ∃ u, e = .returned (.tuple #[u, .int .i64 0]) ∧ OwnI 3 w' u (swI s) ∧ (∀ k ∈ fpv u, w.heap.size ≤ k) ∧ RhS w' h { A with a := sweepA A.a id s (sweptL s).length } N m ∧ StP (RhF h A) (RhF h { A with a := sweepA A.a id s (sweptL s).length }) w w' ∧ ∀ k ∈ fpv u, ¬ RhF h { A with a := sweepA A.a id s (sweptL s).length } k
theorem rh_sweep {w : World} {h : RhH} {A : HpA} {N m id : Nat} {s : Sp} (Q : RhS w h A N m) (hN : N ≤ 100000) (hs : A.a.sp id = some s) : Calls Tryz.prog 57 #[.pointer (some ⟨h.ra.g, 0, none⟩), .int .i64 (id : Nat)] w (RxPost w h A N m id s) := by
  obtain ⟨ids, M⟩ := Q.M
  refine (rasweep_ok w h.ra A.a ids M (Nat.le_trans (M.len_le Q.J.ok) hN) (fun i s j hi => Q.J.mf i s j hi) (id : Nat)).mono ?_
  rintro e w' (⟨hn, -⟩ | ⟨id', s', u, hid, hs', rfl, O, fr, M', c⟩)
  · unfold spI at hn
    rw [if_pos (by omega), Int.toNat_natCast, hs] at hn; cases hn
  · obtain rfl : id = id' := by omega
    rw [hs] at hs'; injection hs' with hs'; subst hs'
    have hF : ∀ k, RaF h.ra (sweepA A.a id s (sweptL s).length) k → RaF h.ra A.a k := fun k hk => RaF.sp (m := h.ra.mw) (a' := sweepA A.a id s (sweptL s).length) (fun i s' hi => by
      have h1 : (updF A.a.sp id (some (sweptS s))) i = some s' := hi
      unfold updF at h1
      split at h1
      · next e => exact ⟨s, by rw [e]; exact hs⟩
      · exact ⟨s', h1⟩) hk
    have st : StR h.ra A.a h.ra (sweepA A.a id s (sweptL s).length) w w' := StR.of_chg c (fun k hk => .inl (.inr (.inr (.inr (.inr (.inr (.inr (.inr ⟨id, s, hs, .inl hk⟩)))))))) (fun k hk => .inl (hF k hk))
    obtain ⟨Q', s'⟩ := Q.arena_ M' (Q.J.sweep hs) st rfl Q.mw rfl
    refine ⟨u, rfl, O, fr, Q', s', fun k hk hf => ?_⟩
    have h1 := fr k hk
    have h2 : RhF h A k := by
      rcases hf with hf | hf
      · exact .inl (hF k hf)
      · exact .inr hf
    have := Q.lt h2
    omega
def RhwPost (w : World) (h : RhH) (A : HpA) (N m : Nat) (e : Ending) (w' : World) : Prop :=
  ((∀ k, k < 16 → A.r (k * 4 + 2) = [] ∧ A.r (k * 4 + 3) = []) ∧ e = .returned (.tuple #[.slice none 0 0, .bool false]) ∧ RhTo w w' h A A N m) ∨
  ∃ l A' u, SwR A l A' ∧ e = .returned (.tuple #[u, .bool true]) ∧ OwnI 3 w' u l ∧ (∀ k ∈ fpv u, w.heap.size ≤ k) ∧ ∃ h', RhE h' h ∧ RhS w' h' A' N m ∧ StP (RhF h A) (RhF h' A') w w'
set_option maxHeartbeats 6400000 in
set_option maxRecDepth 100000 in
theorem rhsweep_ok (w : World) (h : RhH) (A : HpA) (N m : Nat) (Q : RhS w h A N m) (I : HpI A none) (hN : N ≤ 6000) : Calls Tryz.prog 89 #[.pointer (some ⟨h.g, 0, none⟩)] w (RhwPost w h A N m) := by
  have b1 := Q.b1
  have B := I.B Q.J.ok hN
  have HQ := Lib.hid (And.intro Q (And.intro B I)); clear Q B I
  go_enter Tryz.func89, Tryz.ntmps89
  go_wp2_with fail
  refine (crany_ok w h.gc h.v A.r HQ.out.1.C (fun j => Nat.le_trans (HQ.out.2.1.l j) (by decide))).mono ?_
  rintro e w1 (⟨hno, rfl, c1⟩ | ⟨k, f, x, xs, hk, hf, hk0, hf0, hr, rfl, T1⟩)
  · have HN := Lib.hid (And.intro hno c1); clear hno c1
    go_wp2_with fail
    go_ret2
    exact .inl ⟨HN.out.1, rfl, HQ.out.1.same HN.out.2⟩
  · have hj : k * 4 + 2 + f < 64 := by omega
    have hxr : x ∈ A.r (k * 4 + 2 + f) := by rw [hr]; simp
    obtain ⟨-, s, hs, -⟩ := HQ.out.2.2.r _ x hxr
    have hx2 := HQ.out.2.1.x _ x hxr
    obtain ⟨h1, E1, Q1, s1⟩ := HQ.out.1.central T1
    have b0 : w1.cell? ⟨h.g, 0, none⟩ = some (.pointer (some ⟨h.ra.g, 0, none⟩)) := by rw [← E1.g, ← E1.ra]; exact Q1.b0
    have K := rh_sweep Q1 (by omega) hs
    rw [E1.ra] at K
    have hl1 : ∀ j, (updV A.r (k * 4 + 2 + f) xs j).length ≤ 100000 := fun j => by
      have h3 := HQ.out.2.1.l j
      unfold updV
      split
      · next e =>
        rw [e, hr] at h3
        simp at h3; omega
      · omega
    have H1 := Lib.hid (And.intro hr (And.intro hs (And.intro Q1 (And.intro s1 (And.intro E1 (And.intro hl1 (And.intro hk0 hf0))))))); clear hr hs Q1 s1 T1 hxr b1 E1 hl1 hk0 hf0
    have hk' : (k : Int) < 16 := by omega
    have hk0 : (0 : Int) ≤ (k : Int) := by omega
    go_wp2_with fail
    refine K.mono ?_
    rintro e w2 ⟨u, rfl, O2, f2, Q2, s2, nf2⟩
    clear K
    obtain ⟨Au, nu, cu, rfl⟩ := O2.slice'
    have b0 : w2.cell? ⟨h.g, 0, none⟩ = some (.pointer (some ⟨h.ra.g, 0, none⟩)) := by rw [← H1.out.2.2.2.2.1.g, ← H1.out.2.2.2.2.1.ra]; exact Q2.b0
    have b1 : w2.cell? ⟨h.g, 1, none⟩ = some (.pointer (some ⟨h.gc, 0, none⟩)) := by rw [← H1.out.2.2.2.2.1.g, ← H1.out.2.2.2.2.1.gc]; exact Q2.b1
    have hgl : h.g < w2.heap.size := by rw [← H1.out.2.2.2.2.1.g]; exact Q2.b.lt
    have H2 := Lib.hid (And.intro Q2 (And.intro s2 (And.intro O2 (And.intro f2 nf2)))); clear Q2 s2 O2 f2 nf2
    go_upto_region 5 with fail
    go_region_held3 (fun w' => w'.cell? ⟨h.g, 0, none⟩ = some (.pointer (some ⟨h.ra.g, 0, none⟩)) ∧ w'.cell? ⟨h.g, 1, none⟩ = some (.pointer (some ⟨h.gc, 0, none⟩))) (go_keep)
      (first
        | (go_at_call 62; rw [← H1.out.2.2.2.2.1.ra]; refine (rh_full (RhS.chg0 H2.out.1 (by repeat (first | assumption | exact Chg.refl [] w2 | refine Chg.drew ?_))) (Nat.le_trans hN (by decide)) (x : Nat)).mono ?_; rintro e w' ⟨bf, rfl, ew1, hbf⟩; have D : Chg [] w2 w' := (by rw [ew1]; repeat (first | assumption | exact Chg.refl [] w2 | refine Chg.drew ?_)); clear ew1; have z0 : w'.cell? ⟨h.g, 0, none⟩ = some (.pointer (some ⟨h.ra.g, 0, none⟩)) := D.cellv hgl (by simp) b0; have z1 : w'.cell? ⟨h.g, 1, none⟩ = some (.pointer (some ⟨h.gc, 0, none⟩)) := D.cellv hgl (by simp) b1)
        | (go_at_call 138; rw [← H1.out.2.2.2.2.1.gc]; refine (crput_ok _ h1.gc h1.v (updV A.r (k * 4 + 2 + f) xs) (IsCr.chg0 H2.out.1.C D) k x hk bf H1.out.2.2.2.2.2.1).mono ?_; rintro e w' ⟨rfl, r2, hd, T2⟩; have R2 := (H2.out.1.chg0 D).central T2; obtain ⟨h2, E2, Q3, s3⟩ := R2; have y0 : w'.cell? ⟨h.g, 0, none⟩ = some (.pointer (some ⟨h.ra.g, 0, none⟩)) := (by rw [← H1.out.2.2.2.2.1.g, ← H1.out.2.2.2.2.1.ra, ← E2.g, ← E2.ra]; exact Q3.b0); have y1 : w'.cell? ⟨h.g, 1, none⟩ = some (.pointer (some ⟨h.gc, 0, none⟩)) := (by rw [← H1.out.2.2.2.2.1.g, ← H1.out.2.2.2.2.1.gc, ← E2.g, ← E2.gc]; exact Q3.b1)))
    have hPt : PutTo (sweepA A.a x s (sweptL s).length) (updV A.r (k * 4 + 2 + f) xs) k x (updV r2 (k * 4 + sd bf) (r2 (k * 4 + sd bf) ++ [x])) := ⟨r2, bf, hd, full_put hbf, rfl⟩
    have t3 := (H1.out.2.2.2.1.trans (H2.out.2.1.then0 D)).trans s3
    have O3 : OwnI 3 w' (.slice Au nu cu) (swI s) := by
      obtain ⟨S3, c3, hS3⟩ := s3.chg
      exact (H2.out.2.2.1.chg0 D).chg c3 (fun j hj hm => H2.out.2.2.2.2 j hj (hS3 j hm))
    have HZ := Lib.hid (And.intro Q3 (And.intro t3 (And.intro hPt (And.intro O3 (And.intro E2 fun j (hj : j ∈ fpv (.slice Au nu cu)) => Nat.le_trans H1.out.2.2.2.1.size (H2.out.2.2.2.1 j hj)))))); clear Q3 t3 hPt O3 hd T2 s3 hbf D z0 z1 y0 y1 b0 b1 E2
    go_wp2_with fail
    go_ret2
    exact .inr ⟨_, _, _, ⟨k, f, x, xs, s, _, hk, hf, H1.out.2.2.2.2.2.2.1, H1.out.2.2.2.2.2.2.2, H1.out.1, H1.out.2.1, HZ.out.2.2.1, rfl, rfl⟩, rfl, HZ.out.2.2.2.1, HZ.out.2.2.2.2.2, h2, HZ.out.2.2.2.2.1.trans H1.out.2.2.2.2.1, HZ.out.1, HZ.out.2.1⟩
end Go.Proofs.YtcnchgbngcnijaaGreatDoor
