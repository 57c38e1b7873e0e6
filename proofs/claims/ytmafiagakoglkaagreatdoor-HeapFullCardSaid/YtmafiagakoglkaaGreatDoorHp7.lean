/- Package cache: what seek keeps; its closure that sweeps. -/
import Derived.Test.YtmafiagakoglkaaGreatDoorHp6
namespace Go.Proofs.YtmafiagakoglkaaGreatDoor
open Go.RowKit Go.Maps

theorem StP.then_new {F F' : Nat → Prop} {w0 w w' : World} {S : List Nat} (s : StP F F' w0 w) (c : Chg S w w') (hS : ∀ k ∈ S, w0.heap.size ≤ k) : StP F F' w0 w' :=
  ⟨c.os.trans s.os, c.tape.trans s.tape, c.output.trans s.output, Nat.le_trans s.size c.size, fun k hk hn => (c.block k (Nat.lt_of_lt_of_le hk s.size) (fun hm => by have := hS k hm; omega)).trans (s.block k hk hn), s.fr⟩
theorem HpS.far {W w w' : World} {H : HpH} {A : HpA} {N b : Nat} {S : List Nat} (Q : HpS W w H A N b) (c : Chg S w w') (nf : ∀ k ∈ S, ¬ HpF H A k) (new : ∀ k ∈ S, W.heap.size ≤ k) : HpS W w' H A N b := by
  have nA : ∀ k, ArF H.ah A.a k → k ∉ S := fun k hk hm => nf k hm (.inl hk)
  have nC : ∀ k, CeF H.gc H.gl H.v k → k ∉ S := fun k hk hm => nf k hm (.inr (.inl hk))
  have nO : ∀ k, OwF H A.P k → k ∉ S := fun k hk hm => nf k hm (.inr (.inr hk))
  exact ⟨c.blk Q.hb (nO _ (.inl rfl)), ⟨Q.S.M.chg c nA, Q.S.I, Q.S.far, Q.S.c.new c new, rfl, Q.S.m⟩, Q.C.chg c nC, own_chg Q.o c (fun k hk => nO k (.inr (.inl (mem_fpv.2 hk)))), fun p hp => c.blk (Q.g p hp) (nO _ (.inr (.inr ⟨p, hp, rfl⟩))), Q.inj, Q.d1, Q.d2, Q.n1, Q.n2⟩
structure SkS (W w0 w : World) (H0 : HpH) (A0 : HpA) (H : HpH) (A : HpA) (N b g2 g5 : Nat) (vg : Value) (gone : List Int) : Prop where
  gh : HpE H H0
  Q : HpS W w H A N b
  t : StP (HpF H0 A0) (HpF H A) w0 w
  L : LsP W (HpF H A) w vg gone
  ln : ∀ k ∈ fpv vg, w0.heap.size ≤ k
  b2 : Blk w g2 24 #[.pointer (some ⟨H0.gh, 0, none⟩)]
  b5 : Blk w g5 22 #[vg]
  n2 : w0.heap.size ≤ g2
  n5 : w0.heap.size ≤ g5
  f2 : ¬ HpF H A g2
  f5 : ¬ HpF H A g5
  e2 : g2 ∉ fpv vg
  e5 : g5 ∉ fpv vg
  wn : W.heap.size ≤ w0.heap.size
  cap : gone.length + A.a.live ≤ 100000000
section
variable {W w0 w w' : World} {H0 H : HpH} {A0 A : HpA} {N b g2 g5 : Nat} {vg : Value} {gone : List Int}
theorem SkS.ne (K : SkS W w0 w H0 A0 H A N b g2 g5 vg gone) : g2 ≠ g5 := K.b2.ne_ K.b5 (by decide)
/-- The heap turned, the boxes and the list stay. -/
theorem SkS.step (K : SkS W w0 w H0 A0 H A N b g2 g5 vg gone) {H' : HpH} {A' : HpA} {N' b' : Nat} (gh : HpE H' H) (Q : HpS W w' H' A' N' b') (t : StP (HpF H A) (HpF H' A') w w') (hl : A'.a.live ≤ A.a.live) : SkS W w0 w' H0 A0 H' A' N' b' g2 g5 vg gone := by
  obtain ⟨S, c, hS⟩ := t.chg
  refine ⟨gh.trans K.gh, Q, K.t.trans t, K.L.st t, K.ln, c.blk K.b2 (fun h => K.f2 (hS _ h)), c.blk K.b5 (fun h => K.f5 (hS _ h)), K.n2, K.n5, fun hF => ?_, fun hF => ?_, K.e2, K.e5, K.wn, by have := K.cap; omega⟩
  · rcases t.fr _ hF with h | h
    · exact K.f2 h
    · have := K.b2.lt; omega
  · rcases t.fr _ hF with h | h
    · exact K.f5 h
    · have := K.b5.lt; omega
theorem SkS.chg0 (K : SkS W w0 w H0 A0 H A N b g2 g5 vg gone) (c : Chg [] w w') : SkS W w0 w' H0 A0 H A N b g2 g5 vg gone :=
  K.step (HpE.refl _) (K.Q.chg0 c) ((StP.refl _ _).then0 c) (Nat.le_refl _)
/-- The list turned, and told in its box. -/
theorem SkS.list (K : SkS W w0 w H0 A0 H A N b g2 g5 vg gone) {v' : Value} {l' : List Int} (O : OwnI 3 w' v' l') (s : Stp (fpv vg) (fpv v') w w') (hl : l'.length + A.a.live ≤ 100000000) : SkS W w0 (w'.setCell ⟨g5, 0, none⟩ v') H0 A0 H A N b g2 g5 v' l' := by
  have hW : W.heap.size ≤ w.heap.size := K.Q.S.c.size
  have L1 := K.L.push (fun k hk => K.Q.lt hk) hW O s
  have Q1 := K.Q.stp K.L s
  have e5 : g5 ∉ fpv v' := fun h => by
    rcases s.f _ h with h1 | h1
    · exact K.e5 h1
    · have := K.b5.lt; omega
  have e2 : g2 ∉ fpv v' := fun h => by
    rcases s.f _ h with h1 | h1
    · exact K.e2 h1
    · have := K.b2.lt; omega
  have c : Chg [g5] w' (w'.setCell ⟨g5, 0, none⟩ v') := (Chg.refl _ w').setCell (.inl (by simp)) _
  have b5 := (s.c.blk K.b5 K.e5).set_ 0 v'
  have b2 := c.blk (s.c.blk K.b2 K.e2) (by simpa using K.ne)
  refine ⟨K.gh, Q1.far c (fun k hk => by have : k = g5 := (by simpa using hk); rw [this]; exact K.f5) (fun k hk => by have : k = g5 := (by simpa using hk); rw [this]; exact Nat.le_trans K.wn K.n5), (K.t.then_new s.c K.ln).then_new c (fun k hk => by have : k = g5 := (by simpa using hk); rw [this]; exact K.n5), ⟨L1.o.chg c (fun k hk hm => e5 (by have : k = g5 := (by simpa using hm); rw [← this]; exact hk)), L1.nf, L1.new⟩, fun k hk => ?_, b2, b5, K.n2, K.n5, K.f2, K.f5, e2, e5, K.wn, hl⟩
  rcases s.f k hk with h1 | h1
  · exact K.ln k h1
  · exact Nat.le_trans K.t.size h1
end
theorem slty5 : SlTy Tryz.prog 22 3 := slty
theorem sweptL_len (s : Sp) (h : s.k < 16) : (sweptL s).length ≤ 64 := by
  unfold sweptL allN
  have h1 := List.length_filter_le (fun i => !(s.M i)) ((List.range (slK s.k)).filter s.F)
  have h2 := List.length_filter_le s.F (List.range (slK s.k))
  have h3 := (kF h).2.2.2.2.2.2.2.2
  simp only [List.length_range] at h2
  omega
set_option maxHeartbeats 3200000 in
set_option maxRecDepth 100000 in
theorem sksweep_ok (W w0 w : World) (H0 H : HpH) (A0 A : HpA) (N b g2 g5 : Nat) (vg : Value) (gone : List Int) (K : SkS W w0 w H0 A0 H A N b g2 g5 vg gone) (T0 : Tab W) (hN : N ≤ 6000) (id : Nat) (s : Sp) (hs : A.a.sp id = some s) :
    Calls Tryz.prog 94 #[.int .i64 (id : Nat), .pointer (some ⟨g2, 0, none⟩), .pointer (some ⟨g5, 0, none⟩)] w fun e w' => e = .returned (.tuple #[]) ∧ ∃ H' vg', SkS W w0 w' H0 A0 H' { A with a := sweepA A.a id s (sweptL s).length } N b g2 g5 vg' (gone ++ intsN ((sweptL s).map s.addr)) := by
  have b2 : w.cell? ⟨g2, 0, none⟩ = some (.pointer (some ⟨H0.gh, 0, none⟩)) := K.b2.cellv 0 rfl
  have b0 : w.cell? ⟨H0.gh, 0, none⟩ = some (.pointer (some ⟨H.ah.ga, 0, none⟩)) := by rw [← K.gh.gh]; exact K.Q.hb.cellv 0 rfl
  have hk := (K.Q.S.I.ok.pg id s hs).1
  have hsl := K.Q.S.I.swept_le hs
  have hsz := (kF hk).2.2.1
  have hll : (sweptL s).length ≤ 64 := sweptL_len s hk
  have HK := Lib.hid (And.intro K (And.intro T0 (And.intro hs (And.intro hsl hsz)))); clear K T0 hs hsl hsz hk
  go_enter Tryz.func94, Tryz.ntmps94
  go_wp2_with fail
  refine (s_sweep HK.out.1.Q.S HK.out.2.1 hN HK.out.2.2.1).mono ?_
  rintro e w1 ⟨u, h1, rfl, O1, f1, nf1, S1, st1⟩
  have Q1 := HK.out.1.Q.arena S1 st1
  have t1 := st_arena (H := H) (A := A) st1
  have hlive : (sweepA A.a id s (sweptL s).length).live ≤ A.a.live := Nat.sub_le _ _
  have K1 : SkS W w0 w1 H0 A0 { H with ah := h1 } { A with a := sweepA A.a id s (sweptL s).length } N b g2 g5 vg gone := HK.out.1.step ⟨rfl, rfl, S1.ga⟩ Q1 t1 hlive
  have hcap : (gone ++ intsN ((sweptL s).map s.addr)).length + (sweepA A.a id s (sweptL s).length).live ≤ 100000000 := by
    have h3 := HK.out.1.cap
    have h4 := HK.out.2.2.2.1
    have h5 := HK.out.2.2.2.2
    have h6 : (sweptL s).length ≤ (sweptL s).length * szK s.k := Nat.le_mul_of_pos_right _ h5
    rw [List.length_append]
    have h7 : (intsN ((sweptL s).map s.addr)).length = (sweptL s).length := by unfold intsN; simp
    have h8 : (sweepA A.a id s (sweptL s).length).live = A.a.live - (sweptL s).length * szK s.k := rfl
    omega
  have hnl : ∀ y ∈ intsN ((sweptL s).map s.addr), WfI y := fun y hy => by
    unfold intsN at hy
    obtain ⟨z, hz, rfl⟩ := List.mem_map.1 hy
    obtain ⟨i, hi, rfl⟩ := List.mem_map.1 hz
    have hi2 : i < slK s.k := by
      unfold sweptL allN at hi
      exact List.mem_range.1 (List.mem_filter.1 (List.mem_filter.1 hi).1).1
    obtain ⟨g1, g2, g3, -⟩ := HK.out.1.Q.S.I.ok.pg id s HK.out.2.2.1
    have := Sp.addr_page g1 hi2
    have := HK.out.1.Q.S.I.ok.n
    unfold WfI; omega
  have hlen7 : (intsN ((sweptL s).map s.addr)).length = (sweptL s).length := by unfold intsN; simp
  have SL := O1.sl hnl (by rw [hlen7]; unfold maxLen; omega)
  obtain ⟨ys, hys⟩ : ∃ ys, ys = intsN ((sweptL s).map s.addr) := ⟨_, rfl⟩
  rw [← hys] at SL hcap O1 hlen7
  have HE := Lib.hid hys
  have b5 : w1.cell? ⟨g5, 0, none⟩ = some vg := K1.b5.cellv 0 rfl
  have z5 : g5 < w1.heap.size := K1.b5.lt
  obtain ⟨Ag, ng, cg, hvg⟩ := K1.L.o.slice'
  subst hvg
  obtain ⟨Au, nu, cu, hvu⟩ := O1.slice'
  subst hvu
  have hll2 : gone.length + ys.length ≤ 1000000000000 := by rw [List.length_append] at hcap; omega
  have HX := Lib.hid (And.intro K1 (And.intro SL hcap)); clear K1 SL hcap hnl hlen7 hys O1 f1 nf1 S1 st1 Q1 t1 hlive b2 b0
  obtain ⟨m, hm⟩ : ∃ m, m = gone.length + ys.length := ⟨_, rfl⟩
  have HM := Lib.hid hm
  clear hm
  go_wp2_with (at_builtin; refine wpList_cat_n m (by exact HM.out.symm) rfl _ _ rfl slty5 rfl HX.out.1.L.o rfl HX.out.2.1 (by rw [HM.out]; exact hll2) ?_; intro A4 c4 w4 O4 s4; have q5 : w4.cell? ⟨g5, 0, none⟩ = some (.slice Ag ng cg) := s4.c.cellv z5 HX.out.1.e5 b5; have q6 : w4.frozen? ⟨g5, 0, none⟩ = false := (s4.c.blk HX.out.1.b5 HX.out.1.e5).frozen 0)
  have K2 := HX.out.1.list O4 s4 HX.out.2.2
  have HZ := Lib.hid K2; clear K2 O4 s4 q5 q6 b5
  go_wp2_with fail
  go_end0
  rw [← HE.out]
  exact ⟨rfl, { H with ah := h1 }, _, HZ.out⟩
end Go.Proofs.YtmafiagakoglkaaGreatDoor
