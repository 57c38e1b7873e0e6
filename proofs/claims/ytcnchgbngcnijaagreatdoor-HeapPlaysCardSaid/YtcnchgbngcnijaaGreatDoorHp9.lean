/- Package cache: Alloc. -/
import Derived.Test.YtcnchgbngcnijaaGreatDoorHp8
namespace Go.Proofs.YtcnchgbngcnijaaGreatDoor
open Go.RowKit Go.Maps

section
variable {k : Nat} {A B : HpA} {g : List Int}
theorem SkF.inv (h : SkF k A g B) (hk : k < 16) (I : HpI A none) : HpI B none := by
  induction h with
  | nil => exact I
  | snoc h h1 h2 h3 ih =>
    have J := ih
    rename_i B g xs x s
    have I1 : HpI { B with r := updV B.r (k * 4 + 3) xs } (some x) := J.take (by rw [h1]; exact List.perm_append_comm)
    obtain ⟨-, t, ht, hsk, -⟩ := J.r (k * 4 + 3) x (by rw [h1]; simp)
    rw [h2] at ht; injection ht with ht; subst ht
    exact (I1.sweep h2 _).put (k := k) (full := true) (s := sweptS s) (updF_same _ _ _) (by show s.k = k; omega) hk ⟨fun _ => h3, fun _ => rfl⟩
theorem SkF.own (h : SkF k A g B) : B.own = A.own ∧ B.P = A.P ∧ B.a.n = A.a.n ∧ B.a.l = A.a.l := by
  induction h with
  | nil => exact ⟨rfl, rfl, rfl, rfl⟩
  | snoc h h1 h2 h3 ih => exact ih
theorem SeekR.own {id : Nat} {ok : Bool} (h : SeekR k A id g ok B) : B.own = A.own ∧ B.P = A.P ∧ B.a.n = A.a.n := by
  cases h with
  | swept h => exact ⟨rfl, rfl, rfl⟩
  | unswept h => exact ⟨rfl, rfl, rfl⟩
  | full h1 h2 h3 => exact ⟨h3.own.1, h3.own.2.1, h3.own.2.2.1⟩
  | fresh h1 h2 h3 => exact ⟨h3.own.1, h3.own.2.1, h3.own.2.2.1⟩
  | again h1 h2 h3 h4 h5 h6 h7 h8 h9 => exact ⟨h9.own.1.trans h3.own.1, h9.own.2.1.trans h3.own.2.1, h9.own.2.2.1.trans h3.own.2.2.1⟩
  | no h1 h2 h3 h4 h5 h6 h7 h8 h9 => exact ⟨h9.own.1.trans h3.own.1, h9.own.2.1.trans h3.own.2.1, h9.own.2.2.1.trans h3.own.2.2.1⟩
theorem fresh_not_full (f : Nat) {k : Nat} (hk : k < 16) : ¬ fullS ⟨f, k, fun _ => false, fun _ => false, 0⟩ := fun h => by
  have := h 0 (Nat.le_refl _) (kF hk).2.2.2.2.2.2.2.1
  cases this
/-- What seek gives has room. -/
theorem SeekR.room {id : Nat} (h : SeekR k A id g true B) (hk : k < 16) (I : HpI A none) {N : Nat} (J : ArI N A.a) : ∃ s, B.a.sp id = some s ∧ s.k = k ∧ ¬ fullS s := by
  cases h with
  | swept h =>
    obtain ⟨-, s, hs, hk2, hf⟩ := I.r (k * 4) id (by rw [h]; simp)
    exact ⟨s, hs, by omega, fun h => by have := hf.2 h; omega⟩
  | unswept h1 h2 h3 =>
    rename_i xs s
    obtain ⟨-, t, ht, hk2, hf⟩ := I.r (k * 4 + 2) id (by rw [h2]; simp)
    rw [h3] at ht; injection ht with ht; subst ht
    exact ⟨sweptS s, updF_same _ _ _, by show s.k = k; omega, swept_not_full (J.mf id s · h3) (fun h => by have := hf.2 h; omega)⟩
  | full h1 h2 h3 h4 h5 h6 =>
    rename_i C g xs s
    obtain ⟨-, t, ht, hk2, hf⟩ := (h3.inv hk I).r (k * 4 + 3) id (by rw [h4]; simp)
    rw [h5] at ht; injection ht with ht; subst ht
    exact ⟨sweptS s, updF_same _ _ _, by show s.k = k; omega, h6⟩
  | fresh h1 h2 h3 h4 h5 h6 => exact ⟨_, updF_same _ _ _, rfl, fresh_not_full _ hk⟩
  | again h1 h2 h3 h4 h5 h6 h7 h8 h9 h10 h11 => exact ⟨_, updF_same _ _ _, rfl, fresh_not_full _ hk⟩
end
/-- A P's span put away if it is full. -/
def PreR (p q : Nat) (A A1 : HpA) : Prop :=
  (A.own p q = -1 ∧ A1 = A) ∨ ∃ (id : Nat) (s : Sp), A.own p q = id ∧ A.a.sp id = some s ∧ fullS s ∧ A1 = { A with r := updV A.r (q * 4 + 1) (A.r (q * 4 + 1) ++ [id]), own := updV A.own p (updV (A.own p) q (-1)) }
theorem PreR.inv {p q : Nat} {A A1 : HpA} (h : PreR p q A A1) (I : HpI A none) (hp : p < A.P) (hq : q < 16) : HpI A1 none ∧ A1.own p q = -1 ∧ A1.P = A.P ∧ A1.a = A.a := by
  rcases h with ⟨h, rfl⟩ | ⟨id, s, h, hs, hf, rfl⟩
  · exact ⟨I, h, rfl, rfl⟩
  · have h2 := I.back hp hq h
    rcases I.o p q hp hq with h3 | ⟨id', t, h3, ht, hk⟩
    · omega
    · have : id' = id := by omega
      subst this
      rw [hs] at ht; injection ht with ht; subst ht
      exact ⟨h2.put (k := q) (full := true) hs hk hq ⟨fun _ => hf, fun _ => rfl⟩, by show updV A.own p _ p q = -1; rw [updV_same, updV_same], rfl, rfl⟩
/-- A place found in a span. -/
def PlcS (s : Sp) (y : Nat) : Prop := s.fr ≤ y ∧ y < slK s.k ∧ s.F y = false ∧ ∀ x, s.fr ≤ x → x < y → s.F x = true
inductive AlcR (p q n : Nat) (black : Bool) (A : HpA) : Nat → List Int → Int → HpA → Prop
  | has {id y : Nat} {s : Sp} : A.own p q = id → A.a.sp id = some s → ¬ fullS s → PlcS s y → AlcR p q n black A (s.addr y) [] 0 { A with a := allocA A.a id s y n black }
  | got {A1 A2 : HpA} {id y : Nat} {s : Sp} {g : List Int} : PreR p q A A1 → SeekR q A1 id g true A2 → A2.a.sp id = some s → s.k = q → PlcS s y → AlcR p q n black A (s.addr y) g 0 { A2 with a := allocA A2.a id s y n black, own := updV A2.own p (updV (A2.own p) q (id : Nat)) }
  | no {A1 A2 : HpA} {g : List Int} : PreR p q A A1 → SeekR q A1 0 g false A2 → AlcR p q n black A 0 g 3 A2
def HaPost (W w : World) (H : HpH) (A : HpA) (N b p n : Nat) (black : Bool) (e : Ending) (w' : World) : Prop :=
  ∃ q x gone c vg A' N' b' H', OfSays n q ∧ AlcR p q n black A x gone c A' ∧ e = .returned (.tuple #[.int .i64 (x : Nat), vg, .int .i64 c]) ∧ N' ≤ N + 1 ∧ b' ≤ b + 7 ∧ HpE H' H ∧ HpS W w' H' A' N' b' ∧ StP (HpF H A) (HpF H' A') w w' ∧ LsP W (HpF H' A') w' vg gone ∧ (∀ k ∈ fpv vg, w.heap.size ≤ k) ∧ HpI A' none
theorem al_room {a : Ar} {id n : Nat} {s : Sp} {w0 w : World} {g N b : Nat} {h : ArH} {black : Bool} {e : Ending} {w' : World} (hs : a.sp id = some s) (h1 : 1 ≤ n) (h2 : n ≤ szK s.k) (hf : ¬ fullS s) (hp : AlPost' w0 w g h a N b (id : Nat) (n : Nat) black e w') :
    ∃ y h', PlcS s y ∧ e = .returned (.tuple #[.int .i64 (s.addr y : Nat), .int .i64 0]) ∧ ArS w0 w' g h' (allocA a id s y n black) N (b + 1) ∧ StA h a h' (allocA a id s y n black) w w' := by
  have e0 : spI a (id : Nat) = some s := by unfold spI; rw [if_pos (by omega), Int.toNat_natCast]; exact hs
  rcases hp with ⟨c, he, S', c1, hc⟩ | ⟨s', y, h', h0, hs', hn1, hn2, hy1, hy2, hyF, hyl, he, S', st⟩
  · rw [e0] at hc
    rcases hc with ⟨hc, -⟩ | ⟨s', hs', ⟨hc, -⟩ | ⟨-, -, hfull, -⟩⟩
    · cases hc
    · injection hs' with hs'; subst hs'
      omega
    · injection hs' with hs'; subst hs'
      exact absurd hfull hf
  · rw [Int.toNat_natCast] at hs' S' st
    rw [hs] at hs'; injection hs' with hs'; subst hs'
    rw [Int.toNat_natCast] at S' st
    exact ⟨y, h', ⟨hy1, hy2, hyF, hyl⟩, he, S', st⟩
/-- The state ahead of the place's taking: the P has the span. -/
structure PrA (W w0 w : World) (H : HpH) (A : HpA) (N b p q : Nat) (H1 : HpH) (A1 : HpA) (N1 b1 : Nat) (vg : Value) (gone : List Int) (id : Nat) (s : Sp) : Prop where
  gh : HpE H1 H
  Q : HpS W w H1 A1 N1 b1
  t : StP (HpF H A) (HpF H1 A1) w0 w
  L : LsP W (HpF H1 A1) w vg gone
  ln : ∀ k ∈ fpv vg, w0.heap.size ≤ k
  I : HpI A1 none
  o : A1.own p q = id
  hs : A1.a.sp id = some s
  hk : s.k = q
  nf : ¬ fullS s
  hN : N1 ≤ N + 1
  hb : b1 ≤ b + 6
theorem PrA.chg0 {W w0 w w' : World} {H : HpH} {A : HpA} {N b p q : Nat} {H1 : HpH} {A1 : HpA} {N1 b1 : Nat} {vg : Value} {gone : List Int} {id : Nat} {s : Sp} (P : PrA W w0 w H A N b p q H1 A1 N1 b1 vg gone id s) (c : Chg [] w w') : PrA W w0 w' H A N b p q H1 A1 N1 b1 vg gone id s :=
  ⟨P.gh, P.Q.chg0 c, P.t.then0 c, P.L.chg0 c, P.ln, P.I, P.o, P.hs, P.hk, P.nf, P.hN, P.hb⟩
theorem PrA.done {W w0 w w' : World} {H : HpH} {A : HpA} {N b p q : Nat} {H1 : HpH} {A1 : HpA} {N1 b1 : Nat} {vg : Value} {gone : List Int} {id : Nat} {s : Sp} (P : PrA W w0 w H A N b p q H1 A1 N1 b1 vg gone id s) (hp : p < A1.P) (hq : q < 16) {y n : Nat} {black : Bool} {h' : ArH}
    (S' : ArS W w' H1.ah.ga h' (allocA A1.a id s y n black) N1 (b1 + 1)) (st : StA H1.ah A1.a h' (allocA A1.a id s y n black) w w') :
    HpE { H1 with ah := h' } H ∧ HpS W w' { H1 with ah := h' } { A1 with a := allocA A1.a id s y n black } N1 (b1 + 1) ∧ StP (HpF H A) (HpF { H1 with ah := h' } { A1 with a := allocA A1.a id s y n black }) w0 w' ∧ LsP W (HpF { H1 with ah := h' } { A1 with a := allocA A1.a id s y n black }) w' vg gone ∧ HpI { A1 with a := allocA A1.a id s y n black } none :=
  ⟨⟨P.gh.gh, P.gh.gp, S'.ga.trans P.gh.ga⟩, P.Q.arena S' st, P.t.trans (st_arena st), P.L.st (st_arena st), P.I.turn (s' := allocS s y black) P.hs rfl rfl (P.I.ro p q id hp hq P.o)⟩
def AkPost (W w0 w2 : World) (H : HpH) (A : HpA) (N b p q : Nat) (A2 : HpA) (e : Ending) (w' : World) : Prop :=
  (∃ gone vg A3 N3 b3 H3, SeekR q A2 0 gone false A3 ∧ e = .returned (.tuple #[.int .i64 ((0 : Nat) : Int), vg, .bool false]) ∧ N3 ≤ N + 1 ∧ b3 ≤ b + 6 ∧ HpE H3 H ∧ HpS W w' H3 A3 N3 b3 ∧ StP (HpF H A) (HpF H3 A3) w0 w' ∧ LsP W (HpF H3 A3) w' vg gone ∧ (∀ k ∈ fpv vg, w0.heap.size ≤ k) ∧ HpI A3 none) ∨
  ∃ id s gone vg A3 N3 b3 H3, SeekR q A2 id gone true A3 ∧ e = .returned (.tuple #[.int .i64 (id : Nat), vg, .bool true]) ∧ N3 ≤ N + 1 ∧ b3 ≤ b + 6 ∧ HpE H3 H ∧ HpS W w' H3 A3 N3 b3 ∧ StP (HpF H A) (HpF H3 A3) w0 w' ∧ LsP W (HpF H3 A3) w' vg gone ∧ (∀ k ∈ fpv vg, w0.heap.size ≤ k) ∧ HpI A3 (some id) ∧ A3.a.sp id = some s ∧ s.k = q ∧ ¬ fullS s
set_option maxHeartbeats 6400000 in
set_option maxRecDepth 100000 in
theorem halloc_ok (W w : World) (H : HpH) (A : HpA) (N b : Nat) (Q : HpS W w H A N b) (I : HpI A none) (T0 : Tab W) (hN : N + 1 ≤ 6000) (hb : b + 7 ≤ 1000000) (p n : Nat) (hp : p < A.P) (hn1 : 1 ≤ n) (hn2 : n ≤ 256) (black : Bool) : Calls Tryz.prog 25 #[.pointer (some ⟨H.gh, 0, none⟩), .int .i64 (p : Nat), .int .i64 (n : Nat), .bool black] w (HaPost W w H A N b p n black) := by
  have b2 : w.cell? ⟨H.gh, 2, none⟩ = some H.vo := Q.hb.cellv 2 rfl
  obtain ⟨g, c, hvo, c1, hcap⟩ := Q.vo_at hp
  rw [hvo] at b2
  have hp0 : (0 : Int) ≤ (p : Int) := by omega
  have hp1 : (p : Int) < (A.P : Int) := by omega
  have hp2 : ¬ (A.P : Int) ≤ (p : Int) := by omega
  have hp3 : ¬ (p : Int) < 0 := by omega
  have hP := I.P
  have hgh := Q.hb.lt
  have HQ := Lib.hid (And.intro Q (And.intro I (And.intro T0 hvo))); clear Q I T0 hvo
  go_enter Tryz.func25, Tryz.ntmps25
  go_wp2_with fail
  refine (cof_ok w n hn1 hn2).mono ?_
  rintro e w1 ⟨q, hof, rfl, cc⟩
  have hq := hof.1
  have hq0 : (0 : Int) ≤ (q : Int) := by omega
  have hq1 : (q : Int) < 16 := by omega
  have hq2 : ¬ (q : Int) < 0 := by omega
  have b2 : w1.cell? ⟨H.gh, 2, none⟩ = some (.slice (some ⟨g, 0, none⟩) A.P c) := cc.cellv hgh (by simp) b2
  have Q1 := HQ.out.1.chg0 cc
  have c1 : w1.cell? ⟨g, p, none⟩ = some (.slice (some ⟨H.gp p, 0, none⟩) 16 16) := by
    obtain ⟨g', c', e1, c2, -⟩ := Q1.vo_at hp
    rw [HQ.out.2.2.2] at e1
    injection e1 with e1 _ _
    injection e1 with e1
    injection e1 with e1
    rw [e1]; exact c2
  have co := Q1.own_at hp hq
  have b0 : w1.cell? ⟨H.gh, 0, none⟩ = some (.pointer (some ⟨H.ah.ga, 0, none⟩)) := Q1.hb.cellv 0 rfl
  have b1 : w1.cell? ⟨H.gh, 1, none⟩ = some (.pointer (some ⟨H.gc, 0, none⟩)) := Q1.hb.cellv 1 rfl
  have hgh1 := Q1.hb.lt
  have hgp1 := (Q1.g p hp).lt
  have t1 : StP (HpF H A) (HpF H A) w w1 := (StP.refl _ _).then0 cc
  have HX := Lib.hid (And.intro Q1 (And.intro t1 hof)); clear Q1 t1 hof cc hgh
  obtain ⟨o, ho⟩ : ∃ o, o = A.own p q := ⟨_, rfl⟩
  rw [← ho] at co
  go_upto_region 6 with fail
  have seekp : ∀ (w2 : World) (H2 : HpH) (A2 : HpA), HpE H2 H → HpS W w2 H2 A2 N b → StP (HpF H A) (HpF H2 A2) w w2 → PreR p q A A2 → Calls Tryz.prog 76 #[.pointer (some ⟨H.gh, 0, none⟩), .int .i64 (q : Nat)] w2 (AkPost W w w2 H A N b p q A2) := fun w2 H2 A2 he Q2 t2 hpre => by
    have h1 := hpre.inv HQ.out.2.1 hp hq
    have h2 := hseek_ok W w2 H2 A2 N b Q2 h1.1 HQ.out.2.2.1 hN (by omega) q hq
    rw [he.gh] at h2
    refine h2.mono ?_
    rintro e w3 ⟨id, gone, vg, ok, A3, N3, b3, H3, hsk, he3, hN3, hb3, hE, Q3, t3, L3, ln3, hI1, hI2⟩
    cases ok with
    | false =>
      have h0 : id = 0 := by cases hsk; rfl
      subst h0
      exact .inl ⟨gone, vg, A3, N3, b3, H3, hsk, he3, hN3, hb3, hE.trans he, Q3, t2.trans t3, L3, fun k hk => Nat.le_trans t2.size (ln3 k hk), hI2 rfl⟩
    | true =>
      obtain ⟨s, hs, hsk2, hnf⟩ := hsk.room hq h1.1 Q2.S.I
      exact .inr ⟨id, s, gone, vg, A3, N3, b3, H3, hsk, he3, hN3, hb3, hE.trans he, Q3, t2.trans t3, L3, fun k hk => Nat.le_trans t2.size (ln3 k hk), hI1 rfl, hs, hsk2, hnf⟩
  have SK := Lib.hid seekp; clear seekp
  have seekp : ∀ (w2 : World) (H2 : HpH) (A2 : HpA), HpE H2 H → HpS W w2 H2 A2 N b → StP (HpF H A) (HpF H2 A2) w w2 → PreR p q A A2 → Calls Tryz.prog 76 #[.pointer (some ⟨H.gh, 0, none⟩), .int .i64 (q : Nat)] w2 (AkPost W w w2 H A N b p q A2) := fun w2 H2 A2 he Q2 t2 hpre => by
    have h1 := hpre.inv HQ.out.2.1 hp hq
    have h2 := hseek_ok W w2 H2 A2 N b Q2 h1.1 HQ.out.2.2.1 hN (by omega) q hq
    rw [he.gh] at h2
    refine h2.mono ?_
    rintro e w3 ⟨id, gone, vg, ok, A3, N3, b3, H3, hsk, he3, hN3, hb3, hE, Q3, t3, L3, ln3, hI1, hI2⟩
    cases ok with
    | false =>
      have h0 : id = 0 := by cases hsk; rfl
      subst h0
      exact .inl ⟨gone, vg, A3, N3, b3, H3, hsk, he3, hN3, hb3, hE.trans he, Q3, t2.trans t3, L3, fun k hk => Nat.le_trans t2.size (ln3 k hk), hI2 rfl⟩
    | true =>
      obtain ⟨s, hs, hsk2, hnf⟩ := hsk.room hq h1.1 Q2.S.I
      exact .inr ⟨id, s, gone, vg, A3, N3, b3, H3, hsk, he3, hN3, hb3, hE.trans he, Q3, t2.trans t3, L3, fun k hk => Nat.le_trans t2.size (ln3 k hk), hI1 rfl, hs, hsk2, hnf⟩
  have SK := Lib.hid seekp; clear seekp
  have seekp : ∀ (w2 : World) (H2 : HpH) (A2 : HpA), HpE H2 H → HpS W w2 H2 A2 N b → StP (HpF H A) (HpF H2 A2) w w2 → PreR p q A A2 → Calls Tryz.prog 76 #[.pointer (some ⟨H.gh, 0, none⟩), .int .i64 (q : Nat)] w2 (AkPost W w w2 H A N b p q A2) := fun w2 H2 A2 he Q2 t2 hpre => by
    have h1 := hpre.inv HQ.out.2.1 hp hq
    have h2 := hseek_ok W w2 H2 A2 N b Q2 h1.1 HQ.out.2.2.1 hN (by omega) q hq
    rw [he.gh] at h2
    refine h2.mono ?_
    rintro e w3 ⟨id, gone, vg, ok, A3, N3, b3, H3, hsk, he3, hN3, hb3, hE, Q3, t3, L3, ln3, hI1, hI2⟩
    cases ok with
    | false =>
      have h0 : id = 0 := by cases hsk; rfl
      subst h0
      exact .inl ⟨gone, vg, A3, N3, b3, H3, hsk, he3, hN3, hb3, hE.trans he, Q3, t2.trans t3, L3, fun k hk => Nat.le_trans t2.size (ln3 k hk), hI2 rfl⟩
    | true =>
      obtain ⟨s, hs, hsk2, hnf⟩ := hsk.room hq h1.1 Q2.S.I
      exact .inr ⟨id, s, gone, vg, A3, N3, b3, H3, hsk, he3, hN3, hb3, hE.trans he, Q3, t2.trans t3, L3, fun k hk => Nat.le_trans t2.size (ln3 k hk), hI1 rfl, hs, hsk2, hnf⟩
  have SK := Lib.hid seekp; clear seekp
  rcases HQ.out.2.1.o p q hp hq with h1 | ⟨id, s, h1, hs, hsk⟩
  · rw [← ho] at h1
    subst h1
    have HO := Lib.hid ho; clear ho
    go_quiet (fail)
    go_wp2_with fail
    refine (SK.out _ H A (HpE.refl _) (HX.out.1.chg0 ((Chg.refl _ _).drewN _)) (HX.out.2.1.then0 ((Chg.refl _ _).drewN _)) (.inl ⟨HO.out.symm, rfl⟩)).mono ?_
    have PR : Hid (PreR p q A A) := Lib.hid (.inl ⟨HO.out.symm, rfl⟩)
    rintro e w3 hk3
    clear c1 b0 b1 b2 co hgh1 hgp1
    rcases hk3 with ⟨gone, vg, A3, N3, b3, H3, hsk, rfl, hN3, hb3, hE, Q3, t3, L3, ln3, I3⟩ | ⟨id, s, gone, vg, A3, N3, b3, H3, hsk, rfl, hN3, hb3, hE, Q3, t3, L3, ln3, I3, hs, hsk2, hnf⟩
    · have H3' := Lib.hid (And.intro hsk (And.intro hE (And.intro Q3 (And.intro t3 (And.intro L3 (And.intro ln3 I3)))))); clear hsk hE Q3 t3 L3 ln3 I3
      go_wp2_with fail
      go_ret3
      exact ⟨q, 0, gone, 3, vg, A3, N3, b3, H3, HX.out.2.2, .no PR.out H3'.out.1, rfl, hN3, by omega, H3'.out.2.1, H3'.out.2.2.1, H3'.out.2.2.2.1, H3'.out.2.2.2.2.1, H3'.out.2.2.2.2.2.1, H3'.out.2.2.2.2.2.2⟩
    · have hpre := PR.out.inv HQ.out.2.1 hp hq
      have ho3 := hsk.own
      have hp3' : p < A3.P := by rw [ho3.2.1, hpre.2.2.1]; exact hp
      have hm1 : A3.own p q = -1 := by rw [ho3.1]; exact hpre.2.1
      have co : w3.cell? ⟨H.gp p, q, none⟩ = some (.int .i64 (-1)) := by rw [← hE.gp, ← hm1]; exact Q3.own_at hp3' hq
      have cf : w3.frozen? ⟨H.gp p, q, none⟩ = false := by rw [← hE.gp]; exact (Q3.g p hp3').frozen q
      have Q4 := Q3.set hp3' hq (id : Nat)
      have t4 := t3.trans (st_set (H := H3) (A := A3) (k := q) hp3' (id : Nat) (updV A3.own p (updV (A3.own p) q (id : Nat))))
      have L4 := L3.st (st_set (H := H3) (A := A3) (k := q) hp3' (id : Nat) (updV A3.own p (updV (A3.own p) q (id : Nat))))
      rw [hE.gp] at Q4 t4 L4
      have I4 := I3.give hs hp3' hq hsk2 hm1
      obtain ⟨w4, hw4⟩ : ∃ w4, w4 = w3.setCell ⟨H.gp p, q, none⟩ (.int .i64 (id : Nat)) := ⟨_, rfl⟩
      rw [← hw4] at Q4 t4 L4
      have HA : Hid (PrA W w w4 H A N b p q H3 { A3 with own := updV A3.own p (updV (A3.own p) q (id : Nat)) } N3 b3 vg gone id s) := Lib.hid ⟨hE, Q4, t4, L4, ln3, I4, by show updV A3.own p _ p q = _; rw [updV_same, updV_same], hs, hsk2, hnf, hN3, hb3⟩
      have HS := Lib.hid (And.intro hsk (And.intro hs hsk2)); clear hsk hE Q3 t3 L3 ln3 I3 hs hsk2 hnf Q4 t4 L4 I4 hpre ho3 hm1 hN3 hb3
      go_upto_region 15 with fail
      rw [← hw4]
      clear hw4 cf co
      have b0 : w4.cell? ⟨H.gh, 0, none⟩ = some (.pointer (some ⟨H3.ah.ga, 0, none⟩)) := by rw [← HA.out.gh.gh]; exact HA.out.Q.hb.cellv 0 rfl
      have co : w4.cell? ⟨H.gp p, q, none⟩ = some (.int .i64 (id : Nat)) := by rw [← HA.out.gh.gp, ← HA.out.o]; exact HA.out.Q.own_at hp3' hq
      have hid := HA.out.Q.S.I.ok.top id s HA.out.hs
      have hid2 := HA.out.hN
      have hid3 := HA.out.hb
      have hghl : H.gh < w4.heap.size := by rw [← HA.out.gh.gh]; exact HA.out.Q.hb.lt
      have hgpl : H.gp p < w4.heap.size := by rw [← HA.out.gh.gp]; exact (HA.out.Q.g p hp3').lt
      skip
      go_region_held3 (fun w' => w'.cell? ⟨H.gh, 0, none⟩ = some (.pointer (some ⟨H3.ah.ga, 0, none⟩)) ∧ w'.cell? ⟨H.gp p, q, none⟩ = some (.int .i64 (id : Nat))) (go_keep)
        (first | (go_at_call 46; refine (s_alloc (ArS.chg0 HA.out.Q.S (by repeat (first | assumption | exact Chg.refl [] w4 | refine Chg.drew ?_) : Chg [] w4 _)) HQ.out.2.2.1 (by omega) (by omega) (id : Nat) (n : Nat) (by unfold Wf64; omega) black).mono ?_; intro e w7 hal; obtain ⟨y, h7, hy, rfl, S7, st7⟩ := al_room HA.out.hs hn1 (by rw [HA.out.hk]; exact HX.out.2.2.2.1) HA.out.nf hal; have K7 := PrA.done (PrA.chg0 HA.out (by repeat (first | assumption | exact Chg.refl [] w4 | refine Chg.drew ?_))) hp3' hq S7 st7; have y0 : w7.cell? ⟨H.gh, 0, none⟩ = some (.pointer (some ⟨H3.ah.ga, 0, none⟩)) := (by have h0 := K7.2.1.hb.cellv 0 rfl; rw [← S7.ga, ← K7.1.gh]; exact h0); have y1 : w7.cell? ⟨H.gp p, q, none⟩ = some (.int .i64 (id : Nat)) := (by have h0 := K7.2.1.own_at hp3' hq; rw [← K7.1.gp, ← HA.out.o]; exact h0)))
      have HZ := Lib.hid (And.intro K7 hy); clear K7 S7 st7 hal y0 y1 b0 co hy hghl hgpl
      go_wp2_with fail
      go_ret3
      exact ⟨q, s.addr y, gone, 0, vg, { A3 with own := updV A3.own p (updV (A3.own p) q (id : Nat)), a := allocA A3.a id s y n black }, N3, b3 + 1, _, HX.out.2.2, .got PR.out HS.out.1 HS.out.2.1 HS.out.2.2 HZ.out.2, rfl, HA.out.hN, by omega, HZ.out.1.1, HZ.out.1.2.1, HZ.out.1.2.2.1, HZ.out.1.2.2.2.1, HA.out.ln, HZ.out.1.2.2.2.2⟩
  · rw [← ho] at h1
    subst h1
    have hne : (((id : Nat) : Int) != -1) = true := by rw [bne_iff_ne]; omega
    have hne2 : (((id : Nat) : Int) == -1) = false := by rw [beq_eq_false_iff_ne]; omega
    have hid := HX.out.1.S.I.ok.top id s hs
    have HO := Lib.hid (And.intro ho (And.intro hs hsk)); clear ho hs hsk
    go_region_held3 (fun w' => w'.cell? ⟨H.gh, 0, none⟩ = some (.pointer (some ⟨H.ah.ga, 0, none⟩)) ∧ w'.cell? ⟨H.gp p, q, none⟩ = some (.int .i64 (id : Nat))) (go_keep)
      (first | (go_at_call 32; refine (s_full (ArS.chg0 HX.out.1.S (by repeat (first | assumption | exact Chg.refl [] w1 | refine Chg.drew ?_) : Chg [] w1 _)) HQ.out.2.2.1 (id : Nat) (by unfold Wf64; omega)).mono ?_; rintro e w5 ⟨bo, rfl, cf, hbo⟩; have D : Chg [] w1 w5 := Chg.trans (by repeat (first | assumption | exact Chg.refl [] w1 | refine Chg.drew ?_) : Chg [] w1 _) cf; have z0 : w5.cell? ⟨H.gh, 0, none⟩ = some (.pointer (some ⟨H.ah.ga, 0, none⟩)) := D.cellv hgh1 (by simp) b0; have z1 : w5.cell? ⟨H.gp p, q, none⟩ = some (.int .i64 (id : Nat)) := D.cellv hgp1 (by simp) co))
    have hbo2 := full_iff HO.out.2.1 hbo
    have Q5 := HX.out.1.chg0 D
    have t5 := HX.out.2.1.then0 D
    cases bo with
    | false =>
      have P6 : PrA W w w5 H A N b p q H A N b (.slice none 0 0) [] id s := ⟨HpE.refl _, Q5, t5, LsP.nil _ _ _, fun k hk => by simp [fpv, Value.ownBlock] at hk, HQ.out.2.1, HO.out.1.symm, HO.out.2.1, HO.out.2.2, fun h => (by have := hbo2.2 h; cases this), Nat.le_succ _, by omega⟩
      have HA := Lib.hid P6; clear P6 hbo hbo2 Q5 t5 cf D z0 z1 b0 b1 b2 c1 co hid
      clear hgh1 hgp1
      have b0 : w5.cell? ⟨H.gh, 0, none⟩ = some (.pointer (some ⟨H.ah.ga, 0, none⟩)) := by rw [← HA.out.gh.gh]; exact HA.out.Q.hb.cellv 0 rfl
      have co : w5.cell? ⟨H.gp p, q, none⟩ = some (.int .i64 (id : Nat)) := by rw [← HA.out.gh.gp, ← HA.out.o]; exact HA.out.Q.own_at hp hq
      have hid := HA.out.Q.S.I.ok.top id s HA.out.hs
      have hid2 := HA.out.hN
      have hid3 := HA.out.hb
      have hghl : H.gh < w5.heap.size := by rw [← HA.out.gh.gh]; exact HA.out.Q.hb.lt
      have hgpl : H.gp p < w5.heap.size := by rw [← HA.out.gh.gp]; exact (HA.out.Q.g p hp).lt
      go_upto_region 15 with fail
      go_region_held3 (fun w' => w'.cell? ⟨H.gh, 0, none⟩ = some (.pointer (some ⟨H.ah.ga, 0, none⟩)) ∧ w'.cell? ⟨H.gp p, q, none⟩ = some (.int .i64 (id : Nat))) (go_keep)
        (first | (go_at_call 46; refine (s_alloc (ArS.chg0 HA.out.Q.S (by repeat (first | assumption | exact Chg.refl [] w5 | refine Chg.drew ?_) : Chg [] w5 _)) HQ.out.2.2.1 (by omega) (by omega) (id : Nat) (n : Nat) (by unfold Wf64; omega) black).mono ?_; intro e w7 hal; obtain ⟨y, h7, hy, rfl, S7, st7⟩ := al_room HA.out.hs hn1 (by rw [HA.out.hk]; exact HX.out.2.2.2.1) HA.out.nf hal; have K7 := PrA.done (PrA.chg0 HA.out (by repeat (first | assumption | exact Chg.refl [] w5 | refine Chg.drew ?_))) hp hq S7 st7; have y0 : w7.cell? ⟨H.gh, 0, none⟩ = some (.pointer (some ⟨H.ah.ga, 0, none⟩)) := (by have h0 := K7.2.1.hb.cellv 0 rfl; rw [← S7.ga, ← K7.1.gh]; exact h0); have y1 : w7.cell? ⟨H.gp p, q, none⟩ = some (.int .i64 (id : Nat)) := (by have h0 := K7.2.1.own_at hp hq; rw [← K7.1.gp, ← HA.out.o]; exact h0)))
      have HZ := Lib.hid (And.intro K7 hy); clear K7 S7 st7 hal y0 y1 b0 co hy hghl hgpl
      go_wp2_with fail
      go_ret3
      exact ⟨q, s.addr y, [], 0, _, { A with a := allocA A.a id s y n black }, N, b + 1, _, HX.out.2.2, .has HO.out.1.symm HO.out.2.1 HA.out.nf HZ.out.2, rfl, Nat.le_succ _, by omega, HZ.out.1.1, HZ.out.1.2.1, HZ.out.1.2.2.1, HZ.out.1.2.2.2.1, HA.out.ln, HZ.out.1.2.2.2.2⟩
    | true =>
      have hfull := hbo2.1 rfl
      have b1 : w5.cell? ⟨H.gh, 1, none⟩ = some (.pointer (some ⟨H.gc, 0, none⟩)) := Q5.hb.cellv 1 rfl
      have co : w5.cell? ⟨H.gp p, q, none⟩ = some (.int .i64 (id : Nat)) := z1
      have hgh1 := Q5.hb.lt
      have hgp1 := (Q5.g p hp).lt
      have B5 := HQ.out.2.1.B Q5.S.I.ok (by omega)
      have hI1 := HQ.out.2.1.back hp hq HO.out.1.symm
      have H5 := Lib.hid (And.intro Q5 (And.intro t5 (And.intro hfull (And.intro B5 hI1)))); clear hbo hbo2 Q5 t5 cf D z0 z1 b0 b2 c1 hfull B5 hI1
      go_upto_region 7 with fail
      go_region_held3 (fun w' => w'.cell? ⟨H.gh, 1, none⟩ = some (.pointer (some ⟨H.gc, 0, none⟩)) ∧ w'.cell? ⟨H.gp p, q, none⟩ = some (.int .i64 (id : Nat))) (go_keep)
        (first | (go_at_call 75; refine (cput_ok _ H.gc H.gl H.v A.r (IsCe.chg0 H5.out.1.C (by repeat (first | assumption | exact Chg.refl [] w5 | refine Chg.drew ?_) : Chg [] w5 _)) q hq id (by omega) true (fun j => Nat.le_trans (H5.out.2.2.2.1.l j) (by decide)) H5.out.2.2.2.1.x).mono ?_; rintro e w6 ⟨rfl, r6, hd, v6, I6, s6⟩; have Q6 := HpS.central (HpS.chg0 H5.out.1 (by repeat (first | assumption | exact Chg.refl [] w5 | refine Chg.drew ?_))) I6 s6; have t6 := StP.trans (StP.then0 H5.out.2.1 (by repeat (first | assumption | exact Chg.refl [] w5 | refine Chg.drew ?_))) (st_central (H := H) (A := A) (r' := updV r6 (q * 4 + sd true) (r6 (q * 4 + sd true) ++ [id])) s6); have y0 : w6.cell? ⟨H.gh, 1, none⟩ = some (.pointer (some ⟨H.gc, 0, none⟩)) := Q6.hb.cellv 1 rfl; have y1 : w6.cell? ⟨H.gp p, q, none⟩ = some (.int .i64 (id : Nat)) := (by have h0 := Q6.own_at hp hq; rw [HO.out.1]; exact h0)))
      have e6 := hd.none_ (fun j hj => HQ.out.2.1.ro p q id hp hq HO.out.1.symm j hj)
      rw [e6] at Q6 t6
      have q5 : w6.frozen? ⟨H.gp p, q, none⟩ = false := (Q6.g p hp).frozen q
      have Q7 := Q6.set hp hq (-1)
      have t7 := t6.trans (st_set (H := { H with v := v6 }) (A := { A with r := updV A.r (q * 4 + sd true) (A.r (q * 4 + sd true) ++ [id]) }) (k := q) hp (-1) (updV A.own p (updV (A.own p) q (-1))))
      obtain ⟨w8, hw8⟩ : ∃ w8, w8 = w6.setCell ⟨H.gp p, q, none⟩ (.int .i64 (-1)) := ⟨_, rfl⟩
      rw [← hw8] at Q7 t7
      have c8 : w8.cell? ⟨H.gp p, q, none⟩ = some (.int .i64 (-1)) := by
        have h0 := Q7.own_at hp hq
        have e0 : updV A.own p (updV (A.own p) q (-1)) p q = -1 := by rw [updV_same, updV_same]
        rw [← e0]; exact h0
      have PR : Hid (PreR p q A { A with r := updV A.r (q * 4 + 1) (A.r (q * 4 + 1) ++ [id]), own := updV A.own p (updV (A.own p) q (-1)) }) := Lib.hid (.inr ⟨id, s, HO.out.1.symm, HO.out.2.1, H5.out.2.2.1, rfl⟩)
      have H7 := Lib.hid (And.intro Q7 t7); clear Q7 t7 Q6 t6 I6 s6 hd b1 co y0 e6
      go_upto_region 9 with fail
      rw [← hw8]
      clear hw8 y1 q5
      go_wp2_with fail
      refine (SK.out _ { H with v := v6 } { A with r := updV A.r (q * 4 + 1) (A.r (q * 4 + 1) ++ [id]), own := updV A.own p (updV (A.own p) q (-1)) } ⟨rfl, rfl, rfl⟩ H7.out.1 H7.out.2 PR.out).mono ?_
      rintro e w3 hk3
      clear c8 hgh1 hgp1 hid hne hne2
      rcases hk3 with ⟨gone, vg, A3, N3, b3, H3, hsk, rfl, hN3, hb3, hE, Q3, t3, L3, ln3, I3⟩ | ⟨id, s, gone, vg, A3, N3, b3, H3, hsk, rfl, hN3, hb3, hE, Q3, t3, L3, ln3, I3, hs, hsk2, hnf⟩
      · have H3' := Lib.hid (And.intro hsk (And.intro hE (And.intro Q3 (And.intro t3 (And.intro L3 (And.intro ln3 I3)))))); clear hsk hE Q3 t3 L3 ln3 I3
        go_wp2_with fail
        go_ret3
        exact ⟨q, 0, gone, 3, vg, A3, N3, b3, H3, HX.out.2.2, .no PR.out H3'.out.1, rfl, hN3, by omega, H3'.out.2.1, H3'.out.2.2.1, H3'.out.2.2.2.1, H3'.out.2.2.2.2.1, H3'.out.2.2.2.2.2.1, H3'.out.2.2.2.2.2.2⟩
      · have hpre := PR.out.inv HQ.out.2.1 hp hq
        have ho3 := hsk.own
        have hp3' : p < A3.P := by rw [ho3.2.1, hpre.2.2.1]; exact hp
        have hm1 : A3.own p q = -1 := by rw [ho3.1]; exact hpre.2.1
        have co : w3.cell? ⟨H.gp p, q, none⟩ = some (.int .i64 (-1)) := by rw [← hE.gp, ← hm1]; exact Q3.own_at hp3' hq
        have cf : w3.frozen? ⟨H.gp p, q, none⟩ = false := by rw [← hE.gp]; exact (Q3.g p hp3').frozen q
        have Q4 := Q3.set hp3' hq (id : Nat)
        have t4 := t3.trans (st_set (H := H3) (A := A3) (k := q) hp3' (id : Nat) (updV A3.own p (updV (A3.own p) q (id : Nat))))
        have L4 := L3.st (st_set (H := H3) (A := A3) (k := q) hp3' (id : Nat) (updV A3.own p (updV (A3.own p) q (id : Nat))))
        rw [hE.gp] at Q4 t4 L4
        have I4 := I3.give hs hp3' hq hsk2 hm1
        obtain ⟨w4, hw4⟩ : ∃ w4, w4 = w3.setCell ⟨H.gp p, q, none⟩ (.int .i64 (id : Nat)) := ⟨_, rfl⟩
        rw [← hw4] at Q4 t4 L4
        have HA : Hid (PrA W w w4 H A N b p q H3 { A3 with own := updV A3.own p (updV (A3.own p) q (id : Nat)) } N3 b3 vg gone id s) := Lib.hid ⟨hE, Q4, t4, L4, ln3, I4, by show updV A3.own p _ p q = _; rw [updV_same, updV_same], hs, hsk2, hnf, hN3, hb3⟩
        have HS := Lib.hid (And.intro hsk (And.intro hs hsk2)); clear hsk hE Q3 t3 L3 ln3 I3 hs hsk2 hnf Q4 t4 L4 I4 hpre ho3 hm1 hN3 hb3
        go_upto_region 15 with fail
        rw [← hw4]
        clear hw4 cf co
        have b0 : w4.cell? ⟨H.gh, 0, none⟩ = some (.pointer (some ⟨H3.ah.ga, 0, none⟩)) := by rw [← HA.out.gh.gh]; exact HA.out.Q.hb.cellv 0 rfl
        have co : w4.cell? ⟨H.gp p, q, none⟩ = some (.int .i64 (id : Nat)) := by rw [← HA.out.gh.gp, ← HA.out.o]; exact HA.out.Q.own_at hp3' hq
        have hid := HA.out.Q.S.I.ok.top id s HA.out.hs
        have hid2 := HA.out.hN
        have hid3 := HA.out.hb
        have hghl : H.gh < w4.heap.size := by rw [← HA.out.gh.gh]; exact HA.out.Q.hb.lt
        have hgpl : H.gp p < w4.heap.size := by rw [← HA.out.gh.gp]; exact (HA.out.Q.g p hp3').lt
        skip
        go_region_held3 (fun w' => w'.cell? ⟨H.gh, 0, none⟩ = some (.pointer (some ⟨H3.ah.ga, 0, none⟩)) ∧ w'.cell? ⟨H.gp p, q, none⟩ = some (.int .i64 (id : Nat))) (go_keep)
          (first | (go_at_call 46; refine (s_alloc (ArS.chg0 HA.out.Q.S (by repeat (first | assumption | exact Chg.refl [] w4 | refine Chg.drew ?_) : Chg [] w4 _)) HQ.out.2.2.1 (by omega) (by omega) (id : Nat) (n : Nat) (by unfold Wf64; omega) black).mono ?_; intro e w7 hal; obtain ⟨y, h7, hy, rfl, S7, st7⟩ := al_room HA.out.hs hn1 (by rw [HA.out.hk]; exact HX.out.2.2.2.1) HA.out.nf hal; have K7 := PrA.done (PrA.chg0 HA.out (by repeat (first | assumption | exact Chg.refl [] w4 | refine Chg.drew ?_))) hp3' hq S7 st7; have y0 : w7.cell? ⟨H.gh, 0, none⟩ = some (.pointer (some ⟨H3.ah.ga, 0, none⟩)) := (by have h0 := K7.2.1.hb.cellv 0 rfl; rw [← S7.ga, ← K7.1.gh]; exact h0); have y1 : w7.cell? ⟨H.gp p, q, none⟩ = some (.int .i64 (id : Nat)) := (by have h0 := K7.2.1.own_at hp3' hq; rw [← K7.1.gp, ← HA.out.o]; exact h0)))
        have HZ := Lib.hid (And.intro K7 hy); clear K7 S7 st7 hal y0 y1 b0 co hy hghl hgpl
        go_wp2_with fail
        go_ret3
        exact ⟨q, s.addr y, gone, 0, vg, { A3 with own := updV A3.own p (updV (A3.own p) q (id : Nat)), a := allocA A3.a id s y n black }, N3, b3 + 1, _, HX.out.2.2, .got PR.out HS.out.1 HS.out.2.1 HS.out.2.2 HZ.out.2, rfl, HA.out.hN, by omega, HZ.out.1.1, HZ.out.1.2.1, HZ.out.1.2.2.1, HZ.out.1.2.2.2.1, HA.out.ln, HZ.out.1.2.2.2.2⟩
end Go.Proofs.YtcnchgbngcnijaaGreatDoor
