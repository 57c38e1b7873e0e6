/- The walk of ViewClosed. -/
import Derived.Test.YtfkgooliglcjkaaVwClosedLaw
import Derived.Test.YtfkgooliglcjkaaVwOwn2
import Derived.IntWalk
namespace Go.Proofs.Ytfkgooliglcjkaa
open Go.RowKit Go.Maps

theorem Chg.cellE {w w' : World} (c : Chg [] w w') : ∀ b o, (w.cell? ⟨b, o, none⟩).isSome = true → w'.cell? ⟨b, o, none⟩ = w.cell? ⟨b, o, none⟩ := fun b o h => by
  cases e : w.cell? ⟨b, o, none⟩ with
  | none => rw [e] at h; cases h
  | some v => exact c.cellv (lt_of_cell' e) (by simp) e
theorem Chg.frozenE {w w' : World} (c : Chg [] w w') : ∀ b o, (w.cell? ⟨b, o, none⟩).isSome = true → w'.frozen? ⟨b, o, none⟩ = w.frozen? ⟨b, o, none⟩ := fun b o h => by
  cases e : w.cell? ⟨b, o, none⟩ with
  | none => rw [e] at h; cases h
  | some v =>
    have := c.block b (lt_of_cell' e) (by simp)
    simp [World.frozen?, this]
theorem Chg.ltE {w w' : World} (c : Chg [] w w') : ∀ n, n < w.heap.size → n < w'.heap.size := fun n h => Nat.lt_of_lt_of_le h c.size
theorem Chg.neE {w w' : World} (c : Chg [] w w') : ∀ n, n < w.heap.size → ¬ n = w'.heap.size := fun n h => by have := c.size; omega
theorem Chg.neF {w w' : World} (c : Chg [] w w') : ∀ n, n < w.heap.size → ¬ w'.heap.size = n := fun n h => by have := c.size; omega
theorem clS_of {w2 W : World} {V : Vw} {A0 : Option Addr} {c0 : Nat} {A1 : Option Addr} {c1 : Nat} {A2 : Option Addr} {c2 b : Nat} (h : Blk w2 b 26 (vwBox V A0 c0 A1 c1 A2 c2)) (D : Chg [] w2 W) :
    W.cell? ⟨b, 0, none⟩ = some (.int .i64 V.phase) ∧ W.cell? ⟨b, 1, none⟩ = some (.int .i64 V.cycle) ∧ W.cell? ⟨b, 2, none⟩ = some (.int .i64 V.clock) ∧ W.cell? ⟨b, 3, none⟩ = some (.slice A0 V.globals.length c0) ∧ W.cell? ⟨b, 4, none⟩ = some (.slice A1 V.gs.length c1) ∧
    W.cell? ⟨b, 5, none⟩ = some (.slice A2 V.objects.length c2) ∧ W.cell? ⟨b, 6, none⟩ = some (.int .i64 V.grey) ∧ W.cell? ⟨b, 7, none⟩ = some (.int .i64 V.notes) ∧ W.cell? ⟨b, 8, none⟩ = some (.int .i64 V.roots) ∧ Chg [] w2 W := by
  obtain ⟨z0, z1, z2, z3, z4, z5, z6, z7, z8⟩ := VwAt.box (D.blk h (by simp))
  exact ⟨z0, z1, z2, z3, z4, z5, z6, z7, z8, D⟩
theorem i64w {x : Int} (h1 : -9223372036854775808 ≤ x) (h2 : x ≤ 9223372036854775807) : IntKind.i64.wrap x = x := IntWalk.i64_in _ ⟨h1, h2⟩
structure ClI (w0 : World) (V : Vw) (g3 g4 : Nat) (vl vm v5 : Value) (l m : List Int) (w : World) : Prop where
  r : IsRch V l
  s : IsLost V m
  ol : OwnI 3 w vl l
  om : OwnI 3 w vm m
  o5 : OwnI 3 w v5 V.rootsL
  b3 : w.cell? ⟨g3, 0, none⟩ = some vl
  b4 : w.cell? ⟨g4, 0, none⟩ = some vm
  c : Chg [] w0 w
theorem ClI.chg {w0 w w' : World} {V : Vw} {g3 g4 : Nat} {vl vm v5 : Value} {l m : List Int} (h : ClI w0 V g3 g4 vl vm v5 l m w) (c : Chg [] w w') : ClI w0 V g3 g4 vl vm v5 l m w' :=
  ⟨h.r, h.s, h.ol.chg0 c, h.om.chg0 c, h.o5.chg0 c, c.cellv (lt_of_cell' h.b3) (by simp) h.b3, c.cellv (lt_of_cell' h.b4) (by simp) h.b4, h.c.trans c⟩
theorem ClI.mk' {w0 w wl wm wr : World} {V : Vw} {g3 g4 : Nat} {vl vm v5 : Value} {l m : List Int} (r : IsRch V l) (s : IsLost V m) (ol : OwnI 3 wl vl l) (cl : Chg [g3, g4] wl w) (nl : ∀ k ∈ fpv vl, k ∉ [g3, g4])
    (om : OwnI 3 wm vm m) (cm : Chg [g3, g4] wm w) (nm : ∀ k ∈ fpv vm, k ∉ [g3, g4]) (o5 : OwnI 3 wr v5 V.rootsL) (cr : Chg [g3, g4] wr w) (nr : ∀ k ∈ fpv v5, k ∉ [g3, g4])
    (b3 : w.cell? ⟨g3, 0, none⟩ = some vl) (b4 : w.cell? ⟨g4, 0, none⟩ = some vm) (c : Chg [] w0 w) : ClI w0 V g3 g4 vl vm v5 l m w :=
  ⟨r, s, ol.chg cl nl, om.chg cm nm, o5.chg cr nr, b3, b4, c⟩
theorem mem2 {k a b : Nat} (h : k ∈ [a, b]) : k = a ∨ k = b := by simpa using h
def ClRel (w0 : World) (V : Vw) (g3 g4 : Nat) (vl vm v5 : Value) (l m : List Int) (n s : Nat) (gk : Nat) (idx : Value) (w : World) : Prop := ∃ i, gk + i = n + 1 ∧ s ≤ i ∧ i ≤ n ∧ idx = .int .i64 (i : Nat) ∧ ClI w0 V g3 g4 vl vm v5 l m w
theorem known_all {V : Vw} {l m : List Int} {x : Int} (r : IsRch V l) (s : IsLost V m) (h : x ≠ 0 → Rch V x) : decide (x = 0 ∨ (x ∈ l ↔ x ∉ m)) = true := by
  rw [decide_eq_true_iff]
  by_cases h0 : x = 0
  · exact .inl h0
  · exact .inr (known_of r s (h h0))
theorem clT_of {wr W : World} {V : Vw} {A0 : Option Addr} {c0 : Nat} {A1 : Option Addr} {c1 : Nat} {A2 : Option Addr} {c2 b : Nat} (h : Blk wr b 26 (vwBox V A0 c0 A1 c1 A2 c2)) {p q : Addr} {x y : Value} (hp : p.spot = none) (hq : q.spot = none) (e1 : wr.cell? p = some x) (e2 : wr.cell? q = some y) (D : Chg [] wr W) :
    W.cell? ⟨b, 0, none⟩ = some (.int .i64 V.phase) ∧ W.cell? ⟨b, 1, none⟩ = some (.int .i64 V.cycle) ∧ W.cell? ⟨b, 2, none⟩ = some (.int .i64 V.clock) ∧ W.cell? ⟨b, 3, none⟩ = some (.slice A0 V.globals.length c0) ∧ W.cell? ⟨b, 4, none⟩ = some (.slice A1 V.gs.length c1) ∧
    W.cell? ⟨b, 5, none⟩ = some (.slice A2 V.objects.length c2) ∧ W.cell? ⟨b, 6, none⟩ = some (.int .i64 V.grey) ∧ W.cell? ⟨b, 7, none⟩ = some (.int .i64 V.notes) ∧ W.cell? ⟨b, 8, none⟩ = some (.int .i64 V.roots) ∧ W.cell? p = some x ∧ W.cell? q = some y ∧ Chg [] wr W := by
  obtain ⟨z0, z1, z2, z3, z4, z5, z6, z7, z8⟩ := VwAt.box (D.blk h (by simp))
  obtain ⟨pb, po, ps⟩ := p
  obtain ⟨qb, qo, qs⟩ := q
  simp only at hp hq
  subst hp hq
  exact ⟨z0, z1, z2, z3, z4, z5, z6, z7, z8, D.cellv (lt_of_cell' e1) (by simp) e1, D.cellv (lt_of_cell' e2) (by simp) e2, D⟩
def Cl4Rel (w0 : World) (V : Vw) (g3 g4 : Nat) (vl vm v5 vp : Value) (l m p : List Int) (gk : Nat) (idx : Value) (w : World) : Prop := ∃ i, gk + i = p.length + 1 ∧ 1 ≤ i ∧ i ≤ p.length ∧ idx = .int .i64 (i : Nat) ∧ ClI w0 V g3 g4 vl vm v5 l m w ∧ OwnI 3 w vp p
theorem IsPath.way {V : Vw} {x : Int} {p : List Int} (h : IsPath V x p) (hx : Rch V x) (ha : (V.at_ x).isSome = true) : LeastWay V p x := by
  rcases h with ⟨_, h1 | h1⟩ | ⟨_, h1⟩
  · rw [h1] at ha; cases ha
  · exact absurd hx h1
  · exact h1
theorem IsPath.none_ {V : Vw} {x : Int} {p : List Int} (h : IsPath V x p) (ha : V.at_ x = none) : p = [] := by
  rcases h with ⟨h1, _⟩ | ⟨h1, _⟩
  · exact h1
  · rw [ha] at h1; cases h1
def ClS (w0 : World) (V : Vw) (v3 v4 v5 : Value) (w : World) : Prop := ∃ g3 g4 vl vm l m, v3 = .pointer (some ⟨g3, 0, none⟩) ∧ v4 = .pointer (some ⟨g4, 0, none⟩) ∧ ClI w0 V g3 g4 vl vm v5 l m w
set_option maxHeartbeats 6400000 in
set_option maxRecDepth 100000 in
theorem closed_any (v : Value) (V : Vw) (w : World) (h : VwAt w w.heap.size v V) : Calls Try.prog 4 #[v] w (TdPost w) := by
  have HV := Lib.hid h
  obtain ⟨g, A1, c1, A2, c2, rfl, h1, h2, h3, h4, h5⟩ := h.ex
  obtain ⟨A0, c0, rfl⟩ := h1.ex
  have C1 := (Chg.refl [] w).alloc (.cells (vwBox V A0 c0 A1 c1 A2 c2) 26)
  have B1 := Blk.new w 26 (vwBox V A0 c0 A1 c1 A2 c2)
  have HS := Lib.hid (And.intro h1 (And.intro h2 h3))
  have HB := Lib.hid (And.intro C1 B1); clear C1 B1 h h1 h2 h3 h4 h5
  go_enter Try.func4, Try.ntmps4
  obtain ⟨b0, b1, b2, b3, b4, b5, b6, b7, b8⟩ := VwAt.box HB.out.2
  go_wp2_with fail
  refine (few_ok _ _ V ((HV.out.chg HB.out.1 (Nat.le_refl _) (by simp)).mono HB.out.1.size)).mono ?_
  rintro e w1 ⟨b, rfl, hf, C1⟩
  have D1 := HB.out.1.trans C1
  have K1 := C1.blk HB.out.2 (by simp)
  have H1 := Lib.hid (And.intro D1 (And.intro K1 hf)); clear D1 K1 hf C1 HB b0 b1 b2 b3 b4 b5 b6 b7 b8
  cases b
  · go_wp2_with fail
    refine (told_ok _).mono ?_
    rintro e w2 ⟨rfl, C2⟩
    have C := H1.out.1.trans C2
    go_wp2_with fail
    go_ret
    exact ⟨rfl, C⟩
  have HF := Lib.hid (H1.out.2.2 rfl)
  obtain ⟨b0, b1, b2, b3, b4, b5, b6, b7, b8⟩ := VwAt.box H1.out.2.1
  go_wp2_with fail
  refine (own_ok _ _ V ((HV.out.chg H1.out.1 (Nat.le_refl _) (by simp)).mono H1.out.1.size) HF.out.small).mono ?_
  rintro e w2 ⟨b, rfl, ho, C2⟩
  have D2 := H1.out.1.trans C2
  have K2 := C2.blk H1.out.2.1 (by simp)
  have H2 := Lib.hid (And.intro D2 (And.intro K2 ho)); clear D2 K2 ho C2 H1 b0 b1 b2 b3 b4 b5 b6 b7 b8
  cases b
  · go_wp2_with fail
    refine (told_ok _).mono ?_
    rintro e w3 ⟨rfl, C3⟩
    have C := H2.out.1.trans C3
    go_wp2_with fail
    go_ret
    exact ⟨rfl, C⟩
  have HO := Lib.hid (H2.out.2.2 rfl)
  obtain ⟨b0, b1, b2, b3, b4, b5, b6, b7, b8⟩ := VwAt.box H2.out.2.1
  go_upto_region 3 with fail
  go_cut [3, 4, 5] from 24 to 29 (fun v3 v4 v5 wx => ClS w2 V v3 v4 v5 wx)
  case first =>
    have k1 : Chg [] w2 w2.drew := (Chg.refl [] w2).drew
    have k0 : Chg [] w2 w2 := Chg.refl [] w2
    go_region_held3 (fun w' => w'.cell? ⟨w.heap.size, 0, none⟩ = some (.int .i64 V.phase) ∧ w'.cell? ⟨w.heap.size, 1, none⟩ = some (.int .i64 V.cycle) ∧ w'.cell? ⟨w.heap.size, 2, none⟩ = some (.int .i64 V.clock) ∧ w'.cell? ⟨w.heap.size, 3, none⟩ = some (.slice A0 V.globals.length c0) ∧ w'.cell? ⟨w.heap.size, 4, none⟩ = some (.slice A1 V.gs.length c1) ∧ w'.cell? ⟨w.heap.size, 5, none⟩ = some (.slice A2 V.objects.length c2) ∧ w'.cell? ⟨w.heap.size, 6, none⟩ = some (.int .i64 V.grey) ∧ w'.cell? ⟨w.heap.size, 7, none⟩ = some (.int .i64 V.notes) ∧ w'.cell? ⟨w.heap.size, 8, none⟩ = some (.int .i64 V.roots) ∧ Chg [] w2 w')
      ((refine clS_of H2.out.2.1 ?_; (repeat (first | assumption | exact Chg.refl [] w2 | refine Chg.alloc ?_ _ | refine Chg.drew ?_ | refine Chg.setCell ?_ (.inr (by first | exact Nat.le_refl _ | exact Nat.le_succ _ | exact Chg.size (by assumption) | exact Nat.le_trans (Chg.size (by assumption)) (Nat.le_succ _))) _))))
      (first
        | (go_at_call 17; refine (reach_ok _ _ V (ow_vw HV.out H2.out.1 ?_) HF.out.small).mono ?_; (first | assumption | exact Chg.alloc (by assumption) _ | exact Chg.alloc (Chg.alloc (by assumption) _) _ | exact Chg.drew (by assumption) | exact Chg.drew (Chg.alloc (by assumption) _) | exact Chg.drew (Chg.alloc (Chg.alloc (by assumption) _) _)); rintro e wl ⟨l, hl, vl, rfl, Ol, Cl, Fl⟩; obtain ⟨Al, kl, rfl⟩ := Ol.slice; have D : Chg [] w2 wl := Chg.trans (by (first | assumption | exact Chg.alloc (by assumption) _ | exact Chg.alloc (Chg.alloc (by assumption) _) _ | exact Chg.drew (by assumption) | exact Chg.drew (Chg.alloc (by assumption) _) | exact Chg.drew (Chg.alloc (Chg.alloc (by assumption) _) _))) Cl; have E7 := Cl.ltE; have E7a := Cl.neE; have E7b := Cl.neF; have E1 := Cl.cellE; have E2 := Cl.frozenE; obtain ⟨z0, z1, z2, z3, z4, z5, z6, z7, z8⟩ := VwAt.box (D.blk H2.out.2.1 (by simp)))
        | (go_at_call 18; refine (lost_ok _ _ V (ow_vw HV.out H2.out.1 ?_) HF.out.small).mono ?_; (first | assumption | exact Chg.alloc (by assumption) _ | exact Chg.alloc (Chg.alloc (by assumption) _) _ | exact Chg.drew (by assumption) | exact Chg.drew (Chg.alloc (by assumption) _) | exact Chg.drew (Chg.alloc (Chg.alloc (by assumption) _) _)); rintro e wm ⟨m, hm, vm, rfl, Om, Cm, Fm⟩; obtain ⟨Am, km, rfl⟩ := Om.slice; have D : Chg [] w2 wm := Chg.trans (by (first | assumption | exact Chg.alloc (by assumption) _ | exact Chg.alloc (Chg.alloc (by assumption) _) _ | exact Chg.drew (by assumption) | exact Chg.drew (Chg.alloc (by assumption) _) | exact Chg.drew (Chg.alloc (Chg.alloc (by assumption) _) _))) Cm; have E8 := Cm.ltE; have E8a := Cm.neE; have E8b := Cm.neF; (first | have G1 := Chg.trans Cl Cm | have G1 := Chg.trans (Chg.alloc Cl _) Cm | have G1 := Chg.trans (Chg.alloc (Chg.alloc Cl _) _) Cm); have J1a := Chg.cellE G1; have J1b := Chg.frozenE G1; have J1c := Chg.ltE G1; have J1d := Chg.neE G1; have J1e := Chg.neF G1; have E3 := Cm.cellE; have E4 := Cm.frozenE; obtain ⟨z0, z1, z2, z3, z4, z5, z6, z7, z8⟩ := VwAt.box (D.blk H2.out.2.1 (by simp)))
        | (go_at_call 19; refine (roots_ok _ _ V (ow_vw HV.out H2.out.1 ?_) HF.out.small).mono ?_; (first | assumption | exact Chg.alloc (by assumption) _ | exact Chg.alloc (Chg.alloc (by assumption) _) _ | exact Chg.drew (by assumption) | exact Chg.drew (Chg.alloc (by assumption) _) | exact Chg.drew (Chg.alloc (Chg.alloc (by assumption) _) _)); rintro e wr ⟨vr, rfl, Or, Cr, Fr⟩; obtain ⟨Ar, kr, rfl⟩ := Or.slice; have D : Chg [] w2 wr := Chg.trans (by (first | assumption | exact Chg.alloc (by assumption) _ | exact Chg.alloc (Chg.alloc (by assumption) _) _ | exact Chg.drew (by assumption) | exact Chg.drew (Chg.alloc (by assumption) _) | exact Chg.drew (Chg.alloc (Chg.alloc (by assumption) _) _))) Cr; have E9 := Cr.ltE; have E9a := Cr.neE; have E9b := Cr.neF; (first | have G2 := Chg.trans Cm Cr | have G2 := Chg.trans (Chg.alloc Cm _) Cr | have G2 := Chg.trans (Chg.alloc (Chg.alloc Cm _) _) Cr); have J2a := Chg.cellE G2; have J2b := Chg.frozenE G2; have J2c := Chg.ltE G2; have J2d := Chg.neE G2; have J2e := Chg.neF G2; (first | have G3 := Chg.trans G1 Cr | have G3 := Chg.trans (Chg.alloc G1 _) Cr | have G3 := Chg.trans (Chg.alloc (Chg.alloc G1 _) _) Cr); have J3a := Chg.cellE G3; have J3b := Chg.frozenE G3; have J3c := Chg.ltE G3; have J3d := Chg.neE G3; have J3e := Chg.neF G3; have E5 := Cr.cellE; have E6 := Cr.frozenE; obtain ⟨z0, z1, z2, z3, z4, z5, z6, z7, z8⟩ := VwAt.box (D.blk H2.out.2.1 (by simp))))
    all_goals
      go_wp2_with fail
      go_meet
      refine ⟨_, _, .slice Al l.length kl, .slice Am m.length km, l, m, rfl, rfl, ?_⟩
      have zl := Cl.size
      have zm := Cm.size
      have zr := Cr.size
      try simp only [World.size_alloc, World.size_drew] at zl
      try simp only [World.size_alloc, World.size_drew] at zm
      try simp only [World.size_alloc, World.size_drew] at zr
      refine ClI.mk' hl hm Ol ?_ ?_ Om ?_ ?_ Or ?_ ?_ ?_ ?_ ?_
      · (repeat (first | exact Chg.refl _ _ | refine Chg.alloc ?_ _ | refine Chg.drew ?_ | refine Chg.setCell ?_ (.inl (by simp)) _ | refine Chg.trans ?_ (Chg.mono Cr (by simp)) | refine Chg.trans ?_ (Chg.mono Cm (by simp))))
      · (intro k hk hm; have h1 := Fl k hk; have h2 := Ol.lt hk; (try simp only [World.size_alloc, World.size_drew] at h1); have h3 := mem2 hm; clear hm; clear hk; (rcases h3 with e | e) <;> omega)
      · (repeat (first | exact Chg.refl _ _ | refine Chg.alloc ?_ _ | refine Chg.drew ?_ | refine Chg.setCell ?_ (.inl (by simp)) _ | refine Chg.trans ?_ (Chg.mono Cr (by simp)) | refine Chg.trans ?_ (Chg.mono Cm (by simp))))
      · (intro k hk hm; have h1 := Fm k hk; have h2 := Om.lt hk; (try simp only [World.size_alloc, World.size_drew] at h1); have h3 := mem2 hm; clear hm; clear hk; (rcases h3 with e | e) <;> omega)
      · (repeat (first | exact Chg.refl _ _ | refine Chg.alloc ?_ _ | refine Chg.drew ?_ | refine Chg.setCell ?_ (.inl (by simp)) _ | refine Chg.trans ?_ (Chg.mono Cr (by simp)) | refine Chg.trans ?_ (Chg.mono Cm (by simp))))
      · (intro k hk hm; have h1 := Fr k hk; have h2 := Or.lt hk; (try simp only [World.size_alloc, World.size_drew] at h1); have h3 := mem2 hm; clear hm; clear hk; (rcases h3 with e | e) <;> omega)
      · first | (go_simp; done) | (simp [*, go_sem]; done)
      · first | (go_simp; done) | (simp [*, go_sem]; done)
      · (repeat (first | assumption | exact Chg.refl [] w2 | refine Chg.alloc ?_ _ | refine Chg.drew ?_ | refine Chg.setCell ?_ (.inr (by first | exact Nat.le_refl _ | exact Nat.le_succ _ | exact Chg.size (by assumption) | exact Nat.le_trans (Chg.size (by assumption)) (Nat.le_succ _))) _))
  case rest =>
    obtain ⟨g3, g4, vl, vm, l, m, rfl, rfl, I⟩ := hcut
    obtain ⟨Al, kl, rfl⟩ := I.ol.slice
    obtain ⟨Am, km, rfl⟩ := I.om.slice
    obtain ⟨Ar, kr, rfl⟩ := I.o5.slice
    have hS := HF.out.small
    have hll : l.length ≤ 1000000 := Nat.le_trans I.r.len hS.n
    have hml : m.length ≤ 1000000 := Nat.le_trans I.s.len hS.n
    have hrl : V.rootsL.length ≤ 1000000 := by
      have h1 := len_foldOnce V.said []
      have h2 := hS.n
      unfold Vw.names at h2
      rw [List.length_append] at h2
      simp only [List.length_nil] at h1
      unfold Vw.rootsL; omega
    have HI := Lib.hid I; clear I b0 b1 b2 b3 b4 b5 b6 b7 b8
    have HSm := Lib.hid hS; clear hS
    go_wp2_with fail
    go_loopg [7] (V.rootsL.length + 1) (fun gk idx wr => ClRel w2 V g3 g4 (.slice Al l.length kl) (.slice Am m.length km) (.slice Ar V.rootsL.length kr) l m V.rootsL.length 0 gk idx wr)
    case atStart => exact ⟨0, by omega, by omega, by omega, rfl, HI.out⟩
    case round =>
      obtain ⟨i, hgk, -, hin, rfl, I⟩ := hrel
      have c3 := I.b3
      have c4 := I.b4
      by_cases e : i < V.rootsL.length
      · obtain ⟨x, hx⟩ : ∃ x, V.rootsL[i]? = some x := ⟨_, List.getElem?_eq_getElem e⟩
        obtain ⟨ga, rfl, q0, -, -⟩ := I.o5.cell hx
        have hi' : (i : Int) < (V.rootsL.length : Int) := by omega
        have hxr := mem_rootsL.1 (List.mem_of_getElem? hx)
        have hx0 : (x == 0) = false := by rw [beq_eq_false_iff_ne]; exact hxr.2
        have HK := Lib.hid (known_all I.r I.s (fun h0 => Rch.root hxr.1 h0))
        have HX := Lib.hid I; clear I hx hxr
        go_wp2_with fail
        refine (known_ok _ _ _ _ _ l m x HX.out.ol.rd HX.out.om.rd c3 c4).mono ?_
        rintro e w1 ⟨rfl, n, rfl⟩
        rw [HK.out]
        clear c3 c4 q0
        go_wp2_with fail
        go_roundg (V.rootsL.length - i)
        case measure => omega
        case rel => exact ⟨i + 1, by omega, by omega, by omega, by go_num, HX.out.chg ((Chg.refl [] _).drewN n)⟩
      · have e2 : V.rootsL.length = i := by omega
        have hi' : ¬ (i : Int) < (V.rootsL.length : Int) := by omega
        have HX0 := Lib.hid I; clear I hgk hin e c3 c4 e2
        go_wp2_with fail
        clear hi'
        obtain ⟨wq, rfl⟩ : ∃ wq : World, wq = wr := ⟨_, rfl⟩
        go_loopg [8] (l.length + 1) (fun gk idx wr => ClRel w2 V g3 g4 (.slice Al l.length kl) (.slice Am m.length km) (.slice Ar V.rootsL.length kr) l m l.length 0 gk idx wr)
        case atStart => exact ⟨0, by omega, by omega, by omega, rfl, HX0.out⟩
        case round =>
          clear HX0
          obtain ⟨i, hgk, -, hin, rfl, I⟩ := hrel
          have c3 := I.b3
          have HB := Lib.hid (I.c.blk H2.out.2.1 (by simp))
          by_cases e : i < l.length
          · obtain ⟨x, hx⟩ : ∃ x, l[i]? = some x := ⟨_, List.getElem?_eq_getElem e⟩
            obtain ⟨ga, rfl, q0, -, -⟩ := I.ol.cell hx
            have hi' : (i : Int) < (l.length : Int) := by omega
            have hxr := (I.r.m x).1 (List.mem_of_getElem? hx)
            obtain ⟨kk, hat⟩ := Option.isSome_iff_exists.1 hxr.2
            obtain ⟨o, ho, hoa⟩ := at_lt hat
            obtain ⟨b, off, s, rfl, hbb, i0, i1, i2, hsl, hwa⟩ := HS.out.2.2.at_ kk o ho
            obtain ⟨As, cs, rfl⟩ := hsl.ex
            have hkl : kk < V.objects.length := (List.getElem?_eq_some_iff.1 ho).1
            have hkl' : (kk : Int) < (V.objects.length : Int) := by omega
            have hk0 : (0 : Int) ≤ (kk : Int) := by omega
            have hsn := HF.out.s o (List.mem_of_getElem? ho)
            have KF := Lib.hid (fun (W : World) (v : Value) (h : VwAt W W.heap.size v V) => (show Calls Try.prog 22 #[v, .int .i64 x] W (IntPost ((kk : Nat) : Int) W) by
              have := find_ok W v V x h HSm.out
              rw [findI_eq, hat] at this; exact this))
            have HX := Lib.hid I
            rw [hoa] at hwa i0
            have HY := Lib.hid (And.intro hxr.1 (And.intro hat (And.intro ho (And.intro hbb (And.intro i0 (And.intro i1 (And.intro hsl (And.intro hwa hx)))))))); clear I hx hxr hat ho hoa hbb i0 i1 i2 hsl hwa
            obtain ⟨b0, b1, b2, b3, b4, b5, b6, b7, b8⟩ := VwAt.box HB.out
            go_upto_region 13 with fail
            go_region_held3 (fun w' => w'.cell? ⟨w.heap.size, 0, none⟩ = some (.int .i64 V.phase) ∧ w'.cell? ⟨w.heap.size, 1, none⟩ = some (.int .i64 V.cycle) ∧ w'.cell? ⟨w.heap.size, 2, none⟩ = some (.int .i64 V.clock) ∧ w'.cell? ⟨w.heap.size, 3, none⟩ = some (.slice A0 V.globals.length c0) ∧ w'.cell? ⟨w.heap.size, 4, none⟩ = some (.slice A1 V.gs.length c1) ∧ w'.cell? ⟨w.heap.size, 5, none⟩ = some (.slice (some ⟨b, off, none⟩) V.objects.length c2) ∧ w'.cell? ⟨w.heap.size, 6, none⟩ = some (.int .i64 V.grey) ∧ w'.cell? ⟨w.heap.size, 7, none⟩ = some (.int .i64 V.notes) ∧ w'.cell? ⟨w.heap.size, 8, none⟩ = some (.int .i64 V.roots) ∧ w'.cell? ⟨g3, 0, none⟩ = some (.slice (some ⟨ga, 0, none⟩) l.length kl) ∧ w'.cell? ⟨ga, i, none⟩ = some (.int .i64 x) ∧ Chg [] wr w') ((refine clT_of (HB.out) rfl rfl c3 q0 ?_; (repeat (first | assumption | exact Chg.refl [] wr | refine Chg.alloc ?_ _ | refine Chg.drew ?_))))
            (first | (go_at_call 22; refine (KF.out _ _ (ow_vw HV.out (H2.out.1.trans HX.out.c) ?_)).mono ?_; (first | assumption | exact Chg.refl _ _ | exact (Chg.refl _ _).drew); rintro e wf ⟨rfl, CF⟩; have D : Chg [] wr wf := Chg.trans (by first | assumption | exact Chg.refl _ _ | exact (Chg.refl _ _).drew) CF; obtain ⟨z0, z1, z2, z3, z4, z5, z6, z7, z8, z9, z10, -⟩ := clT_of (HB.out) rfl rfl c3 q0 D))
            have HX2 := Lib.hid (HX.out.chg ‹Chg [] wr _›)
            have DD := H2.out.1.trans HX2.out.c
            have j0 := DD.cellv HY.out.2.2.2.1 (by simp) HY.out.2.2.2.2.1
            have j1 := DD.cellv HY.out.2.2.2.1 (by simp) HY.out.2.2.2.2.2.1
            have HDD := Lib.hid DD
            clear DD b0 b1 b2 b3 b4 b5 b6 b7 b8 z0 z1 z2 z3 z4 z6 z7 z8 CF D HX
            have hd1 : decide ((kk : Int) < 0) = false := decide_eq_false (by omega)
            have hd2 : decide (V.objects.length ≤ kk) = false := decide_eq_false (by omega)
            go_upto_region 14 with fail
            go_quiet (fail)
            go_wp2_with fail
            have HX3 := Lib.hid (HX2.out.chg ((Chg.refl [] wf).drewN nq))
            clear j0 j1 z5 z9 z10 HX2 HDD KF
            generalize wf.drewN nq = wg at HX3 ⊢
            clear HB c3 q0
            go_loopg [10] (o.slots.length + 1) (fun gk idx wr => ClRel w2 V g3 g4 (.slice (some ⟨ga, 0, none⟩) l.length kl) (.slice Am m.length km) (.slice Ar V.rootsL.length kr) l m o.slots.length 0 gk idx wr)
            case atStart => exact ⟨0, by omega, by omega, by omega, rfl, HX3.out⟩
            case round =>
              clear HX3
              obtain ⟨j, hgk2, -, hjn, rfl, I⟩ := hrel
              have c3 := I.b3
              have c4 := I.b4
              have HB := Lib.hid (I.c.blk H2.out.2.1 (by simp))
              have b5 : wr.cell? ⟨w.heap.size, 5, none⟩ = some (.slice (some ⟨b, off, none⟩) V.objects.length c2) := HB.out.cellv 5 rfl
              have DD := H2.out.1.trans I.c
              have j1 := DD.cellv HY.out.2.2.2.1 (by simp) HY.out.2.2.2.2.2.1
              by_cases ej : j < o.slots.length
              · obtain ⟨y, hy⟩ : ∃ y, o.slots[j]? = some y := ⟨_, List.getElem?_eq_getElem ej⟩
                obtain ⟨bs, offs, rfl, hbs, y0⟩ := (HY.out.2.2.2.2.2.2.1.chg DD (Nat.le_refl _) (by simp)).at_ _ _ _ rfl j y hy
                have hj' : (j : Int) < (o.slots.length : Int) := by omega
                have HK := Lib.hid (known_all I.r I.s (fun h0 => Rch.step HY.out.1 HY.out.2.1 HY.out.2.2.1 (List.mem_of_getElem? hy) h0))
                have HX := Lib.hid I; clear I hy DD hbs
                go_wp2_with fail
                refine (known_ok _ _ _ _ _ l m y HX.out.ol.rd HX.out.om.rd c3 c4).mono ?_
                rintro e w1 ⟨rfl, n, rfl⟩
                rw [HK.out]
                clear c3 c4 b5 j1 y0
                go_wp2_with fail
                go_roundg (o.slots.length - j)
                case measure => omega
                case rel => exact ⟨j + 1, by omega, by omega, by omega, by go_num, HX.out.chg ((Chg.refl [] _).drewN n)⟩
              · have e2 : o.slots.length = j := by omega
                have hj' : ¬ (j : Int) < (o.slots.length : Int) := by omega
                have HX := Lib.hid I; clear I hgk2 hjn ej c4 DD e2
                obtain ⟨ga', eg, q0, -, -⟩ := HX.out.ol.cell HY.out.2.2.2.2.2.2.2.2
                injection eg with eg
                injection eg with eg
                subst eg
                obtain ⟨b0, b1, b2, b3, b4, b5, b6, b7, b8⟩ := VwAt.box HB.out
                go_upto_region 21 with fail
                go_region_held3 (fun w' => w'.cell? ⟨w.heap.size, 0, none⟩ = some (.int .i64 V.phase) ∧ w'.cell? ⟨w.heap.size, 1, none⟩ = some (.int .i64 V.cycle) ∧ w'.cell? ⟨w.heap.size, 2, none⟩ = some (.int .i64 V.clock) ∧ w'.cell? ⟨w.heap.size, 3, none⟩ = some (.slice A0 V.globals.length c0) ∧ w'.cell? ⟨w.heap.size, 4, none⟩ = some (.slice A1 V.gs.length c1) ∧ w'.cell? ⟨w.heap.size, 5, none⟩ = some (.slice (some ⟨b, off, none⟩) V.objects.length c2) ∧ w'.cell? ⟨w.heap.size, 6, none⟩ = some (.int .i64 V.grey) ∧ w'.cell? ⟨w.heap.size, 7, none⟩ = some (.int .i64 V.notes) ∧ w'.cell? ⟨w.heap.size, 8, none⟩ = some (.int .i64 V.roots) ∧ w'.cell? ⟨g3, 0, none⟩ = some (.slice (some ⟨ga, 0, none⟩) l.length kl) ∧ w'.cell? ⟨ga, i, none⟩ = some (.int .i64 x) ∧ Chg [] wr w') ((refine clT_of (HB.out) rfl rfl c3 q0 ?_; (repeat (first | assumption | exact Chg.refl [] wr | refine Chg.alloc ?_ _ | refine Chg.drew ?_))))
                (first | (go_at_call 15; refine (path_ok _ _ V x (ow_vw HV.out (H2.out.1.trans HX.out.c) ?_) HSm.out HY.out.2.2.2.2.2.2.2.1).mono ?_; (first | assumption | exact Chg.refl _ _ | exact (Chg.refl _ _).drew); rintro e wp ⟨p, hp, vp, rfl, Op, CP, FP⟩; obtain ⟨Ap, kp, rfl⟩ := Op.slice; have hpw := hp.way HY.out.1 (by rw [HY.out.2.1]; rfl); have hpl := hpw.1.pos; obtain ⟨np, hnp⟩ : ∃ np, p.length = np + 1 := ⟨p.length - 1, by omega⟩; rw [hnp] at Op ⊢; have D : Chg [] wr wp := Chg.trans (by first | assumption | exact Chg.refl _ _ | exact (Chg.refl _ _).drew) CP; obtain ⟨z0, z1, z2, z3, z4, z5, z6, z7, z8, z9, z10, -⟩ := clT_of (HB.out) rfl rfl c3 q0 D))
                have HX2 := Lib.hid (HX.out.chg ‹Chg [] wr _›)
                have hle := hpw.le_reach HX2.out.r (List.mem_of_getElem? HY.out.2.2.2.2.2.2.2.2)
                rw [hnp] at hle
                obtain ⟨r0, hr0, hr0m⟩ := hpw.1.head
                have hlast : p[np]? = some x := by
                  have := hpw.1.last
                  rw [List.getLast?_eq_getElem?, hnp] at this; exact this
                have hlink := hpw.1.link
                obtain ⟨gp, rfl, q1, -, -⟩ := Op.cell hlast
                obtain ⟨gp', eg, q2, -, -⟩ := Op.cell hr0
                injection eg with eg
                injection eg with eg
                subst eg
                have KH := Lib.hid (fun (n : Nat) => (show Calls Try.prog 21 #[.slice Ar V.rootsL.length kr, .int .i64 r0] (wp.drewN n) (fun e w'' => e = .returned (.bool true) ∧ ∃ m, w'' = wp.drewN m) from
                  (has_ok _ _ V.rootsL r0 ((HX2.out.o5.rd).drewN n)).mono fun e w'' h => ⟨by rw [h.1, decide_eq_true hr0m], n, h.2⟩))
                have HP := Lib.hid (And.intro Op (And.intro hnp hlink))
                have hd3 : decide (l.length < np + 1) = false := decide_eq_false (by omega)
                have hd4 : decide ((l.length : Int) < (np : Int) + 1) = false := decide_eq_false (by omega)
                have hnp0 : (0 : Int) < (np : Int) + 1 := by omega
                have hnp1 : (np : Int) < (np : Int) + 1 := by omega
                have hnpb : np ≤ 1000000 := by omega
                have hw1 : IntKind.i64.wrap (np : Int) = (np : Int) := i64w (by omega) (by omega)
                have hw2 : IntKind.i64.wrap ((np : Int) + 1 - 1) = (np : Int) := by rw [Int.add_sub_cancel]; exact hw1
                have hw0 : (0 : Int) ≤ (np : Int) := by omega
                clear b0 b1 b2 b3 b4 b5 b6 b7 b8 z0 z1 z2 z3 z4 z5 z6 z7 z8 CP D HX c3 q0 HB hp hpw hpl FP Op hnp hr0 hr0m hlast hlink hle hj'
                go_upto_region 22 with fail
                go_quiet ((go_at_call 21; with_reducible exact KH.out _))
                go_wp2_with fail
                have HX3 := Lib.hid (And.intro (HX2.out.chg ((Chg.refl [] wp).drewN nq)) (HP.out.1.drewN nq))
                clear z9 z10 q1 q2 HX2 KH hd3 hd4 hnp0 hnp1 hw1 hw2 hw0 b5 j1
                generalize wp.drewN nq = wg at HX3 ⊢
                go_loopg [12] (np + 1) (fun gk idx wr => Cl4Rel w2 V g3 g4 (.slice (some ⟨ga, 0, none⟩) l.length kl) (.slice Am m.length km) (.slice Ar V.rootsL.length kr) (.slice (some ⟨gp, 0, none⟩) (np + 1) kp) l m p gk idx wr)
                case atStart => exact ⟨1, by have := HP.out.2.1; omega, by omega, by have := HP.out.2.1; omega, rfl, HX3.out.1, HX3.out.2⟩
                case round =>
                  clear HX3
                  obtain ⟨j4, hgk4, hj1, hjp, rfl, I, OP⟩ := hrel
                  have hpn := HP.out.2.1
                  obtain ⟨t, rfl⟩ : ∃ t, j4 = t + 1 := ⟨j4 - 1, by omega⟩
                  have c3 := I.b3
                  have HB := Lib.hid (I.c.blk H2.out.2.1 (by simp))
                  by_cases et : t < np
                  · obtain ⟨a, ha⟩ : ∃ a, p[t]? = some a := ⟨_, List.getElem?_eq_getElem (by omega)⟩
                    obtain ⟨y, hy⟩ : ∃ y, p[t + 1]? = some y := ⟨_, List.getElem?_eq_getElem (by omega)⟩
                    have hya := HP.out.2.2 t a y ha hy
                    obtain ⟨k2, o2, hat2, ho2, hyo⟩ := slotsAt_obj hya
                    obtain ⟨gp', eg, q0, -, -⟩ := OP.cell ha
                    injection eg with eg
                    injection eg with eg
                    subst eg
                    obtain ⟨gp', eg, q3, -, -⟩ := OP.cell hy
                    injection eg with eg
                    injection eg with eg
                    subst eg
                    obtain ⟨b2', off2', s2, eg, hbb2, u0, u1, u2', hsl2, hwa2⟩ := HS.out.2.2.at_ k2 o2 ho2
                    injection eg with eg
                    injection eg with eg1 eg2
                    subst eg1 eg2
                    obtain ⟨As2, cs2, rfl⟩ := hsl2.ex
                    have hkl2 : k2 < V.objects.length := (List.getElem?_eq_some_iff.1 ho2).1
                    have hkl2' : (k2 : Int) < (V.objects.length : Int) := by omega
                    have hk20 : (0 : Int) ≤ (k2 : Int) := by omega
                    have ht0 : (0 : Int) ≤ (t : Int) := by omega
                    have htn : (t : Int) < (np : Int) + 1 := by omega
                    have htn1 : (t : Int) + 1 < (np : Int) + 1 := by omega
                    have htn2 : (t : Int) < (np : Int) := by omega
                    have hwt : IntKind.i64.wrap (t : Int) = (t : Int) := i64w (by omega) (by omega)
                    have hwt2 : IntKind.i64.wrap ((t : Int) + 1 - 1) = (t : Int) := by rw [Int.add_sub_cancel]; exact hwt
                    have hwt3 : IntKind.i64.wrap ((t : Int) + 1) = (t : Int) + 1 := i64w (by omega) (by omega)
                    have KF := Lib.hid (fun (W : World) (v : Value) (h : VwAt W W.heap.size v V) => (show Calls Try.prog 22 #[v, .int .i64 a] W (IntPost ((k2 : Nat) : Int) W) by
                      have := find_ok W v V a h HSm.out
                      rw [findI_eq, hat2] at this; exact this))
                    have HX := Lib.hid I
                    have HZ := Lib.hid (And.intro OP (And.intro hbb2 (And.intro u1 (And.intro hsl2 (And.intro hyo hy))))); clear I OP ha hy hya hat2 ho2 hyo hbb2 u0 u1 u2' hsl2 hwa2 hpn
                    obtain ⟨b0, b1, b2, b3, b4, b5, b6, b7, b8⟩ := VwAt.box HB.out
                    clear q3
                    go_upto_region 27 with fail
                    go_region_held3 (fun w' => w'.cell? ⟨w.heap.size, 0, none⟩ = some (.int .i64 V.phase) ∧ w'.cell? ⟨w.heap.size, 1, none⟩ = some (.int .i64 V.cycle) ∧ w'.cell? ⟨w.heap.size, 2, none⟩ = some (.int .i64 V.clock) ∧ w'.cell? ⟨w.heap.size, 3, none⟩ = some (.slice A0 V.globals.length c0) ∧ w'.cell? ⟨w.heap.size, 4, none⟩ = some (.slice A1 V.gs.length c1) ∧ w'.cell? ⟨w.heap.size, 5, none⟩ = some (.slice (some ⟨b, off, none⟩) V.objects.length c2) ∧ w'.cell? ⟨w.heap.size, 6, none⟩ = some (.int .i64 V.grey) ∧ w'.cell? ⟨w.heap.size, 7, none⟩ = some (.int .i64 V.notes) ∧ w'.cell? ⟨w.heap.size, 8, none⟩ = some (.int .i64 V.roots) ∧ w'.cell? ⟨g3, 0, none⟩ = some (.slice (some ⟨ga, 0, none⟩) l.length kl) ∧ w'.cell? ⟨gp, t, none⟩ = some (.int .i64 a) ∧ Chg [] wr w') ((refine clT_of (HB.out) rfl rfl c3 q0 ?_; (repeat (first | assumption | exact Chg.refl [] wr | refine Chg.alloc ?_ _ | refine Chg.drew ?_))))
                (first | (go_at_call 22; refine (KF.out _ _ (ow_vw HV.out (H2.out.1.trans HX.out.c) ?_)).mono ?_; (first | assumption | exact Chg.refl _ _ | exact (Chg.refl _ _).drew); rintro e wf ⟨rfl, CF⟩; have D : Chg [] wr wf := Chg.trans (by first | assumption | exact Chg.refl _ _ | exact (Chg.refl _ _).drew) CF; obtain ⟨z0, z1, z2, z3, z4, z5, z6, z7, z8, z9, z10, -⟩ := clT_of (HB.out) rfl rfl c3 q0 D))
                    have HX2 := Lib.hid (HX.out.chg ‹Chg [] wr _›)
                    have HO2 := Lib.hid (HZ.out.1.chg0 ‹Chg [] wr _›)
                    have DD := H2.out.1.trans HX2.out.c
                    have j1 := DD.cellv HZ.out.2.1 (by simp) HZ.out.2.2.1
                    obtain ⟨gp', eg, q3, -, -⟩ := HO2.out.cell HZ.out.2.2.2.2.2
                    injection eg with eg
                    injection eg with eg
                    subst eg
                    have hRd := (HZ.out.2.2.2.1.chg DD (Nat.le_refl _) (by simp)).rd
                    have KH := Lib.hid (fun (n : Nat) => (show Calls Try.prog 21 #[.slice As2 o2.slots.length cs2, .int .i64 y] (wf.drewN n) (fun e w'' => e = .returned (.bool true) ∧ ∃ m, w'' = wf.drewN m) from
                      (has_ok _ _ o2.slots y (hRd.drewN n)).mono fun e w'' h => ⟨by rw [h.1, decide_eq_true HZ.out.2.2.2.2.1], n, h.2⟩))
                    have hd1 : decide ((k2 : Int) < 0) = false := decide_eq_false (by omega)
                    have hd2 : decide (V.objects.length ≤ k2) = false := decide_eq_false (by omega)
                    clear b0 b1 b2 b3 b4 b5 b6 b7 b8 z0 z1 z2 z3 z4 z6 z7 z8 z9 z10 CF D DD HX HB c3 q0 hRd KF
                    go_upto_region 28 with fail
                    go_quiet ((go_at_call 21; with_reducible exact KH.out _))
                    go_wp2_with fail
                    go_roundg (p.length - (t + 1))
                    case measure => have := HP.out.2.1; omega
                    case rel => exact ⟨t + 1 + 1, by omega, by omega, by have := HP.out.2.1; omega, by go_num, HX2.out.chg ((Chg.refl [] _).drewN _), HO2.out.drewN _⟩
                  · have e2 : t = np := by omega
                    have hj' : ¬ (t : Int) + 1 < (np : Int) + 1 := by omega
                    have hj'' : ¬ (t : Int) < (np : Int) := by omega
                    have HX := Lib.hid I; clear I hgk4 hj1 hjp OP c3 HB hpn et e2
                    go_wp2_with fail
                    go_roundg (l.length - i)
                    case measure => omega
                    case rel => exact ⟨i + 1, by omega, by omega, by omega, by go_num, HX.out⟩
          · have e2 : l.length = i := by omega
            have hi' : ¬ (i : Int) < (l.length : Int) := by omega
            have HX := Lib.hid I; clear I hgk hin e HB e2
            go_wp2_with fail
            clear hi' c3
            obtain ⟨wq2, rfl⟩ : ∃ wq2 : World, wq2 = wr := ⟨_, rfl⟩
            go_loopg [14] (m.length + 1) (fun gk idx wr => ClRel w2 V g3 g4 (.slice Al l.length kl) (.slice Am m.length km) (.slice Ar V.rootsL.length kr) l m m.length 0 gk idx wr)
            case atStart => exact ⟨0, by omega, by omega, by omega, rfl, HX.out⟩
            case round =>
              clear HX
              obtain ⟨i, hgk, -, hin, rfl, I⟩ := hrel
              have c4 := I.b4
              have HB := Lib.hid (I.c.blk H2.out.2.1 (by simp))
              by_cases e : i < m.length
              · obtain ⟨x, hx⟩ : ∃ x, m[i]? = some x := ⟨_, List.getElem?_eq_getElem e⟩
                obtain ⟨gm, rfl, q0, -, -⟩ := I.om.cell hx
                have hi' : (i : Int) < (m.length : Int) := by omega
                have hxr := (I.s.m x).1 (List.mem_of_getElem? hx)
                have hat : V.at_ x = none := by
                  have := hxr.2
                  cases hq : V.at_ x with
                  | none => rfl
                  | some k => rw [hq] at this; cases this
                have KF := Lib.hid (fun (W : World) (v : Value) (h : VwAt W W.heap.size v V) => (show Calls Try.prog 22 #[v, .int .i64 x] W (IntPost (-1) W) by
                  have := find_ok W v V x h HSm.out
                  rw [findI_eq, hat] at this; exact this))
                have HX := Lib.hid I
                have HY := Lib.hid (And.intro (HV.out.names_wf x hxr.1.named) hat); clear I hx hxr hat
                obtain ⟨b0, b1, b2, b3, b4, b5, b6, b7, b8⟩ := VwAt.box HB.out
                go_upto_region 33 with fail
                go_region_held3 (fun w' => w'.cell? ⟨w.heap.size, 0, none⟩ = some (.int .i64 V.phase) ∧ w'.cell? ⟨w.heap.size, 1, none⟩ = some (.int .i64 V.cycle) ∧ w'.cell? ⟨w.heap.size, 2, none⟩ = some (.int .i64 V.clock) ∧ w'.cell? ⟨w.heap.size, 3, none⟩ = some (.slice A0 V.globals.length c0) ∧ w'.cell? ⟨w.heap.size, 4, none⟩ = some (.slice A1 V.gs.length c1) ∧ w'.cell? ⟨w.heap.size, 5, none⟩ = some (.slice A2 V.objects.length c2) ∧ w'.cell? ⟨w.heap.size, 6, none⟩ = some (.int .i64 V.grey) ∧ w'.cell? ⟨w.heap.size, 7, none⟩ = some (.int .i64 V.notes) ∧ w'.cell? ⟨w.heap.size, 8, none⟩ = some (.int .i64 V.roots) ∧ w'.cell? ⟨g4, 0, none⟩ = some (.slice (some ⟨gm, 0, none⟩) m.length km) ∧ w'.cell? ⟨gm, i, none⟩ = some (.int .i64 x) ∧ Chg [] wr w') ((refine clT_of (HB.out) rfl rfl c4 q0 ?_; (repeat (first | assumption | exact Chg.refl [] wr | refine Chg.alloc ?_ _ | refine Chg.drew ?_))))
                (first | (go_at_call 22; refine (KF.out _ _ (ow_vw HV.out (H2.out.1.trans HX.out.c) ?_)).mono ?_; (first | assumption | exact Chg.refl _ _ | exact (Chg.refl _ _).drew); rintro e wf ⟨rfl, CF⟩; have D : Chg [] wr wf := Chg.trans (by (first | assumption | exact Chg.refl _ _ | exact (Chg.refl _ _).drew)) CF; obtain ⟨z0, z1, z2, z3, z4, z5, z6, z7, z8, z9, z10, -⟩ := clT_of (HB.out) rfl rfl c4 q0 D) | (go_at_call 15; refine (path_ok _ _ V x (ow_vw HV.out (H2.out.1.trans HX.out.c) ?_) HSm.out HY.out.1).mono ?_; (first | assumption | exact Chg.refl _ _ | exact (Chg.refl _ _).drew); rintro e wp ⟨p, hp, vp, rfl, Op, CP, FP⟩; obtain ⟨Ap, kp, rfl⟩ := Op.slice; obtain rfl : p = [] := hp.none_ HY.out.2; have D : Chg [] wr wp := Chg.trans (by (first | assumption | exact Chg.refl _ _ | exact (Chg.refl _ _).drew)) CP; obtain ⟨z0, z1, z2, z3, z4, z5, z6, z7, z8, z9, z10, -⟩ := clT_of (HB.out) rfl rfl c4 q0 D))
                have HX2 := Lib.hid (HX.out.chg ‹Chg [] wr _›)
                clear b0 b1 b2 b3 b4 b5 b6 b7 b8 z0 z1 z2 z3 z4 z5 z6 z7 z8 z9 z10 CF CP D HX c4 q0 HB KF
                go_wp2_with fail
                go_roundg (m.length - i)
                case measure => omega
                case rel => exact ⟨i + 1, by omega, by omega, by omega, by go_num, HX2.out⟩
              · have e2 : m.length = i := by omega
                have hi' : ¬ (i : Int) < (m.length : Int) := by omega
                have HX := Lib.hid I; clear I hgk hin e HB e2
                go_wp2_with fail
                refine (told_ok _).mono ?_
                rintro e w4 ⟨rfl, C4⟩
                have HC := Lib.hid ((H2.out.1.trans HX.out.c).trans C4); clear C4 HX c4 hi'
                go_wp2_with fail
                go_ret
                exact ⟨rfl, HC.out⟩
end Go.Proofs.Ytfkgooliglcjkaa
