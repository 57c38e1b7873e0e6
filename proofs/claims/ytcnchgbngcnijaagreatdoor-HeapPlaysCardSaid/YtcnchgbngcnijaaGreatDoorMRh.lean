/- The document's heap (treadmillref5): how it lies in memory; its parts turned one by one. -/
/- The document's heap (treadmillref5): give, Flush, Begin, Sweep. -/
import Derived.Test.YtcnchgbngcnijaaGreatDoorCr4
import Derived.Test.YtcnchgbngcnijaaGreatDoorRp
import Derived.Test.YtcnchgbngcnijaaGreatDoorRq
import Derived.Test.YtcnchgbngcnijaaGreatDoorMRl
import Derived.Test.YtcnchgbngcnijaaGreatDoorMHi
import Derived.Test.YtcnchgbngcnijaaGreatDoorMHq
import Derived.Test.YtcnchgbngcnijaaGreatDoorMRa
import Derived.Test.YtcnchgbngcnijaaGreatDoorMRb
namespace Go.Proofs.YtcnchgbngcnijaaGreatDoor
open Go.RowKit Go.Maps

structure RhH where
  g : Nat
  ra : RaH
  gc : Nat
  v : Nat → Value
  gP : Nat
/-- Of each P its own spans and 1; 0: none. -/
def own1 (P : Nat) (o : Nat → Nat → Int) : Array Value := ((List.range (P * 16)).map fun i => Value.int .i64 (o (i / 16) (i % 16) + 1)).toArray
theorem own1_size (P : Nat) (o : Nat → Nat → Int) : (own1 P o).size = P * 16 := by unfold own1; simp
theorem own1_at {P : Nat} (o : Nat → Nat → Int) {p k : Nat} (hp : p < P) (hk : k < 16) : (own1 P o)[p * 16 + k]? = some (.int .i64 (o p k + 1)) := by
  have h1 : p * 16 + k < P * 16 := by omega
  have h2 : (p * 16 + k) / 16 = p := by omega
  have h3 : (p * 16 + k) % 16 = k := by omega
  unfold own1
  rw [List.getElem?_toArray, List.getElem?_map, List.getElem?_range h1, Option.map_some, h2, h3]
theorem own1_set {P : Nat} (o : Nat → Nat → Int) {p k : Nat} (hp : p < P) (hk : k < 16) (x : Int) : (own1 P o).setIfInBounds (p * 16 + k) (.int .i64 (x + 1)) = own1 P (updV o p (updV (o p) k x)) := by
  apply Array.ext_getElem?
  intro i
  rw [Array.getElem?_setIfInBounds]
  by_cases e : p * 16 + k = i
  · subst e
    rw [if_pos rfl, if_pos (by rw [own1_size]; omega), own1_at _ hp hk, updV_same, updV_same]
  · rw [if_neg e]
    by_cases hi : i < P * 16
    · obtain ⟨q, l, hl, rfl⟩ : ∃ q l, l < 16 ∧ i = q * 16 + l := ⟨i / 16, i % 16, Nat.mod_lt _ (by omega), by omega⟩
      rw [own1_at _ (show q < P by omega) hl, own1_at _ (show q < P by omega) hl]
      by_cases e1 : q = p
      · subst e1
        rw [updV_same, updV_other _ _ (fun e2 => e (by rw [e2]))]
      · rw [updV_other _ _ e1]
    · rw [Array.getElem?_eq_none (by rw [own1_size]; omega), Array.getElem?_eq_none (by rw [own1_size]; omega)]
/-- All blocks of the document's heap. -/
def RhF (h : RhH) (A : HpA) (k : Nat) : Prop := RaF h.ra A.a k ∨ CrF h.gc h.v k ∨ k = h.g ∨ k = h.gP
structure RhS (w : World) (h : RhH) (A : HpA) (N m : Nat) : Prop where
  b : Blk w h.g 72 #[.pointer (some ⟨h.ra.g, 0, none⟩), .pointer (some ⟨h.gc, 0, none⟩), .slice (some ⟨h.gP, 0, none⟩) A.P A.P]
  M : ∃ ids, RaM w h.ra A.a ids
  J : ArI N A.a
  C : IsCr w h.gc h.v A.r
  p : Blk w h.gP 134 (own1 A.P A.own)
  d1 : ∀ k, CrF h.gc h.v k → ¬ RaF h.ra A.a k
  d2 : ¬ RaF h.ra A.a h.g ∧ ¬ CrF h.gc h.v h.g
  d3 : ¬ RaF h.ra A.a h.gP ∧ ¬ CrF h.gc h.v h.gP
  mw : h.ra.mw ≤ m
  n : A.a.n ≤ 200
structure RhE (h' h : RhH) : Prop where
  g : h'.g = h.g
  ra : h'.ra.g = h.ra.g
  gc : h'.gc = h.gc
  gP : h'.gP = h.gP
theorem RhE.refl (h : RhH) : RhE h h := ⟨rfl, rfl, rfl, rfl⟩
theorem RhE.trans {h h' h'' : RhH} (e : RhE h'' h') (f : RhE h' h) : RhE h'' h := ⟨e.g.trans f.g, e.ra.trans f.ra, e.gc.trans f.gc, e.gP.trans f.gP⟩
def RhTo (w w' : World) (h : RhH) (A A' : HpA) (N' m' : Nat) : Prop := ∃ h', RhE h' h ∧ RhS w' h' A' N' m' ∧ StP (RhF h A) (RhF h' A') w w'
section
variable {w w' w'' : World} {h h' : RhH} {A A' A'' : HpA} {N N' N'' m m' m'' : Nat}
theorem RhS.lt (Q : RhS w h A N m) {k : Nat} (hk : RhF h A k) : k < w.heap.size := by
  rcases hk with hk | hk | rfl | rfl
  · exact Q.M.elim fun _ M => M.lt hk
  · exact Q.C.lt hk
  · exact Q.b.lt
  · exact Q.p.lt
theorem RhS.chg {S : List Nat} (Q : RhS w h A N m) (c : Chg S w w') (hn : ∀ k, RhF h A k → k ∉ S) : RhS w' h A N m := by
  obtain ⟨ids, M⟩ := Q.M
  exact ⟨c.blk Q.b (hn _ (.inr (.inr (.inl rfl)))), ⟨ids, M.chg c fun k hk => hn k (.inl hk)⟩, Q.J, Q.C.chg c fun k hk => hn k (.inr (.inl hk)), c.blk Q.p (hn _ (.inr (.inr (.inr rfl)))), Q.d1, Q.d2, Q.d3, Q.mw, Q.n⟩
theorem RhS.chg0 (Q : RhS w h A N m) (c : Chg [] w w') : RhS w' h A N m := Q.chg c (by simp)
theorem RhS.more (Q : RhS w h A N m) (h1 : N ≤ N') (h2 : m ≤ m') : RhS w h A N' m' := ⟨Q.b, Q.M, Q.J.more h1, Q.C, Q.p, Q.d1, Q.d2, Q.d3, Nat.le_trans Q.mw h2, Q.n⟩
theorem RhS.ne (Q : RhS w h A N m) : h.g ≠ h.gP := Q.b.ne_ Q.p (by decide)
/-- The arena turned. -/
theorem RhS.arena_ (Q : RhS w h A N m) {r' : RaH} {a' : Ar} {ids' : List Nat} (M' : RaM w' r' a' ids') (J' : ArI N' a') (st : StR h.ra A.a r' a' w w') (hg : r'.g = h.ra.g) (hm : r'.mw ≤ m') (hn : a'.n = A.a.n) :
    RhS w' { h with ra := r' } { A with a := a' } N' m' ∧ StP (RhF h A) (RhF { h with ra := r' } { A with a := a' }) w w' := by
  obtain ⟨T, c, hT⟩ := st.chg
  have nC : ∀ k, CrF h.gc h.v k → k ∉ T := fun k hk hm => Q.d1 k hk (hT k hm)
  have ng : h.g ∉ T := fun hm => Q.d2.1 (hT _ hm)
  have nP : h.gP ∉ T := fun hm => Q.d3.1 (hT _ hm)
  have far : ∀ k, k < w.heap.size → ¬ RaF h.ra A.a k → ¬ RaF r' a' k := fun k hk h1 h2 => (st.fr k h2).elim h1 (fun h3 => by omega)
  refine ⟨⟨?_, ⟨ids', M'⟩, J', Q.C.chg c nC, c.blk Q.p nP, fun k hk => far k (Q.C.lt hk) (Q.d1 k hk), ⟨far _ Q.b.lt Q.d2.1, Q.d2.2⟩, ⟨far _ Q.p.lt Q.d3.1, Q.d3.2⟩, hm, hn ▸ Q.n⟩, st.os, st.tape, st.output, st.size, fun k hk hf => st.block k hk (fun h1 => hf (.inl h1)), fun k hk => ?_⟩
  · show Blk w' h.g 72 #[.pointer (some ⟨r'.g, 0, none⟩), .pointer (some ⟨h.gc, 0, none⟩), .slice (some ⟨h.gP, 0, none⟩) A.P A.P]
    rw [hg]; exact c.blk Q.b ng
  · rcases hk with hk | hk
    · exact (st.fr k hk).imp .inl id
    · exact .inl (.inr hk)
theorem RhS.arena (Q : RhS w h A N m) {r' : RaH} {a' : Ar} {ids' : List Nat} (M' : RaM w' r' a' ids') (J' : ArI N' a') (st : StR h.ra A.a r' a' w w') (hg : r'.g = h.ra.g) (hm : r'.mw ≤ m') (hn : a'.n = A.a.n) :
    RhTo w w' h A { A with a := a' } N' m' := by
  obtain ⟨Q', s⟩ := Q.arena_ M' J' st hg hm hn
  exact ⟨{ h with ra := r' }, ⟨rfl, hg, rfl, rfl⟩, Q', s⟩
/-- The rows turned. -/
theorem RhS.central (Q : RhS w h A N m) {r' : Nat → List Nat} (T : CrTo h.gc h.v r' w w') : RhTo w w' h A { A with r := r' } N m := by
  obtain ⟨v', I, st⟩ := T
  obtain ⟨ids, M⟩ := Q.M
  obtain ⟨T, c, hT⟩ := st.chg
  have nA : ∀ k, RaF h.ra A.a k → k ∉ T := fun k hk hm => Q.d1 k (hT k hm) hk
  have ng : h.g ∉ T := fun hm => Q.d2.2 (hT _ hm)
  have nP : h.gP ∉ T := fun hm => Q.d3.2 (hT _ hm)
  have far : ∀ k, k < w.heap.size → ¬ CrF h.gc h.v k → ¬ CrF h.gc v' k := fun k hk h1 h2 => (st.fr k h2).elim h1 (fun h3 => by omega)
  refine ⟨{ h with v := v' }, ⟨rfl, rfl, rfl, rfl⟩, ⟨c.blk Q.b ng, ⟨ids, M.chg c nA⟩, Q.J, I, c.blk Q.p nP, fun k hk h2 => far k (M.lt h2) (fun h3 => Q.d1 k h3 h2) hk, ⟨Q.d2.1, far _ Q.b.lt Q.d2.2⟩, ⟨Q.d3.1, far _ Q.p.lt Q.d3.2⟩, Q.mw, Q.n⟩, st.os, st.tape, st.output, st.size, fun k hk hf => st.block k hk (fun h1 => hf (.inr (.inl h1))), fun k hk => ?_⟩
  rcases hk with hk | hk | hk
  · exact .inl (.inl hk)
  · exact (st.fr k hk).imp (fun h1 => .inr (.inl h1)) id
  · exact .inl (.inr (.inr hk))
/-- One of a P's own told anew. -/
theorem RhS.set (Q : RhS w h A N m) {p k : Nat} (hp : p < A.P) (hk : k < 16) (x y : Int) (hy : y = x + 1) : RhTo w (w.setCell ⟨h.gP, p * 16 + k, none⟩ (.int .i64 y)) h A { A with own := updV A.own p (updV (A.own p) k x) } N m := by
  subst hy
  obtain ⟨ids, M⟩ := Q.M
  have c : Chg [h.gP] w (w.setCell ⟨h.gP, p * 16 + k, none⟩ (.int .i64 (x + 1))) := (Chg.refl _ w).setCell (.inl (by simp)) _
  have is : ∀ {j}, j ∈ [h.gP] → j = h.gP := fun h => by simpa using h
  refine ⟨h, RhE.refl h, ⟨c.blk Q.b (fun hm => Q.ne (is hm)), ⟨ids, M.chg c fun j hj hm => Q.d3.1 (is hm ▸ hj)⟩, Q.J, Q.C.chg c fun j hj hm => Q.d3.2 (is hm ▸ hj), ?_, Q.d1, Q.d2, Q.d3, Q.mw, Q.n⟩, StP.of_chg c (fun j hj => .inl (.inr (.inr (.inr (is hj))))) (fun _ h => .inl h)⟩
  rw [← own1_set A.own hp hk]
  exact Q.p.set_ _ _
theorem RhTo.refl (Q : RhS w h A N m) : RhTo w w h A A N m := ⟨h, RhE.refl h, Q, StP.refl _ _⟩
theorem RhTo.chg0 (T : RhTo w w' h A A' N m) (c : Chg [] w' w'') : RhTo w w'' h A A' N m := by
  obtain ⟨h', e, Q, s⟩ := T
  exact ⟨h', e, Q.chg0 c, s.then0 c⟩
theorem RhS.same (Q : RhS w h A N m) (c : Chg [] w w') : RhTo w w' h A A N m := (RhTo.refl Q).chg0 c
theorem RhTo.after {h1 : RhH} {A1 : HpA} (e : RhE h1 h) (s : StP (RhF h A) (RhF h1 A1) w w') (T : RhTo w' w'' h1 A1 A' N m) : RhTo w w'' h A A' N m := by
  obtain ⟨h', e', Q, s'⟩ := T
  exact ⟨h', e'.trans e, Q, s.trans s'⟩
theorem RhTo.more (T : RhTo w w' h A A' N m) (h1 : N ≤ N') (h2 : m ≤ m') : RhTo w w' h A A' N' m' := by
  obtain ⟨h', e, Q, s⟩ := T
  exact ⟨h', e, Q.more h1 h2, s⟩
/-- The heap's own cell and its links. -/
theorem RhS.own_at (Q : RhS w h A N m) {p k : Nat} (hp : p < A.P) (hk : k < 16) : w.cell? ⟨h.gP, p * 16 + k, none⟩ = some (.int .i64 (A.own p k + 1)) := Q.p.cellv (p * 16 + k) (own1_at _ hp hk)
end
end Go.Proofs.YtcnchgbngcnijaaGreatDoor
namespace Go.Proofs.YtcnchgbngcnijaaGreatDoor
open Go.RowKit Go.Maps

/-- A span given back. -/
def GvR (p k : Nat) (A A' : HpA) : Prop :=
  (A.own p k = -1 ∧ A' = A) ∨ ∃ (id : Nat) (r' : Nat → List Nat), A.own p k = id ∧ PutTo A.a A.r k id r' ∧ A' = { A with r := r', own := updV A.own p (updV (A.own p) k (-1)) }
def GvPost (w : World) (h : RhH) (A : HpA) (N m p k : Nat) (e : Ending) (w' : World) : Prop := e = .returned (.tuple #[]) ∧ ∃ A', GvR p k A A' ∧ RhTo w w' h A A' N m
section
variable {w : World} {h : RhH} {A : HpA} {N m : Nat}
theorem RhS.b0 (Q : RhS w h A N m) : w.cell? ⟨h.g, 0, none⟩ = some (.pointer (some ⟨h.ra.g, 0, none⟩)) := Q.b.cellv 0 rfl
theorem RhS.b1 (Q : RhS w h A N m) : w.cell? ⟨h.g, 1, none⟩ = some (.pointer (some ⟨h.gc, 0, none⟩)) := Q.b.cellv 1 rfl
theorem RhS.b2 (Q : RhS w h A N m) : w.cell? ⟨h.g, 2, none⟩ = some (.slice (some ⟨h.gP, 0, none⟩) A.P A.P) := Q.b.cellv 2 rfl
end
theorem rh_full {w : World} {h : RhH} {A : HpA} {N m : Nat} (Q : RhS w h A N m) (hN : N ≤ 100000) (x : Int) : Calls Tryz.prog 62 #[.pointer (some ⟨h.ra.g, 0, none⟩), .int .i64 x] w (RflPost A.a x w) := by
  obtain ⟨ids, M⟩ := Q.M
  exact rafull_ok w h.ra A.a ids M (Nat.le_trans (M.len_le Q.J.ok) hN) x
theorem full_put {a : Ar} {id : Nat} {bo : Bool} (h : bo = true ↔ (spI a (id : Nat) = none ∨ ∃ s, spI a (id : Nat) = some s ∧ fullS s)) : bo = true ↔ ∀ s, spI a (id : Nat) = some s → fullS s := by
  rw [h]
  constructor
  · rintro (h1 | ⟨s, h1, h2⟩) t ht
    · rw [h1] at ht; cases ht
    · rw [h1] at ht; injection ht with ht; rw [← ht]; exact h2
  · intro h1
    cases e : spI a (id : Nat) with
    | none => exact .inl rfl
    | some s => exact .inr ⟨s, rfl, h1 s e⟩
set_option maxHeartbeats 3200000 in
set_option maxRecDepth 100000 in
theorem rhgive_ok (w : World) (h : RhH) (A : HpA) (N m : Nat) (Q : RhS w h A N m) (hN : N ≤ 100000) (hl : ∀ j, (A.r j).length ≤ 100000) (p k : Nat) (hp : p < A.P) (hP : A.P ≤ 64) (hk : k < 16) (ho : A.own p k = -1 ∨ ∃ id : Nat, A.own p k = id ∧ id ≤ 1000000) : Calls Tryz.prog 134 #[.pointer (some ⟨h.g, 0, none⟩), .int .i64 (p : Nat), .int .i64 (k : Nat)] w (GvPost w h A N m p k) := by
  have b0 := Q.b0
  have b1 := Q.b1
  have b2 := Q.b2
  have bo := Q.own_at hp hk
  have hp0 : (0 : Int) ≤ (p : Int) := by omega
  have hp1 : (p : Int) < (A.P : Int) := by omega
  have hk0 : (0 : Int) ≤ (k : Int) := by omega
  have hk1 : (k : Int) < 16 := by omega
  have hgl := Q.b.lt
  have HQ := Lib.hid (And.intro Q hl); clear Q hl
  go_enter Tryz.func134, Tryz.ntmps134
  rcases ho with h0 | ⟨id, hid, hid2⟩
  · rw [h0] at bo
    have bo2 : w.cell? ⟨h.gP, p * 16 + k, none⟩ = some (.int .i64 0) := bo
    have HX := Lib.hid h0; clear h0 bo
    go_wp2_with fail
    go_end0
    exact ⟨rfl, A, .inl ⟨HX.out, rfl⟩, RhTo.refl HQ.out.1⟩
  · rw [hid] at bo
    have ew : IntKind.i64.wrap (((id : Nat) : Int) + 1 - 1) = (id : Int) := by rw [IntKind.wrap_i64]; omega
    have hi0 : (0 : Int) ≤ (id : Int) := by omega
    have HX := Lib.hid hid; clear hid
    go_upto_region 2 with fail
    go_region_held3 (fun w' => w'.cell? ⟨h.g, 0, none⟩ = some (.pointer (some ⟨h.ra.g, 0, none⟩)) ∧ w'.cell? ⟨h.g, 1, none⟩ = some (.pointer (some ⟨h.gc, 0, none⟩))) (go_keep)
      (first
        | (go_at_call 62; refine (rh_full (RhS.chg0 HQ.out.1 (by repeat (first | assumption | exact Chg.refl [] w | refine Chg.drew ?_))) hN (id : Nat)).mono ?_; rintro e w' ⟨bf, rfl, ew1, hbf⟩; have D : Chg [] w w' := (by rw [ew1]; repeat (first | assumption | exact Chg.refl [] w | refine Chg.drew ?_)); clear ew1; have z0 : w'.cell? ⟨h.g, 0, none⟩ = some (.pointer (some ⟨h.ra.g, 0, none⟩)) := D.cellv hgl (by simp) b0; have z1 : w'.cell? ⟨h.g, 1, none⟩ = some (.pointer (some ⟨h.gc, 0, none⟩)) := D.cellv hgl (by simp) b1)
        | (go_at_call 138; refine (crput_ok _ h.gc h.v A.r (IsCr.chg0 HQ.out.1.C D) k id hk bf HQ.out.2).mono ?_; rintro e w' ⟨rfl, r2, hd, T2⟩; have R2 := (HQ.out.1.chg0 D).central T2; obtain ⟨h2, E2, Q2, s2⟩ := R2; have y0 : w'.cell? ⟨h.g, 0, none⟩ = some (.pointer (some ⟨h.ra.g, 0, none⟩)) := (by rw [← E2.g, ← E2.ra]; exact Q2.b0); have y1 : w'.cell? ⟨h.g, 1, none⟩ = some (.pointer (some ⟨h.gc, 0, none⟩)) := (by rw [← E2.g, ← E2.gc]; exact Q2.b1)))
    have hPt : PutTo A.a A.r k id (updV r2 (k * 4 + sd bf) (r2 (k * 4 + sd bf) ++ [id])) := ⟨r2, bf, hd, full_put hbf, rfl⟩
    have q2 : w'.cell? ⟨h.g, 2, none⟩ = some (.slice (some ⟨h.gP, 0, none⟩) A.P A.P) := by rw [← E2.g, ← E2.gP]; exact Q2.b2
    have q4 : w'.cell? ⟨h.gP, p * 16 + k, none⟩ = some (.int .i64 (A.own p k + 1)) := by rw [← E2.gP]; exact Q2.own_at hp hk
    have q5 : w'.frozen? ⟨h.gP, p * 16 + k, none⟩ = false := by rw [← E2.gP]; exact Q2.p.frozen _
    have R3 := Q2.set hp hk (-1) 0 (by omega)
    rw [E2.gP] at R3
    have R4 := RhTo.after E2 ((StP.of_chg D (by simp) (fun _ hh => .inl hh)).trans s2) R3
    have HY := Lib.hid (And.intro hPt R4); clear hPt R3 R4 Q2 hd T2 s2 hbf D z0 z1 y0 y1 E2 b0 b1 b2 bo
    go_wp2_with fail
    go_end0
    exact ⟨rfl, _, .inr ⟨id, _, HX.out, HY.out.1, rfl⟩, HY.out.2⟩
def RfRel (w0 : World) (h : RhH) (A : HpA) (N m p gk : Nat) (idx : Value) (w : World) : Prop :=
  ∃ k r', gk + k = 17 ∧ k ≤ 16 ∧ idx = .int .i64 (k : Nat) ∧ FlR A.a (A.own p) k A.r r' ∧ RhTo w0 w h A { A with r := r', own := updV A.own p (flO (A.own p) k) } N m
def RfPost (w : World) (h : RhH) (A : HpA) (N m p : Nat) (e : Ending) (w' : World) : Prop :=
  e = .returned (.tuple #[]) ∧ ∃ r', FlR A.a (A.own p) 16 A.r r' ∧ RhTo w w' h A { A with r := r', own := updV A.own p (flO (A.own p) 16) } N m
set_option maxHeartbeats 3200000 in
set_option maxRecDepth 100000 in
theorem rhflush_ok (w : World) (h : RhH) (A : HpA) (N m : Nat) (Q : RhS w h A N m) (hN : N ≤ 100000) (hl : ∀ j, (A.r j).length ≤ 10000) (p : Nat) (hp : p < A.P) (hP : A.P ≤ 64) (ho : ∀ k, k < 16 → A.own p k = -1 ∨ ∃ id : Nat, A.own p k = id ∧ id ≤ 1000000) : Calls Tryz.prog 88 #[.pointer (some ⟨h.g, 0, none⟩), .int .i64 (p : Nat)] w (RfPost w h A N m p) := by
  have hp0 : (0 : Int) ≤ (p : Int) := by omega
  have hp1 : (p : Int) < (A.P : Int) := by omega
  have e0 : ({ A with r := A.r, own := updV A.own p (flO (A.own p) 0) } : HpA) = A := by rw [flO_zero, updV_self]
  have HQ := Lib.hid (And.intro Q (And.intro hl (And.intro ho e0))); clear Q hl ho e0
  go_enter Tryz.func88, Tryz.ntmps88
  go_wp2_with fail
  go_loopg [4] 17 (fun gk idx wr => RfRel w h A N m p gk idx wr)
  case atStart => exact ⟨0, A.r, by omega, by omega, rfl, rfl, by rw [HQ.out.2.2.2]; exact RhTo.refl HQ.out.1⟩
  case round =>
    obtain ⟨k, r1, hgk, hk, rfl, hF, h1, E1, Q1, s1⟩ := hrel
    have b2 : wr.cell? ⟨h.g, 2, none⟩ = some (.slice (some ⟨h.gP, 0, none⟩) A.P A.P) := by rw [← E1.g, ← E1.gP]; exact Q1.b2
    by_cases ek : k < 16
    · have hk' : (k : Int) < 16 := by omega
      have hk0 : (0 : Int) ≤ (k : Int) := by omega
      have eo : updV A.own p (flO (A.own p) k) p k = A.own p k := by rw [updV_same, flO_at]
      have K := rhgive_ok wr h1 _ N m Q1 hN (fun j => by have := hF.len j; have := HQ.out.2.1 j; show (r1 j).length ≤ 100000; omega) p k hp hP ek (by have q := HQ.out.2.2.1 k ek; rw [← eo] at q; exact q)
      rw [E1.g] at K
      have HX := Lib.hid (And.intro hF (And.intro E1 (And.intro s1 eo))); clear hF Q1 E1 s1 eo
      go_wp2_with fail
      refine K.mono ?_
      rintro e w2 ⟨rfl, A2, hg, T2⟩
      clear K
      have T3 := RhTo.after HX.out.2.1 HX.out.2.2.1 T2
      have HY := Lib.hid (And.intro hg T3); clear hg T2 T3
      go_wp2_with fail
      go_roundg (16 - k)
      case measure => omega
      case rel =>
        have T3 := HY.out.2
        rcases HY.out.1 with ⟨hm, rfl⟩ | ⟨id, r2, hm, hp2, rfl⟩
        · have hm2 : A.own p k = -1 := HX.out.2.2.2 ▸ hm
          refine ⟨k + 1, r1, by omega, by omega, by go_num, ⟨r1, HX.out.1, .inl ⟨hm2, rfl⟩⟩, ?_⟩
          rw [← flO_same hm2]; exact T3
        · have hm2 : A.own p k = id := HX.out.2.2.2 ▸ hm
          refine ⟨k + 1, r2, by omega, by omega, by go_num, ⟨r1, HX.out.1, .inr ⟨id, hm2, hp2⟩⟩, ?_⟩
          have eo : updV (updV A.own p (flO (A.own p) k)) p (updV (updV A.own p (flO (A.own p) k) p) k (-1)) = updV A.own p (flO (A.own p) (k + 1)) := by
            rw [updV_same, flO_set]
            funext i
            unfold updV
            split <;> rfl
          rw [← eo]; exact T3
    · obtain rfl : k = 16 := by omega
      have HX := Lib.hid (And.intro hF (show RhTo w wr h A { A with r := r1, own := updV A.own p (flO (A.own p) 16) } N m from ⟨h1, E1, Q1, s1⟩)); clear hF Q1 ek E1 s1
      go_wp2_with fail
      go_end0
      exact ⟨rfl, r1, HX.out.1, HX.out.2⟩
end Go.Proofs.YtcnchgbngcnijaaGreatDoor
