/- ArenaDrops: plain parts. -/
/- Classes: Of, where a size may be. -/
/- Package cache: how a heap lies in memory; its parts turned one by one. -/
/- Package cache: owned, unswept, Arena, Unswept, fresh. -/
/- Package cache: Flush. -/
/- Package cache: Sweep. -/
import Derived.Test.YtcnchgbngcnijaaGreatDoorDr
import Derived.Test.YtcnchgbngcnijaaGreatDoorMSer
import Derived.Test.YtcnchgbngcnijaaGreatDoorMCl
import Derived.Test.YtcnchgbngcnijaaGreatDoorMCc
namespace Go.Proofs.YtcnchgbngcnijaaGreatDoor
open Go.RowKit

/-- Spans 0 to i - 1 are there, of classes told, nothing in them; what is left is one run, of 256 pages in all. -/
structure SerD (a : Ar) (i f p : Nat) (cl : Nat → Nat) : Prop where
  l : a.l = [⟨f, p⟩]
  s : f + p = 256
  f : f ≤ 1 + 4 * i
  n : a.n = 256
  sp : ∀ j, j < i → ∃ s, a.sp j = some s ∧ s.k = cl j ∧ Spt s false false
end Go.Proofs.YtcnchgbngcnijaaGreatDoor
namespace Go.Proofs.YtcnchgbngcnijaaGreatDoor
open Go.RowKit

def CoRel (w0 : World) (n : Int) (gk : Nat) (idx : Value) (w : World) : Prop := ∃ k, gk + k = 17 ∧ k ≤ 15 ∧ idx = .int .i64 (k : Nat) ∧ (∀ j, j < k → (szK j : Int) < n) ∧ Chg [] w0 w
set_option maxHeartbeats 1600000 in
set_option maxRecDepth 100000 in
theorem cof_ok (w : World) (n : Nat) (h0 : 1 ≤ n) (h1 : n ≤ 256) : Calls Tryz.prog 74 #[.int .i64 (n : Nat)] w (OfPost n w) := by
  have h2 : (1 : Int) ≤ (n : Int) := by omega
  go_enter Tryz.func74, Tryz.ntmps74
  go_wp2_with fail
  refine (table_ok w).mono ?_
  rintro e w1 ⟨rfl, c1⟩
  have HC := Lib.hid c1; clear c1
  go_wp2_with fail
  go_loopg [6] 17 (fun gk idx wr => CoRel w n gk idx wr)
  case atStart => exact ⟨0, by omega, by omega, rfl, fun j hj => by omega, HC.out⟩
  case round =>
    obtain ⟨k, hgk, hk, rfl, hp, c⟩ := hrel
    have hix := idx_sz wr k (by omega)
    have hi' : (k : Int) < 16 := by omega
    obtain ⟨s, hs⟩ : ∃ s, s = szK k := ⟨_, rfl⟩
    rw [← hs] at hix
    by_cases h4 : (n : Int) ≤ (s : Int)
    · have HP := Lib.hid (And.intro hp (And.intro c hs)); clear hp c hs
      go_wp2_with fail
      go_ret
      exact ⟨k, ⟨by omega, by rw [← HP.out.2.2]; omega, fun j hj => by have := HP.out.1 j hj; omega⟩, rfl, HP.out.2.1⟩
    · have hk15 : k < 15 := by
        rcases Nat.lt_or_ge k 15 with h5 | h5
        · exact h5
        · have e : k = 15 := by omega
          rw [e] at hs
          have e2 : szK 15 = 256 := rfl
          omega
      have hp' : ∀ j, j < k + 1 → (szK j : Int) < n := fun j hj => by
        rcases Nat.lt_or_ge j k with g | g
        · exact hp j g
        · have e2 : j = k := by omega
          rw [e2, ← hs]; omega
      have HP := Lib.hid (And.intro hp' c); clear hp hp' c hs
      go_wp2_with fail
      go_roundg (16 - k)
      case measure => omega
      case rel => exact ⟨k + 1, by omega, by omega, by go_num, HP.out.1, HP.out.2⟩
end Go.Proofs.YtcnchgbngcnijaaGreatDoor
namespace Go.Proofs.YtcnchgbngcnijaaGreatDoor
open Go.RowKit Go.Maps

/-- Where a heap lies. -/
structure HpH where
  gh : Nat
  ah : ArH
  gc : Nat
  gl : Nat
  v : Nat → Value
  vo : Value
  gp : Nat → Nat
/-- What a heap is: an arena, the rows in common, each P's own spans (-1: none). -/
structure HpA where
  a : Ar
  r : Nat → List Nat
  P : Nat
  own : Nat → Nat → Int
def own16 (f : Nat → Int) : Array Value := ((List.range 16).map fun k => Value.int .i64 (f k)).toArray
theorem own16_size (f : Nat → Int) : (own16 f).size = 16 := by unfold own16; simp
theorem own16_at (f : Nat → Int) {k : Nat} (h : k < 16) : (own16 f)[k]? = some (.int .i64 (f k)) := by unfold own16; simp [h]
theorem own16_set (f : Nat → Int) {k : Nat} (h : k < 16) (x : Int) : (own16 f).setIfInBounds k (.int .i64 x) = own16 (updV f k x) := by
  apply Array.ext_getElem?
  intro i
  rw [Array.getElem?_setIfInBounds]
  by_cases e : k = i
  · subst e
    rw [if_pos rfl, if_pos (by rw [own16_size]; exact h), own16_at _ h, updV_same]
  · rw [if_neg e]
    by_cases hi : i < 16
    · rw [own16_at _ hi, own16_at _ hi, updV_other _ _ (Ne.symm e)]
    · rw [Array.getElem?_eq_none (by rw [own16_size]; omega), Array.getElem?_eq_none (by rw [own16_size]; omega)]
def ownVs (gp : Nat → Nat) (P : Nat) : List Value := (List.range P).map fun p => .slice (some ⟨gp p, 0, none⟩) 16 16
/-- The blocks that are neither the arena's nor the rows'. -/
def OwF (H : HpH) (P : Nat) (k : Nat) : Prop := k = H.gh ∨ k ∈ fpv H.vo ∨ ∃ p, p < P ∧ k = H.gp p
structure HpS (W w : World) (H : HpH) (A : HpA) (N b : Nat) : Prop where
  hb : Blk w H.gh 103 #[.pointer (some ⟨H.ah.ga, 0, none⟩), .pointer (some ⟨H.gc, 0, none⟩), H.vo]
  S : ArS W w H.ah.ga H.ah A.a N b
  C : IsCe w H.gc H.gl H.v A.r
  o : w.ownsRow 0 33 1 H.vo A.P (ownVs H.gp A.P)
  g : ∀ p, p < A.P → Blk w (H.gp p) 3 (own16 (A.own p))
  inj : ∀ p q, p < A.P → q < A.P → p ≠ q → H.gp p ≠ H.gp q
  d1 : ∀ k, CeF H.gc H.gl H.v k → ¬ ArF H.ah A.a k
  d2 : ∀ k, OwF H A.P k → ¬ ArF H.ah A.a k ∧ ¬ CeF H.gc H.gl H.v k
  n1 : ∀ k, CeF H.gc H.gl H.v k → W.heap.size ≤ k
  n2 : ∀ k, OwF H A.P k → W.heap.size ≤ k
section
variable {W w w' : World} {H : HpH} {A : HpA} {N N' b b' : Nat}
theorem HpS.ltO (Q : HpS W w H A N b) {k : Nat} (hk : OwF H A.P k) : k < w.heap.size := by
  rcases hk with rfl | hk | ⟨p, hp, rfl⟩
  · exact Q.hb.lt
  · exact own_lt Q.o (mem_fpv.1 hk)
  · exact (Q.g p hp).lt
theorem HpS.chg0 (Q : HpS W w H A N b) (c : Chg [] w w') : HpS W w' H A N b :=
  ⟨c.blk Q.hb (by simp), Q.S.chg0 c, Q.C.chg0 c, own_chg Q.o c (fun _ _ => by simp), fun p hp => c.blk (Q.g p hp) (by simp), Q.inj, Q.d1, Q.d2, Q.n1, Q.n2⟩
/-- The arena turned. -/
theorem HpS.arena (Q : HpS W w H A N b) {h' : ArH} {a' : Ar} (S' : ArS W w' H.ah.ga h' a' N' b') (st : StA H.ah A.a h' a' w w') : HpS W w' { H with ah := h' } { A with a := a' } N' b' := by
  obtain ⟨T, c, hT⟩ := st.chg
  have hga : h'.ga = H.ah.ga := S'.ga
  have nO : ∀ k, OwF H A.P k → k ∉ T := fun k hk hm => (Q.d2 k hk).1 (hT k hm)
  have nC : ∀ k, CeF H.gc H.gl H.v k → k ∉ T := fun k hk hm => Q.d1 k hk (hT k hm)
  refine ⟨?_, ?_, Q.C.chg c nC, own_chg Q.o c (fun k hk => nO k (.inr (.inl (mem_fpv.2 hk)))), fun p hp => c.blk (Q.g p hp) (nO _ (.inr (.inr ⟨p, hp, rfl⟩))), Q.inj, fun k hk hF => ?_, fun k hk => ⟨fun hF => ?_, (Q.d2 k hk).2⟩, Q.n1, Q.n2⟩
  · show Blk w' H.gh 103 #[.pointer (some ⟨h'.ga, 0, none⟩), .pointer (some ⟨H.gc, 0, none⟩), H.vo]
    rw [hga]; exact c.blk Q.hb (nO _ (.inl rfl))
  · show ArS W w' h'.ga h' a' N' b'
    rw [hga]; exact S'
  · rcases st.fr k hF with h1 | h1
    · exact Q.d1 k hk h1
    · have := Q.C.lt hk; omega
  · rcases st.fr k hF with h1 | h1
    · exact (Q.d2 k hk).1 h1
    · have := Q.ltO hk; omega
/-- The rows turned. -/
theorem HpS.central (Q : HpS W w H A N b) {v' : Nat → Value} {r' : Nat → List Nat} (I : IsCe w' H.gc H.gl v' r') (st : StP (CeF H.gc H.gl H.v) (CeF H.gc H.gl v') w w') : HpS W w' { H with v := v' } { A with r := r' } N b := by
  obtain ⟨T, c, hT⟩ := st.chg
  have nO : ∀ k, OwF H A.P k → k ∉ T := fun k hk hm => (Q.d2 k hk).2 (hT k hm)
  have nA : ∀ k, ArF H.ah A.a k → k ∉ T := fun k hk hm => Q.d1 k (hT k hm) hk
  refine ⟨c.blk Q.hb (nO _ (.inl rfl)), ⟨Q.S.M.chg c nA, Q.S.I, Q.S.far, Q.S.c.new c (fun k hk => Q.n1 k (hT k hk)), rfl, Q.S.m⟩, I, own_chg Q.o c (fun k hk => nO k (.inr (.inl (mem_fpv.2 hk)))), fun p hp => c.blk (Q.g p hp) (nO _ (.inr (.inr ⟨p, hp, rfl⟩))), Q.inj, fun k hk hF => ?_, fun k hk => ⟨(Q.d2 k hk).1, fun hF => ?_⟩, fun k hk => ?_, Q.n2⟩
  · rcases st.fr k hk with h1 | h1
    · exact Q.d1 k h1 hF
    · have := Q.S.M.lt k hF; omega
  · rcases st.fr k hF with h1 | h1
    · exact (Q.d2 k hk).2 h1
    · have := Q.ltO hk; omega
  · rcases st.fr k hk with h1 | h1
    · exact Q.n1 k h1
    · exact Nat.le_trans Q.S.c.size h1
/-- One of a P's own told anew. -/
theorem HpS.set (Q : HpS W w H A N b) {p k : Nat} (hp : p < A.P) (hk : k < 16) (x : Int) : HpS W (w.setCell ⟨H.gp p, k, none⟩ (.int .i64 x)) H { A with own := updV A.own p (updV (A.own p) k x) } N b := by
  have c : Chg [H.gp p] w (w.setCell ⟨H.gp p, k, none⟩ (.int .i64 x)) := (Chg.refl _ w).setCell (.inl (by simp)) _
  have hO : OwF H A.P (H.gp p) := .inr (.inr ⟨p, hp, rfl⟩)
  have nA : ∀ k, ArF H.ah A.a k → k ∉ [H.gp p] := fun k hF hm => (Q.d2 _ hO).1 (by have : k = H.gp p := (by simpa using hm); rw [← this]; exact hF)
  have nC : ∀ k, CeF H.gc H.gl H.v k → k ∉ [H.gp p] := fun k hF hm => (Q.d2 _ hO).2 (by have : k = H.gp p := (by simpa using hm); rw [← this]; exact hF)
  refine ⟨c.blk Q.hb (fun hm => (Q.g p hp).ne_ Q.hb (by decide) (by simpa using hm : H.gh = H.gp p).symm), ⟨Q.S.M.chg c nA, Q.S.I, Q.S.far, Q.S.c.new c (fun k hk => by have : k = H.gp p := (by simpa using hk); rw [this]; exact Q.n2 _ hO), rfl, Q.S.m⟩, Q.C.chg c nC, own_chg Q.o c (fun j hj hm => own_ne Q.o (Q.g p hp) (by decide) (by have : j = H.gp p := (by simpa using hm); rw [← this]; exact hj)), fun q hq => ?_, Q.inj, Q.d1, Q.d2, Q.n1, Q.n2⟩
  show Blk _ (H.gp q) 3 (own16 (updV A.own p (updV (A.own p) k x) q))
  by_cases e : q = p
  · subst e
    rw [updV_same, ← own16_set _ hk]
    exact (Q.g q hp).set_ k _
  · rw [updV_other _ _ e]
    exact c.blk (Q.g q hq) (fun hm => Q.inj q p hq hp e (by simpa using hm))
end
/-- All blocks of a heap. -/
def HpF (H : HpH) (A : HpA) (k : Nat) : Prop := ArF H.ah A.a k ∨ CeF H.gc H.gl H.v k ∨ OwF H A.P k
section
variable {W w w' w'' : World} {H H' : HpH} {A A' : HpA}
theorem st_arena {h' : ArH} {a' : Ar} (st : StA H.ah A.a h' a' w w') : StP (HpF H A) (HpF { H with ah := h' } { A with a := a' }) w w' :=
  ⟨st.os, st.tape, st.output, st.size, fun k hk hn => st.block k hk (fun h => hn (.inl h)), fun k hk => by
    rcases hk with h | h | h
    · rcases st.fr k h with h1 | h1
      · exact .inl (.inl h1)
      · exact .inr h1
    · exact .inl (.inr (.inl h))
    · exact .inl (.inr (.inr h))⟩
theorem st_central {v' : Nat → Value} {r' : Nat → List Nat} (st : StP (CeF H.gc H.gl H.v) (CeF H.gc H.gl v') w w') : StP (HpF H A) (HpF { H with v := v' } { A with r := r' }) w w' :=
  ⟨st.os, st.tape, st.output, st.size, fun k hk hn => st.block k hk (fun h => hn (.inr (.inl h))), fun k hk => by
    rcases hk with h | h | h
    · exact .inl (.inl h)
    · rcases st.fr k h with h1 | h1
      · exact .inl (.inr (.inl h1))
      · exact .inr h1
    · exact .inl (.inr (.inr h))⟩
theorem st_set {p k : Nat} (hp : p < A.P) (x : Int) (o : Nat → Nat → Int) : StP (HpF H A) (HpF H { A with own := o }) w (w.setCell ⟨H.gp p, k, none⟩ (.int .i64 x)) :=
  StP.of_chg (S := [H.gp p]) ((Chg.refl _ w).setCell (.inl (by simp)) _) (fun j hj => .inl (.inr (.inr (.inr (.inr ⟨p, hp, by simpa using hj⟩))))) (fun _ h => .inl h)
end
/-- A list of the call's own beside a heap. -/
structure LsP (W : World) (F : Nat → Prop) (w : World) (v : Value) (l : List Int) : Prop where
  o : OwnI 3 w v l
  nf : ∀ k ∈ fpv v, ¬ F k
  new : ∀ k ∈ fpv v, W.heap.size ≤ k
section
variable {W w w' : World} {F F' : Nat → Prop} {v v' u u' : Value} {l l' : List Int}
theorem LsP.nil (W w : World) (F : Nat → Prop) : LsP W F w (.slice none 0 0) [] := ⟨OwnI.nil _ _, fun k hk => by simp [fpv, Value.ownBlock] at hk, fun k hk => by simp [fpv, Value.ownBlock] at hk⟩
theorem LsP.st (L : LsP W F w v l) (st : StP F F' w w') : LsP W F' w' v l := by
  obtain ⟨S, c, hS⟩ := st.chg
  exact ⟨L.o.chg c (fun k hk hm => L.nf k hk (hS k hm)), fun k hk hF => by
    rcases st.fr k hF with h1 | h1
    · exact L.nf k hk h1
    · have := L.o.lt hk; omega, L.new⟩
theorem LsP.chg0 (L : LsP W F w v l) (c : Chg [] w w') : LsP W F w' v l := ⟨L.o.chg0 c, L.nf, L.new⟩
theorem LsP.push (L : LsP W F w v l) (hF : ∀ k, F k → k < w.heap.size) (hW : W.heap.size ≤ w.heap.size) (O : OwnI 3 w' v' l') (s : Stp (fpv v) (fpv v') w w') : LsP W F w' v' l' :=
  ⟨O, fun k hk hk2 => by
    rcases s.f k hk with h1 | h1
    · exact L.nf k h1 hk2
    · have := hF k hk2; omega, fun k hk => by
    rcases s.f k hk with h1 | h1
    · exact L.new k h1
    · omega⟩
end
theorem HpS.lt {W w : World} {H : HpH} {A : HpA} {N b : Nat} (Q : HpS W w H A N b) {k : Nat} (hk : HpF H A k) : k < w.heap.size := by
  rcases hk with h | h | h
  · exact Q.S.M.lt k h
  · exact Q.C.lt h
  · exact Q.ltO h
/-- A heap stays, where a list beside it is turned. -/
theorem HpS.stp {W w w' : World} {H : HpH} {A : HpA} {N b : Nat} {v v' : Value} {l : List Int} (Q : HpS W w H A N b) (L : LsP W (HpF H A) w v l) (s : Stp (fpv v) (fpv v') w w') : HpS W w' H A N b := by
  have nA : ∀ k, ArF H.ah A.a k → k ∉ fpv v := fun k hk hm => L.nf k hm (.inl hk)
  have nC : ∀ k, CeF H.gc H.gl H.v k → k ∉ fpv v := fun k hk hm => L.nf k hm (.inr (.inl hk))
  have nO : ∀ k, OwF H A.P k → k ∉ fpv v := fun k hk hm => L.nf k hm (.inr (.inr hk))
  exact ⟨s.c.blk Q.hb (nO _ (.inl rfl)), ⟨Q.S.M.chg s.c nA, Q.S.I, Q.S.far, Q.S.c.new s.c L.new, rfl, Q.S.m⟩, Q.C.chg s.c nC, own_chg Q.o s.c (fun k hk => nO k (.inr (.inl (mem_fpv.2 hk)))), fun p hp => s.c.blk (Q.g p hp) (nO _ (.inr (.inr ⟨p, hp, rfl⟩))), Q.inj, Q.d1, Q.d2, Q.n1, Q.n2⟩
end Go.Proofs.YtcnchgbngcnijaaGreatDoor
namespace Go.Proofs.YtcnchgbngcnijaaGreatDoor
open Go.RowKit Go.Maps

/-- What ids and rows are bounded by. -/
structure HpB (A : HpA) : Prop where
  l : ∀ j, (A.r j).length ≤ 10000
  x : ∀ j, ∀ x ∈ A.r j, x ≤ 1000000
  o : ∀ p k, p < A.P → k < 16 → A.own p k = -1 ∨ ∃ id : Nat, A.own p k = id ∧ id ≤ 1000000
  P : A.P ≤ 64
section
variable {W w : World} {H : HpH} {A : HpA} {N b : Nat} (Q : HpS W w H A N b)
include Q
theorem HpS.vo_at {p : Nat} (hp : p < A.P) : ∃ g c, H.vo = .slice (some ⟨g, 0, none⟩) A.P c ∧ w.cell? ⟨g, p, none⟩ = some (.slice (some ⟨H.gp p, 0, none⟩) 16 16) ∧ A.P ≤ c := by
  rcases Q.o.2 with ⟨_, h0⟩ | ⟨g, cap, cur, e, hb0, hh, hc, hm, hs, ht⟩
  · omega
  · refine ⟨g, cap, e, ?_, by omega⟩
    have hB : Blk w g 33 cur := hh
    rw [hB.cell]
    have h1 : (cur.toList.take (A.P * 1))[p]? = some (.slice (some ⟨H.gp p, 0, none⟩) 16 16) := by rw [ht]; unfold ownVs; simp [hp]
    rw [List.getElem?_take] at h1
    split at h1
    · simpa using h1
    · cases h1
theorem HpS.own_at {p k : Nat} (hp : p < A.P) (hk : k < 16) : w.cell? ⟨H.gp p, k, none⟩ = some (.int .i64 (A.own p k)) := (Q.g p hp).cellv k (own16_at _ hk)
theorem HpS.vo_sl : ∃ B c, H.vo = .slice B A.P c := by
  rcases Q.o.2 with ⟨e, h0⟩ | ⟨g, cap, cur, e, _⟩
  · exact ⟨none, 0, by rw [h0]; exact e⟩
  · exact ⟨_, cap, e⟩
def OdPost (A : HpA) (id : Int) (w : World) (e : Ending) (w' : World) : Prop := ∃ bo, e = .returned (.bool bo) ∧ w' = w ∧ (bo = true ↔ ∃ p k, p < A.P ∧ k < 16 ∧ A.own p k = id)
def OdRel (A : HpA) (id : Int) (gk : Nat) (idx : Value) (w0 w : World) : Prop := ∃ p, gk + p = A.P + 1 ∧ p ≤ A.P ∧ idx = .int .i64 (p : Nat) ∧ (∀ q k, q < p → k < 16 → A.own q k ≠ id) ∧ w = w0
def OeRel (A : HpA) (p : Nat) (id : Int) (gk : Nat) (idx : Value) (w0 w : World) : Prop := ∃ k, gk + k = 17 ∧ k ≤ 16 ∧ idx = .int .i64 (k : Nat) ∧ (∀ j, j < k → A.own p j ≠ id) ∧ w = w0
set_option maxHeartbeats 1600000 in
set_option maxRecDepth 100000 in
theorem owned_ok (hP : A.P ≤ 64) (id : Int) : Calls Tryz.prog 82 #[.pointer (some ⟨H.gh, 0, none⟩), .int .i64 id] w (OdPost A id w) := by
  have b2 : w.cell? ⟨H.gh, 2, none⟩ = some H.vo := Q.hb.cellv 2 rfl
  obtain ⟨Bv, cv, hvo⟩ := Q.vo_sl
  rw [hvo] at b2
  have HQ := Lib.hid (And.intro Q hvo); clear Q hvo
  go_enter Tryz.func82, Tryz.ntmps82
  go_wp2_with fail
  go_loopg [14] (A.P + 1) (fun gk idx wr => OdRel A id gk idx w wr)
  case atStart => exact ⟨0, by omega, by omega, rfl, fun q k h => by omega, rfl⟩
  case round =>
    obtain ⟨p, hgk, hp, rfl, hno, hw⟩ := hrel
    subst hw
    by_cases ep : p < A.P
    · have hp' : (p : Int) < (A.P : Int) := by omega
      have hp0 : (0 : Int) ≤ (p : Int) := by omega
      obtain ⟨g, c, e1, c1, -⟩ := HQ.out.1.vo_at ep
      rw [HQ.out.2] at e1
      injection e1 with e1 e2 e3
      subst e1
      have HN := Lib.hid hno; clear hno e2 e3
      go_wp2_with fail
      go_loopg [20] 17 (fun gk idx wr' => OeRel A p id gk idx wr wr')
      case atStart => exact ⟨0, by omega, by omega, rfl, fun j h => by omega, rfl⟩
      case round =>
        obtain ⟨k, hgk2, hk, rfl, hno, hw⟩ := hrel
        subst hw
        by_cases ek : k < 16
        · have hk' : (k : Int) < 16 := by omega
          have hk0 : (0 : Int) ≤ (k : Int) := by omega
          have c2 := HQ.out.1.own_at ep ek
          have HM := Lib.hid hno; clear hno
          by_cases e : A.own p k = id
          · have hq : (A.own p k == id) = true := by rw [beq_iff_eq]; exact e
            have HE := Lib.hid e; clear e
            go_wp2_with fail
            go_ret
            exact ⟨true, rfl, rfl, fun _ => ⟨p, k, ep, ek, HE.out⟩, fun _ => rfl⟩
          · have hq : (A.own p k == id) = false := by rw [beq_eq_false_iff_ne]; exact e
            have HE := Lib.hid e; clear e
            go_wp2_with fail
            go_roundg (16 - k)
            case measure => omega
            case rel => exact ⟨k + 1, by omega, by omega, by go_num, fun j hj => by
              rcases Nat.lt_or_ge j k with g1 | g1
              · exact HM.out j g1
              · have : j = k := by omega
                rw [this]; exact HE.out, rfl⟩
        · obtain rfl : k = 16 := by omega
          have HM := Lib.hid hno; clear hno ek
          go_wp2_with fail
          go_roundg (A.P - p)
          case measure => omega
          case rel => exact ⟨p + 1, by omega, by omega, by go_num, fun q j hq hj => by
            rcases Nat.lt_or_ge q p with g1 | g1
            · exact HN.out q j g1 hj
            · have : q = p := by omega
              rw [this]; exact HM.out j hj, rfl⟩
    · obtain rfl : p = A.P := by omega
      have hp' : ¬ (A.P : Int) < (A.P : Int) := by omega
      have HM := Lib.hid hno; clear hno ep
      go_wp2_with fail
      go_ret
      exact ⟨false, rfl, rfl, ⟨fun h => (by cases h), fun ⟨q, k, h1, h2, h3⟩ => absurd h3 (HM.out q k h1 h2)⟩⟩
def UwRel (xs : List Int) (id : Int) (gk : Nat) (idx : Value) (w0 w : World) : Prop := ∃ i, gk + i = xs.length + 1 ∧ i ≤ xs.length ∧ idx = .int .i64 (i : Nat) ∧ id ∉ xs.take i ∧ w = w0
set_option maxHeartbeats 1600000 in
set_option maxRecDepth 100000 in
theorem unswept_ok (B : HpB A) (id : Nat) : Calls Tryz.prog 83 #[.pointer (some ⟨H.gh, 0, none⟩), .int .i64 (id : Nat)] w (NwPost (.bool (decide (id ∈ waN A.r 16))) w) := by
  have b1 : w.cell? ⟨H.gh, 1, none⟩ = some (.pointer (some ⟨H.gc, 0, none⟩)) := Q.hb.cellv 1 rfl
  have HQ := Lib.hid (And.intro Q B); clear Q B
  go_enter Tryz.func83, Tryz.ntmps83
  go_wp2_with fail
  refine (cwaiting_ok w H.gc H.gl H.v A.r HQ.out.1.C HQ.out.2.l HQ.out.2.x).mono ?_
  rintro e w1 ⟨v1, rfl, O, c1, f1⟩
  obtain ⟨xs, hxs⟩ : ∃ xs, xs = intsN (waN A.r 16) := ⟨_, rfl⟩
  rw [← hxs] at O
  obtain ⟨A1, k1, rfl⟩ := O.slice
  have hmem : ((id : Nat) : Int) ∈ xs ↔ id ∈ waN A.r 16 := by
    rw [hxs]; unfold intsN; rw [List.mem_map]
    constructor
    · rintro ⟨y, hy, e⟩; have : y = id := by omega
      rw [← this]; exact hy
    · intro h; exact ⟨id, h, rfl⟩
  have hln : xs.length ≤ 1000000 := by
    have := unsN_le HQ.out.2.l 16
    rw [hxs]; unfold intsN; rw [List.length_map, waN_len]; omega
  have HO := Lib.hid (And.intro O (And.intro c1 hmem)); clear O c1 f1 hmem hxs b1
  go_wp2_with fail
  go_loopg [13] (xs.length + 1) (fun gk idx wr => UwRel xs (id : Nat) gk idx w1 wr)
  case atStart => exact ⟨0, by omega, by omega, rfl, by simp, rfl⟩
  case round =>
    obtain ⟨i, hgk, hi, rfl, hno, hw⟩ := hrel
    subst hw
    by_cases e : i < xs.length
    · obtain ⟨y, hy⟩ : ∃ y, xs[i]? = some y := ⟨_, List.getElem?_eq_getElem e⟩
      obtain ⟨g, rfl, c2, -⟩ := HO.out.1.cell hy
      have hi' : (i : Int) < (xs.length : Int) := by omega
      have hi0 : (0 : Int) ≤ (i : Int) := by omega
      have HT := Lib.hid (And.intro hno hy); clear hno hy
      by_cases ey : y = (id : Nat)
      · have hq : (y == ((id : Nat) : Int)) = true := by rw [beq_iff_eq]; exact ey
        have HE := Lib.hid ey; clear ey
        go_wp2_with fail
        go_ret
        exact ⟨by rw [decide_eq_true (HO.out.2.2.1 (HE.out ▸ List.mem_of_getElem? HT.out.2))]; rfl, HO.out.2.1⟩
      · have hq : (y == ((id : Nat) : Int)) = false := by rw [beq_eq_false_iff_ne]; exact ey
        have HE := Lib.hid ey; clear ey
        go_wp2_with fail
        go_roundg (xs.length - i)
        case measure => omega
        case rel => exact ⟨i + 1, by omega, by omega, by go_num, by
          rw [take_succ_get HT.out.2, List.mem_append]
          rintro (h | h)
          · exact HT.out.1 h
          · exact HE.out (by simpa using h : ((id : Nat) : Int) = y).symm, rfl⟩
    · obtain rfl : i = xs.length := by omega
      rw [List.take_length] at hno
      have hi' : ¬ (xs.length : Int) < (xs.length : Int) := by omega
      have HM := Lib.hid hno; clear hno e
      go_wp2_with fail
      go_ret
      exact ⟨by rw [decide_eq_false (fun h => HM.out (HO.out.2.2.2 h))]; rfl, HO.out.2.1⟩
end
end Go.Proofs.YtcnchgbngcnijaaGreatDoor
namespace Go.Proofs.YtcnchgbngcnijaaGreatDoor
open Go.RowKit Go.Maps

/-- A span put behind its row. -/
def PutTo (a : Ar) (r : Nat → List Nat) (k id : Nat) (r' : Nat → List Nat) : Prop :=
  ∃ r1 full, DelTo r id r1 ∧ (full = true ↔ ∀ s, spI a (id : Nat) = some s → fullS s) ∧ r' = updV r1 (k * 4 + sd full) (r1 (k * 4 + sd full) ++ [id])
theorem DelTo.mem {r r1 : Nat → List Nat} {id : Nat} (h : DelTo r id r1) {j x : Nat} (hx : x ∈ r1 j) : x ∈ r j := by
  rcases h with ⟨rfl, -⟩ | ⟨i, -, -, -, rfl⟩
  · exact hx
  · unfold delR updV at hx
    split at hx
    · next e => rw [e]; exact List.mem_of_mem_erase hx
    · exact hx
theorem PutTo.len {a : Ar} {r r' : Nat → List Nat} {k id : Nat} (h : PutTo a r k id r') (j : Nat) : (r' j).length ≤ (r j).length + 1 := by
  obtain ⟨r1, full, hd, -, rfl⟩ := h
  have h1 := hd.len j
  unfold updV
  split
  · next e => rw [← e, List.length_append]; simp; omega
  · omega
theorem PutTo.mem {a : Ar} {r r' : Nat → List Nat} {k id : Nat} (h : PutTo a r k id r') {j x : Nat} (hx : x ∈ r' j) : x ∈ r j ∨ x = id := by
  obtain ⟨r1, full, hd, -, rfl⟩ := h
  unfold updV at hx
  split at hx
  · next e =>
    rw [← e] at hx
    rcases List.mem_append.1 hx with h1 | h1
    · exact .inl (hd.mem h1)
    · exact .inr (List.mem_singleton.1 h1)
  · exact .inl (hd.mem hx)
def FlR (a : Ar) (f : Nat → Int) : Nat → (Nat → List Nat) → (Nat → List Nat) → Prop
  | 0, r, r' => r' = r
  | n + 1, r, r' => ∃ r1, FlR a f n r r1 ∧ ((f n = -1 ∧ r' = r1) ∨ ∃ id : Nat, f n = id ∧ PutTo a r1 n id r')
theorem FlR.len {a : Ar} {f : Nat → Int} : ∀ {n : Nat} {r r' : Nat → List Nat}, FlR a f n r r' → ∀ j, (r' j).length ≤ (r j).length + n
  | 0, r, r', h, j => by rw [h]; omega
  | n + 1, r, r', ⟨r1, h1, h2⟩, j => by
    have := h1.len j
    rcases h2 with ⟨-, rfl⟩ | ⟨id, -, h3⟩
    · omega
    · have := h3.len j; omega
theorem FlR.mem {a : Ar} {f : Nat → Int} : ∀ {n : Nat} {r r' : Nat → List Nat}, FlR a f n r r' → ∀ {j x : Nat}, x ∈ r' j → x ∈ r j ∨ ∃ k, k < n ∧ f k = (x : Nat)
  | 0, r, r', h, j, x, hx => by rw [h] at hx; exact .inl hx
  | n + 1, r, r', ⟨r1, h1, h2⟩, j, x, hx => by
    have key : x ∈ r1 j → x ∈ r j ∨ ∃ k, k < n + 1 ∧ f k = (x : Nat) := fun h => by
      rcases h1.mem h with h3 | ⟨k, hk, h3⟩
      · exact .inl h3
      · exact .inr ⟨k, by omega, h3⟩
    rcases h2 with ⟨-, rfl⟩ | ⟨id, hid, h3⟩
    · exact key hx
    · rcases h3.mem hx with h4 | rfl
      · exact key h4
      · exact .inr ⟨n, by omega, hid⟩
/-- What a P has, the first n classes given back. -/
def flO (f : Nat → Int) (n : Nat) : Nat → Int := fun k => if k < n then -1 else f k
theorem flO_zero (f : Nat → Int) : flO f 0 = f := by funext k; unfold flO; rw [if_neg (by omega)]
theorem flO_at (f : Nat → Int) (n : Nat) : flO f n n = f n := by unfold flO; rw [if_neg (by omega)]
theorem flO_set (f : Nat → Int) (n : Nat) : updV (flO f n) n (-1) = flO f (n + 1) := by
  funext k
  unfold updV flO
  by_cases e : k = n
  · rw [if_pos e, if_pos (by omega)]
  · rw [if_neg e]
    by_cases h : k < n
    · rw [if_pos h, if_pos (by omega)]
    · rw [if_neg h, if_neg (by omega)]
theorem flO_same {f : Nat → Int} {n : Nat} (h : f n = -1) : flO f n = flO f (n + 1) := by
  rw [← flO_set]
  funext k
  unfold updV
  split
  · next e => rw [e, flO_at, h]
  · rfl
def FlPost (W w : World) (H : HpH) (A : HpA) (N b p : Nat) (e : Ending) (w' : World) : Prop :=
  e = .returned (.tuple #[]) ∧ ∃ v' r', FlR A.a (A.own p) 16 A.r r' ∧ HpS W w' { H with v := v' } { A with r := r', own := updV A.own p (flO (A.own p) 16) } N b ∧ StP (HpF H A) (HpF { H with v := v' } { A with r := r', own := updV A.own p (flO (A.own p) 16) }) w w'
def FlRel (W w0 : World) (H : HpH) (A : HpA) (N b p gk : Nat) (idx : Value) (w : World) : Prop :=
  ∃ k v' r', gk + k = 17 ∧ k ≤ 16 ∧ idx = .int .i64 (k : Nat) ∧ FlR A.a (A.own p) k A.r r' ∧ HpS W w { H with v := v' } { A with r := r', own := updV A.own p (flO (A.own p) k) } N b ∧ StP (HpF H A) (HpF { H with v := v' } { A with r := r', own := updV A.own p (flO (A.own p) k) }) w0 w
theorem updV_self {α : Type} (f : Nat → α) (j : Nat) : updV f j (f j) = f := by
  funext i; unfold updV; split
  · next e => rw [e]
  · rfl
set_option maxHeartbeats 6400000 in
set_option maxRecDepth 100000 in
theorem flush_ok (W w : World) (H : HpH) (A : HpA) (N b : Nat) (Q : HpS W w H A N b) (T0 : Tab W) (B : HpB A) (p : Nat) (hp : p < A.P) : Calls Tryz.prog 35 #[.pointer (some ⟨H.gh, 0, none⟩), .int .i64 (p : Nat)] w (FlPost W w H A N b p) := by
  have b2 : w.cell? ⟨H.gh, 2, none⟩ = some H.vo := Q.hb.cellv 2 rfl
  obtain ⟨g, c, hvo, c1, hcap⟩ := Q.vo_at hp
  rw [hvo] at b2
  have hp0 : (0 : Int) ≤ (p : Int) := by omega
  have hp1 : (p : Int) < (A.P : Int) := by omega
  have hp2 : ¬ (A.P : Int) ≤ (p : Int) := by omega
  have hp3 : ¬ A.P ≤ p := by omega
  have e0 : ({ A with r := A.r, own := updV A.own p (flO (A.own p) 0) } : HpA) = A := by rw [flO_zero, updV_self]
  have HQ := Lib.hid (And.intro Q (And.intro T0 (And.intro B (And.intro hvo e0)))); clear Q T0 B hvo e0
  go_enter Tryz.func35, Tryz.ntmps35
  go_wp2_with fail
  go_loopg [29] 17 (fun gk idx wr => FlRel W w H A N b p gk idx wr)
  case atStart => exact ⟨0, H.v, A.r, by omega, by omega, rfl, rfl, by rw [HQ.out.2.2.2.2]; exact HQ.out.1, by rw [HQ.out.2.2.2.2]; exact StP.refl _ _⟩
  case round =>
    clear b2 c1
    obtain ⟨k, v1, r1, hgk, hk, rfl, hF, Q1, t1⟩ := hrel
    have HT := Lib.hid t1; clear t1
    by_cases ek : k < 16
    · have hk' : (k : Int) < 16 := by omega
      have hk0 : (0 : Int) ≤ (k : Int) := by omega
      have ck := Q1.own_at hp ek
      have eo : (updV A.own p (flO (A.own p) k)) p k = A.own p k := by rw [updV_same, flO_at]
      have ck2 : wr.cell? ⟨H.gp p, k, none⟩ = some (.int .i64 (A.own p k)) := by rw [← eo]; exact ck
      clear ck eo
      rcases HQ.out.2.2.1.o p k hp ek with h1 | ⟨id, hid, hid2⟩
      · rw [h1] at ck2
        have HX := Lib.hid (And.intro hF (And.intro Q1 h1)); clear hF Q1 h1
        go_wp2_with fail
        go_roundg (16 - k)
        case measure => omega
        case rel => exact ⟨k + 1, v1, r1, by omega, by omega, by go_num, ⟨r1, HX.out.1, .inl ⟨HX.out.2.2, rfl⟩⟩, by rw [← flO_same HX.out.2.2]; exact HX.out.2.1, by rw [← flO_same HX.out.2.2]; exact HT.out⟩
      · rw [hid] at ck2
        have hne1 : ((id : Nat) : Int) ≠ -1 := by omega
        have hq : (((id : Nat) : Int) != -1) = true := by rw [bne_iff_ne]; exact hne1
        have hl1 : ∀ j, (r1 j).length ≤ 100000 := fun j => by have := hF.len j; have := HQ.out.2.2.1.l j; omega
        have hx1 : ∀ j, ∀ x ∈ r1 j, x ≤ 1000000 := fun j x hx => by
          rcases hF.mem hx with h2 | ⟨k', hk', h2⟩
          · exact HQ.out.2.2.1.x j x h2
          · rcases HQ.out.2.2.1.o p k' hp (by omega) with h3 | ⟨id', h3, h4⟩
            · omega
            · omega
        have b0 : wr.cell? ⟨H.gh, 0, none⟩ = some (.pointer (some ⟨H.ah.ga, 0, none⟩)) := Q1.hb.cellv 0 rfl
        have b1 : wr.cell? ⟨H.gh, 1, none⟩ = some (.pointer (some ⟨H.gc, 0, none⟩)) := Q1.hb.cellv 1 rfl
        have hghl := Q1.hb.lt
        have HX := Lib.hid (And.intro hF (And.intro Q1 (And.intro hid (And.intro hl1 hx1)))); clear hF Q1 hid hl1 hx1
        go_upto_region 5 with fail
        go_region_held3 (fun w' => w'.cell? ⟨H.gh, 0, none⟩ = some (.pointer (some ⟨H.ah.ga, 0, none⟩)) ∧ w'.cell? ⟨H.gh, 1, none⟩ = some (.pointer (some ⟨H.gc, 0, none⟩))) (go_keep)
          (first
            | (go_at_call 32; refine (s_full (ArS.chg0 HX.out.2.1.S (by repeat (first | assumption | exact Chg.refl [] wr | refine Chg.drew ?_))) HQ.out.2.1 (id : Nat) (by unfold Wf64; omega)).mono ?_; rintro e w' ⟨bo, rfl, cf, hbo⟩; have D : Chg [] wr w' := Chg.trans (by repeat (first | assumption | exact Chg.refl [] wr | refine Chg.drew ?_)) cf; have z0 : w'.cell? ⟨H.gh, 0, none⟩ = some (.pointer (some ⟨H.ah.ga, 0, none⟩)) := D.cellv hghl (by simp) b0; have z1 : w'.cell? ⟨H.gh, 1, none⟩ = some (.pointer (some ⟨H.gc, 0, none⟩)) := D.cellv hghl (by simp) b1)
            | (go_at_call 75; refine (cput_ok _ H.gc H.gl v1 r1 (IsCe.chg0 HX.out.2.1.C D) k ek id hid2 bo HX.out.2.2.2.1 HX.out.2.2.2.2).mono ?_; rintro e w' ⟨rfl, r2, hd, v2, I2, s2⟩; have Q2 := (HpS.chg0 HX.out.2.1 D).central I2 s2; have t2 := (HT.out.then0 D).trans (st_central (A := { A with r := r1, own := updV A.own p (flO (A.own p) k) }) (H := { H with v := v1 }) (r' := updV r2 (k * 4 + sd bo) (r2 (k * 4 + sd bo) ++ [id])) s2); have y0 : w'.cell? ⟨H.gh, 0, none⟩ = some (.pointer (some ⟨H.ah.ga, 0, none⟩)) := Q2.hb.cellv 0 rfl; have y1 : w'.cell? ⟨H.gh, 1, none⟩ = some (.pointer (some ⟨H.gc, 0, none⟩)) := Q2.hb.cellv 1 rfl))
        have hP : PutTo A.a r1 k id (updV r2 (k * 4 + sd bo) (r2 (k * 4 + sd bo) ++ [id])) := ⟨r2, bo, hd, hbo, rfl⟩
        obtain ⟨g2, cc2, hvo2, c2, hcap2⟩ := Q2.vo_at hp
        have q2 : w'.cell? ⟨H.gh, 2, none⟩ = some H.vo := Q2.hb.cellv 2 rfl
        have q4 : w'.cell? ⟨H.gp p, k, none⟩ = some (.int .i64 (updV A.own p (flO (A.own p) k) p k)) := Q2.own_at hp ek
        have q5 : w'.frozen? ⟨H.gp p, k, none⟩ = false := (Q2.g p hp).frozen k
        have hvo3 : H.vo = .slice (some ⟨g2, 0, none⟩) A.P cc2 := hvo2
        have c3 : w'.cell? ⟨g2, p, none⟩ = some (.slice (some ⟨H.gp p, 0, none⟩) 16 16) := c2
        rw [hvo3] at q2
        have Q3 := Q2.set hp ek (-1)
        have eo : updV (updV A.own p (flO (A.own p) k)) p (updV (updV A.own p (flO (A.own p) k) p) k (-1)) = updV A.own p (flO (A.own p) (k + 1)) := by
          rw [updV_same, flO_set]
          funext i
          unfold updV
          split <;> rfl
        have t3 := t2.trans (st_set (H := { H with v := v2 }) (A := { A with r := updV r2 (k * 4 + sd bo) (r2 (k * 4 + sd bo) ++ [id]), own := updV A.own p (flO (A.own p) k) }) (k := k) hp (-1) (updV A.own p (flO (A.own p) (k + 1))))
        have HY := Lib.hid (And.intro hP (And.intro Q3 (And.intro eo t3))); clear hP Q3 eo t2 t3 Q2 hd I2 s2 hbo cf D z0 z1 y0 y1 hvo2 hvo3 c2 b0 b1 ck2 hq
        go_wp2_with fail
        go_roundg (16 - k)
        case measure => omega
        case rel =>
          have Q4 := HY.out.2.1
          have e4 := HY.out.2.2.1
          refine ⟨k + 1, v2, _, by omega, by omega, by go_num, ⟨r1, HX.out.1, .inr ⟨id, HX.out.2.2.1, HY.out.1⟩⟩, ?_, HY.out.2.2.2⟩
          rw [← e4]
          exact Q4
    · obtain rfl : k = 16 := by omega
      have HX := Lib.hid (And.intro hF Q1); clear hF Q1 ek
      go_wp2_with fail
      go_end0
      exact ⟨rfl, v1, r1, HX.out.1, HX.out.2, HT.out⟩
end Go.Proofs.YtcnchgbngcnijaaGreatDoor
namespace Go.Proofs.YtcnchgbngcnijaaGreatDoor
open Go.RowKit Go.Maps

/-- One unswept span swept: the first of the first row that is not empty. -/
def HwPost (W w : World) (H : HpH) (A : HpA) (N b : Nat) (e : Ending) (w' : World) : Prop :=
  ((∀ k, k < 16 → A.r (k * 4 + 2) = [] ∧ A.r (k * 4 + 3) = []) ∧ e = .returned (.tuple #[.slice none 0 0, .bool false]) ∧ Chg [] w w') ∨
  ∃ k f x xs s u h' v' r', k < 16 ∧ f < 2 ∧ A.r (k * 4 + 2 + f) = x :: xs ∧ A.a.sp x = some s ∧ PutTo (sweepA A.a x s (sweptL s).length) (updV A.r (k * 4 + 2 + f) xs) k x r' ∧ e = .returned (.tuple #[u, .bool true]) ∧
    HpS W w' { H with ah := h', v := v' } { A with a := sweepA A.a x s (sweptL s).length, r := r' } N b ∧
    StP (HpF H A) (HpF { H with ah := h', v := v' } { A with a := sweepA A.a x s (sweptL s).length, r := r' }) w w' ∧
    LsP W (HpF { H with ah := h', v := v' } { A with a := sweepA A.a x s (sweptL s).length, r := r' }) w' u (intsN ((sweptL s).map s.addr)) ∧ h'.ga = H.ah.ga ∧ ∀ k ∈ fpv u, w.heap.size ≤ k
/-- The same, and it is the first. -/
def HwPost2 (W w : World) (H : HpH) (A : HpA) (N b : Nat) (e : Ending) (w' : World) : Prop :=
  ((∀ k, k < 16 → A.r (k * 4 + 2) = [] ∧ A.r (k * 4 + 3) = []) ∧ e = .returned (.tuple #[.slice none 0 0, .bool false]) ∧ Chg [] w w') ∨
  ∃ k f x xs s u h' v' r', k < 16 ∧ f < 2 ∧ (∀ i, i < k → A.r (i * 4 + 2) = [] ∧ A.r (i * 4 + 3) = []) ∧ (∀ i, i < f → A.r (k * 4 + 2 + i) = []) ∧ A.r (k * 4 + 2 + f) = x :: xs ∧ A.a.sp x = some s ∧ PutTo (sweepA A.a x s (sweptL s).length) (updV A.r (k * 4 + 2 + f) xs) k x r' ∧ e = .returned (.tuple #[u, .bool true]) ∧
    HpS W w' { H with ah := h', v := v' } { A with a := sweepA A.a x s (sweptL s).length, r := r' } N b ∧
    StP (HpF H A) (HpF { H with ah := h', v := v' } { A with a := sweepA A.a x s (sweptL s).length, r := r' }) w w' ∧
    LsP W (HpF { H with ah := h', v := v' } { A with a := sweepA A.a x s (sweptL s).length, r := r' }) w' u (intsN ((sweptL s).map s.addr)) ∧ h'.ga = H.ah.ga ∧ ∀ k ∈ fpv u, w.heap.size ≤ k
set_option maxHeartbeats 6400000 in
set_option maxRecDepth 100000 in
theorem hsweep2_ok (W w : World) (H : HpH) (A : HpA) (N b : Nat) (Q : HpS W w H A N b) (T0 : Tab W) (B : HpB A) (hN : N ≤ 6000) (hsp : ∀ j, j < 64 → ∀ x ∈ A.r j, ∃ s, A.a.sp x = some s) : Calls Tryz.prog 34 #[.pointer (some ⟨H.gh, 0, none⟩)] w (HwPost2 W w H A N b) := by
  have b1 : w.cell? ⟨H.gh, 1, none⟩ = some (.pointer (some ⟨H.gc, 0, none⟩)) := Q.hb.cellv 1 rfl
  have HQ := Lib.hid (And.intro Q (And.intro T0 (And.intro B hsp))); clear Q T0 B hsp
  go_enter Tryz.func34, Tryz.ntmps34
  go_wp2_with fail
  refine (cany2_ok w H.gc H.gl H.v A.r HQ.out.1.C (fun j => Nat.le_trans (HQ.out.2.2.1.l j) (by decide)) HQ.out.2.2.1.x).mono ?_
  rintro e w1 (⟨hno, rfl, c1⟩ | ⟨k, f, x, xs, hk, hf, hk9, hf9, hr, rfl, v1, I1, s1⟩)
  · have HN := Lib.hid (And.intro hno c1); clear hno c1
    go_wp2_with fail
    go_ret2
    exact .inl ⟨HN.out.1, rfl, HN.out.2⟩
  · have hj : k * 4 + 2 + f < 64 := by omega
    have hxr : x ∈ A.r (k * 4 + 2 + f) := by rw [hr]; simp
    obtain ⟨s, hs⟩ := HQ.out.2.2.2 _ hj x hxr
    have hx2 := HQ.out.2.2.1.x _ x hxr
    have Q1 := HQ.out.1.central I1 s1
    have t1 : StP (HpF H A) (HpF { H with v := v1 } { A with r := updV A.r (k * 4 + 2 + f) xs }) w w1 := st_central s1
    have b0 : w1.cell? ⟨H.gh, 0, none⟩ = some (.pointer (some ⟨H.ah.ga, 0, none⟩)) := Q1.hb.cellv 0 rfl
    have H1 := Lib.hid (And.intro hr (And.intro hs (And.intro Q1 t1))); clear hr hs Q1 t1 I1 s1 hxr b1
    have HF9 := Lib.hid (And.intro hk9 hf9); clear hk9 hf9
    have hk' : (k : Int) < 16 := by omega
    have hk0 : (0 : Int) ≤ (k : Int) := by omega
    go_wp2_with fail
    refine (s_sweep H1.out.2.2.1.S HQ.out.2.1 hN H1.out.2.1).mono ?_
    rintro e w2 ⟨u, h2, rfl, O2, f2, nf2, S2, st2⟩
    have Q2 := H1.out.2.2.1.arena S2 st2
    have t2 := H1.out.2.2.2.trans (st_arena (A := { A with r := updV A.r (k * 4 + 2 + f) xs }) (H := { H with v := v1 }) st2)
    have L2 : LsP W (HpF { H with ah := h2, v := v1 } { A with a := sweepA A.a x s (sweptL s).length, r := updV A.r (k * 4 + 2 + f) xs }) w2 u (intsN ((sweptL s).map s.addr)) :=
      ⟨O2, fun j hj hF => by
        have h3 := f2 j hj
        rcases hF with h4 | h4 | h4
        · exact nf2 j hj h4
        · have := H1.out.2.2.1.C.lt h4; omega
        · have := H1.out.2.2.1.ltO h4; omega, fun j hj => Nat.le_trans H1.out.2.2.1.S.c.size (f2 j hj)⟩
    obtain ⟨Au, nu, cu, rfl⟩ := O2.slice'
    have b0 : w2.cell? ⟨H.gh, 0, none⟩ = some (.pointer (some ⟨H.ah.ga, 0, none⟩)) := by
      have := Q2.hb.cellv 0 rfl
      rw [← S2.ga]; exact this
    have b1 : w2.cell? ⟨H.gh, 1, none⟩ = some (.pointer (some ⟨H.gc, 0, none⟩)) := Q2.hb.cellv 1 rfl
    have hghl := Q2.hb.lt
    have hl1 : ∀ j, (updV A.r (k * 4 + 2 + f) xs j).length ≤ 100000 := fun j => by
      have h3 := HQ.out.2.2.1.l j
      unfold updV
      split
      · next e =>
        rw [e, H1.out.1] at h3
        simp at h3; omega
      · omega
    have hx1 : ∀ j, ∀ y ∈ updV A.r (k * 4 + 2 + f) xs j, y ≤ 1000000 := fun j y hy => by
      unfold updV at hy
      split at hy
      · next e => exact HQ.out.2.2.1.x (k * 4 + 2 + f) y (by rw [H1.out.1]; exact List.mem_cons_of_mem _ hy)
      · exact HQ.out.2.2.1.x j y hy
    have HG := Lib.hid (And.intro S2.ga (fun j (hj : j ∈ fpv (.slice Au nu cu)) => Nat.le_trans H1.out.2.2.2.size (f2 j hj)))
    have H2 := Lib.hid (And.intro Q2 (And.intro t2 (And.intro L2 (And.intro S2 (And.intro hl1 hx1))))); clear Q2 t2 L2 O2 f2 nf2 S2 st2 hl1 hx1
    go_upto_region 7 with fail
    go_region_held3 (fun w' => w'.cell? ⟨H.gh, 0, none⟩ = some (.pointer (some ⟨H.ah.ga, 0, none⟩)) ∧ w'.cell? ⟨H.gh, 1, none⟩ = some (.pointer (some ⟨H.gc, 0, none⟩))) (go_keep)
      (first
        | (go_at_call 32; refine (s_full (ArS.chg0 H2.out.2.2.2.1 (by repeat (first | assumption | exact Chg.refl [] w2 | refine Chg.drew ?_))) HQ.out.2.1 (x : Nat) (by unfold Wf64; omega)).mono ?_; rintro e w' ⟨bo, rfl, cf, hbo⟩; have D : Chg [] w2 w' := Chg.trans (by repeat (first | assumption | exact Chg.refl [] w2 | refine Chg.drew ?_)) cf; have z0 : w'.cell? ⟨H.gh, 0, none⟩ = some (.pointer (some ⟨H.ah.ga, 0, none⟩)) := D.cellv hghl (by simp) b0; have z1 : w'.cell? ⟨H.gh, 1, none⟩ = some (.pointer (some ⟨H.gc, 0, none⟩)) := D.cellv hghl (by simp) b1)
        | (go_at_call 75; refine (cput_ok _ H.gc H.gl v1 (updV A.r (k * 4 + 2 + f) xs) (IsCe.chg0 H2.out.1.C D) k hk x hx2 bo H2.out.2.2.2.2.1 H2.out.2.2.2.2.2).mono ?_; rintro e w' ⟨rfl, r2, hd, v2, I2, s2⟩; have Q3 := (HpS.chg0 H2.out.1 D).central I2 s2; have y0 : w'.cell? ⟨H.gh, 0, none⟩ = some (.pointer (some ⟨H.ah.ga, 0, none⟩)) := (by have h0 := Q3.hb.cellv 0 rfl; rw [← H2.out.2.2.2.1.ga]; exact h0); have y1 : w'.cell? ⟨H.gh, 1, none⟩ = some (.pointer (some ⟨H.gc, 0, none⟩)) := Q3.hb.cellv 1 rfl))
    have t3 := (H2.out.2.1.then0 D).trans (st_central (A := { A with a := sweepA A.a x s (sweptL s).length, r := updV A.r (k * 4 + 2 + f) xs }) (H := { H with ah := h2, v := v1 }) (r' := updV r2 (k * 4 + sd bo) (r2 (k * 4 + sd bo) ++ [x])) s2)
    have L3 := (H2.out.2.2.1.chg0 D).st (st_central (A := { A with a := sweepA A.a x s (sweptL s).length, r := updV A.r (k * 4 + 2 + f) xs }) (H := { H with ah := h2, v := v1 }) (r' := updV r2 (k * 4 + sd bo) (r2 (k * 4 + sd bo) ++ [x])) s2)
    have hP : PutTo (sweepA A.a x s (sweptL s).length) (updV A.r (k * 4 + 2 + f) xs) k x (updV r2 (k * 4 + sd bo) (r2 (k * 4 + sd bo) ++ [x])) := ⟨r2, bo, hd, hbo, rfl⟩
    have HZ := Lib.hid (And.intro Q3 (And.intro t3 (And.intro L3 hP))); clear Q3 t3 L3 hP hd I2 s2 hbo cf D z0 z1 y0 y1 b0 b1
    go_wp2_with fail
    go_ret2
    exact .inr ⟨k, f, x, xs, s, _, h2, v2, _, hk, hf, HF9.out.1, HF9.out.2, H1.out.1, H1.out.2.1, HZ.out.2.2.2, rfl, HZ.out.1, HZ.out.2.1, HZ.out.2.2.1, HG.out.1, HG.out.2⟩
theorem hsweep_ok (W w : World) (H : HpH) (A : HpA) (N b : Nat) (Q : HpS W w H A N b) (T0 : Tab W) (B : HpB A) (hN : N ≤ 6000) (hsp : ∀ j, j < 64 → ∀ x ∈ A.r j, ∃ s, A.a.sp x = some s) : Calls Tryz.prog 34 #[.pointer (some ⟨H.gh, 0, none⟩)] w (HwPost W w H A N b) := by
  refine (hsweep2_ok W w H A N b Q T0 B hN hsp).mono ?_
  rintro e w' (h | ⟨k, f, x, xs, s, u, h', v', r', h1, h2, -, -, h3⟩)
  · exact .inl h
  · exact .inr ⟨k, f, x, xs, s, u, h', v', r', h1, h2, h3⟩
end Go.Proofs.YtcnchgbngcnijaaGreatDoor
