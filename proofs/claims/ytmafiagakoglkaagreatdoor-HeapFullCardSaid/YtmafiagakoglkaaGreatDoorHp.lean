/- Package cache: how a heap lies in memory; its parts turned one by one. -/
import Derived.Test.YtmafiagakoglkaaGreatDoorCe8
import Derived.Test.YtmafiagakoglkaaGreatDoorMSer
import Derived.Test.YtmafiagakoglkaaGreatDoorDrLaw
import Derived.Test.YtmafiagakoglkaaGreatDoorHp0
namespace Go.Proofs.YtmafiagakoglkaaGreatDoor
open Go.RowKit Go.Maps

/-- Where a heap lies. -/
structure HpH where
  gh : Nat
  ah : ArH
  gc : Nat
  gl : Nat
  v : Nat → Value
  vo : Value
  gp : Nat → Nat
/-- What a heap is: an arena, the rows in common, each P's own spans (-1: none). -/
structure HpA where
  a : Ar
  r : Nat → List Nat
  P : Nat
  own : Nat → Nat → Int
def own16 (f : Nat → Int) : Array Value := ((List.range 16).map fun k => Value.int .i64 (f k)).toArray
theorem own16_size (f : Nat → Int) : (own16 f).size = 16 := by unfold own16; simp
theorem own16_at (f : Nat → Int) {k : Nat} (h : k < 16) : (own16 f)[k]? = some (.int .i64 (f k)) := by unfold own16; simp [h]
theorem own16_set (f : Nat → Int) {k : Nat} (h : k < 16) (x : Int) : (own16 f).setIfInBounds k (.int .i64 x) = own16 (updV f k x) := by
  apply Array.ext_getElem?
  intro i
  rw [Array.getElem?_setIfInBounds]
  by_cases e : k = i
  · subst e
    rw [if_pos rfl, if_pos (by rw [own16_size]; exact h), own16_at _ h, updV_same]
  · rw [if_neg e]
    by_cases hi : i < 16
    · rw [own16_at _ hi, own16_at _ hi, updV_other _ _ (Ne.symm e)]
    · rw [Array.getElem?_eq_none (by rw [own16_size]; omega), Array.getElem?_eq_none (by rw [own16_size]; omega)]
def ownVs (gp : Nat → Nat) (P : Nat) : List Value := (List.range P).map fun p => .slice (some ⟨gp p, 0, none⟩) 16 16
/-- The blocks that are neither the arena's nor the rows'. -/
def OwF (H : HpH) (P : Nat) (k : Nat) : Prop := k = H.gh ∨ k ∈ fpv H.vo ∨ ∃ p, p < P ∧ k = H.gp p
structure HpS (W w : World) (H : HpH) (A : HpA) (N b : Nat) : Prop where
  hb : Blk w H.gh 77 #[.pointer (some ⟨H.ah.ga, 0, none⟩), .pointer (some ⟨H.gc, 0, none⟩), H.vo]
  S : ArS W w H.ah.ga H.ah A.a N b
  C : IsCe w H.gc H.gl H.v A.r
  o : w.ownsRow 0 22 1 H.vo A.P (ownVs H.gp A.P)
  g : ∀ p, p < A.P → Blk w (H.gp p) 3 (own16 (A.own p))
  inj : ∀ p q, p < A.P → q < A.P → p ≠ q → H.gp p ≠ H.gp q
  d1 : ∀ k, CeF H.gc H.gl H.v k → ¬ ArF H.ah A.a k
  d2 : ∀ k, OwF H A.P k → ¬ ArF H.ah A.a k ∧ ¬ CeF H.gc H.gl H.v k
  n1 : ∀ k, CeF H.gc H.gl H.v k → W.heap.size ≤ k
  n2 : ∀ k, OwF H A.P k → W.heap.size ≤ k
section
variable {W w w' : World} {H : HpH} {A : HpA} {N N' b b' : Nat}
theorem HpS.ltO (Q : HpS W w H A N b) {k : Nat} (hk : OwF H A.P k) : k < w.heap.size := by
  rcases hk with rfl | hk | ⟨p, hp, rfl⟩
  · exact Q.hb.lt
  · exact own_lt Q.o (mem_fpv.1 hk)
  · exact (Q.g p hp).lt
theorem HpS.chg0 (Q : HpS W w H A N b) (c : Chg [] w w') : HpS W w' H A N b :=
  ⟨c.blk Q.hb (by simp), Q.S.chg0 c, Q.C.chg0 c, own_chg Q.o c (fun _ _ => by simp), fun p hp => c.blk (Q.g p hp) (by simp), Q.inj, Q.d1, Q.d2, Q.n1, Q.n2⟩
/-- The arena turned. -/
theorem HpS.arena (Q : HpS W w H A N b) {h' : ArH} {a' : Ar} (S' : ArS W w' H.ah.ga h' a' N' b') (st : StA H.ah A.a h' a' w w') : HpS W w' { H with ah := h' } { A with a := a' } N' b' := by
  obtain ⟨T, c, hT⟩ := st.chg
  have hga : h'.ga = H.ah.ga := S'.ga
  have nO : ∀ k, OwF H A.P k → k ∉ T := fun k hk hm => (Q.d2 k hk).1 (hT k hm)
  have nC : ∀ k, CeF H.gc H.gl H.v k → k ∉ T := fun k hk hm => Q.d1 k hk (hT k hm)
  refine ⟨?_, ?_, Q.C.chg c nC, own_chg Q.o c (fun k hk => nO k (.inr (.inl (mem_fpv.2 hk)))), fun p hp => c.blk (Q.g p hp) (nO _ (.inr (.inr ⟨p, hp, rfl⟩))), Q.inj, fun k hk hF => ?_, fun k hk => ⟨fun hF => ?_, (Q.d2 k hk).2⟩, Q.n1, Q.n2⟩
  · show Blk w' H.gh 77 #[.pointer (some ⟨h'.ga, 0, none⟩), .pointer (some ⟨H.gc, 0, none⟩), H.vo]
    rw [hga]; exact c.blk Q.hb (nO _ (.inl rfl))
  · show ArS W w' h'.ga h' a' N' b'
    rw [hga]; exact S'
  · rcases st.fr k hF with h1 | h1
    · exact Q.d1 k hk h1
    · have := Q.C.lt hk; omega
  · rcases st.fr k hF with h1 | h1
    · exact (Q.d2 k hk).1 h1
    · have := Q.ltO hk; omega
/-- The rows turned. -/
theorem HpS.central (Q : HpS W w H A N b) {v' : Nat → Value} {r' : Nat → List Nat} (I : IsCe w' H.gc H.gl v' r') (st : StP (CeF H.gc H.gl H.v) (CeF H.gc H.gl v') w w') : HpS W w' { H with v := v' } { A with r := r' } N b := by
  obtain ⟨T, c, hT⟩ := st.chg
  have nO : ∀ k, OwF H A.P k → k ∉ T := fun k hk hm => (Q.d2 k hk).2 (hT k hm)
  have nA : ∀ k, ArF H.ah A.a k → k ∉ T := fun k hk hm => Q.d1 k (hT k hm) hk
  refine ⟨c.blk Q.hb (nO _ (.inl rfl)), ⟨Q.S.M.chg c nA, Q.S.I, Q.S.far, Q.S.c.new c (fun k hk => Q.n1 k (hT k hk)), rfl, Q.S.m⟩, I, own_chg Q.o c (fun k hk => nO k (.inr (.inl (mem_fpv.2 hk)))), fun p hp => c.blk (Q.g p hp) (nO _ (.inr (.inr ⟨p, hp, rfl⟩))), Q.inj, fun k hk hF => ?_, fun k hk => ⟨(Q.d2 k hk).1, fun hF => ?_⟩, fun k hk => ?_, Q.n2⟩
  · rcases st.fr k hk with h1 | h1
    · exact Q.d1 k h1 hF
    · have := Q.S.M.lt k hF; omega
  · rcases st.fr k hF with h1 | h1
    · exact (Q.d2 k hk).2 h1
    · have := Q.ltO hk; omega
  · rcases st.fr k hk with h1 | h1
    · exact Q.n1 k h1
    · exact Nat.le_trans Q.S.c.size h1
/-- One of a P's own told anew. -/
theorem HpS.set (Q : HpS W w H A N b) {p k : Nat} (hp : p < A.P) (hk : k < 16) (x : Int) : HpS W (w.setCell ⟨H.gp p, k, none⟩ (.int .i64 x)) H { A with own := updV A.own p (updV (A.own p) k x) } N b := by
  have c : Chg [H.gp p] w (w.setCell ⟨H.gp p, k, none⟩ (.int .i64 x)) := (Chg.refl _ w).setCell (.inl (by simp)) _
  have hO : OwF H A.P (H.gp p) := .inr (.inr ⟨p, hp, rfl⟩)
  have nA : ∀ k, ArF H.ah A.a k → k ∉ [H.gp p] := fun k hF hm => (Q.d2 _ hO).1 (by have : k = H.gp p := (by simpa using hm); rw [← this]; exact hF)
  have nC : ∀ k, CeF H.gc H.gl H.v k → k ∉ [H.gp p] := fun k hF hm => (Q.d2 _ hO).2 (by have : k = H.gp p := (by simpa using hm); rw [← this]; exact hF)
  refine ⟨c.blk Q.hb (fun hm => (Q.g p hp).ne_ Q.hb (by decide) (by simpa using hm : H.gh = H.gp p).symm), ⟨Q.S.M.chg c nA, Q.S.I, Q.S.far, Q.S.c.new c (fun k hk => by have : k = H.gp p := (by simpa using hk); rw [this]; exact Q.n2 _ hO), rfl, Q.S.m⟩, Q.C.chg c nC, own_chg Q.o c (fun j hj hm => own_ne Q.o (Q.g p hp) (by decide) (by have : j = H.gp p := (by simpa using hm); rw [← this]; exact hj)), fun q hq => ?_, Q.inj, Q.d1, Q.d2, Q.n1, Q.n2⟩
  show Blk _ (H.gp q) 3 (own16 (updV A.own p (updV (A.own p) k x) q))
  by_cases e : q = p
  · subst e
    rw [updV_same, ← own16_set _ hk]
    exact (Q.g q hp).set_ k _
  · rw [updV_other _ _ e]
    exact c.blk (Q.g q hq) (fun hm => Q.inj q p hq hp e (by simpa using hm))
end
/-- All blocks of a heap. -/
def HpF (H : HpH) (A : HpA) (k : Nat) : Prop := ArF H.ah A.a k ∨ CeF H.gc H.gl H.v k ∨ OwF H A.P k
section
variable {W w w' w'' : World} {H H' : HpH} {A A' : HpA}
theorem st_arena {h' : ArH} {a' : Ar} (st : StA H.ah A.a h' a' w w') : StP (HpF H A) (HpF { H with ah := h' } { A with a := a' }) w w' :=
  ⟨st.os, st.tape, st.output, st.size, fun k hk hn => st.block k hk (fun h => hn (.inl h)), fun k hk => by
    rcases hk with h | h | h
    · rcases st.fr k h with h1 | h1
      · exact .inl (.inl h1)
      · exact .inr h1
    · exact .inl (.inr (.inl h))
    · exact .inl (.inr (.inr h))⟩
theorem st_central {v' : Nat → Value} {r' : Nat → List Nat} (st : StP (CeF H.gc H.gl H.v) (CeF H.gc H.gl v') w w') : StP (HpF H A) (HpF { H with v := v' } { A with r := r' }) w w' :=
  ⟨st.os, st.tape, st.output, st.size, fun k hk hn => st.block k hk (fun h => hn (.inr (.inl h))), fun k hk => by
    rcases hk with h | h | h
    · exact .inl (.inl h)
    · rcases st.fr k h with h1 | h1
      · exact .inl (.inr (.inl h1))
      · exact .inr h1
    · exact .inl (.inr (.inr h))⟩
theorem st_set {p k : Nat} (hp : p < A.P) (x : Int) (o : Nat → Nat → Int) : StP (HpF H A) (HpF H { A with own := o }) w (w.setCell ⟨H.gp p, k, none⟩ (.int .i64 x)) :=
  StP.of_chg (S := [H.gp p]) ((Chg.refl _ w).setCell (.inl (by simp)) _) (fun j hj => .inl (.inr (.inr (.inr (.inr ⟨p, hp, by simpa using hj⟩))))) (fun _ h => .inl h)
end
/-- A list of the call's own beside a heap. -/
structure LsP (W : World) (F : Nat → Prop) (w : World) (v : Value) (l : List Int) : Prop where
  o : OwnI 3 w v l
  nf : ∀ k ∈ fpv v, ¬ F k
  new : ∀ k ∈ fpv v, W.heap.size ≤ k
section
variable {W w w' : World} {F F' : Nat → Prop} {v v' u u' : Value} {l l' : List Int}
theorem LsP.nil (W w : World) (F : Nat → Prop) : LsP W F w (.slice none 0 0) [] := ⟨OwnI.nil _ _, fun k hk => by simp [fpv, Value.ownBlock] at hk, fun k hk => by simp [fpv, Value.ownBlock] at hk⟩
theorem LsP.st (L : LsP W F w v l) (st : StP F F' w w') : LsP W F' w' v l := by
  obtain ⟨S, c, hS⟩ := st.chg
  exact ⟨L.o.chg c (fun k hk hm => L.nf k hk (hS k hm)), fun k hk hF => by
    rcases st.fr k hF with h1 | h1
    · exact L.nf k hk h1
    · have := L.o.lt hk; omega, L.new⟩
theorem LsP.chg0 (L : LsP W F w v l) (c : Chg [] w w') : LsP W F w' v l := ⟨L.o.chg0 c, L.nf, L.new⟩
theorem LsP.push (L : LsP W F w v l) (hF : ∀ k, F k → k < w.heap.size) (hW : W.heap.size ≤ w.heap.size) (O : OwnI 3 w' v' l') (s : Stp (fpv v) (fpv v') w w') : LsP W F w' v' l' :=
  ⟨O, fun k hk hk2 => by
    rcases s.f k hk with h1 | h1
    · exact L.nf k h1 hk2
    · have := hF k hk2; omega, fun k hk => by
    rcases s.f k hk with h1 | h1
    · exact L.new k h1
    · omega⟩
theorem LsP.beside (L : LsP W F w v l) (s : Stp (fpv u) (fpv u') w w') (d : ∀ k ∈ fpv v, k ∉ fpv u) : LsP W F w' v l ∧ ∀ k ∈ fpv v, k ∉ fpv u' :=
  ⟨⟨L.o.chg s.c d, L.nf, L.new⟩, fun k hk hm => by
    rcases s.f k hm with h1 | h1
    · exact d k hk h1
    · have := L.o.lt hk; omega⟩
end
theorem HpS.lt {W w : World} {H : HpH} {A : HpA} {N b : Nat} (Q : HpS W w H A N b) {k : Nat} (hk : HpF H A k) : k < w.heap.size := by
  rcases hk with h | h | h
  · exact Q.S.M.lt k h
  · exact Q.C.lt h
  · exact Q.ltO h
/-- A heap stays, where a list beside it is turned. -/
theorem HpS.stp {W w w' : World} {H : HpH} {A : HpA} {N b : Nat} {v v' : Value} {l : List Int} (Q : HpS W w H A N b) (L : LsP W (HpF H A) w v l) (s : Stp (fpv v) (fpv v') w w') : HpS W w' H A N b := by
  have nA : ∀ k, ArF H.ah A.a k → k ∉ fpv v := fun k hk hm => L.nf k hm (.inl hk)
  have nC : ∀ k, CeF H.gc H.gl H.v k → k ∉ fpv v := fun k hk hm => L.nf k hm (.inr (.inl hk))
  have nO : ∀ k, OwF H A.P k → k ∉ fpv v := fun k hk hm => L.nf k hm (.inr (.inr hk))
  exact ⟨s.c.blk Q.hb (nO _ (.inl rfl)), ⟨Q.S.M.chg s.c nA, Q.S.I, Q.S.far, Q.S.c.new s.c L.new, rfl, Q.S.m⟩, Q.C.chg s.c nC, own_chg Q.o s.c (fun k hk => nO k (.inr (.inl (mem_fpv.2 hk)))), fun p hp => s.c.blk (Q.g p hp) (nO _ (.inr (.inr ⟨p, hp, rfl⟩))), Q.inj, Q.d1, Q.d2, Q.n1, Q.n2⟩
end Go.Proofs.YtmafiagakoglkaaGreatDoor
