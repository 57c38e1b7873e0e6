/- The arena: a span swept, an object gone, a span gone, an owner gone. Plain theorems on worlds. -/
import Derived.Test.YtkocikpoagfonaaDoorAr7
namespace Go.Proofs.YtkocikpoagfonaaDoor
open Go.RowKit

/-- A span whose blocks have changed places. -/
def turnH (h : ArH) (id : Nat) (b : SpB) : ArH := { h with B := fun j => if j = id then b else h.B j }
theorem ArM.turn {w w' : World} {h : ArH} {a : Ar} {id : Nat} {s s' : Sp} {b : SpB} (M : ArM w h a) (hs : a.sp id = some s) (I : IsSp w' b s') (c : Chg (h.B id).l w w') (hg : b.g = (h.B id).g) (hb : ∀ k ∈ b.l, k ∈ (h.B id).l) : ArM w' (turnH h id b) { a with sp := updF a.sp id (some s') } := by
  have J := M.S id s hs
  have hB : (turnH h id b).B id = b := if_pos rfl
  have hB' : ∀ i, i ≠ id → (turnH h id b).B i = h.B i := fun i e => if_neg e
  have get : ∀ i t, updF a.sp id (some s') i = some t → (i = id ∧ t = s') ∨ (i ≠ id ∧ a.sp i = some t) := fun i t ht => by
    by_cases e : i = id
    · left; subst e
      rw [updF_same] at ht
      injection ht with ht
      exact ⟨rfl, ht.symm⟩
    · right; rw [updF_other _ _ e] at ht; exact ⟨e, ht⟩
  have e : spV (turnH h id b) { a with sp := updF a.sp id (some s') } = spV h a := by
    funext x
    unfold spV updF
    by_cases e : x = id
    · subst e; simp [hs, hB, hg]
    · simp [e, hB' x e]
  refine ⟨c.blk M.b (J.far M.b (by unfold SpT; decide)), ⟨c.blk M.P.b (J.far M.P.b (by unfold SpT; decide)), own_chg M.P.o c fun k hk hm => ?_⟩, ?_, M.o.chg c (M.o.far J), M.j.chg c (M.j.far J), fun i t ht => ?_, fun x xs hx => c.blk (M.O x xs hx) (J.far (M.O x xs hx) (by unfold SpT; decide)), fun i i' t t' ht ht' hne k hk hk' => ?_, M.d2, M.m1, M.m2, M.m3⟩
  · simp only [SpB.l, List.mem_cons, List.not_mem_nil, or_false] at hm
    rcases hm with rfl | rfl | rfl | rfl | rfl
    · exact own_far M.P.o J.hb (by decide) (mem_fpv.2 hk)
    · exact own_far M.P.o J.hu.b (by decide) (mem_fpv.2 hk)
    · exact own_far M.P.o J.hu.d (by decide) (mem_fpv.2 hk)
    · exact own_far M.P.o J.hm.b (by decide) (mem_fpv.2 hk)
    · exact own_far M.P.o J.hm.d (by decide) (mem_fpv.2 hk)
  · rw [e]; exact M.s.chg c (M.s.far J)
  · rcases get i t ht with ⟨rfl, rfl⟩ | ⟨e, h2⟩
    · rw [hB]; exact I
    · rw [hB' i e]; exact (M.S i t h2).chg c (fun k hk hm => M.d1 i id t s h2 hs e k hk hm)
  · rcases get i t ht with ⟨rfl, rfl⟩ | ⟨e, h2⟩
    · rcases get i' t' ht' with ⟨rfl, rfl⟩ | ⟨e', h2'⟩
      · exact hne rfl
      · rw [hB] at hk; rw [hB' i' e'] at hk'
        exact M.d1 i i' s t' hs h2' hne k (hb k hk) hk'
    · rw [hB' i e] at hk
      rcases get i' t' ht' with ⟨rfl, rfl⟩ | ⟨e', h2'⟩
      · rw [hB] at hk'
        exact M.d1 i i' t s h2 hs hne k hk (hb k hk')
      · rw [hB' i' e'] at hk'
        exact M.d1 i i' t t' h2 h2' hne k hk hk'
theorem StA.turn {w w' : World} {h : ArH} {a : Ar} {id : Nat} {s s' : Sp} {b : SpB} (hs : a.sp id = some s) (c : Chg (h.B id).l w w') (hb : ∀ k ∈ b.l, k ∈ (h.B id).l) : StA h a (turnH h id b) { a with sp := updF a.sp id (some s') } w w' := by
  have inF : ∀ k ∈ (h.B id).l, ArF h a k := fun k hk => .inr (.inr (.inr (.inr (.inr (.inr (.inl ⟨id, s, hs, hk⟩))))))
  refine StA.of_chg c (fun k hk => .inl (inF k hk)) fun k hk => .inl ?_
  rcases hk with h1 | h1 | h1 | h1 | h1 | h1 | ⟨i, t, ht, h1⟩ | h1
  · exact .inl h1
  · exact .inr (.inl h1)
  · exact .inr (.inr (.inl h1))
  · exact .inr (.inr (.inr (.inl h1)))
  · exact .inr (.inr (.inr (.inr (.inl h1))))
  · exact .inr (.inr (.inr (.inr (.inr (.inl h1)))))
  · by_cases e : i = id
    · have e2 : (turnH h id b).B i = b := if_pos e
      rw [e2] at h1
      exact inF k (hb k h1)
    · refine .inr (.inr (.inr (.inr (.inr (.inr (.inl ⟨i, t, ?_, ?_⟩))))))
      · rw [← ht]; exact (updF_other _ _ e).symm
      · have e2 : (turnH h id b).B i = h.B i := if_neg e
        rw [← e2]; exact h1
  · exact .inr (.inr (.inr (.inr (.inr (.inr (.inr h1))))))
theorem updF_some {α : Type} {f : Nat → Option α} {i x : Nat} (h : (updF f i none x).isSome = true) : x ≠ i ∧ (f x).isSome = true := by
  by_cases e : x = i
  · rw [e, updF_same] at h; cases h
  · rw [updF_other _ _ e] at h; exact ⟨e, h⟩
theorem updF_get {α : Type} {f : Nat → Option α} {i x : Nat} {v : α} (h : updF f i none x = some v) : x ≠ i ∧ f x = some v := by
  by_cases e : x = i
  · rw [e, updF_same] at h; cases h
  · rw [updF_other _ _ e] at h; exact ⟨e, h⟩
/-- A block of a map is none of a row's. -/
theorem map_far {w : World} {P : Program} {K : TypeId} {m n g : Nat} {f : Int → Option Value} {t : TypeId} {cs : Array Value} (h : VMap P K w m n f) (hb : Blk w g t cs) : g ∉ [m] := fun hm => h.ne_blk hb (by simpa using hm : _ = _).symm
theorem map_own {w : World} {P : Program} {K T : TypeId} {m n size len : Nat} {f : Int → Option Value} {v : Value} {xs : List Value} (h : VMap P K w m n f) (o : w.ownsRow 0 T size v len xs) {k : Nat} (hk : v.ownBlock = some k) : k ∉ [m] := fun hm => by
  have e : k = m := by simpa using hm
  rcases o.2 with ⟨e1, _⟩ | ⟨g', cap, cur, e1, _, hh, _⟩
  · rw [e1] at hk; simp [Value.ownBlock] at hk
  · rw [e1] at hk
    have e2 : g' = k := by simpa [Value.ownBlock] using hk
    exact h.ne_blk (t := T) hh (by rw [e2, e])
theorem ArM.delob {w w' : World} {h : ArH} {a : Ar} (M : ArM w h a) {x : Nat} (V : VMap Tryd.prog 3 w' h.bj h.m (delV (natV (obV h a)) (x : Nat))) (c : Chg [h.bj] w w') : ArM w' h { a with ob := updF a.ob x none } := by
  refine ⟨c.blk M.b (map_far M.j M.b), ⟨c.blk M.P.b (map_far M.j M.P.b), own_chg M.P.o c fun k hk => map_own M.j M.P.o hk⟩, M.s.chg c (by simp [M.m2]), M.o.chg c (by simp [M.m3]), V.ext fun y => ?_, fun i t ht => (M.S i t ht).chg c (fun k hk hm => M.j.far (M.S i t ht) (by have e : k = h.bj := (by simpa using hm); rw [← e]; exact hk)), fun y ys hy => ?_, M.d1, fun y y' hy hy' => M.d2 y y' (updF_some hy).2 (updF_some hy').2, M.m1, M.m2, M.m3⟩
  · rw [natV_del]
    congr 1
    funext z
    unfold obV updF
    by_cases e : z = x
    · simp [e]
    · simp [e]
  · have h2 := (updF_get hy).2
    exact c.blk (M.O y ys h2) (map_far M.j (M.O y ys h2))
theorem StA.delob {w w' : World} {h : ArH} {a : Ar} {x : Nat} (c : Chg [h.bj] w w') : StA h a h { a with ob := updF a.ob x none } w w' := by
  refine StA.of_chg c (fun k hk => .inl (.inr (.inr (.inr (.inr (.inr (.inl (by simpa using hk)))))))) fun k hk => .inl ?_
  rcases hk with h1 | h1 | h1 | h1 | h1 | h1 | h1 | ⟨y, hy, h1⟩
  · exact .inl h1
  · exact .inr (.inl h1)
  · exact .inr (.inr (.inl h1))
  · exact .inr (.inr (.inr (.inl h1)))
  · exact .inr (.inr (.inr (.inr (.inl h1))))
  · exact .inr (.inr (.inr (.inr (.inr (.inl h1)))))
  · exact .inr (.inr (.inr (.inr (.inr (.inr (.inl h1))))))
  · exact .inr (.inr (.inr (.inr (.inr (.inr (.inr ⟨y, (updF_some hy).2, h1⟩))))))
theorem ArM.delown {w w' : World} {h : ArH} {a : Ar} (M : ArM w h a) {p : Nat} (V : VMap Tryd.prog 3 w' h.bo h.m (delV (natV (owV a)) (p : Nat))) (c : Chg [h.bo] w w') : ArM w' h { a with ow := updF a.ow p none } := by
  refine ⟨c.blk M.b (map_far M.o M.b), ⟨c.blk M.P.b (map_far M.o M.P.b), own_chg M.P.o c fun k hk => map_own M.o M.P.o hk⟩, M.s.chg c (by simp [M.m1]), V.ext fun y => ?_, M.j.chg c (by simp [Ne.symm M.m3]), fun i t ht => (M.S i t ht).chg c (fun k hk hm => M.o.far (M.S i t ht) (by have e : k = h.bo := (by simpa using hm); rw [← e]; exact hk)), fun y ys hy => c.blk (M.O y ys hy) (map_far M.o (M.O y ys hy)), M.d1, M.d2, M.m1, M.m2, M.m3⟩
  rw [natV_del]
  congr 1
  funext z
  unfold owV updF
  by_cases e : z = p
  · simp [e]
  · simp [e]
theorem ArM.delspan {w w' : World} {h : ArH} {a : Ar} (M : ArM w h a) {id : Nat} (V : VMap Tryd.prog 3 w' h.bs h.m (delV (natV (spV h a)) (id : Nat))) (c : Chg [h.bs] w w') : ArM w' h { a with sp := updF a.sp id none } := by
  refine ⟨c.blk M.b (map_far M.s M.b), ⟨c.blk M.P.b (map_far M.s M.P.b), own_chg M.P.o c fun k hk => map_own M.s M.P.o hk⟩, V.ext fun y => ?_, M.o.chg c (by simp [Ne.symm M.m1]), M.j.chg c (by simp [Ne.symm M.m2]), fun i t ht => ?_, fun y ys hy => c.blk (M.O y ys hy) (map_far M.s (M.O y ys hy)), fun i i' t t' ht ht' => M.d1 i i' t t' (updF_get ht).2 (updF_get ht').2, M.d2, M.m1, M.m2, M.m3⟩
  · rw [natV_del]
    congr 1
    funext z
    unfold spV updF
    by_cases e : z = id
    · simp [e]
    · simp [e]
  · have h2 := (updF_get ht).2
    exact (M.S i t h2).chg c (fun k hk hm => M.s.far (M.S i t h2) (by have e : k = h.bs := (by simpa using hm); rw [← e]; exact hk))
end Go.Proofs.YtkocikpoagfonaaDoor
