/- The walk of package arena: Span. -/
import Derived.Test.YtkocikpoagfonaaDoorAr5
namespace Go.Proofs.YtkocikpoagfonaaDoor
open Go.RowKit

/-- The pages turned. -/
def pgH (h : ArH) (v : Value) : ArH := { h with v := v }
theorem ArM.pages {w w' : World} {h : ArH} {a : Ar} (M : ArM w h a) {v' : Value} {l' : List R} (P' : IsPg w' h.gp a.n v' l') (c : Chg (h.gp :: fpv h.v) w w') : ArM w' (pgH h v') { a with l := l' } := by
  have nb : ∀ {g : Nat} {t : TypeId} {cs : Array Value}, Blk w g t cs → 71 ≠ t → 73 ≠ t → g ∉ h.gp :: fpv h.v := fun hb n1 n2 hm => by
    rcases List.mem_cons.1 hm with e | e
    · exact M.P.b.ne_ hb n1 e.symm
    · exact own_far M.P.o hb n2 e
  have nm : ∀ {m n : Nat} {f : Int → Option Value}, VMap Tryd.prog 3 w m n f → m ∉ h.gp :: fpv h.v := fun {m} _ _ hv hm => by
    rcases List.mem_cons.1 hm with e | e
    · exact hv.ne_blk M.P.b e
    · rw [mem_fpv] at e
      rcases M.P.o.2 with ⟨e1, _⟩ | ⟨g', cap, cur, e1, _, hh, _⟩
      · rw [e1] at e; simp [Value.ownBlock] at e
      · rw [e1] at e
        have e2 : g' = m := by simpa [Value.ownBlock] using e
        exact hv.ne_blk (t := 73) hh e2.symm
  refine ⟨c.blk M.b (nb M.b (by decide) (by decide)), P', M.s.chg c (nm M.s), M.o.chg c (nm M.o), M.j.chg c (nm M.j), fun id s hs => (M.S id s hs).chg c (fun k hk hm => ?_), fun x xs hx => c.blk (M.O x xs hx) (nb (M.O x xs hx) (by decide) (by decide)), M.d1, M.d2, M.m1, M.m2, M.m3⟩
  rcases List.mem_cons.1 hm with e | e
  · exact (M.S id s hs).far M.P.b (by unfold SpT; decide) (by rw [← e]; exact hk)
  · have I := M.S id s hs
    simp only [SpB.l, List.mem_cons, List.not_mem_nil, or_false] at hk
    rcases hk with rfl | rfl | rfl | rfl | rfl
    · exact own_far M.P.o I.hb (by decide) e
    · exact own_far M.P.o I.hu.b (by decide) e
    · exact own_far M.P.o I.hu.d (by decide) e
    · exact own_far M.P.o I.hm.b (by decide) e
    · exact own_far M.P.o I.hm.d (by decide) e
/-- A new span. -/
def spanH (h : ArH) (id : Nat) (b : SpB) : ArH := { h with B := fun j => if j = id then b else h.B j, m := h.m + 1 }
theorem ArM.newspan {w w1 w2 : World} {h : ArH} {a : Ar} (M : ArM w h a) {id : Nat} {b : SpB} {s : Sp} (hn : a.sp id = none) (I : IsSp w1 b s) (c1 : Chg [] w w1) (hb : ∀ k ∈ b.l, w.heap.size ≤ k)
    (V : VMap Tryd.prog 3 w2 h.bs (h.m + 1) (putV (natV (spV h a)) (id : Nat) (.pointer (some ⟨b.g, 0, none⟩)))) (c2 : Chg [h.bs] w1 w2) : ArM w2 (spanH h id b) { a with sp := updF a.sp id (some s) } := by
  have M1 := M.chg0 c1
  have nb : ∀ {g : Nat} {t : TypeId} {cs : Array Value}, Blk w1 g t cs → g ∉ [h.bs] := fun hb hm => M1.s.ne_blk hb (by simpa using hm : _ = _).symm
  have get : ∀ i t, updF a.sp id (some s) i = some t → (i = id ∧ t = s) ∨ (i ≠ id ∧ a.sp i = some t) := fun i t ht => by
    by_cases e : i = id
    · left; subst e
      rw [updF_same] at ht
      injection ht with ht
      exact ⟨rfl, ht.symm⟩
    · right; rw [updF_other _ _ e] at ht; exact ⟨e, ht⟩
  have hB : (spanH h id b).B id = b := if_pos rfl
  have hB' : ∀ i, i ≠ id → (spanH h id b).B i = h.B i := fun i e => if_neg e
  refine ⟨c2.blk M1.b (nb M1.b), ⟨c2.blk M1.P.b (nb M1.P.b), own_chg M1.P.o c2 fun k hk hm => ?_⟩, V.ext fun y => ?_, (M1.o.chg c2 (by simp [spanH, M.m1, Ne.symm M.m1])).mono (Nat.le_succ _), (M1.j.chg c2 (by simp [spanH, M.m2, Ne.symm M.m2])).mono (Nat.le_succ _), fun i t ht => ?_, fun x xs hx => c2.blk (M1.O x xs hx) (nb (M1.O x xs hx)), fun i i' t t' ht ht' hne k hk hk' => ?_, M.d2, M.m1, M.m2, M.m3⟩
  · have e : k = h.bs := by simpa using hm
    have hk2 : h.v.ownBlock = some k := hk
    rcases M1.P.o.2 with ⟨e1, _⟩ | ⟨g', cap, cur, e1, _, hh, _⟩
    · rw [e1] at hk2; simp [Value.ownBlock] at hk2
    · rw [e1] at hk2
      have e2 : g' = k := by simpa [Value.ownBlock] using hk2
      exact M1.s.ne_blk (t := 73) hh (by rw [e2, e])
  · rw [natV_put]
    congr 1
    funext z
    unfold spV updF
    by_cases e : z = id
    · subst e; simp [spanH]
    · simp [e, spanH]
  · rcases get i t ht with ⟨rfl, rfl⟩ | ⟨e, h2⟩
    · rw [hB]; exact I.chg c2 (fun k hk hm => M1.s.far I (by have e : k = h.bs := (by simpa using hm); rw [← e]; exact hk))
    · rw [hB' i e]; exact (M1.S i t h2).chg c2 (fun k hk hm => M1.s.far (M1.S i t h2) (by have e : k = h.bs := (by simpa using hm); rw [← e]; exact hk))
  · rcases get i t ht with ⟨rfl, rfl⟩ | ⟨e, h2⟩
    · rcases get i' t' ht' with ⟨rfl, rfl⟩ | ⟨e', h2'⟩
      · exact hne rfl
      · rw [hB] at hk; rw [hB' i' e'] at hk'
        have := hb k hk
        have := (M.S i' t' h2').lt k hk'
        omega
    · rw [hB' i e] at hk
      rcases get i' t' ht' with ⟨rfl, rfl⟩ | ⟨e', h2'⟩
      · rw [hB] at hk'
        have := hb k hk'
        have := (M.S i t h2).lt k hk
        omega
      · rw [hB' i' e'] at hk'
        exact M.d1 i i' t t' h2 h2' hne k hk hk'
/-- A page's owner told. -/
def owH (h : ArH) : ArH := { h with m := h.m + 1 }
theorem ArM.owner {w w' : World} {h : ArH} {a : Ar} (M : ArM w h a) {p id : Nat} (V : VMap Tryd.prog 3 w' h.bo (h.m + 1) (putV (natV (owV a)) (p : Nat) (.int .i64 (id : Nat)))) (c : Chg [h.bo] w w') : ArM w' (owH h) { a with ow := updF a.ow p (some id) } := by
  have nb : ∀ {g : Nat} {t : TypeId} {cs : Array Value}, Blk w g t cs → g ∉ [h.bo] := fun hb hm => M.o.ne_blk hb (by simpa using hm : _ = _).symm
  refine ⟨c.blk M.b (nb M.b), ⟨c.blk M.P.b (nb M.P.b), own_chg M.P.o c fun k hk hm => ?_⟩, (M.s.chg c (by simp [M.m1])).mono (Nat.le_succ _), V.ext fun y => ?_, (M.j.chg c (by simp [Ne.symm M.m3])).mono (Nat.le_succ _), fun i t ht => (M.S i t ht).chg c (fun k hk hm => M.o.far (M.S i t ht) (by have e : k = h.bo := (by simpa using hm); rw [← e]; exact hk)), fun x xs hx => c.blk (M.O x xs hx) (nb (M.O x xs hx)), M.d1, M.d2, M.m1, M.m2, M.m3⟩
  · have e : k = h.bo := by simpa using hm
    have hk2 : h.v.ownBlock = some k := hk
    rcases M.P.o.2 with ⟨e1, _⟩ | ⟨g', cap, cur, e1, _, hh, _⟩
    · rw [e1] at hk2; simp [Value.ownBlock] at hk2
    · rw [e1] at hk2
      have e2 : g' = k := by simpa [Value.ownBlock] using hk2
      exact M.o.ne_blk (t := 73) hh (by rw [e2, e])
  · rw [natV_put]
    congr 1
    funext z
    unfold owV updF
    by_cases e : z = p
    · subst e; simp
    · simp [e]
theorem StA.pages {w w' : World} {h : ArH} {a : Ar} {v' : Value} {l' : List R} (c : Chg (h.gp :: fpv h.v) w w') (f : ∀ k ∈ fpv v', k ∈ h.gp :: fpv h.v ∨ w.heap.size ≤ k) : StA h a (pgH h v') { a with l := l' } w w' := by
  have inF : ∀ k, k ∈ h.gp :: fpv h.v → ArF h a k := fun k hk => by
    rcases List.mem_cons.1 hk with e | e
    · exact .inr (.inl e)
    · exact .inr (.inr (.inl e))
  refine StA.of_chg c (fun k hk => .inl (inF k hk)) fun k hk => ?_
  rcases hk with h1 | h1 | h1 | h1
  · exact .inl (.inl h1)
  · exact .inl (.inr (.inl h1))
  · exact (f k h1).imp (inF k) id
  · exact .inl (.inr (.inr (.inr h1)))
theorem StA.newspan {w w' : World} {h : ArH} {a : Ar} {id : Nat} {b : SpB} {s : Sp} (c : Chg [h.bs] w w') (hb : ∀ k ∈ b.l, w.heap.size ≤ k) : StA h a (spanH h id b) { a with sp := updF a.sp id (some s) } w w' := by
  refine StA.of_chg c (fun k hk => .inl (.inr (.inr (.inr (.inl (by simpa using hk)))))) fun k hk => ?_
  rcases hk with h1 | h1 | h1 | h1 | h1 | h1 | ⟨i, t, ht, h1⟩ | h1
  · exact .inl (.inl h1)
  · exact .inl (.inr (.inl h1))
  · exact .inl (.inr (.inr (.inl h1)))
  · exact .inl (.inr (.inr (.inr (.inl h1))))
  · exact .inl (.inr (.inr (.inr (.inr (.inl h1)))))
  · exact .inl (.inr (.inr (.inr (.inr (.inr (.inl h1))))))
  · by_cases e : i = id
    · right
      have e2 : (spanH h id b).B i = b := if_pos e
      rw [e2] at h1
      exact hb k h1
    · refine .inl (.inr (.inr (.inr (.inr (.inr (.inr (.inl ⟨i, t, ?_, ?_⟩)))))))
      · rw [← ht]; exact (updF_other _ _ e).symm
      · have e2 : (spanH h id b).B i = h.B i := if_neg e
        rw [← e2]; exact h1
  · exact .inl (.inr (.inr (.inr (.inr (.inr (.inr (.inr h1)))))))
theorem StA.owner {w w' : World} {h : ArH} {a : Ar} {f : Nat → Option Nat} (c : Chg [h.bo] w w') : StA h a (owH h) { a with ow := f } w w' :=
  StA.of_chg c (fun k hk => .inl (.inr (.inr (.inr (.inr (.inl (by simpa using hk))))))) fun _ hk => .inl hk
end Go.Proofs.YtkocikpoagfonaaDoor
