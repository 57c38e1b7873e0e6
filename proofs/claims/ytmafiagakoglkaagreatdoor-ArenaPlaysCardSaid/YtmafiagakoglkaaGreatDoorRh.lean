/- The document's arena (treadmillref5): a length told anew (for Alloc). -/
import Derived.Test.YtmafiagakoglkaaGreatDoorMRb
namespace Go.Proofs.YtmafiagakoglkaaGreatDoor
open Go.RowKit Go.Maps

theorem RaM.lens {w : World} {h : RaH} {a : Ar} {ids : List Nat} (M : RaM w h a ids) {id i : Nat} {s : Sp} (hs : a.sp id = some s) (hi : i < slK s.k) (hn : a.ob (s.addr i) = none) (n : Int) :
    RaM (w.setCell ⟨h.L id, i, none⟩ (.int .i64 n)) h a ids ∧ (∃ ls : List Int, ls.length = slK s.k ∧ Blk (w.setCell ⟨h.L id, i, none⟩ (.int .i64 n)) (h.L id) 3 (ls.map (Value.int .i64)).toArray ∧ ls[i]? = some n) := by
  obtain ⟨ls, l1, l2, l3⟩ := M.Ln id s hs
  obtain ⟨F, hP, hF⟩ := M.P
  obtain ⟨f, hW, hf⟩ := M.W
  have c : Chg [h.L id] w (w.setCell ⟨h.L id, i, none⟩ (.int .i64 n)) := (Chg.refl _ w).setCell (.inl (by simp)) _
  have one : ∀ {k : Nat}, k ∈ [h.L id] → k = h.L id := fun hk => by simpa using hk
  have nb : ∀ {g : Nat} {t : TypeId} {cs : Array Value}, Blk w g t cs → 3 ≠ t → g ∉ [h.L id] := fun hb hne hm => l2.ne_ hb hne (one hm).symm
  have B2 : Blk (w.setCell ⟨h.L id, i, none⟩ (.int .i64 n)) (h.L id) 3 ((ls.set i n).map (Value.int .i64)).toArray := by
    refine l2.setv i _ ?_
    rw [List.setIfInBounds_toArray, List.map_set]
  refine ⟨⟨c.blk M.b (nb M.b (by decide)), ⟨F, hP.chg c (nb hP.b1 (by decide)) (nb hP.b2 (by decide)), hF⟩, M.i.chg c (fun k hk hm => M.d4 id s hs (one hm ▸ hk)), M.s.chg c (fun k hk hm => M.s.ne_blk l2 (by decide) (one hm ▸ hk)), M.l.chg c (fun k hk hm => M.l.ne_blk l2 (by decide) (one hm ▸ hk)), fun id' t ht => ?_, fun id' t ht => ?_, ⟨f, hW.chg c (fun hm => hW.ne_blk l2 (one hm)), hf⟩, M.rise, M.mem, M.d1, M.d2, M.d3, M.d4⟩, ⟨ls.set i n, by rw [List.length_set]; exact l1, B2, by rw [List.getElem?_set, if_pos rfl]; simp [l1, hi]⟩⟩
  · obtain ⟨r, I⟩ := M.S id' t ht
    exact ⟨r, I.chg c fun k hk hm => (M.sep ht k hk).2.2.2.2.2.2.2 id s hs (one hm)⟩
  · by_cases e : id' = id
    · subst e
      rw [hs] at ht
      cases ht
      refine ⟨ls.set i n, by rw [List.length_set]; exact l1, B2, fun y xs hy hF' ho => ?_⟩
      have hne : i ≠ y := fun e => by rw [← e, hn] at ho; cases ho
      rw [List.getElem?_set, if_neg hne]
      exact l3 y xs hy hF' ho
    · obtain ⟨q, q1, q2, q3⟩ := M.Ln id' t ht
      exact ⟨q, q1, c.blk q2 (fun hm => M.d3 id' id t s ht hs e (one hm)), q3⟩
end Go.Proofs.YtmafiagakoglkaaGreatDoor
