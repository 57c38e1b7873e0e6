/- The document's arena (treadmillref5): an object told anew (for Alloc). -/
import Derived.Test.YtmafiagakoglkaaGreatDoorRh
namespace Go.Proofs.YtmafiagakoglkaaGreatDoor
open Go.RowKit Go.Maps

/-- A word's value told where no object lies. -/
theorem RaM.word0 {w w' : World} {h : RaH} {a : Ar} {ids : List Nat} (M : RaM w h a ids) {k : Int} {v : Value} (c : Chg [h.bw] w w') (hk : ∀ x xs j, a.ob x = some xs → j < xs.length → ((x + j : Nat) : Int) ≠ k)
    {f : Int → Option Value} (hW : VMap Tryz.prog 3 w h.bw h.mw f) (hf : ∀ x xs j z, a.ob x = some xs → xs[j]? = some z → f ((x + j : Nat) : Int) = some (.int .i64 z)) (V : VMap Tryz.prog 3 w' h.bw (h.mw + 1) (putV f k v)) :
    RaM w' { h with mw := h.mw + 1 } a ids := by
  obtain ⟨F, hP, hF⟩ := M.P
  have nw : ∀ {k}, k ∈ [h.bw] → k = h.bw := fun hk => by simpa using hk
  have nb : ∀ {g : Nat} {t : TypeId} {cs : Array Value}, Blk w g t cs → g ∉ [h.bw] := fun hb hm => hW.ne_blk hb (nw hm).symm
  refine ⟨c.blk M.b (nb M.b), ⟨F, hP.chg c (nb hP.b1) (nb hP.b2), hF⟩, M.i.chg c (fun k hk hm => own_map M.i.o hW (nw hm ▸ hk)), M.s.chg c (fun k hk hm => own_map M.s.o hW (nw hm ▸ hk)), M.l.chg c (fun k hk hm => own_map M.l.o hW (nw hm ▸ hk)), fun id s hs => ?_, fun id s hs => ?_, ⟨_, V, fun x xs j z hx hj => ?_⟩, M.rise, M.mem, M.d1, M.d2, M.d3, M.d4⟩
  · obtain ⟨r, I⟩ := M.S id s hs
    exact ⟨r, I.chg c fun k hk hm => (M.sep hs k hk).2.2.2.2.2.2.1 (nw hm)⟩
  · obtain ⟨ls, l1, l2, l3⟩ := M.Ln id s hs
    exact ⟨ls, l1, c.blk l2 (nb l2), l3⟩
  · unfold putV
    rw [if_neg (hk x xs j hx (List.getElem?_eq_some_iff.1 hj).1)]
    exact hf x xs j z hx hj
/-- An object told anew. -/
theorem RaM.born {w : World} {h : RaH} {a : Ar} {ids : List Nat} (M : RaM w h a ids) {id i n live' : Nat} {s : Sp} (hs : a.sp id = some s) (hi : i < slK s.k) (hk : s.k < 16) (hn : n ≤ szK s.k)
    (hne : ∀ id' t y, id' ≠ id → a.sp id' = some t → y < slK t.k → t.addr y ≠ s.addr i)
    {f : Int → Option Value} (hW : VMap Tryz.prog 3 w h.bw h.mw f) (hf : ∀ x xs j z, a.ob x = some xs → xs[j]? = some z → f ((x + j : Nat) : Int) = some (.int .i64 z)) (h0 : ∀ j, j < n → f ((s.addr i + j : Nat) : Int) = some (.int .i64 0))
    {ls : List Int} (hl : ls.length = slK s.k) (hB : Blk w (h.L id) 3 (ls.map (Value.int .i64)).toArray) (hls : ∀ y xs, y < slK s.k → s.F y = true → a.ob (s.addr y) = some xs → ls[y]? = some (xs.length : Int) ∧ xs.length ≤ szK s.k) (hln : ls[i]? = some (n : Int)) :
    RaM w h { a with ob := updF a.ob (s.addr i) (some (List.replicate n 0)), live := live' } ids := by
  refine ⟨M.b, M.P, M.i, M.s, M.l, M.S, fun id' t ht => ?_, ⟨f, hW, fun x xs j z hx hj => ?_⟩, M.rise, M.mem, M.d1, M.d2, M.d3, M.d4⟩
  · by_cases e : id' = id
    · subst e
      have ht' : a.sp id' = some t := ht
      rw [hs] at ht'
      cases ht'
      refine ⟨ls, hl, hB, fun y xs hy hF ho => ?_⟩
      by_cases e : y = i
      · subst e
        have e2 : some (List.replicate n (0 : Int)) = some xs := by rw [← ho]; exact (updF_same _ _ _).symm
        injection e2 with e2
        rw [← e2, List.length_replicate]
        exact ⟨hln, hn⟩
      · exact hls y xs hy hF (by rw [← ho]; exact (updF_other _ _ (fun e3 => e (Sp.addr_inj hk e3))).symm)
    · obtain ⟨q, q1, q2, q3⟩ := M.Ln id' t ht
      exact ⟨q, q1, q2, fun y xs hy hF ho => q3 y xs hy hF (by rw [← ho]; exact (updF_other _ _ (hne id' t y e ht hy)).symm)⟩
  · by_cases e : x = s.addr i
    · subst e
      have e2 : some (List.replicate n (0 : Int)) = some xs := by rw [← hx]; exact (updF_same _ _ _).symm
      injection e2 with e2
      subst e2
      rw [List.getElem?_replicate] at hj
      split at hj
      · next h1 => cases hj; exact h0 j h1
      · cases hj
    · exact hf x xs j z (by rw [← hx]; exact (updF_other _ _ e).symm) hj
end Go.Proofs.YtmafiagakoglkaaGreatDoor
