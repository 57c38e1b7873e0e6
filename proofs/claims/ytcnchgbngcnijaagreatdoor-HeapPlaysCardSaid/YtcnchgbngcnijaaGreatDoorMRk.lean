/- The document's arena (treadmillref5): a length told anew (for Alloc). -/
/- The document's arena (treadmillref5): an object told anew (for Alloc). -/
/- The document's arena (treadmillref5): a step of it; a span more, a span less. Plain theorems on worlds. -/
/- The document's arena (treadmillref5): its sum is the arena's; its ids. Plain. -/
import Derived.Test.YtcnchgbngcnijaaGreatDoorMRb
import Derived.Test.YtcnchgbngcnijaaGreatDoorDr
namespace Go.Proofs.YtcnchgbngcnijaaGreatDoor
open Go.RowKit Go.Maps

theorem RaM.lens {w : World} {h : RaH} {a : Ar} {ids : List Nat} (M : RaM w h a ids) {id i : Nat} {s : Sp} (hs : a.sp id = some s) (hi : i < slK s.k) (hn : a.ob (s.addr i) = none) (n : Int) :
    RaM (w.setCell ⟨h.L id, i, none⟩ (.int .i64 n)) h a ids ∧ (∃ ls : List Int, ls.length = slK s.k ∧ Blk (w.setCell ⟨h.L id, i, none⟩ (.int .i64 n)) (h.L id) 3 (ls.map (Value.int .i64)).toArray ∧ ls[i]? = some n) := by
  obtain ⟨ls, l1, l2, l3⟩ := M.Ln id s hs
  obtain ⟨F, hP, hF⟩ := M.P
  obtain ⟨f, hW, hf⟩ := M.W
  have c : Chg [h.L id] w (w.setCell ⟨h.L id, i, none⟩ (.int .i64 n)) := (Chg.refl _ w).setCell (.inl (by simp)) _
  have one : ∀ {k : Nat}, k ∈ [h.L id] → k = h.L id := fun hk => by simpa using hk
  have nb : ∀ {g : Nat} {t : TypeId} {cs : Array Value}, Blk w g t cs → 3 ≠ t → g ∉ [h.L id] := fun hb hne hm => l2.ne_ hb hne (one hm).symm
  have B2 : Blk (w.setCell ⟨h.L id, i, none⟩ (.int .i64 n)) (h.L id) 3 ((ls.set i n).map (Value.int .i64)).toArray := by
    refine l2.setv i _ ?_
    rw [List.setIfInBounds_toArray, List.map_set]
  refine ⟨⟨c.blk M.b (nb M.b (by decide)), ⟨F, hP.chg c (nb hP.b1 (by decide)) (nb hP.b2 (by decide)), hF⟩, M.i.chg c (fun k hk hm => M.d4 id s hs (one hm ▸ hk)), M.s.chg c (fun k hk hm => M.s.ne_blk l2 (by decide) (one hm ▸ hk)), M.l.chg c (fun k hk hm => M.l.ne_blk l2 (by decide) (one hm ▸ hk)), fun id' t ht => ?_, fun id' t ht => ?_, ⟨f, hW.chg c (fun hm => hW.ne_blk l2 (one hm)), hf⟩, M.rise, M.mem, M.d1, M.d2, M.d3, M.d4⟩, ⟨ls.set i n, by rw [List.length_set]; exact l1, B2, by rw [List.getElem?_set, if_pos rfl]; simp [l1, hi]⟩⟩
  · obtain ⟨r, I⟩ := M.S id' t ht
    exact ⟨r, I.chg c fun k hk hm => (M.sep ht k hk).2.2.2.2.2.2.2 id s hs (one hm)⟩
  · by_cases e : id' = id
    · subst e
      rw [hs] at ht
      cases ht
      refine ⟨ls.set i n, by rw [List.length_set]; exact l1, B2, fun y xs hy hF' ho => ?_⟩
      have hne : i ≠ y := fun e => by rw [← e, hn] at ho; cases ho
      rw [List.getElem?_set, if_neg hne]
      exact l3 y xs hy hF' ho
    · obtain ⟨q, q1, q2, q3⟩ := M.Ln id' t ht
      exact ⟨q, q1, c.blk q2 (fun hm => M.d3 id' id t s ht hs e (one hm)), q3⟩
end Go.Proofs.YtcnchgbngcnijaaGreatDoor
namespace Go.Proofs.YtcnchgbngcnijaaGreatDoor
open Go.RowKit Go.Maps

/-- A word's value told where no object lies. -/
theorem RaM.word0 {w w' : World} {h : RaH} {a : Ar} {ids : List Nat} (M : RaM w h a ids) {k : Int} {v : Value} (c : Chg [h.bw] w w') (hk : ∀ x xs j, a.ob x = some xs → j < xs.length → ((x + j : Nat) : Int) ≠ k)
    {f : Int → Option Value} (hW : VMap Tryz.prog 3 w h.bw h.mw f) (hf : ∀ x xs j z, a.ob x = some xs → xs[j]? = some z → f ((x + j : Nat) : Int) = some (.int .i64 z)) (V : VMap Tryz.prog 3 w' h.bw (h.mw + 1) (putV f k v)) :
    RaM w' { h with mw := h.mw + 1 } a ids := by
  obtain ⟨F, hP, hF⟩ := M.P
  have nw : ∀ {k}, k ∈ [h.bw] → k = h.bw := fun hk => by simpa using hk
  have nb : ∀ {g : Nat} {t : TypeId} {cs : Array Value}, Blk w g t cs → g ∉ [h.bw] := fun hb hm => hW.ne_blk hb (nw hm).symm
  refine ⟨c.blk M.b (nb M.b), ⟨F, hP.chg c (nb hP.b1) (nb hP.b2), hF⟩, M.i.chg c (fun k hk hm => own_map M.i.o hW (nw hm ▸ hk)), M.s.chg c (fun k hk hm => own_map M.s.o hW (nw hm ▸ hk)), M.l.chg c (fun k hk hm => own_map M.l.o hW (nw hm ▸ hk)), fun id s hs => ?_, fun id s hs => ?_, ⟨_, V, fun x xs j z hx hj => ?_⟩, M.rise, M.mem, M.d1, M.d2, M.d3, M.d4⟩
  · obtain ⟨r, I⟩ := M.S id s hs
    exact ⟨r, I.chg c fun k hk hm => (M.sep hs k hk).2.2.2.2.2.2.1 (nw hm)⟩
  · obtain ⟨ls, l1, l2, l3⟩ := M.Ln id s hs
    exact ⟨ls, l1, c.blk l2 (nb l2), l3⟩
  · unfold putV
    rw [if_neg (hk x xs j hx (List.getElem?_eq_some_iff.1 hj).1)]
    exact hf x xs j z hx hj
/-- An object told anew. -/
theorem RaM.born {w : World} {h : RaH} {a : Ar} {ids : List Nat} (M : RaM w h a ids) {id i n live' : Nat} {s : Sp} (hs : a.sp id = some s) (hi : i < slK s.k) (hk : s.k < 16) (hn : n ≤ szK s.k)
    (hne : ∀ id' t y, id' ≠ id → a.sp id' = some t → y < slK t.k → t.addr y ≠ s.addr i)
    {f : Int → Option Value} (hW : VMap Tryz.prog 3 w h.bw h.mw f) (hf : ∀ x xs j z, a.ob x = some xs → xs[j]? = some z → f ((x + j : Nat) : Int) = some (.int .i64 z)) (h0 : ∀ j, j < n → f ((s.addr i + j : Nat) : Int) = some (.int .i64 0))
    {ls : List Int} (hl : ls.length = slK s.k) (hB : Blk w (h.L id) 3 (ls.map (Value.int .i64)).toArray) (hls : ∀ y xs, y < slK s.k → s.F y = true → a.ob (s.addr y) = some xs → ls[y]? = some (xs.length : Int) ∧ xs.length ≤ szK s.k) (hln : ls[i]? = some (n : Int)) :
    RaM w h { a with ob := updF a.ob (s.addr i) (some (List.replicate n 0)), live := live' } ids := by
  refine ⟨M.b, M.P, M.i, M.s, M.l, M.S, fun id' t ht => ?_, ⟨f, hW, fun x xs j z hx hj => ?_⟩, M.rise, M.mem, M.d1, M.d2, M.d3, M.d4⟩
  · by_cases e : id' = id
    · subst e
      have ht' : a.sp id' = some t := ht
      rw [hs] at ht'
      cases ht'
      refine ⟨ls, hl, hB, fun y xs hy hF ho => ?_⟩
      by_cases e : y = i
      · subst e
        have e2 : some (List.replicate n (0 : Int)) = some xs := by rw [← ho]; exact (updF_same _ _ _).symm
        injection e2 with e2
        rw [← e2, List.length_replicate]
        exact ⟨hln, hn⟩
      · exact hls y xs hy hF (by rw [← ho]; exact (updF_other _ _ (fun e3 => e (Sp.addr_inj hk e3))).symm)
    · obtain ⟨q, q1, q2, q3⟩ := M.Ln id' t ht
      exact ⟨q, q1, q2, fun y xs hy hF ho => q3 y xs hy hF (by rw [← ho]; exact (updF_other _ _ (hne id' t y e ht hy)).symm)⟩
  · by_cases e : x = s.addr i
    · subst e
      have e2 : some (List.replicate n (0 : Int)) = some xs := by rw [← hx]; exact (updF_same _ _ _).symm
      injection e2 with e2
      subst e2
      rw [List.getElem?_replicate] at hj
      split at hj
      · next h1 => cases hj; exact h0 j h1
      · cases hj
    · exact hf x xs j z (by rw [← hx]; exact (updF_other _ _ e).symm) hj
end Go.Proofs.YtcnchgbngcnijaaGreatDoor
namespace Go.Proofs.YtcnchgbngcnijaaGreatDoor
open Go.RowKit Go.Maps

/-- A step of the second form. -/
structure StR (h : RaH) (a : Ar) (h' : RaH) (a' : Ar) (w w' : World) : Prop where
  os : w'.os = w.os
  tape : w'.tape = w.tape
  output : w'.output = w.output
  size : w.heap.size ≤ w'.heap.size
  block : ∀ k, k < w.heap.size → ¬ RaF h a k → w'.heap[k]? = w.heap[k]?
  fr : ∀ k, RaF h' a' k → RaF h a k ∨ w.heap.size ≤ k
theorem StR.of_chg {S : List Nat} {h h' : RaH} {a a' : Ar} {w w' : World} (c : Chg S w w') (hS : ∀ k ∈ S, RaF h a k ∨ w.heap.size ≤ k) (fr : ∀ k, RaF h' a' k → RaF h a k ∨ w.heap.size ≤ k) : StR h a h' a' w w' :=
  ⟨c.os, c.tape, c.output, c.size, fun k hk hn => c.block k hk (fun hm => by
    rcases hS k hm with h1 | h1
    · exact hn h1
    · omega), fr⟩
theorem StR.same {h : RaH} {a : Ar} {w w' : World} (c : Chg [] w w') : StR h a h a w w' := StR.of_chg c (by simp) fun _ hk => .inl hk
theorem StR.chg {h h' : RaH} {a a' : Ar} {w w' : World} (st : StR h a h' a' w w') : ∃ S : List Nat, Chg S w w' ∧ ∀ k ∈ S, RaF h a k := by
  classical
  refine ⟨(List.range w.heap.size).filter (fun k => decide (RaF h a k)), ⟨st.os, st.tape, st.output, st.size, fun k hk hn => st.block k hk (fun hf => hn ?_)⟩, fun k hk => ?_⟩
  · rw [List.mem_filter, List.mem_range]
    exact ⟨hk, decide_eq_true hf⟩
  · rw [List.mem_filter] at hk
    exact of_decide_eq_true hk.2
/-- The blocks of spans are those that they were. -/
theorem RaF.sp {h : RaH} {a a' : Ar} {m : Nat} (hs : ∀ id s', a'.sp id = some s' → ∃ s, a.sp id = some s) {k : Nat} (hk : RaF { h with mw := m } a' k) : RaF h a k := by
  rcases hk with h1 | h1 | h1 | h1 | h1 | h1 | h1 | ⟨id, s', h1, h2⟩
  · exact .inl h1
  · exact .inr (.inl h1)
  · exact .inr (.inr (.inl h1))
  · exact .inr (.inr (.inr (.inl h1)))
  · exact .inr (.inr (.inr (.inr (.inl h1))))
  · exact .inr (.inr (.inr (.inr (.inr (.inl h1)))))
  · exact .inr (.inr (.inr (.inr (.inr (.inr (.inl h1))))))
  · obtain ⟨s, e⟩ := hs id s' h1
    exact .inr (.inr (.inr (.inr (.inr (.inr (.inr ⟨id, s, e, h2⟩))))))
def insT {α : Type} (i : Nat) (x : α) (l : List α) : List α := l.take i ++ [x] ++ l.drop i
theorem insT_map {α β : Type} (f : α → β) (i : Nat) (x : α) (l : List α) : (insT i x l).map f = insT i (f x) (l.map f) := by unfold insT; simp
theorem insT_mem {α : Type} {i : Nat} {x y : α} {l : List α} : y ∈ insT i x l ↔ y = x ∨ y ∈ l := by
  unfold insT
  rw [List.mem_append, List.mem_append, List.mem_singleton]
  constructor
  · rintro ((h | h) | h)
    · exact .inr (List.mem_of_mem_take h)
    · exact .inl h
    · exact .inr (List.mem_of_mem_drop h)
  · rintro (h | h)
    · exact .inl (.inr h)
    · rw [← List.take_append_drop i l, List.mem_append] at h
      rcases h with h | h
      · exact .inl (.inl h)
      · exact .inr h
theorem insT_rise {i x : Nat} {l : List Nat} (hl : l.Pairwise (· < ·)) (h1 : ∀ y ∈ l.take i, y < x) (h2 : ∀ y ∈ l.drop i, x < y) : (insT i x l).Pairwise (· < ·) := by
  unfold insT
  rw [List.pairwise_append, List.pairwise_append]
  refine ⟨⟨hl.take, List.pairwise_singleton _ _, fun y hy z hz => ?_⟩, hl.drop, fun y hy z hz => ?_⟩
  · rw [List.mem_singleton] at hz; subst hz; exact h1 y hy
  · rw [List.mem_append, List.mem_singleton] at hy
    rcases hy with hy | rfl
    · exact Nat.lt_trans (h1 y hy) (h2 z hz)
    · exact h2 z hz
def spH (h : RaH) (id : Nat) (b : RsB) (g : Nat) (vi vs vl : Value) : RaH := { h with vi := vi, vs := vs, vl := vl, B := fun j => if j = id then b else h.B j, L := fun j => if j = id then g else h.L j }
/-- A span more. -/
theorem RaM.newspan {w w' : World} {h : RaH} {a : Ar} {ids : List Nat} (M : RaM w h a ids) {id i q f g : Nat} {b : RsB} {l' : List R} {F' : Nat → Bool} {vi vs vl : Value}
    (hn : a.sp id = none) (hr1 : ∀ y ∈ ids.take i, y < id) (hr2 : ∀ y ∈ ids.drop i, id < y)
    (c : Chg [h.g, h.A] w w') (B : Blk w' h.g 40 #[.pointer (some ⟨h.gp, 0, none⟩), vi, vs, vl, .map (some h.bw)])
    (P : RfA w' h.gp h.A h.c a.n F') (hF : SayF a.n l' F')
    (Oi : OwnI 3 w' vi (insT i (id : Int) (intsN ids))) (Os : OwnV 97 w' vs (insT i (.pointer (some ⟨b.g, 0, none⟩)) (ids.map (raP h)))) (Ol : OwnV 33 w' vl (insT i (.slice (some ⟨g, 0, none⟩) (slK q) (slK q)) (ids.map (raL h a))))
    (I : IsRs w' b (spn f q) 0) (hb : ∀ k ∈ b.l, w.heap.size ≤ k) (BL : Blk w' g 3 (zcells (.int .i64 0) (slK q))) (hg : w.heap.size ≤ g) (hgi : g ∉ fpv vi) (hvi : ∀ k ∈ fpv vi, w.heap.size ≤ k) :
    RaM w' (spH h id b g vi vs vl) (spanA a l' id q f) (insT i id ids) := by
  obtain ⟨f0, hW, hf⟩ := M.W
  have hni : ∀ j ∈ ids, j ≠ id := fun j hj e => by
    have := (M.mem j).1 hj
    rw [e, hn] at this; cases this
  have get : ∀ j t, updF a.sp id (some (spn f q)) j = some t → (j = id ∧ t = spn f q) ∨ (j ≠ id ∧ a.sp j = some t) := fun j t ht => by
    by_cases e : j = id
    · subst e; rw [updF_same] at ht; cases ht; exact .inl ⟨rfl, rfl⟩
    · rw [updF_other _ _ e] at ht; exact .inr ⟨e, ht⟩
  have hB : ∀ j, j ≠ id → (spH h id b g vi vs vl).B j = h.B j := fun j e => if_neg e
  have hBi : (spH h id b g vi vs vl).B id = b := if_pos rfl
  have hL : ∀ j, j ≠ id → (spH h id b g vi vs vl).L j = h.L j := fun j e => if_neg e
  have hLi : (spH h id b g vi vs vl).L id = g := if_pos rfl
  have nc : ∀ {k}, k ∈ [h.g, h.A] → k = h.g ∨ k = h.A := fun hk => by simpa using hk
  obtain ⟨F0, hP0, -⟩ := M.P
  have nbw : h.bw ∉ [h.g, h.A] := fun hm => by
    rcases nc hm with e | e
    · exact hW.ne_blk M.b e
    · exact hW.ne_blk hP0.b2 e
  have nB : ∀ j t, a.sp j = some t → ∀ k ∈ (h.B j).l, k ∉ [h.g, h.A] := fun j t ht k hk hm => by
    rcases nc hm with e | e
    · exact (M.sep ht k hk).1 e
    · exact (M.sep ht k hk).2.2.1 e
  have Blt : ∀ j t, a.sp j = some t → ∀ k ∈ (h.B j).l, k < w.heap.size := fun j t ht k hk => M.lt (.inr (.inr (.inr (.inr (.inr (.inr (.inr ⟨j, t, ht, .inl hk⟩)))))))
  have Llt : ∀ j t, a.sp j = some t → h.L j < w.heap.size := fun j t ht => M.lt (.inr (.inr (.inr (.inr (.inr (.inr (.inr ⟨j, t, ht, .inr rfl⟩)))))))
  refine ⟨B, ⟨F', P, hF⟩, ?_, ?_, ?_, fun j t ht => ?_, fun j t ht => ?_, ⟨f0, hW.chg c nbw, hf⟩, insT_rise M.rise hr1 hr2, fun j => ?_, ?_, ?_, ?_, ?_⟩
  · have e : intsN (insT i id ids) = insT i (id : Int) (intsN ids) := by unfold intsN; exact insT_map _ _ _ _
    rw [e]; exact Oi
  · have e : (insT i id ids).map (raP (spH h id b g vi vs vl)) = insT i (.pointer (some ⟨b.g, 0, none⟩)) (ids.map (raP h)) := by
      rw [insT_map]
      congr 1
      · unfold raP; rw [hBi]
      · exact List.map_congr_left fun j hj => by unfold raP; rw [hB j (hni j hj)]
    rw [e]; exact Os
  · have e : (insT i id ids).map (raL (spH h id b g vi vs vl) (spanA a l' id q f)) = insT i (.slice (some ⟨g, 0, none⟩) (slK q) (slK q)) (ids.map (raL h a)) := by
      rw [insT_map]
      congr 1
      · unfold raL
        rw [hLi]
        have e2 : clsOf (spanA a l' id q f) id = slK q := by unfold clsOf spanA; simp only [updF_same]
        rw [e2]
      · refine List.map_congr_left fun j hj => ?_
        unfold raL
        rw [hL j (hni j hj)]
        have e2 : clsOf (spanA a l' id q f) j = clsOf a j := by unfold clsOf spanA; simp only [updF_other _ _ (hni j hj)]
        rw [e2]
    rw [e]; exact Ol
  · rcases get j t ht with ⟨rfl, rfl⟩ | ⟨e, ht⟩
    · rw [hBi]; exact ⟨0, I⟩
    · rw [hB j e]
      obtain ⟨r, hr⟩ := M.S j t ht
      exact ⟨r, hr.chg c (nB j t ht)⟩
  · rcases get j t ht with ⟨rfl, rfl⟩ | ⟨e, ht⟩
    · rw [hLi]
      refine ⟨List.replicate (slK q) 0, List.length_replicate, ?_, fun y xs hy hF => ?_⟩
      · rw [← zc_rep]; exact BL
      · cases hF
    · rw [hL j e]
      obtain ⟨ls, l1, l2, l3⟩ := M.Ln j t ht
      exact ⟨ls, l1, c.blk l2 (fun hm => by
        rcases nc hm with e | e
        · exact l2.ne_ M.b (by decide) e
        · exact l2.ne_ hP0.b2 (by decide) e), l3⟩
  · rw [insT_mem, M.mem j]
    show _ ↔ (updF a.sp id (some (spn f q)) j).isSome = true
    by_cases e : j = id
    · subst e; rw [updF_same]; simp
    · rw [updF_other _ _ e]; simp [e]
  · intro i1 i2 s1 s2 h1 h2 hne k hk hk2
    rcases get _ _ h1 with ⟨rfl, rfl⟩ | ⟨e1, q1⟩ <;> rcases get _ _ h2 with ⟨rfl, rfl⟩ | ⟨e2, q2⟩
    · exact hne rfl
    · rw [hBi] at hk; rw [hB _ e2] at hk2
      have := hb k hk; have := Blt _ _ q2 k hk2; omega
    · rw [hBi] at hk2; rw [hB _ e1] at hk
      have := hb k hk2; have := Blt _ _ q1 k hk; omega
    · rw [hB _ e1] at hk; rw [hB _ e2] at hk2
      exact M.d1 i1 i2 s1 s2 q1 q2 hne k hk hk2
  · intro i1 s1 h1 hm
    rcases get _ _ h1 with ⟨rfl, rfl⟩ | ⟨e1, q1⟩
    · rw [hBi] at hm
      have := hb _ hm; have := hP0.b2.lt
      have : h.A < w.heap.size := hP0.b2.lt
      have h3 : (spH h i1 b g vi vs vl).A = h.A := rfl
      omega
    · rw [hB _ e1] at hm; exact M.d2 i1 s1 q1 hm
  · intro i1 i2 s1 s2 h1 h2 hne
    rcases get _ _ h1 with ⟨rfl, rfl⟩ | ⟨e1, q1⟩ <;> rcases get _ _ h2 with ⟨rfl, rfl⟩ | ⟨e2, q2⟩
    · exact absurd rfl hne
    · rw [hLi, hL _ e2]; have := Llt _ _ q2; omega
    · rw [hLi, hL _ e1]; have := Llt _ _ q1; omega
    · rw [hL _ e1, hL _ e2]; exact M.d3 i1 i2 s1 s2 q1 q2 hne
  · intro i1 s1 h1 hm
    rcases get _ _ h1 with ⟨rfl, rfl⟩ | ⟨e1, q1⟩
    · rw [hLi] at hm; exact hgi hm
    · rw [hL _ e1] at hm
      have := hvi _ hm; have := Llt _ _ q1; omega
/-- A span less. -/
theorem RaM.less {w w' : World} {h : RaH} {a : Ar} {ids : List Nat} (M : RaM w h a ids) {id k : Nat} {s : Sp} {l' : List R} {F' : Nat → Bool} {vi vs vl : Value} {ow' : Nat → Option Nat}
    (hs : a.sp id = some s) (hk : ids[k]? = some id) (h0 : ∀ y, y < slK s.k → s.F y = false)
    (c : Chg [h.g, h.A] w w') (B : Blk w' h.g 40 #[.pointer (some ⟨h.gp, 0, none⟩), vi, vs, vl, .map (some h.bw)])
    (P : RfA w' h.gp h.A h.c a.n F') (hF : SayF a.n l' F')
    (Oi : OwnI 3 w' vi (intsN (ids.eraseIdx k))) (Os : OwnV 97 w' vs ((ids.eraseIdx k).map (raP h))) (Ol : OwnV 33 w' vl ((ids.eraseIdx k).map (raL h a))) (hvi : ∀ k ∈ fpv vi, w.heap.size ≤ k) :
    RaM w' { h with vi := vi, vs := vs, vl := vl } { a with l := l', sp := updF a.sp id none, ow := ow' } (ids.eraseIdx k) := by
  obtain ⟨f0, hW, hf⟩ := M.W
  have nd : ids.Nodup := M.rise.imp (fun h => Nat.ne_of_lt h)
  have hmem : ∀ j, j ∈ ids.eraseIdx k ↔ j ∈ ids ∧ j ≠ id := fun j => by
    rw [List.mem_eraseIdx_iff_getElem?]
    constructor
    · rintro ⟨i, hne, hi⟩
      refine ⟨List.mem_of_getElem? hi, fun e => hne ?_⟩
      subst e
      exact (List.getElem?_inj (List.getElem?_eq_some_iff.1 hi).1 nd).1 (hi.trans hk.symm)
    · rintro ⟨h1, h2⟩
      obtain ⟨i, hi⟩ := List.getElem?_of_mem h1
      exact ⟨i, fun e => h2 (by rw [e, hk] at hi; exact (Option.some.inj hi).symm), hi⟩
  have get : ∀ {j t}, updF a.sp id none j = some t → j ≠ id ∧ a.sp j = some t := fun ht => updF_get ht
  have nc : ∀ {k}, k ∈ [h.g, h.A] → k = h.g ∨ k = h.A := fun hk => by simpa using hk
  obtain ⟨F0, hP0, -⟩ := M.P
  have nbw : h.bw ∉ [h.g, h.A] := fun hm => by
    rcases nc hm with e | e
    · exact hW.ne_blk M.b e
    · exact hW.ne_blk hP0.b2 e
  have nB : ∀ j t, a.sp j = some t → ∀ k ∈ (h.B j).l, k ∉ [h.g, h.A] := fun j t ht k hk hm => by
    rcases nc hm with e | e
    · exact (M.sep ht k hk).1 e
    · exact (M.sep ht k hk).2.2.1 e
  have Llt : ∀ j t, a.sp j = some t → h.L j < w.heap.size := fun j t ht => M.lt (.inr (.inr (.inr (.inr (.inr (.inr (.inr ⟨j, t, ht, .inr rfl⟩)))))))
  refine ⟨B, ⟨F', P, hF⟩, Oi, Os, ?_, fun j t ht => ?_, fun j t ht => ?_, ⟨f0, hW.chg c nbw, hf⟩, M.rise.sublist (List.eraseIdx_sublist _ _), fun j => ?_, ?_, ?_, ?_, ?_⟩
  · have e : (ids.eraseIdx k).map (raL { h with vi := vi, vs := vs, vl := vl } { a with l := l', sp := updF a.sp id none, ow := ow' }) = (ids.eraseIdx k).map (raL h a) := List.map_congr_left fun j hj => by
      have hne := ((hmem j).1 hj).2
      unfold raL
      have e2 : clsOf { a with l := l', sp := updF a.sp id none, ow := ow' } j = clsOf a j := by unfold clsOf; simp only [updF_other _ _ hne]
      rw [e2]
    rw [e]; exact Ol
  · obtain ⟨r, hr⟩ := M.S j t (get ht).2
    exact ⟨r, hr.chg c (nB j t (get ht).2)⟩
  · obtain ⟨ls, l1, l2, l3⟩ := M.Ln j t (get ht).2
    exact ⟨ls, l1, c.blk l2 (fun hm => by
      rcases nc hm with e | e
      · exact l2.ne_ M.b (by decide) e
      · exact l2.ne_ hP0.b2 (by decide) e), l3⟩
  · rw [hmem, M.mem j]
    show _ ↔ (updF a.sp id none j).isSome = true
    by_cases e : j = id
    · subst e; rw [updF_same]; simp
    · rw [updF_other _ _ e]; simp [e]
  · intro i1 i2 s1 s2 h1 h2 hne
    exact M.d1 i1 i2 s1 s2 (get h1).2 (get h2).2 hne
  · intro i1 s1 h1
    exact M.d2 i1 s1 (get h1).2
  · intro i1 i2 s1 s2 h1 h2 hne
    exact M.d3 i1 i2 s1 s2 (get h1).2 (get h2).2 hne
  · intro i1 s1 h1 hm
    have := hvi _ hm; have := Llt _ _ (get h1).2
    have h3 : ({ h with vi := vi, vs := vs, vl := vl } : RaH).L i1 = h.L i1 := rfl
    omega
end Go.Proofs.YtcnchgbngcnijaaGreatDoor
namespace Go.Proofs.YtcnchgbngcnijaaGreatDoor
open Go.RowKit Go.Maps

theorem rise_ints {l : List Nat} (h : l.Pairwise (· < ·)) : Rise (intsN l) := by
  unfold intsN
  show List.Pairwise _ _
  rw [List.pairwise_map]
  exact h.imp (fun h => by omega)
theorem ints_inj {l m : List Nat} (h : intsN l = intsN m) : l = m := by
  unfold intsN at h
  exact (List.map_inj_right (fun x y e => by omega)).1 h
theorem mem_ints {l : List Nat} {x : Int} : x ∈ intsN l ↔ 0 ≤ x ∧ x.toNat ∈ l := by
  unfold intsN
  rw [List.mem_map]
  constructor
  · rintro ⟨y, hy, rfl⟩; exact ⟨by omega, by simpa using hy⟩
  · rintro ⟨h0, h1⟩; exact ⟨_, h1, by omega⟩
theorem liv_filter (f : Nat → Option Sp) : ∀ N, (((List.range N).filter fun j => (f j).isSome).map (fun j => spW (f j))).sum = livN f N
  | 0 => rfl
  | N + 1 => by
    rw [List.range_succ, List.filter_append, List.map_append, List.sum_append, liv_filter f N, livN]
    congr 1
    cases h : f N <;> simp [h, spW]
theorem RaM.ids_eq {w : World} {h : RaH} {a : Ar} {ids : List Nat} {N : Nat} (M : RaM w h a ids) (ok : ArOk N a) : ids = (List.range N).filter fun j => (a.sp j).isSome := by
  refine ints_inj (rise_ext (rise_ints M.rise) (rise_ints (List.Pairwise.filter _ List.pairwise_lt_range)) fun y => ?_)
  rw [mem_ints, mem_ints, List.mem_filter, List.mem_range, M.mem]
  constructor
  · rintro ⟨h0, h1⟩
    obtain ⟨s, hs⟩ := Option.isSome_iff_exists.1 h1
    exact ⟨h0, ok.top _ s hs, h1⟩
  · rintro ⟨h0, _, h1⟩; exact ⟨h0, h1⟩
theorem RaM.len_le {w : World} {h : RaH} {a : Ar} {ids : List Nat} {N : Nat} (M : RaM w h a ids) (ok : ArOk N a) : ids.length ≤ N := by
  rw [M.ids_eq ok]
  exact Nat.le_trans (List.length_filter_le _ _) (by simp)
theorem RaM.live {w : World} {h : RaH} {a : Ar} {ids : List Nat} {N : Nat} (M : RaM w h a ids) (I : ArI N a) : lvN a ids ids.length = a.live := by
  unfold lvN
  rw [List.take_length, I.lv, ← liv_filter, M.ids_eq I.ok]
  congr 1
theorem RaM.spans {w : World} {h : RaH} {a : Ar} {ids : List Nat} (M : RaM w h a ids) {ks : List Int} (hr : Rise ks) (hm : ∀ x, x ∈ ks ↔ (spI a x).isSome = true) : ks = intsN ids := by
  refine rise_ext hr (rise_ints M.rise) fun y => ?_
  rw [hm, mem_ints, M.mem]
  unfold spI
  split
  · next h => exact ⟨fun h1 => ⟨h, h1⟩, fun h1 => h1.2⟩
  · next h => exact ⟨fun h1 => (by cases h1), fun h1 => absurd h1.1 h⟩
end Go.Proofs.YtcnchgbngcnijaaGreatDoor
