/- The document's arena (treadmillref5): a step of it; a span more, a span less. Plain theorems on worlds. -/
import Derived.Test.YtmafiagakoglkaaGreatDoorRi
import Derived.Test.YtmafiagakoglkaaGreatDoorDr
namespace Go.Proofs.YtmafiagakoglkaaGreatDoor
open Go.RowKit Go.Maps

/-- A step of the second form. -/
structure StR (h : RaH) (a : Ar) (h' : RaH) (a' : Ar) (w w' : World) : Prop where
  os : w'.os = w.os
  tape : w'.tape = w.tape
  output : w'.output = w.output
  size : w.heap.size ≤ w'.heap.size
  block : ∀ k, k < w.heap.size → ¬ RaF h a k → w'.heap[k]? = w.heap[k]?
  fr : ∀ k, RaF h' a' k → RaF h a k ∨ w.heap.size ≤ k
theorem StR.of_chg {S : List Nat} {h h' : RaH} {a a' : Ar} {w w' : World} (c : Chg S w w') (hS : ∀ k ∈ S, RaF h a k ∨ w.heap.size ≤ k) (fr : ∀ k, RaF h' a' k → RaF h a k ∨ w.heap.size ≤ k) : StR h a h' a' w w' :=
  ⟨c.os, c.tape, c.output, c.size, fun k hk hn => c.block k hk (fun hm => by
    rcases hS k hm with h1 | h1
    · exact hn h1
    · omega), fr⟩
theorem StR.same {h : RaH} {a : Ar} {w w' : World} (c : Chg [] w w') : StR h a h a w w' := StR.of_chg c (by simp) fun _ hk => .inl hk
theorem StR.chg {h h' : RaH} {a a' : Ar} {w w' : World} (st : StR h a h' a' w w') : ∃ S : List Nat, Chg S w w' ∧ ∀ k ∈ S, RaF h a k := by
  classical
  refine ⟨(List.range w.heap.size).filter (fun k => decide (RaF h a k)), ⟨st.os, st.tape, st.output, st.size, fun k hk hn => st.block k hk (fun hf => hn ?_)⟩, fun k hk => ?_⟩
  · rw [List.mem_filter, List.mem_range]
    exact ⟨hk, decide_eq_true hf⟩
  · rw [List.mem_filter] at hk
    exact of_decide_eq_true hk.2
/-- The blocks of spans are those that they were. -/
theorem RaF.sp {h : RaH} {a a' : Ar} {m : Nat} (hs : ∀ id s', a'.sp id = some s' → ∃ s, a.sp id = some s) {k : Nat} (hk : RaF { h with mw := m } a' k) : RaF h a k := by
  rcases hk with h1 | h1 | h1 | h1 | h1 | h1 | h1 | ⟨id, s', h1, h2⟩
  · exact .inl h1
  · exact .inr (.inl h1)
  · exact .inr (.inr (.inl h1))
  · exact .inr (.inr (.inr (.inl h1)))
  · exact .inr (.inr (.inr (.inr (.inl h1))))
  · exact .inr (.inr (.inr (.inr (.inr (.inl h1)))))
  · exact .inr (.inr (.inr (.inr (.inr (.inr (.inl h1))))))
  · obtain ⟨s, e⟩ := hs id s' h1
    exact .inr (.inr (.inr (.inr (.inr (.inr (.inr ⟨id, s, e, h2⟩))))))
def insT {α : Type} (i : Nat) (x : α) (l : List α) : List α := l.take i ++ [x] ++ l.drop i
theorem insT_map {α β : Type} (f : α → β) (i : Nat) (x : α) (l : List α) : (insT i x l).map f = insT i (f x) (l.map f) := by unfold insT; simp
theorem insT_mem {α : Type} {i : Nat} {x y : α} {l : List α} : y ∈ insT i x l ↔ y = x ∨ y ∈ l := by
  unfold insT
  rw [List.mem_append, List.mem_append, List.mem_singleton]
  constructor
  · rintro ((h | h) | h)
    · exact .inr (List.mem_of_mem_take h)
    · exact .inl h
    · exact .inr (List.mem_of_mem_drop h)
  · rintro (h | h)
    · exact .inl (.inr h)
    · rw [← List.take_append_drop i l, List.mem_append] at h
      rcases h with h | h
      · exact .inl (.inl h)
      · exact .inr h
theorem insT_rise {i x : Nat} {l : List Nat} (hl : l.Pairwise (· < ·)) (h1 : ∀ y ∈ l.take i, y < x) (h2 : ∀ y ∈ l.drop i, x < y) : (insT i x l).Pairwise (· < ·) := by
  unfold insT
  rw [List.pairwise_append, List.pairwise_append]
  refine ⟨⟨hl.take, List.pairwise_singleton _ _, fun y hy z hz => ?_⟩, hl.drop, fun y hy z hz => ?_⟩
  · rw [List.mem_singleton] at hz; subst hz; exact h1 y hy
  · rw [List.mem_append, List.mem_singleton] at hy
    rcases hy with hy | rfl
    · exact Nat.lt_trans (h1 y hy) (h2 z hz)
    · exact h2 z hz
theorem insT_len {α : Type} {i : Nat} {x : α} {l : List α} (hi : i ≤ l.length) : (insT i x l).length = l.length + 1 := by
  unfold insT; simp; omega
def spH (h : RaH) (id : Nat) (b : RsB) (g : Nat) (vi vs vl : Value) : RaH := { h with vi := vi, vs := vs, vl := vl, B := fun j => if j = id then b else h.B j, L := fun j => if j = id then g else h.L j }
/-- A span more. -/
theorem RaM.newspan {w w' : World} {h : RaH} {a : Ar} {ids : List Nat} (M : RaM w h a ids) {id i q f g : Nat} {b : RsB} {l' : List R} {F' : Nat → Bool} {vi vs vl : Value}
    (hn : a.sp id = none) (hr1 : ∀ y ∈ ids.take i, y < id) (hr2 : ∀ y ∈ ids.drop i, id < y)
    (c : Chg [h.g, h.A] w w') (B : Blk w' h.g 64 #[.pointer (some ⟨h.gp, 0, none⟩), vi, vs, vl, .map (some h.bw)])
    (P : RfA w' h.gp h.A h.c a.n F') (hF : SayF a.n l' F')
    (Oi : OwnI 3 w' vi (insT i (id : Int) (intsN ids))) (Os : OwnV 107 w' vs (insT i (.pointer (some ⟨b.g, 0, none⟩)) (ids.map (raP h)))) (Ol : OwnV 22 w' vl (insT i (.slice (some ⟨g, 0, none⟩) (slK q) (slK q)) (ids.map (raL h a))))
    (I : IsRs w' b (spn f q) 0) (hb : ∀ k ∈ b.l, w.heap.size ≤ k) (BL : Blk w' g 3 (zcells (.int .i64 0) (slK q))) (hg : w.heap.size ≤ g) (hgi : g ∉ fpv vi) (hvi : ∀ k ∈ fpv vi, w.heap.size ≤ k) :
    RaM w' (spH h id b g vi vs vl) (spanA a l' id q f) (insT i id ids) := by
  obtain ⟨f0, hW, hf⟩ := M.W
  have hni : ∀ j ∈ ids, j ≠ id := fun j hj e => by
    have := (M.mem j).1 hj
    rw [e, hn] at this; cases this
  have get : ∀ j t, updF a.sp id (some (spn f q)) j = some t → (j = id ∧ t = spn f q) ∨ (j ≠ id ∧ a.sp j = some t) := fun j t ht => by
    by_cases e : j = id
    · subst e; rw [updF_same] at ht; cases ht; exact .inl ⟨rfl, rfl⟩
    · rw [updF_other _ _ e] at ht; exact .inr ⟨e, ht⟩
  have hB : ∀ j, j ≠ id → (spH h id b g vi vs vl).B j = h.B j := fun j e => if_neg e
  have hBi : (spH h id b g vi vs vl).B id = b := if_pos rfl
  have hL : ∀ j, j ≠ id → (spH h id b g vi vs vl).L j = h.L j := fun j e => if_neg e
  have hLi : (spH h id b g vi vs vl).L id = g := if_pos rfl
  have nc : ∀ {k}, k ∈ [h.g, h.A] → k = h.g ∨ k = h.A := fun hk => by simpa using hk
  obtain ⟨F0, hP0, -⟩ := M.P
  have nbw : h.bw ∉ [h.g, h.A] := fun hm => by
    rcases nc hm with e | e
    · exact hW.ne_blk M.b e
    · exact hW.ne_blk hP0.b2 e
  have nB : ∀ j t, a.sp j = some t → ∀ k ∈ (h.B j).l, k ∉ [h.g, h.A] := fun j t ht k hk hm => by
    rcases nc hm with e | e
    · exact (M.sep ht k hk).1 e
    · exact (M.sep ht k hk).2.2.1 e
  have Blt : ∀ j t, a.sp j = some t → ∀ k ∈ (h.B j).l, k < w.heap.size := fun j t ht k hk => M.lt (.inr (.inr (.inr (.inr (.inr (.inr (.inr ⟨j, t, ht, .inl hk⟩)))))))
  have Llt : ∀ j t, a.sp j = some t → h.L j < w.heap.size := fun j t ht => M.lt (.inr (.inr (.inr (.inr (.inr (.inr (.inr ⟨j, t, ht, .inr rfl⟩)))))))
  refine ⟨B, ⟨F', P, hF⟩, ?_, ?_, ?_, fun j t ht => ?_, fun j t ht => ?_, ⟨f0, hW.chg c nbw, hf⟩, insT_rise M.rise hr1 hr2, fun j => ?_, ?_, ?_, ?_, ?_⟩
  · have e : intsN (insT i id ids) = insT i (id : Int) (intsN ids) := by unfold intsN; exact insT_map _ _ _ _
    rw [e]; exact Oi
  · have e : (insT i id ids).map (raP (spH h id b g vi vs vl)) = insT i (.pointer (some ⟨b.g, 0, none⟩)) (ids.map (raP h)) := by
      rw [insT_map]
      congr 1
      · unfold raP; rw [hBi]
      · exact List.map_congr_left fun j hj => by unfold raP; rw [hB j (hni j hj)]
    rw [e]; exact Os
  · have e : (insT i id ids).map (raL (spH h id b g vi vs vl) (spanA a l' id q f)) = insT i (.slice (some ⟨g, 0, none⟩) (slK q) (slK q)) (ids.map (raL h a)) := by
      rw [insT_map]
      congr 1
      · unfold raL
        rw [hLi]
        have e2 : clsOf (spanA a l' id q f) id = slK q := by unfold clsOf spanA; simp only [updF_same]
        rw [e2]
      · refine List.map_congr_left fun j hj => ?_
        unfold raL
        rw [hL j (hni j hj)]
        have e2 : clsOf (spanA a l' id q f) j = clsOf a j := by unfold clsOf spanA; simp only [updF_other _ _ (hni j hj)]
        rw [e2]
    rw [e]; exact Ol
  · rcases get j t ht with ⟨rfl, rfl⟩ | ⟨e, ht⟩
    · rw [hBi]; exact ⟨0, I⟩
    · rw [hB j e]
      obtain ⟨r, hr⟩ := M.S j t ht
      exact ⟨r, hr.chg c (nB j t ht)⟩
  · rcases get j t ht with ⟨rfl, rfl⟩ | ⟨e, ht⟩
    · rw [hLi]
      refine ⟨List.replicate (slK q) 0, List.length_replicate, ?_, fun y xs hy hF => ?_⟩
      · rw [← zc_rep]; exact BL
      · cases hF
    · rw [hL j e]
      obtain ⟨ls, l1, l2, l3⟩ := M.Ln j t ht
      exact ⟨ls, l1, c.blk l2 (fun hm => by
        rcases nc hm with e | e
        · exact l2.ne_ M.b (by decide) e
        · exact l2.ne_ hP0.b2 (by decide) e), l3⟩
  · rw [insT_mem, M.mem j]
    show _ ↔ (updF a.sp id (some (spn f q)) j).isSome = true
    by_cases e : j = id
    · subst e; rw [updF_same]; simp
    · rw [updF_other _ _ e]; simp [e]
  · intro i1 i2 s1 s2 h1 h2 hne k hk hk2
    rcases get _ _ h1 with ⟨rfl, rfl⟩ | ⟨e1, q1⟩ <;> rcases get _ _ h2 with ⟨rfl, rfl⟩ | ⟨e2, q2⟩
    · exact hne rfl
    · rw [hBi] at hk; rw [hB _ e2] at hk2
      have := hb k hk; have := Blt _ _ q2 k hk2; omega
    · rw [hBi] at hk2; rw [hB _ e1] at hk
      have := hb k hk2; have := Blt _ _ q1 k hk; omega
    · rw [hB _ e1] at hk; rw [hB _ e2] at hk2
      exact M.d1 i1 i2 s1 s2 q1 q2 hne k hk hk2
  · intro i1 s1 h1 hm
    rcases get _ _ h1 with ⟨rfl, rfl⟩ | ⟨e1, q1⟩
    · rw [hBi] at hm
      have := hb _ hm; have := hP0.b2.lt
      have : h.A < w.heap.size := hP0.b2.lt
      have h3 : (spH h i1 b g vi vs vl).A = h.A := rfl
      omega
    · rw [hB _ e1] at hm; exact M.d2 i1 s1 q1 hm
  · intro i1 i2 s1 s2 h1 h2 hne
    rcases get _ _ h1 with ⟨rfl, rfl⟩ | ⟨e1, q1⟩ <;> rcases get _ _ h2 with ⟨rfl, rfl⟩ | ⟨e2, q2⟩
    · exact absurd rfl hne
    · rw [hLi, hL _ e2]; have := Llt _ _ q2; omega
    · rw [hLi, hL _ e1]; have := Llt _ _ q1; omega
    · rw [hL _ e1, hL _ e2]; exact M.d3 i1 i2 s1 s2 q1 q2 hne
  · intro i1 s1 h1 hm
    rcases get _ _ h1 with ⟨rfl, rfl⟩ | ⟨e1, q1⟩
    · rw [hLi] at hm; exact hgi hm
    · rw [hL _ e1] at hm
      have := hvi _ hm; have := Llt _ _ q1; omega
/-- A span less. -/
theorem RaM.less {w w' : World} {h : RaH} {a : Ar} {ids : List Nat} (M : RaM w h a ids) {id k : Nat} {s : Sp} {l' : List R} {F' : Nat → Bool} {vi vs vl : Value} {ow' : Nat → Option Nat}
    (hs : a.sp id = some s) (hk : ids[k]? = some id) (h0 : ∀ y, y < slK s.k → s.F y = false)
    (c : Chg [h.g, h.A] w w') (B : Blk w' h.g 64 #[.pointer (some ⟨h.gp, 0, none⟩), vi, vs, vl, .map (some h.bw)])
    (P : RfA w' h.gp h.A h.c a.n F') (hF : SayF a.n l' F')
    (Oi : OwnI 3 w' vi (intsN (ids.eraseIdx k))) (Os : OwnV 107 w' vs ((ids.eraseIdx k).map (raP h))) (Ol : OwnV 22 w' vl ((ids.eraseIdx k).map (raL h a))) (hvi : ∀ k ∈ fpv vi, w.heap.size ≤ k) :
    RaM w' { h with vi := vi, vs := vs, vl := vl } { a with l := l', sp := updF a.sp id none, ow := ow' } (ids.eraseIdx k) := by
  obtain ⟨f0, hW, hf⟩ := M.W
  have nd : ids.Nodup := M.rise.imp (fun h => Nat.ne_of_lt h)
  have hmem : ∀ j, j ∈ ids.eraseIdx k ↔ j ∈ ids ∧ j ≠ id := fun j => by
    rw [List.mem_eraseIdx_iff_getElem?]
    constructor
    · rintro ⟨i, hne, hi⟩
      refine ⟨List.mem_of_getElem? hi, fun e => hne ?_⟩
      subst e
      exact (List.getElem?_inj (List.getElem?_eq_some_iff.1 hi).1 nd).1 (hi.trans hk.symm)
    · rintro ⟨h1, h2⟩
      obtain ⟨i, hi⟩ := List.getElem?_of_mem h1
      exact ⟨i, fun e => h2 (by rw [e, hk] at hi; exact (Option.some.inj hi).symm), hi⟩
  have get : ∀ {j t}, updF a.sp id none j = some t → j ≠ id ∧ a.sp j = some t := fun ht => updF_get ht
  have nc : ∀ {k}, k ∈ [h.g, h.A] → k = h.g ∨ k = h.A := fun hk => by simpa using hk
  obtain ⟨F0, hP0, -⟩ := M.P
  have nbw : h.bw ∉ [h.g, h.A] := fun hm => by
    rcases nc hm with e | e
    · exact hW.ne_blk M.b e
    · exact hW.ne_blk hP0.b2 e
  have nB : ∀ j t, a.sp j = some t → ∀ k ∈ (h.B j).l, k ∉ [h.g, h.A] := fun j t ht k hk hm => by
    rcases nc hm with e | e
    · exact (M.sep ht k hk).1 e
    · exact (M.sep ht k hk).2.2.1 e
  have Llt : ∀ j t, a.sp j = some t → h.L j < w.heap.size := fun j t ht => M.lt (.inr (.inr (.inr (.inr (.inr (.inr (.inr ⟨j, t, ht, .inr rfl⟩)))))))
  refine ⟨B, ⟨F', P, hF⟩, Oi, Os, ?_, fun j t ht => ?_, fun j t ht => ?_, ⟨f0, hW.chg c nbw, hf⟩, M.rise.sublist (List.eraseIdx_sublist _ _), fun j => ?_, ?_, ?_, ?_, ?_⟩
  · have e : (ids.eraseIdx k).map (raL { h with vi := vi, vs := vs, vl := vl } { a with l := l', sp := updF a.sp id none, ow := ow' }) = (ids.eraseIdx k).map (raL h a) := List.map_congr_left fun j hj => by
      have hne := ((hmem j).1 hj).2
      unfold raL
      have e2 : clsOf { a with l := l', sp := updF a.sp id none, ow := ow' } j = clsOf a j := by unfold clsOf; simp only [updF_other _ _ hne]
      rw [e2]
    rw [e]; exact Ol
  · obtain ⟨r, hr⟩ := M.S j t (get ht).2
    exact ⟨r, hr.chg c (nB j t (get ht).2)⟩
  · obtain ⟨ls, l1, l2, l3⟩ := M.Ln j t (get ht).2
    exact ⟨ls, l1, c.blk l2 (fun hm => by
      rcases nc hm with e | e
      · exact l2.ne_ M.b (by decide) e
      · exact l2.ne_ hP0.b2 (by decide) e), l3⟩
  · rw [hmem, M.mem j]
    show _ ↔ (updF a.sp id none j).isSome = true
    by_cases e : j = id
    · subst e; rw [updF_same]; simp
    · rw [updF_other _ _ e]; simp [e]
  · intro i1 i2 s1 s2 h1 h2 hne
    exact M.d1 i1 i2 s1 s2 (get h1).2 (get h2).2 hne
  · intro i1 s1 h1
    exact M.d2 i1 s1 (get h1).2
  · intro i1 i2 s1 s2 h1 h2 hne
    exact M.d3 i1 i2 s1 s2 (get h1).2 (get h2).2 hne
  · intro i1 s1 h1 hm
    have := hvi _ hm; have := Llt _ _ (get h1).2
    have h3 : ({ h with vi := vi, vs := vs, vl := vl } : RaH).L i1 = h.L i1 := rfl
    omega
end Go.Proofs.YtmafiagakoglkaaGreatDoor
