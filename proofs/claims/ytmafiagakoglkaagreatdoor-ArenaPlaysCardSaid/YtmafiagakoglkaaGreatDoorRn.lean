/- The document's arena (treadmillref5): what Span and Drop tell. Plain theorems on worlds. -/
import Derived.Test.YtmafiagakoglkaaGreatDoorRm
import Derived.Test.YtmafiagakoglkaaGreatDoorOwnS
namespace Go.Proofs.YtmafiagakoglkaaGreatDoor
open Go.RowKit Go.Maps

theorem slvI : SlV Tryz.prog 22 3 (.int .i64 0) 8 := ⟨Tryz.underlying22, by kernel_rfl, rfl, by decide⟩
theorem slvS : SlV Tryz.prog 60 107 (.pointer none) 8 := ⟨Tryz.underlying60, by kernel_rfl, rfl, by decide⟩
theorem slvL : SlV Tryz.prog 61 22 (.slice none 0 0) 24 := ⟨Tryz.underlying61, by kernel_rfl, rfl, by decide⟩
section
variable {w w' : World} {h : RaH} {a : Ar} {ids : List Nat}
/-- The pages told anew. -/
theorem RaM.pages (M : RaM w h a ids) {l' : List R} {F' : Nat → Bool} (c : Chg [h.A] w w') (P : RfA w' h.gp h.A h.c a.n F') (hF : SayF a.n l' F') : RaM w' h { a with l := l' } ids := by
  obtain ⟨F0, hP0, -⟩ := M.P
  obtain ⟨f, hW, hf⟩ := M.W
  have nc : ∀ {k}, k ∈ [h.A] → k = h.A := fun hk => by simpa using hk
  have A := hP0.b2
  refine ⟨c.blk M.b (fun hm => A.ne_ M.b (by decide) (nc hm).symm), ⟨F', P, hF⟩, M.i.chg c (fun k hk hm => ownI_ne M.i A (by decide) (nc hm ▸ hk)), M.s.chg c (fun k hk hm => M.s.ne_blk A (by decide) (nc hm ▸ hk)), M.l.chg c (fun k hk hm => M.l.ne_blk A (by decide) (nc hm ▸ hk)), fun id s hs => ?_, fun id s hs => ?_, ⟨f, hW.chg c (fun hm => hW.ne_blk A (nc hm)), hf⟩, M.rise, M.mem, M.d1, M.d2, M.d3, M.d4⟩
  · obtain ⟨r, I⟩ := M.S id s hs
    exact ⟨r, I.chg c fun k hk hm => (M.sep hs k hk).2.2.1 (nc hm)⟩
  · obtain ⟨ls, l1, l2, l3⟩ := M.Ln id s hs
    exact ⟨ls, l1, c.blk l2 (fun hm => l2.ne_ A (by decide) (nc hm)), l3⟩
end
/-- The ids about a place between them. -/
theorem ids_split {ids : List Nat} {i id : Nat} (hr : ids.Pairwise (· < ·)) (hi : i ≤ ids.length) (h1 : ∀ (j y : Nat), j < i → ids[j]? = some y → y < id) (h2 : ∀ y, ids[i]? = some y → id ≤ y) (hn : id ∉ ids) : (∀ y ∈ ids.take i, y < id) ∧ ∀ y ∈ ids.drop i, id < y := by
  constructor
  · intro y hy
    obtain ⟨j, hj, e⟩ := List.getElem_of_mem hy
    have hj' : j < i := by rw [List.length_take] at hj; omega
    refine h1 j y hj' ?_
    rw [← e, List.getElem_take, List.getElem?_eq_getElem]
  · intro y hy
    obtain ⟨j, hj, e⟩ := List.getElem_of_mem hy
    rw [List.getElem_drop] at e
    have hjl : i + j < ids.length := by rw [List.length_drop] at hj; omega
    have hil : i < ids.length := by omega
    have h3 := h2 ids[i] (List.getElem?_eq_getElem hil)
    have hne : id ≠ y := fun e2 => hn (e2 ▸ (e ▸ List.getElem_mem hjl))
    by_cases e0 : j = 0
    · subst e0
      have e : ids[i] = y := e
      omega
    · have h4 := List.pairwise_iff_getElem.1 hr i (i + j) hil hjl (by omega)
      omega
/-- As CatPost, with a list of zeros that was made for it. -/
def CatPost2 (W : World) (g : Nat) (cs : Array Value) (F k i : Nat) (xs : List Value) (wd : World) : Prop :=
  ∃ gL, CatPost 22 W g 64 cs F (insT i (.slice (some ⟨gL, 0, none⟩) k k) xs) wd ∧ Blk wd gL 3 (zcells (.int .i64 0) k) ∧ W.heap.size ≤ gL
def RspPost (h : RaH) (a : Ar) (ids : List Nat) (k : Int) (w : World) (e : Ending) (w' : World) : Prop :=
  (¬ isK k ∧ e = .returned (.tuple #[.int .i64 0, .int .i64 1]) ∧ Chg [] w w') ∨
  ∃ q : Nat, k = q ∧ q < 16 ∧ ∃ x c l', AllocSays a.l (pgK q : Nat) x c l' ∧
    ((c ≠ 0 ∧ e = .returned (.tuple #[.int .i64 0, .int .i64 c]) ∧ RaM w' h a ids ∧ StR h a h a w w') ∨
     (c = 0 ∧ ∃ (f id : Nat) (h' : RaH) (ids' : List Nat), x = f ∧ a.sp id = none ∧ (∀ j, j < id → a.sp j ≠ none) ∧ e = .returned (.tuple #[.int .i64 (id : Nat), .int .i64 0]) ∧ h'.g = h.g ∧ h'.mw = h.mw ∧ RaM w' h' (spanA a l' id q f) ids' ∧ StR h a h' (spanA a l' id q f) w w'))
def RspR1 (w0 : World) (a : Ar) (N gk : Nat) (idx : Value) (w : World) : Prop := ∃ i, gk + i = N + 1 ∧ i ≤ N ∧ idx = .int .i64 (i : Nat) ∧ (∀ j, j < i → a.sp j ≠ none) ∧ w = w0
def RspR2 (w0 : World) (ids : List Nat) (id gk : Nat) (idx : Value) (w : World) : Prop := ∃ i, gk + i = ids.length + 1 ∧ i ≤ ids.length ∧ idx = .int .i64 (i : Nat) ∧ (∀ (j y : Nat), j < i → ids[j]? = some y → y < id) ∧ w = w0
/-- A span more: what the walk of Span made. -/
theorem RaM.spanned {w w2 w5 w6 w7 w8 w' : World} {h : RaH} {a : Ar} {ids : List Nat} (M : RaM w h a ids) {id i q f g : Nat} {b : RsB} {l' : List R} {F' : Nat → Bool} {vi vs vl : Value}
    (hn : a.sp id = none) (hr1 : ∀ y ∈ ids.take i, y < id) (hr2 : ∀ y ∈ ids.drop i, id < y)
    (c2 : Chg [h.A] w w2) (P : RfA w2 h.gp h.A h.c a.n F') (hF : SayF a.n l' F') (c5 : Chg [] w2 w5) (I : IsRs w5 b (spn f q) 0) (hb : ∀ k ∈ b.l, w2.heap.size ≤ k)
    (c6 : Chg [h.g] w5 w6) (Oi : OwnV 3 w6 vi (insT i (.int .i64 (id : Nat)) ((intsN ids).map (Value.int .i64)))) (fi : ∀ k ∈ fpv vi, w5.heap.size ≤ k)
    (c7 : Chg [h.g] w6 w7) (Os : OwnV 107 w7 vs (insT i (.pointer (some ⟨b.g, 0, none⟩)) (ids.map (raP h)))) (fs : ∀ k ∈ fpv vs, w6.heap.size ≤ k)
    (c8 : Chg [h.g] w7 w8) (Ol : OwnV 22 w8 vl (insT i (.slice (some ⟨g, 0, none⟩) (slK q) (slK q)) (ids.map (raL h a)))) (fl : ∀ k ∈ fpv vl, w7.heap.size ≤ k)
    (BL : Blk w8 g 3 (zcells (.int .i64 0) (slK q))) (hg : w7.heap.size ≤ g)
    (B : Blk w8 h.g 64 #[.pointer (some ⟨h.gp, 0, none⟩), vi, vs, vl, .map (some h.bw)]) (c : Chg [] w8 w') :
    ∃ h' : RaH, h'.g = h.g ∧ h'.mw = h.mw ∧ RaM w' h' (spanA a l' id q f) (insT i id ids) ∧ StR h a h' (spanA a l' id q f) w w' := by
  have hA : h.A < w.heap.size := M.lt (.inr (.inr (.inl rfl)))
  have hG : h.g < w.heap.size := M.b.lt
  have s2 := c2.size; have s5 := c5.size; have s6 := c6.size; have s7 := c7.size; have s8 := c8.size
  have nA : h.A ∉ [h.g] := fun hm => by
    obtain ⟨F0, hP0, -⟩ := M.P
    exact hP0.b2.ne_ M.b (by decide) (by simpa using hm)
  have ngp : h.gp ∉ [h.g] := fun hm => by
    obtain ⟨F0, hP0, -⟩ := M.P
    exact hP0.b1.ne_ M.b (by decide) (by simpa using hm)
  have big : ∀ {k : Nat}, w2.heap.size ≤ k → k ∉ [h.g] := fun hk hm => by
    have e := (show _ = h.g by simpa using hm); omega
  have C8 : Chg [h.g, h.A] w w8 := (((c2.mono (by simp)).trans (c5.mono (by simp))).trans ((c6.mono (by simp)).trans (c7.mono (by simp)))).trans (c8.mono (by simp))
  have Oi8 := (Oi.chg c7 (fun k hk => big (Nat.le_trans s5 (fi k hk)))).chg c8 (fun k hk => big (Nat.le_trans s5 (fi k hk)))
  have Os8 := Os.chg c8 (fun k hk => big (by have := fs k hk; omega))
  have P8 := ((((P.chg c5 (by simp) (by simp)).chg c6 ngp nA).chg c7 ngp nA).chg c8 ngp nA)
  have I8 := ((I.chg c6 (fun k hk => big (hb k hk))).chg c7 (fun k hk => big (hb k hk))).chg c8 (fun k hk => big (hb k hk))
  have e0 : insT i (.int .i64 (id : Nat)) ((intsN ids).map (Value.int .i64)) = (insT i (id : Int) (intsN ids)).map (Value.int .i64) := (insT_map _ _ _ _).symm
  rw [e0] at Oi8
  have N8 := M.newspan (w' := w8) hn hr1 hr2 C8 B P8 hF Oi8.i Os8 Ol I8 (fun k hk => by have := hb k hk; omega) BL (by omega) (fun hm => by
    have h1 := (Oi.chg c7 (fun k hk => big (Nat.le_trans s5 (fi k hk)))).lt hm; omega) (fun k hk => by have := fi k hk; omega)
  refine ⟨spH h id b g vi vs vl, rfl, rfl, N8.chg0 c, StR.of_chg (C8.trans (c.mono (by simp))) (fun k hk => ?_) (fun k hk => ?_)⟩
  · rcases (by simpa using hk : k = h.g ∨ k = h.A) with e | e
    · exact .inl (.inl e)
    · exact .inl (.inr (.inr (.inl e)))
  · have hB : ∀ j, j ≠ id → (spH h id b g vi vs vl).B j = h.B j := fun j e => if_neg e
    have hL : ∀ j, j ≠ id → (spH h id b g vi vs vl).L j = h.L j := fun j e => if_neg e
    rcases hk with h1 | h1 | h1 | h1 | h1 | h1 | h1 | ⟨j, t, ht, h1⟩
    · exact .inl (.inl h1)
    · exact .inl (.inr (.inl h1))
    · exact .inl (.inr (.inr (.inl h1)))
    · right; have := fi k h1; omega
    · right; have := fs k h1; omega
    · right; have := fl k h1; omega
    · exact .inl (.inr (.inr (.inr (.inr (.inr (.inr (.inl h1)))))))
    · by_cases e : j = id
      · right
        subst e
        have e1 : (spH h j b g vi vs vl).B j = b := if_pos rfl
        have e2 : (spH h j b g vi vs vl).L j = g := if_pos rfl
        rw [e1, e2] at h1
        rcases h1 with h1 | h1
        · have := hb k h1; omega
        · omega
      · left
        rw [hB j e, hL j e] at h1
        have ht : updF a.sp id (some (spn f q)) j = some t := ht
        rw [updF_other _ _ e] at ht
        exact .inr (.inr (.inr (.inr (.inr (.inr (.inr ⟨j, t, ht, h1⟩))))))
def RdpPost (h : RaH) (a : Ar) (ids : List Nat) (x : Int) (w : World) (e : Ending) (w' : World) : Prop :=
  (spI a x = none ∧ e = .returned (.int .i64 4) ∧ Chg [] w w') ∨
  ∃ (id : Nat) (s : Sp), x = id ∧ a.sp id = some s ∧ ((0 < cntF s.F (slK s.k) ∧ e = .returned (.int .i64 5) ∧ Chg [] w w') ∨
    (cntF s.F (slK s.k) = 0 ∧ ∃ cc l' h' ids', e = .returned (.int .i64 0) ∧ FreeSays a.n a.l (s.first : Nat) (pgK s.k : Nat) cc l' ∧ h'.g = h.g ∧ h'.mw = h.mw ∧ RaM w' h' (dropA a id s l') ids' ∧ StR h a h' (dropA a id s l') w w'))
theorem cut_map {α β : Type} (f : α → β) (l : List α) (k : Nat) : (l.map f).take k ++ (l.map f).drop (k + 1) = (l.eraseIdx k).map f := by
  rw [List.eraseIdx_eq_take_drop_succ, List.map_append, List.map_take, List.map_drop]
/-- A span less: what the walk of Drop made. -/
theorem RaM.dropped {w w2 w6 w7 w8 w' : World} {h : RaH} {a : Ar} {ids : List Nat} (M : RaM w h a ids) {id k : Nat} {s : Sp} {l' : List R} {F' : Nat → Bool} {vi vs vl : Value}
    (hs : a.sp id = some s) (hk : ids[k]? = some id) (h0 : cntF s.F (slK s.k) = 0)
    (c2 : Chg [h.A] w w2) (P : RfA w2 h.gp h.A h.c a.n F') (hF : SayF a.n l' F')
    (c6 : Chg [h.g] w2 w6) (Oi : OwnV 3 w6 vi (((intsN ids).map (Value.int .i64)).take k ++ ((intsN ids).map (Value.int .i64)).drop (k + 1))) (fi : ∀ k ∈ fpv vi, w2.heap.size ≤ k)
    (c7 : Chg [h.g] w6 w7) (Os : OwnV 107 w7 vs ((ids.map (raP h)).take k ++ (ids.map (raP h)).drop (k + 1))) (fs : ∀ k ∈ fpv vs, w6.heap.size ≤ k)
    (c8 : Chg [h.g] w7 w8) (Ol : OwnV 22 w8 vl ((ids.map (raL h a)).take k ++ (ids.map (raL h a)).drop (k + 1))) (fl : ∀ k ∈ fpv vl, w7.heap.size ≤ k)
    (B : Blk w8 h.g 64 #[.pointer (some ⟨h.gp, 0, none⟩), vi, vs, vl, .map (some h.bw)]) (c : Chg [] w8 w') :
    ∃ h' : RaH, h'.g = h.g ∧ h'.mw = h.mw ∧ RaM w' h' (dropA a id s l') (ids.eraseIdx k) ∧ StR h a h' (dropA a id s l') w w' := by
  have hA : h.A < w.heap.size := M.lt (.inr (.inr (.inl rfl)))
  have hG : h.g < w.heap.size := M.b.lt
  have s2 := c2.size; have s6 := c6.size; have s7 := c7.size; have s8 := c8.size
  have nA : h.A ∉ [h.g] := fun hm => by
    obtain ⟨F0, hP0, -⟩ := M.P
    exact hP0.b2.ne_ M.b (by decide) (by simpa using hm)
  have ngp : h.gp ∉ [h.g] := fun hm => by
    obtain ⟨F0, hP0, -⟩ := M.P
    exact hP0.b1.ne_ M.b (by decide) (by simpa using hm)
  have big : ∀ {k : Nat}, w2.heap.size ≤ k → k ∉ [h.g] := fun hk hm => by
    have e := (show _ = h.g by simpa using hm); omega
  have C8 : Chg [h.g, h.A] w w8 := ((c2.mono (by simp)).trans ((c6.mono (by simp)).trans (c7.mono (by simp)))).trans (c8.mono (by simp))
  rw [cut_map] at Oi Os Ol
  have e1 : (intsN ids).eraseIdx k = intsN (ids.eraseIdx k) := by
    unfold intsN
    rw [← cut_map, List.eraseIdx_eq_take_drop_succ]
  rw [e1] at Oi
  have Oi8 := (Oi.chg c7 (fun k hk => big (fi k hk))).chg c8 (fun k hk => big (fi k hk))
  have Os8 := Os.chg c8 (fun k hk => big (by have := fs k hk; omega))
  have P8 := (((P.chg c6 ngp nA).chg c7 ngp nA).chg c8 ngp nA)
  have hz : ∀ y, y < slK s.k → s.F y = false := fun y hy => by
    cases e : s.F y with
    | false => rfl
    | true => have := cnt_pos hy e; omega
  have N8 := M.less (w' := w8) (ow' := noT a.ow s.first (pgK s.k)) hs hk hz C8 B P8 hF Oi8.i Os8 Ol (fun k hk => by have := fi k hk; omega)
  refine ⟨{ h with vi := vi, vs := vs, vl := vl }, rfl, rfl, N8.chg0 c, StR.of_chg (C8.trans (c.mono (by simp))) (fun k hk => ?_) (fun k hk => ?_)⟩
  · rcases (by simpa using hk : k = h.g ∨ k = h.A) with e | e
    · exact .inl (.inl e)
    · exact .inl (.inr (.inr (.inl e)))
  · rcases hk with h1 | h1 | h1 | h1 | h1 | h1 | h1 | ⟨j, t, ht, h1⟩
    · exact .inl (.inl h1)
    · exact .inl (.inr (.inl h1))
    · exact .inl (.inr (.inr (.inl h1)))
    · right; have := fi k h1; omega
    · right; have := fs k h1; omega
    · right; have := fl k h1; omega
    · exact .inl (.inr (.inr (.inr (.inr (.inr (.inr (.inl h1)))))))
    · left
      exact .inr (.inr (.inr (.inr (.inr (.inr (.inr ⟨j, t, (updF_get ht).2, h1⟩))))))
end Go.Proofs.YtmafiagakoglkaaGreatDoor
