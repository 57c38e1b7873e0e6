/- The document's arena (treadmillref5): Alloc. Plain theorems. -/
import Derived.Test.YtmafiagakoglkaaGreatDoorRo
import Derived.Test.YtmafiagakoglkaaGreatDoorMSer
namespace Go.Proofs.YtmafiagakoglkaaGreatDoor
open Go.RowKit Go.Maps

/-- No word of a place that is free is an object's. -/
theorem RaM.free_word {w : World} {h : RaH} {a : Ar} {ids : List Nat} {N : Nat} (M : RaM w h a ids) (ok : ArOk N a) {id y j : Nat} {s : Sp} (hs : a.sp id = some s) (hy : y < slK s.k) (hn : a.ob (s.addr y) = none) (hj : j < szK s.k) :
    ∀ x xs j', a.ob x = some xs → j' < xs.length → ((x + j' : Nat) : Int) ≠ ((s.addr y + j : Nat) : Int) := by
  intro x xs j' hx hj' e
  have e : x + j' = s.addr y + j := by omega
  obtain ⟨id', t, i, h1, h2, h3, rfl⟩ := (ok.ob x).1 (by rw [hx]; rfl)
  obtain ⟨_, -, -, l1⟩ := M.Ln id' t h1
  have q1 := (l1 i xs h2 h3 hx).2
  have p1 := word_page (ok.pg id' t h1).1 h2 (j := j') (by omega)
  have p2 := word_page (ok.pg id s hs).1 hy (j := j) hj
  have o1 := ok.ow id' t _ h1 p1.1 p1.2
  have o2 := ok.ow id s _ hs p2.1 p2.2
  rw [e, o2] at o1
  injection o1 with o1
  subst o1
  rw [hs] at h1
  cases h1
  obtain ⟨r1, -⟩ := word_inj (by omega) hj e
  rw [r1, hn] at hx
  cases hx
/-- What the loop of Alloc keeps: the words up to j are 0. -/
structure RalK (w0 : World) (h : RaH) (a : Ar) (ids : List Nat) (x j : Nat) (w : World) : Prop where
  ex : ∃ m f, m ≤ h.mw + j ∧ RaM w { h with mw := m } a ids ∧ VMap Tryz.prog 3 w h.bw m f ∧ (∀ x xs j z, a.ob x = some xs → xs[j]? = some z → f ((x + j : Nat) : Int) = some (.int .i64 z)) ∧ ∀ j', j' < j → f ((x + j' : Nat) : Int) = some (.int .i64 0)
  c : Chg [h.bw] w0 w
theorem RalK.start {w : World} {h : RaH} {a : Ar} {ids : List Nat} (M : RaM w h a ids) (x : Nat) : RalK w h a ids x 0 w := by
  obtain ⟨f, hW, hf⟩ := M.W
  exact ⟨⟨h.mw, f, by omega, M, hW, hf, fun j' hj => by omega⟩, Chg.refl _ _⟩
theorem RalK.next {w0 w w' : World} {h : RaH} {a : Ar} {ids : List Nat} {x j m : Nat} {f : Int → Option Value} (c0 : Chg [h.bw] w0 w) (hm : m ≤ h.mw + j) (M : RaM w { h with mw := m } a ids) (hW : VMap Tryz.prog 3 w h.bw m f)
    (hf : ∀ x xs j z, a.ob x = some xs → xs[j]? = some z → f ((x + j : Nat) : Int) = some (.int .i64 z)) (h0 : ∀ j', j' < j → f ((x + j' : Nat) : Int) = some (.int .i64 0))
    (c : Chg [h.bw] w w') (hk : ∀ z xs j', a.ob z = some xs → j' < xs.length → ((z + j' : Nat) : Int) ≠ ((x + j : Nat) : Int)) (V : VMap Tryz.prog 3 w' h.bw (m + 1) (putV f ((x + j : Nat) : Int) (.int .i64 0))) : RalK w0 h a ids x (j + 1) w' := by
  refine ⟨⟨m + 1, _, by omega, RaM.word0 M c hk hW hf V, V, fun z xs j' u hz hj => ?_, fun j' hj => ?_⟩, c0.trans c⟩
  · unfold putV
    rw [if_neg (hk z xs j' hz (List.getElem?_eq_some_iff.1 hj).1)]
    exact hf z xs j' u hz hj
  · unfold putV
    by_cases e : j' = j
    · subst e; rw [if_pos rfl]
    · rw [if_neg (by omega)]; exact h0 j' (by omega)
/-- A place taken: what the span tells, ahead of the object. -/
theorem RaM.took {w w' : World} {h : RaH} {a : Ar} {ids : List Nat} (M : RaM w h a ids) {id y r : Nat} {s : Sp} (black : Bool) (hs : a.sp id = some s) (hn : a.ob (s.addr y) = none) (I : IsRs w' (h.B id) (allocS s y black) r) (c : Chg (h.B id).l w w') : RaM w' h { a with sp := updF a.sp id (some (allocS s y black)) } ids := by
  have M2 := M.shr (ob' := a.ob) (live' := a.live) hs I c rfl rfl (fun z xs hz ho => by
    by_cases e : z = y
    · rw [e, hn] at ho; cases ho
    · have hz : setF s.F y z = true := hz
      unfold setF at hz
      simpa [e] using hz) (fun _ _ h => h)
  exact M2
/-- What Alloc tells. -/
def RalPost (h : RaH) (a : Ar) (ids : List Nat) (id n : Int) (black : Bool) (w : World) (e : Ending) (w' : World) : Prop :=
  (∃ c : Int, e = .returned (.tuple #[.int .i64 0, .int .i64 c]) ∧ RaM w' h a ids ∧ StR h a h a w w' ∧ ((spI a id = none ∧ c = 4) ∨ ∃ s, spI a id = some s ∧ (((n < 1 ∨ (szK s.k : Int) < n) ∧ c = 1) ∨ (1 ≤ n ∧ n ≤ szK s.k ∧ fullS s ∧ c = 3)))) ∨
  ∃ s y m, 0 ≤ id ∧ a.sp id.toNat = some s ∧ 1 ≤ n ∧ n ≤ szK s.k ∧ s.fr ≤ y ∧ y < slK s.k ∧ s.F y = false ∧ (∀ x, s.fr ≤ x → x < y → s.F x = true) ∧ e = .returned (.tuple #[.int .i64 (s.addr y : Nat), .int .i64 0]) ∧ m ≤ h.mw + 256 ∧ RaM w' { h with mw := m } (allocA a id.toNat s y n.toNat black) ids ∧ StR h a { h with mw := m } (allocA a id.toNat s y n.toNat black) w w'
/-- Behind the loop. -/
theorem RalK.done {w0 w1 w2 w w' : World} {h : RaH} {a : Ar} {ids : List Nat} {N id y n : Nat} {s : Sp} {black : Bool} (I : ArI N a) (hs : a.sp id = some s) (hy : y < slK s.k) (hF : s.F y = false) (hn : n ≤ szK s.k) (hk : s.k < 16)
    (c1 : Chg (h.B id).l w0 w1) (c2 : Chg [h.L id] w1 w2) {ls : List Int} (hl : ls.length = slK s.k) (hB : Blk w2 (h.L id) 3 (ls.map (Value.int .i64)).toArray) (hln : ls[y]? = some (n : Int))
    (K : RalK w2 h { a with sp := updF a.sp id (some (allocS s y black)) } ids (s.addr y) n w) (c : Chg [] w w') :
    ∃ m, m ≤ h.mw + n ∧ RaM w' { h with mw := m } (allocA a id s y n black) ids ∧ StR h a { h with mw := m } (allocA a id s y n black) w0 w' := by
  obtain ⟨m, f, hm, M, hW, hf, h0⟩ := K.ex
  have hs1 : ({ a with sp := updF a.sp id (some (allocS s y black)) } : Ar).sp id = some (allocS s y black) := updF_same _ _ _
  obtain ⟨ls0, q1, q2, q3⟩ := M.Ln id _ hs1
  have hBw : Blk w (h.L id) 3 (ls.map (Value.int .i64)).toArray := K.c.blk hB (fun hm' => by
    have e : h.L id = h.bw := by simpa using hm'
    exact hW.ne_blk q2 e.symm)
  have ne : ∀ id' t i, id' ≠ id → updF a.sp id (some (allocS s y black)) id' = some t → i < slK t.k → t.addr i ≠ (allocS s y black).addr y := fun id' t i hne ht hi e => by
    rw [updF_other _ _ hne] at ht
    exact hne (I.ok.other ht hs hi hy e)
  have hls : ls0 = ls := by
    have e := q2.inj hBw
    have e2 := congrArg Array.toList e
    simp only [List.toList_toArray] at e2
    exact (List.map_inj_right (fun x y e => by injection e)).1 e2
  subst hls
  have B := M.born (live' := a.live + szK s.k) hs1 hy hk hn ne hW hf h0 hl q2 q3 hln
  refine ⟨m, hm, B.chg0 c, ?_⟩
  refine StR.of_chg (S := h.bw :: h.L id :: (h.B id).l) ((((c1.mono ?_).trans (c2.mono ?_)).trans (K.c.mono ?_)).trans (c.mono (by simp))) ?_ ?_
  · intro k hk; left; simp [hk]
  · intro k hk; left; have e : k = h.L id := by simpa using hk
    simp [e]
  · intro k hk; left; have e : k = h.bw := by simpa using hk
    simp [e]
  · intro k hk
    simp only [List.mem_cons] at hk
    rcases hk with rfl | rfl | hk
    · exact .inl (.inr (.inr (.inr (.inr (.inr (.inr (.inl rfl)))))))
    · exact .inl (.inr (.inr (.inr (.inr (.inr (.inr (.inr ⟨id, s, hs, .inr rfl⟩)))))))
    · exact .inl (.inr (.inr (.inr (.inr (.inr (.inr (.inr ⟨id, s, hs, .inl hk⟩)))))))
  · intro k hk
    refine .inl (RaF.sp (m := m) (fun id' t ht => ?_) hk)
    have ht : updF a.sp id (some (allocS s y black)) id' = some t := ht
    by_cases e : id' = id
    · subst e; exact ⟨s, hs⟩
    · rw [updF_other _ _ e] at ht; exact ⟨t, ht⟩
end Go.Proofs.YtmafiagakoglkaaGreatDoor
