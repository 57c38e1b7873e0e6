/- A family of lists of integers, each the call's own, apart from one another; goroutines whose stacks are such lists; a view that is being built of them. Plain theorems on worlds; no program in sight. -/
import Derived.Test.YtfkgooliglcjkaaVwBuild
import Derived.Test.YtfkgooliglcjkaaOwnI3
import Derived.Test.YtfkgooliglcjkaaVwFew
namespace Go.Proofs.Ytfkgooliglcjkaa
open Go.RowKit Go.Maps

structure Fam (w : World) (l : List (Value × List Int)) : Prop where
  own : ∀ (i : Nat) (p : Value × List Int), l[i]? = some p → OwnI 3 w p.1 p.2
  ap : ∀ (i j : Nat) (p q : Value × List Int), i ≠ j → l[i]? = some p → l[j]? = some q → ∀ k ∈ fpv p.1, k ∉ fpv q.1
theorem OwnI.blk_of {w : World} {v : Value} {xs : List Int} (h : OwnI 3 w v xs) {k : Nat} (hk : k ∈ fpv v) : ∃ cs, Blk w k 3 cs := by
  rcases h.o.2 with ⟨rfl, _⟩ | ⟨g, cap, cur, rfl, _, hg, _⟩
  · simp [fpv, Value.ownBlock] at hk
  · have e : k = g := by simpa [fpv, Value.ownBlock, eq_comm] using hk
    subst e; exact ⟨cur, hg⟩
theorem OwnI.keepT {w w' : World} {v : Value} {xs : List Int} {g : Nat} {t : TypeId} {cs : Array Value} (h : OwnI 3 w v xs) (c : Chg [g] w w') (hg : Blk w g t cs) (hne : 3 ≠ t) : OwnI 3 w' v xs :=
  h.chg c fun k hk hm => h.ne_blk hg hne (only1 hm ▸ hk)
section
variable {w w' : World} {l : List (Value × List Int)}
theorem Fam.chg0 (h : Fam w l) (c : Chg [] w w') : Fam w' l := ⟨fun i p hp => (h.own i p hp).chg0 c, h.ap⟩
theorem Fam.keepT {g : Nat} {t : TypeId} {cs : Array Value} (h : Fam w l) (c : Chg [g] w w') (hg : Blk w g t cs) (hne : 3 ≠ t) : Fam w' l := ⟨fun i p hp => (h.own i p hp).keepT c hg hne, h.ap⟩
theorem set_get {α : Type} {l : List α} {i j : Nat} {x y : α} (h : (l.set i x)[j]? = some y) : (j = i ∧ y = x) ∨ (j ≠ i ∧ l[j]? = some y) := by
  by_cases e : i = j
  · subst e
    have hl := (List.getElem?_eq_some_iff.1 h).1
    rw [List.length_set] at hl
    rw [List.getElem?_set_self hl] at h
    injection h with h
    exact .inl ⟨rfl, h.symm⟩
  · rw [List.getElem?_set_ne e] at h
    exact .inr ⟨fun e' => e e'.symm, h⟩
theorem Fam.push {i : Nat} {p : Value × List Int} {v' : Value} {xs' : List Int} (h : Fam w l) (hp : l[i]? = some p) (O : OwnI 3 w' v' xs') (S : Stp (fpv p.1) (fpv v') w w') : Fam w' (l.set i (v', xs')) := by
  have hfar : ∀ (j : Nat) (q : Value × List Int), j ≠ i → l[j]? = some q → ∀ k ∈ fpv v', k ∉ fpv q.1 := fun j q hj hq k hk hm => by
    rcases S.f k hk with h1 | h1
    · exact h.ap i j p q (fun e => hj e.symm) hp hq k h1 hm
    · have := (h.own j q hq).lt hm; omega
  refine ⟨fun j q hq => ?_, fun j k q r hjk hq hr => ?_⟩
  · rcases set_get hq with ⟨_, rfl⟩ | ⟨hj, hq'⟩
    · exact O
    · exact (h.own j q hq').chg S.c fun k hk hm => h.ap j i q p hj hq' hp k hk hm
  · rcases set_get hq with ⟨rfl, rfl⟩ | ⟨hj, hq'⟩
    · rcases set_get hr with ⟨rfl, rfl⟩ | ⟨hk, hr'⟩
      · exact absurd rfl hjk
      · exact hfar k r hk hr'
    · rcases set_get hr with ⟨rfl, rfl⟩ | ⟨hk, hr'⟩
      · intro m hm hm2; exact hfar j q hj hq' m hm2 hm
      · exact h.ap j k q r hjk hq' hr'
theorem Fam.snocNil (h : Fam w l) : Fam w (l ++ [(.slice none 0 0, [])]) := by
  have hg : ∀ (j : Nat) (q : Value × List Int), (l ++ [((.slice none 0 0 : Value), ([] : List Int))])[j]? = some q → l[j]? = some q ∨ q = (.slice none 0 0, []) := fun j q hq => by
    by_cases hj : j < l.length
    · rw [List.getElem?_append_left hj] at hq; exact .inl hq
    · have := List.mem_of_getElem? hq
      rcases List.mem_append.1 this with h1 | h1
      · rw [List.getElem?_append_right (by omega)] at hq
        have h2 := List.mem_of_getElem? hq
        exact .inr (by simpa using h2)
      · exact .inr (by simpa using h1)
  refine ⟨fun j q hq => ?_, fun j k q r hjk hq hr => ?_⟩
  · rcases hg j q hq with h1 | rfl
    · exact h.own j q h1
    · exact OwnI.nil _ _
  · rcases hg j q hq with h1 | rfl
    · rcases hg k r hr with h2 | rfl
      · exact h.ap j k q r hjk h1 h2
      · intro m _ hm; simp [fpv, Value.ownBlock] at hm
    · intro m hm; simp [fpv, Value.ownBlock] at hm
end
/-! Goroutines. -/
def gC (p : Value × Gr) : List Value := [.int .i64 p.2.state, .int .i64 p.2.p, p.1]
def gsC (F : List (Value × Gr)) : List Value := F.flatMap gC
theorem gsC_len : ∀ F : List (Value × Gr), (gsC F).length = F.length * 3
  | [] => rfl
  | p :: F => by have := gsC_len F; unfold gsC at this ⊢; simp only [List.flatMap_cons, List.length_append, List.length_cons, this]; simp [gC]; omega
theorem gsC_snoc (F : List (Value × Gr)) (p : Value × Gr) : gsC (F ++ [p]) = gsC F ++ gC p := by unfold gsC; simp
theorem gsC_get : ∀ {F : List (Value × Gr)} {i : Nat} {p : Value × Gr}, F[i]? = some p → (gsC F)[i * 3]? = some (.int .i64 p.2.state) ∧ (gsC F)[i * 3 + 1]? = some (.int .i64 p.2.p) ∧ (gsC F)[i * 3 + 2]? = some p.1
  | [], _, _, h => by simp at h
  | q :: F, 0, p, h => by
    have e : q = p := by simpa using h
    subst e; exact ⟨rfl, rfl, rfl⟩
  | q :: F, i + 1, p, h => by
    obtain ⟨h1, h2, h3⟩ := gsC_get (F := F) (i := i) (p := p) (by simpa using h)
    have e : gsC (q :: F) = gC q ++ gsC F := rfl
    have e0 : (i + 1) * 3 = i * 3 + 3 := by omega
    rw [e, e0]
    refine ⟨?_, ?_, ?_⟩
    · simpa [gC] using h1
    · rw [show i * 3 + 3 + 1 = (i * 3 + 1) + 3 by omega]; simpa [gC] using h2
    · rw [show i * 3 + 3 + 2 = (i * 3 + 2) + 3 by omega]; simpa [gC] using h3
theorem gsC_set0 (F : List (Value × Gr)) (s : Value) (g : Gr) (x : Int) : (gsC (F ++ [(s, g)])).set (F.length * 3) (.int .i64 x) = gsC (F ++ [(s, { g with state := x })]) := by
  rw [gsC_snoc, gsC_snoc, List.set_append_right _ _ (by rw [gsC_len]; omega), gsC_len, Nat.sub_self]; rfl
theorem gsC_set2 (F : List (Value × Gr)) (s : Value) (g : Gr) (s' : Value) (xs : List Int) : (gsC (F ++ [(s, g)])).set (F.length * 3 + 2) s' = gsC (F ++ [(s', { g with stack := xs })]) := by
  rw [gsC_snoc, gsC_snoc, List.set_append_right _ _ (by rw [gsC_len]; omega), gsC_len, show F.length * 3 + 2 - F.length * 3 = 2 by omega]; rfl
theorem info_gr : (Try.prog.info? 41).map (fun i => (i.zero, i.size, i.bytes)) = some (some (.agg #[.int .i64 0, .int .i64 0, .slice none 0 0]), 3, 40) := by kernel_rfl
/-- A view that is being built. -/
structure VrB (w0 : World) (gv gw : Nat) (cV cW : Array Value) (vGs : Value) (l : List (Value × List Int)) (F : List (Value × Gr)) (w : World) : Prop where
  b : Blk w gv 26 cV
  bw : Blk w gw 22 cW
  row : w.ownsRow 0 41 3 vGs F.length (gsC F)
  fam : Fam w l
  c : Chg [] w0 w
  fv : w0.heap.size ≤ gv
  fw : w0.heap.size ≤ gw
  fr : ∀ k ∈ fpv vGs, w0.heap.size ≤ k
  ff : ∀ (i : Nat) (p : Value × List Int), l[i]? = some p → ∀ k ∈ fpv p.1, w0.heap.size ≤ k
section
variable {w0 w w' : World} {gv gw : Nat} {cV cW : Array Value} {vGs : Value} {l : List (Value × List Int)} {F : List (Value × Gr)}
theorem VrB.chg0 (h : VrB w0 gv gw cV cW vGs l F w) (c : Chg [] w w') : VrB w0 gv gw cV cW vGs l F w' :=
  ⟨c.blk h.b (by simp), c.blk h.bw (by simp), own_chg h.row c (by simp), h.fam.chg0 c, h.c.trans c, h.fv, h.fw, h.fr, h.ff⟩
theorem VrB.up {i : Nat} {p : Value × List Int} {v' : Value} {xs' : List Int} (h : VrB w0 gv gw cV cW vGs l F w) (hp : l[i]? = some p) (O : OwnI 3 w' v' xs') (S : Stp (fpv p.1) (fpv v') w w') : VrB w0 gv gw cV cW vGs (l.set i (v', xs')) F w' := by
  have hI := h.fam.own i p hp
  refine ⟨S.c.blk h.b (hI.ne_blk h.b (by decide)), S.c.blk h.bw (hI.ne_blk h.bw (by decide)), own_chg h.row S.c (fun k hk hm => ?_), h.fam.push hp O S, h.c.new S.c (h.ff i p hp), h.fv, h.fw, h.fr, fun j q hq k hk => ?_⟩
  · obtain ⟨cs, hcs⟩ := hI.blk_of hm
    exact own_ne h.row hcs (by decide) hk
  · rcases set_get hq with ⟨_, rfl⟩ | ⟨hj, hq'⟩
    · rcases S.f k hk with h1 | h1
      · exact h.ff i p hp k h1
      · exact Nat.le_trans h.c.size h1
    · exact h.ff j q hq' k hk
theorem VrB.setV (h : VrB w0 gv gw cV cW vGs l F w) (i : Nat) (u : Value) {cV' : Array Value} (e : cV.setIfInBounds i u = cV') : VrB w0 gv gw cV' cW vGs l F (w.setCell ⟨gv, i, none⟩ u) := by
  have C : Chg [gv] w (w.setCell ⟨gv, i, none⟩ u) := (Chg.refl [gv] w).setCell (.inl (by simp)) u
  refine ⟨h.b.setv i u e, h.bw.far (h.bw.ne_ h.b (by decide)) u, own_chg h.row C (fun k hk hm => ?_), h.fam.keepT C h.b (by decide), h.c.setCell (.inr h.fv) u, h.fv, h.fw, h.fr, h.ff⟩
  have := only1 hm
  subst this; exact own_ne h.row h.b (by decide) hk
theorem VrB.setW (h : VrB w0 gv gw cV cW vGs l F w) (i : Nat) (u : Value) {cW' : Array Value} (e : cW.setIfInBounds i u = cW') : VrB w0 gv gw cV cW' vGs l F (w.setCell ⟨gw, i, none⟩ u) := by
  have C : Chg [gw] w (w.setCell ⟨gw, i, none⟩ u) := (Chg.refl [gw] w).setCell (.inl (by simp)) u
  refine ⟨h.b.far (h.b.ne_ h.bw (by decide)) u, h.bw.setv i u e, own_chg h.row C (fun k hk hm => ?_), h.fam.keepT C h.bw (by decide), h.c.setCell (.inr h.fw) u, h.fv, h.fw, h.fr, h.ff⟩
  have := only1 hm
  subst this; exact own_ne h.row h.bw (by decide) hk
/-- A store into the row of goroutines. -/
theorem VrB.setG {gG n cG m : Nat} {u : Value} {F' : List (Value × Gr)} (h : VrB w0 gv gw cV cW (.slice (some ⟨gG, 0, none⟩) n cG) l F w) (hm : m < F.length * 3) (e : (gsC F).set m u = gsC F') (hl : F'.length = F.length) : VrB w0 gv gw cV cW (.slice (some ⟨gG, 0, none⟩) n cG) l F' (w.setCell ⟨gG, m, none⟩ u) := by
  have C : Chg [gG] w (w.setCell ⟨gG, m, none⟩ u) := (Chg.refl [gG] w).setCell (.inl (by simp)) u
  obtain ⟨g, cap, rest, ev, hb, hr, hc, hmx, hx⟩ := own_open h.row (by omega)
  injection ev with e1 e2 e3
  injection e1 with e1
  injection e1 with e1
  subst e1 e2 e3
  have hge : w0.heap.size ≤ gG := h.fr gG (by simp [fpv, Value.ownBlock])
  have hb' := hb.set_ m u
  have es : ((gsC F ++ rest).toArray.setIfInBounds m u) = (gsC F' ++ rest).toArray := by
    rw [List.setIfInBounds_toArray, List.set_append_left _ _ (by rw [gsC_len]; omega), e]
  rw [es] at hb'
  refine ⟨h.b.far (h.b.ne_ hb (by decide)) u, h.bw.far (h.bw.ne_ hb (by decide)) u, ?_, h.fam.keepT C hb (by decide), h.c.setCell (.inr hge) u, h.fv, h.fw, h.fr, h.ff⟩
  rw [hl]
  have hx' : (gsC F').length = (gsC F).length := by rw [gsC_len, gsC_len, hl]
  exact own_mk hb' (by rw [hx']; exact hr) hc hmx (by rw [hx']; exact hx)
theorem VrB.gcell {gG n cG i : Nat} {p : Value × Gr} (h : VrB w0 gv gw cV cW (.slice (some ⟨gG, 0, none⟩) n cG) l F w) (hp : F[i]? = some p) :
    w.cell? ⟨gG, i * 3, none⟩ = some (.int .i64 p.2.state) ∧ w.cell? ⟨gG, i * 3 + 2, none⟩ = some p.1 ∧ w.frozen? ⟨gG, i * 3, none⟩ = false ∧ w.frozen? ⟨gG, i * 3 + 2, none⟩ = false ∧ gG < w.heap.size := by
  have hil := (List.getElem?_eq_some_iff.1 hp).1
  obtain ⟨g, cap, rest, ev, hb, _⟩ := own_open h.row (by omega)
  injection ev with e1 e2 e3
  injection e1 with e1
  injection e1 with e1
  subst e1
  obtain ⟨h1, h2, h3⟩ := gsC_get hp
  have hl := gsC_len F
  refine ⟨?_, ?_, hb.frozen _, hb.frozen _, hb.lt⟩
  · rw [hb.cell, List.getElem?_toArray, List.getElem?_append_left (by omega)]; exact h1
  · rw [hb.cell, List.getElem?_toArray, List.getElem?_append_left (by omega)]; exact h3
theorem VrB.gsl (h : VrB w0 gv gw cV cW vGs l F w) : (∃ c, vGs = .slice none 0 c ∧ F = []) ∨ ∃ gG c, vGs = .slice (some ⟨gG, 0, none⟩) F.length c := by
  rcases h.row.2 with ⟨rfl, h0⟩ | ⟨g, cap, cur, rfl, _⟩
  · exact .inl ⟨0, rfl, List.eq_nil_of_length_eq_zero h0⟩
  · exact .inr ⟨g, cap, rfl⟩
/-- One more goroutine, with no stack yet. -/
theorem VrB.run_push (h : VrB w0 gv gw cV cW vGs l F w) (ty : TypeId) (hl : F.length ≤ 1000000) :
    ∃ v' w', (Builtin.append_ #[23, 23] ty #[vGs, .slice (some ⟨w.heap.size, 0, none⟩) 1 1]).run Try.prog (w.alloc (.cells #[.int .i64 1, .int .i64 (-1), .slice none 0 0] 41)) = .ok v' w' ∧ VrB w0 gv gw cV cW v' (l ++ [(.slice none 0 0, [])]) (F ++ [(.slice none 0 0, ⟨1, -1, []⟩)]) w' := by
  obtain ⟨i, hi, hz, hsz, hb⟩ := info_parts info_gr
  obtain ⟨v', w', hrun, h1, h2, h3, h4⟩ := run_append_own_at (P := Try.prog) (w.alloc (.cells #[.int .i64 1, .int .i64 (-1), .slice none 0 0] 41)) 0 23 ty 41 i (.agg #[.int .i64 0, .int .i64 0, .slice none 0 0]) 3 40 Try.underlying23 hi hz hsz hb rfl (by decide) vGs F.length (gsC F) (h.row.alloc _) ⟨w.heap.size, 0, none⟩ 1 1 (gC (.slice none 0 0, ⟨1, -1, []⟩)) rfl
    (fun j u hu => by rw [WideShapes.add_plain, Nat.zero_add, (Blk.new w 41 #[.int .i64 1, .int .i64 (-1), .slice none 0 0]).cell]; simpa [gC] using hu)
    (by intro u hu; simp [gC] at hu; rcases hu with rfl | rfl | rfl <;> rfl) (by unfold maxLen; omega) (by omega) (Nat.zero_le _)
  have hS : Stp (fpv vGs) (fpv v') w w' := ⟨((Chg.refl (fpv vGs) w).alloc _).grown h2 fun k hk => .inl (mem_fpv.2 hk), fun k hk => by
    rcases h4 with h4 | h4
    · rw [mem_fpv, h4] at hk; exact .inl (mem_fpv.2 hk)
    · rw [mem_fpv, h4] at hk
      injection hk with hk
      rw [World.size_alloc] at hk
      exact .inr (by omega)⟩
  have nb : ∀ {k : Nat} {t : TypeId} {cs : Array Value}, Blk w k t cs → 41 ≠ t → k ∉ fpv vGs := fun hb' hne hm => own_ne h.row hb' hne (mem_fpv.1 hm)
  refine ⟨v', w', hrun, hS.c.blk h.b (nb h.b (by decide)), hS.c.blk h.bw (nb h.bw (by decide)), ?_, Fam.snocNil (l := l) ⟨fun j p hp => (h.fam.own j p hp).chg hS.c (fun k hk hm => ?_), h.fam.ap⟩, h.c.new hS.c h.fr, h.fv, h.fw, fun k hk => ?_, fun j q hq k hk => ?_⟩
  · rw [gsC_snoc, List.length_append]; exact h1
  · obtain ⟨cs, hcs⟩ := (h.fam.own j p hp).blk_of hk
    exact nb hcs (by decide) hm
  · rcases hS.f k hk with h5 | h5
    · exact h.fr k h5
    · exact Nat.le_trans h.c.size h5
  · by_cases hj : j < l.length
    · rw [List.getElem?_append_left hj] at hq; exact h.ff j q hq k hk
    · rw [List.getElem?_append_right (by omega)] at hq
      have h2 := List.mem_of_getElem? hq
      have h3 : q = (.slice none 0 0, []) := by simpa using h2
      subst h3; simp [fpv, Value.ownBlock] at hk
end
theorem wpList_push_gr {w0 w : World} {gv gw : Nat} {cV cW : Array Value} {vGs : Value} {l : List (Value × List Int)} {F : List (Value × Gr)} {ops : Array Oper} {rest : List Oper} {op : Oper} {a : Act} {Q : Exit → Act → World → Prop} (hgd : op.guard = none) (s x : Operand)
    (hop : op.op = .call { callee := .builtin .append, args := #[s, x], argTypes := #[23, 23] }) (hs : a.eval s = vGs) (h : VrB w0 gv gw cV cW vGs l F w) (hx : a.eval x = .slice (some ⟨w.heap.size, 0, none⟩) 1 1) (hl : F.length ≤ 1000000)
    (hK : ∀ g' c' w', VrB w0 gv gw cV cW (.slice (some ⟨g', 0, none⟩) (F.length + 1) c') (l ++ [(.slice none 0 0, [])]) (F ++ [(.slice none 0 0, ⟨1, -1, []⟩)]) w' → wpList Try.prog ops Q rest (a.put op.dst (.slice (some ⟨g', 0, none⟩) (F.length + 1) c')) w') : wpList Try.prog ops Q (op :: rest) a (w.alloc (.cells #[.int .i64 1, .int .i64 (-1), .slice none 0 0] 41)) := by
  obtain ⟨v', w', hr, h2⟩ := h.run_push op.type hl
  rcases h2.gsl with ⟨c, _, e⟩ | ⟨g', c', e⟩
  · simp at e
  · rw [List.length_append, List.length_singleton] at e
    subst e
    refine wpList_plain hgd fun K' hK' => ?_
    unfold Oper.wp execOp
    simp only [hop, resolve, invoke, builtin, Sem.run_bind, Sem.run_pure, Result.andThen_ok, List.map_toArray, List.map_cons, List.map_nil, hs, hx, hr]
    exact hK' _ _ (hK g' c' w' h2)
/-! What such a view says. -/
def gsOf (F : List (Value × Gr)) : List Gr := F.map (·.2)
def vrVw (G : List Int) (F : List (Value × Gr)) : Vw := ⟨0, 0, 0, G, gsOf F, [], 0, 0, 0⟩
def vrC (vG vGs : Value) : Array Value := #[.int .i64 0, .int .i64 0, .int .i64 0, vG, vGs, .slice none 0 0, .int .i64 0, .int .i64 0, .int .i64 0]
def famL (vG : Value) (G : List Int) (vW : Value) (W : List Int) (F : List (Value × Gr)) : List (Value × List Int) := (vG, G) :: (vW, W) :: F.map fun p => (p.1, p.2.stack)
theorem famL_snoc (vG : Value) (G : List Int) (vW : Value) (W : List Int) (F : List (Value × Gr)) (p : Value × Gr) : famL vG G vW W (F ++ [p]) = famL vG G vW W F ++ [(p.1, p.2.stack)] := by simp [famL]
theorem famL_get (vG : Value) (G : List Int) (vW : Value) (W : List Int) (F : List (Value × Gr)) (p : Value × Gr) : (famL vG G vW W (F ++ [p]))[F.length + 2]? = some (p.1, p.2.stack) := by simp [famL]
theorem famL_set (vG : Value) (G : List Int) (vW : Value) (W : List Int) (F : List (Value × Gr)) (p q : Value × Gr) : (famL vG G vW W (F ++ [p])).set (F.length + 2) (q.1, q.2.stack) = famL vG G vW W (F ++ [q]) := by
  rw [famL_snoc, famL_snoc, List.set_append_right _ _ (by simp [famL])]; simp [famL]
theorem said_put (G : List Int) (F : List (Value × Gr)) (s s' : Value) (g : Gr) (x : Int) : (vrVw G (F ++ [(s', { g with stack := g.stack ++ [x] })])).said = (vrVw G (F ++ [(s, g)])).said ++ if g.state = 5 then [] else [x] := by
  unfold Vw.said vrVw gsOf
  simp only [List.map_append, List.map_cons, List.map_nil, List.filter_append, List.flatMap_append, List.append_assoc]
  by_cases e : g.state = 5 <;> simp [e]
theorem said_new (G : List Int) (F : List (Value × Gr)) (s : Value) (x : Int) : (vrVw G (F ++ [(s, ⟨x, -1, []⟩)])).said = (vrVw G F).said := by
  unfold Vw.said vrVw gsOf
  simp only [List.map_append, List.map_cons, List.map_nil, List.filter_append, List.flatMap_append]
  by_cases e : x = 5 <;> simp [e]
theorem vr_at (G : List Int) (F : List (Value × Gr)) (x : Int) : (vrVw G F).at_ x = none := by simp [vrVw, Vw.at_]
theorem vr_reach {G : List Int} {F : List (Value × Gr)} {l : List Int} (h : IsRch (vrVw G F) l) : l = [] := by
  cases l with
  | nil => rfl
  | cons x t => have := ((h.m x).1 (List.mem_cons_self ..)).2; rw [vr_at] at this; cases this
theorem vr_lost {G : List Int} {F : List (Value × Gr)} {l : List Int} (h : IsLost (vrVw G F) l) : l.length = (vrVw G F).rootsL.length := by
  have h1 : ∀ x, x ∈ l ↔ x ∈ (vrVw G F).rootsL := fun x => by
    rw [h.m, mem_rootsL]
    constructor
    · rintro ⟨h1, _⟩
      cases h1 with
      | root a b => exact ⟨a, b⟩
      | step _ a _ _ _ => rw [vr_at] at a; cases a
    · rintro ⟨a, b⟩; exact ⟨.root a b, by rw [vr_at]; rfl⟩
  have n1 : l.Nodup := h.s.imp fun h => by omega
  have n2 : (vrVw G F).rootsL.Nodup := nodup_foldOnce _ _ List.nodup_nil
  exact Nat.le_antisymm (nodup_le n1 fun x hx => (h1 x).1 hx) (nodup_le n2 fun x hx => (h1 x).2 hx)
/-- Small numbers all over. -/
structure VrN (G : List Int) (F : List (Value × Gr)) (n : Nat) : Prop where
  g : ∀ x ∈ G, 0 ≤ x ∧ x < 10
  f : ∀ p ∈ F, (∀ x ∈ p.2.stack, 0 ≤ x ∧ x < 10) ∧ p.2.stack.length ≤ n ∧ (0 ≤ p.2.state ∧ p.2.state ≤ 5) ∧ p.2.p = -1
theorem VrN.mono {G : List Int} {F : List (Value × Gr)} {n m : Nat} (h : VrN G F n) (hm : n ≤ m) : VrN G F m := ⟨h.g, fun p hp => ⟨(h.f p hp).1, by have := (h.f p hp).2.1; omega, (h.f p hp).2.2⟩⟩
theorem VrN.few {G : List Int} {F : List (Value × Gr)} (h : VrN G F 80) (hG : G.length ≤ 10) (hF : F.length ≤ 40) : Small (vrVw G F) := by
  refine ⟨?_, by simp [vrVw, gsOf]; omega, by simp [vrVw]⟩
  have h1 : (((gsOf F).filter fun g => g.state != 5).flatMap (·.stack)).length ≤ ((gsOf F).filter fun g => g.state != 5).length * 80 := flat_le (fun g : Gr => g.stack) 80 fun x hx => by
    obtain ⟨p, hp, rfl⟩ := List.mem_map.1 (List.mem_filter.1 hx).1
    exact (h.f p hp).2.1
  have h2 := List.length_filter_le (fun g : Gr => g.state != 5) (gsOf F)
  have h3 : (gsOf F).length = F.length := by simp [gsOf]
  have h4 : ((gsOf F).filter fun g => g.state != 5).length * 80 ≤ 40 * 80 := Nat.mul_le_mul_right _ (by omega)
  unfold Vw.names Vw.said vrVw
  simp only [List.length_append, List.flatMap_nil, List.length_nil]
  omega
section
variable {w0 w : World} {gv gw : Nat} {vG vGs vW : Value} {G W : List Int} {F : List (Value × Gr)}
theorem VrB.vw (h : VrB w0 gv gw (vrC vG vGs) #[vW] vGs (famL vG G vW W F) F w) (hn : VrN G F 80) (hG : G.length ≤ 10) (hF : F.length ≤ 40) : VwAt w w.heap.size (.agg (vrC vG vGs)) (vrVw G F) := by
  have hz : WfI 0 := ⟨by decide, by decide⟩
  have hmx : (1000000 : Nat) ≤ maxLen := by decide
  have wf : ∀ x : Int, 0 ≤ x ∧ x < 10 → WfI x := fun x hx => ⟨by omega, by omega⟩
  have gl : (gsOf F).length = F.length := by simp [gsOf]
  have hs : ∃ A c, vGs = .slice A (gsOf F).length c ∧ GrsAt w w.heap.size A (gsOf F) := by
    rcases h.gsl with ⟨c, rfl, rfl⟩ | ⟨g, c, rfl⟩
    · exact ⟨none, c, rfl, ⟨fun i g hg => by simp [gsOf] at hg⟩⟩
    · refine ⟨some ⟨g, 0, none⟩, c, by rw [gl], ⟨fun i gr hg => ?_⟩⟩
      unfold gsOf at hg
      rw [List.getElem?_map] at hg
      cases e : F[i]? with
      | none => rw [e] at hg; cases hg
      | some p =>
        rw [e] at hg
        have e2 : p.2 = gr := by simpa using hg
        subst e2
        have hil := (List.getElem?_eq_some_iff.1 e).1
        obtain ⟨g', cap, rest, ev, hb, _⟩ := own_open h.row (by omega)
        injection ev with e1 _ _
        injection e1 with e1
        injection e1 with e1
        subst e1
        obtain ⟨h1, h2, h3⟩ := gsC_get e
        have hl := gsC_len F
        have hp := List.mem_of_getElem? e
        obtain ⟨n1, n2, n3, n4⟩ := hn.f p hp
        have hf : (famL vG G vW W F)[i + 2]? = some (p.1, p.2.stack) := by simp [famL, e]
        have hcell : ∀ j u, j < (gsC F).length → (gsC F)[j]? = some u → w.cell? ⟨g, 0 + j, none⟩ = some u := fun j u hj hu => by
          rw [Nat.zero_add, hb.cell, List.getElem?_toArray, List.getElem?_append_left hj]; exact hu
        exact ⟨g, 0, p.1, rfl, hb.lt, hcell _ _ (by omega) h1, hcell _ _ (by omega) h2, hcell _ _ (by omega) h3, (h.fam.own _ _ hf).sl (fun x hx => wf x (n1 x hx)) (by show p.2.stack.length ≤ maxLen; omega), ⟨by omega, by omega⟩, ⟨by omega, by omega⟩⟩
  obtain ⟨A, c, e, hg⟩ := hs
  have h0 : (famL vG G vW W F)[0]? = some (vG, G) := rfl
  refine ⟨⟨vG, A, c, none, 0, ?_, (h.fam.own _ _ h0).sl (fun x hx => wf x (hn.g x hx)) (by show G.length ≤ maxLen; omega), hg, ⟨fun i o ho => by simp [vrVw] at ho⟩, by show (gsOf F).length ≤ maxLen; omega, by simp [vrVw]⟩, hz, hz, hz, hz, hz, hz⟩
  rw [e]; rfl
end
end Go.Proofs.Ytfkgooliglcjkaa
