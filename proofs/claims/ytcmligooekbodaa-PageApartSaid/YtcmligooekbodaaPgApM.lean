/- PageApart: what the walk keeps; a copy of two pieces of a list. Plain theorems on worlds. -/
import Derived.Test.YtcmligooekbodaaPgOwnT
import Derived.Test.YtcmligooekbodaaPgRef2
namespace Go.Proofs.Ytcmligooekbodaa
open Go.RowKit

/-! A piece of a list of runs, to be copied. -/
structure SrcR (w : World) (u : Value) (l : List R) : Prop where
  ex : ∃ A c, u = .slice A l.length c
  at_ : ∀ A n c, u = .slice A n c → ∀ i r, l[i]? = some r → ∃ b off, A = some ⟨b, off, none⟩ ∧ w.cell? ⟨b, off + i * 2, none⟩ = some (.int .i64 r.f) ∧ w.cell? ⟨b, off + i * 2 + 1, none⟩ = some (.int .i64 r.p)
theorem rc_all {P : Nat → Value → Prop} {l : List R} (h : ∀ i r, l[i]? = some r → P (i * 2) (.int .i64 r.f) ∧ P (i * 2 + 1) (.int .i64 r.p)) : ∀ j u, (rc l)[j]? = some u → P j u := fun j u hu => by
  have hj := (List.getElem?_eq_some_iff.1 hu).1
  rw [rc_len] at hj
  obtain ⟨r, hr⟩ : ∃ r, l[j / 2]? = some r := ⟨_, List.getElem?_eq_getElem (by omega)⟩
  obtain ⟨h1, h2⟩ := rc_at hr []
  rw [List.append_nil] at h1 h2
  obtain ⟨p1, p2⟩ := h _ r hr
  rcases Nat.mod_two_eq_zero_or_one j with e | e
  · have e2 : j / 2 * 2 = j := by omega
    rw [e2] at h1 p1
    rw [hu] at h1; injection h1 with h1; rw [h1]; exact p1
  · have e2 : j / 2 * 2 + 1 = j := by omega
    rw [e2] at h2 p2
    rw [hu] at h2; injection h2 with h2; rw [h2]; exact p2
section
variable {w w' : World} {v u : Value} {l l2 : List R}
theorem run_cat_r (T : TypeId) (hT : Try.prog.underlying T = some (.slice 34)) (ty : TypeId) (h : OwnR w v l) (hu : SrcR w u l2) (hne : ∃ ad n c, u = .slice (some ad) n c) (hl : l.length + l2.length ≤ 1000000) :
    ∃ v' w', (Builtin.append_ #[T, T] ty #[v, u]).run Try.prog w = .ok v' w' ∧ OwnR w' v' (l ++ l2) ∧ Stp (fpv v) (fpv v') w w' := by
  obtain ⟨A, c, rfl⟩ := hu.ex
  obtain ⟨ad, n', c', e⟩ := hne
  injection e with e1 e2 e3
  subst e1
  have hA := hu.at_ _ _ _ rfl
  obtain ⟨i, hi, hz, hs, hb⟩ := info_parts info_run
  obtain ⟨v', w', hrun, h1, h2, h3, h4⟩ := run_append_own_at (P := Try.prog) w 0 T ty 34 i (.agg #[.int .i64 0, .int .i64 0]) 2 16 hT hi hz hs hb rfl (by decide) v l.length (rc l) h.o ad l2.length c (rc l2) (rc_len l2)
    (rc_all fun j r hr => by
      obtain ⟨b, off, e1, h1, h2⟩ := hA j r hr
      injection e1 with e1
      subst e1
      rw [WideShapes.add_plain, WideShapes.add_plain, ← Nat.add_assoc]
      exact ⟨h1, h2⟩)
    (rc_one l2) (by unfold maxLen; omega) (by omega) (Nat.zero_le _)
  refine ⟨v', w', hrun, ⟨by rw [List.length_append, rc_append]; exact h1⟩, ⟨(Chg.refl (fpv v) w).grown h2 fun k hk => .inl (mem_fpv.2 hk), fun k hk => ?_⟩⟩
  rcases h4 with h4 | h4
  · rw [mem_fpv, h4] at hk; exact .inl (mem_fpv.2 hk)
  · rw [mem_fpv, h4] at hk
    injection hk with hk
    exact .inr (by omega)
theorem step_cat_r {ops : Array Oper} {o : Oper} {a : Act} {K : Act → World → Prop} {Q : Exit → Act → World → Prop} {E' : Prop} {T : TypeId} (hgd : o.guard = none) (s x : Operand)
    (ho : o.op = .call { callee := .builtin .append, args := #[s, x], argTypes := #[T, T] }) (hT : Try.prog.underlying T = some (.slice 34)) (hs : a.eval s = v) (h : OwnR w v l) (hx : a.eval x = u) (hu : SrcR w u l2) (hne : ∃ ad n c, u = .slice (some ad) n c) (n : Nat) (hn : l.length + l2.length = n) (hl : n ≤ 1000000)
    (hK : ∀ A' c' w', OwnR w' (.slice A' n c') (l ++ l2) → Stp (fpv v) (fpv (.slice A' n c')) w w' → K (a.put o.dst (.slice A' n c')) w') :
    if Region.wanted o (yielded ops a.tmps) = true then Oper.wp Try.prog o a w K Q else E' := by
  subst hn
  have hw : Region.wanted o (yielded ops a.tmps) = true := by simp [Region.wanted, hgd]
  rw [if_pos hw]
  obtain ⟨v', w', hr, h2, h3⟩ := run_cat_r T hT o.type h hu hne hl
  obtain ⟨A', c', e⟩ := h2.slice
  rw [List.length_append] at e
  subst e
  unfold Oper.wp execOp
  simp only [ho, resolve, invoke, builtin, Sem.run_bind, Sem.run_pure, Result.andThen_ok, List.map_toArray, List.map_cons, List.map_nil, hs, hx, hr]
  exact hK A' c' w' h2 h3
theorem OwnR.emptyAt {g : Nat} (hg : g = w.heap.size) : OwnR (w.alloc (.cells #[] 34)) (.slice (some ⟨g, 0, none⟩) 0 0) [] := by
  subst hg
  exact ⟨⟨rfl, .inr ⟨w.heap.size, 0, _, rfl, Nat.zero_le _, heap_alloc_new w _, Nat.le_refl _, by decide, rfl, rfl⟩⟩⟩
theorem OwnR.drew (h : OwnR w v l) : OwnR w.drew v l := ⟨h.o⟩
theorem OwnTS.chg0 {g off n cap : Nat} {pre rest : List Value} (h : OwnTS w g off n cap pre l rest) (c : Chg [] w w') : OwnTS w' g off n cap pre l rest := ⟨c.blk h.b (by simp), h.p, h.c, h.n, h.le, h.m⟩
theorem OwnTS.take {g off n cap k c : Nat} {pre rest : List Value} (h : OwnTS w g off n cap pre l rest) (hk : k ≤ l.length) : SrcR w (.slice (some ⟨g, off, none⟩) k c) (l.take k) :=
  ⟨⟨_, c, by rw [List.length_take, Nat.min_eq_left hk]⟩, fun A n' c' e i r hr => by
    injection e with e1 e2 e3
    rw [List.getElem?_take] at hr
    split at hr
    · exact ⟨g, off, e1.symm, h.cell hr⟩
    · cases hr⟩
theorem OwnTS.drop {g off n cap k m c o2 : Nat} {pre rest : List Value} (h : OwnTS w g off n cap pre l rest) (hm : m = l.length - k) (ho : o2 = off + k * 2) : SrcR w (.slice (some ⟨g, o2, none⟩) m c) (l.drop k) :=
  ⟨⟨_, c, by rw [List.length_drop, hm]⟩, fun A n' c' e i r hr => by
    injection e with e1 e2 e3
    rw [List.getElem?_drop] at hr
    obtain ⟨h1, h2⟩ := h.cell hr
    refine ⟨g, o2, e1.symm, ?_, ?_⟩
    · rw [show o2 + i * 2 = off + (k + i) * 2 by omega]; exact h1
    · rw [show o2 + i * 2 + 1 = off + (k + i) * 2 + 1 by omega]; exact h2⟩
theorem SrcR.dropN {k m c : Nat} {A : Option Addr} (hm : m = l.length - k) (hk : l.length ≤ k) : SrcR w (.slice A m c) (l.drop k) := by
  rw [List.drop_eq_nil_of_le hk]
  exact ⟨⟨A, c, by rw [hm, Nat.sub_eq_zero_of_le hk]; rfl⟩, fun _ _ _ _ i x hx => by simp at hx⟩
theorem split_at {l : List R} {k : Nat} {r : R} (h : l[k]? = some r) : l = l.take k ++ r :: l.drop (k + 1) := by
  obtain ⟨h1, h2⟩ := List.getElem?_eq_some_iff.1 h
  rw [← h2, ← List.drop_eq_getElem_cons h1, List.take_append_drop]
theorem SrcR.none_ (w : World) (A : Option Addr) (c : Nat) : SrcR w (.slice A 0 c) [] := ⟨⟨A, c, rfl⟩, fun _ _ _ _ i x hx => by simp at hx⟩
end
/-! What the walk keeps. -/
structure ApM (w0 : World) (X : List Nat) (g : Nat) (v : Value) (l : List R) (A : Nat) (vg : Value) (got : List R) (H : Nat → Bool) (w : World) : Prop where
  P : PgI w0 (A :: (X ++ fpv vg)) w g 400 l v
  b : Blk w A 4 ((List.range 400).map fun i => Value.bool (H i)).toArray
  o : OwnT w vg got
  f2 : w0.heap.size ≤ A
  f3 : ∀ k ∈ fpv vg, w0.heap.size ≤ k
  fx : ∀ k ∈ X, w0.heap.size ≤ k
section
variable {w0 w w' : World} {X : List Nat} {g : Nat} {v : Value} {l : List R} {A : Nat} {vg : Value} {got : List R} {H : Nat → Bool}
theorem ApM.chg0 (h : ApM w0 X g v l A vg got H w) (k : Chg [] w w') : ApM w0 X g v l A vg got H w' := ⟨h.P.chg0 k, k.blk h.b (by simp), h.o.chg0 k, h.f2, h.f3, h.fx⟩
/-- Behind a call of the page. -/
theorem ApM.page {l' : List R} {v' : Value} (h : ApM w0 X g v l A vg got H w) (P' : PgI w0 (A :: (X ++ fpv vg)) w' g 400 l' v') (K : Keep (A :: (X ++ fpv vg)) w w') : ApM w0 X g v' l' A vg got H w' :=
  ⟨P', K.blk h.b (by simp), h.o.keep K (fun j hj => by simp [hj]), h.f2, h.f3, h.fx⟩
theorem ApM.set_ (h : ApM w0 X g v l A vg got H w) {i : Nat} (hi : i < 400) (b : Bool) {H' : Nat → Bool} (e : ∀ j, (if j = i then b else H j) = H' j) : ApM w0 X g v l A vg got H' (w.setCell ⟨A, i, none⟩ (.bool b)) := by
  have k : Chg [A] w (w.setCell ⟨A, i, none⟩ (.bool b)) := (Chg.refl _ w).setCell (.inl (by simp)) _
  have only : ∀ j, j ∈ [A] → j = A := fun j hj => by simpa using hj
  refine ⟨h.P.chgS k (fun j hj => by rw [only j hj]; simp) (fun j hj => by rw [only j hj]; exact h.f2), ?_, h.o.chg k (fun j hj hm => ?_), h.f2, h.f3, h.fx⟩
  · have := bools_set h.b hi b
    rwa [show (fun j => Value.bool (if j = i then b else H j)) = fun j => Value.bool (H' j) from funext fun j => by rw [e j]] at this
  · rw [only j hm] at hj
    exact h.o.ne_blk h.b (by decide) hj
/-- The list anew: in its old block, or in a new one. -/
theorem ApM.turn {vg' : Value} {got' : List R} (h : ApM w0 X g v l A vg got H w) (O' : OwnT w' vg' got') (S : Stp (fpv vg) (fpv vg') w w') (hX : ∀ k ∈ X, k < w.heap.size ∧ k ∉ fpv vg) : ApM w0 X g v l A vg' got' H w' := by
  have hS : ∀ k ∈ fpv vg, k ∈ A :: (X ++ fpv vg) := fun k hk => by simp [hk]
  have P1 := h.P.chgS S.c hS h.f3
  have hA : A ∉ fpv vg := h.o.ne_blk h.b (by decide)
  have hlt := h.P.lt
  have hn : ∀ k ∈ A :: (X ++ fpv vg'), k ∉ g :: fpv v := fun k hk hm => by
    have hold : k ∉ A :: (X ++ fpv vg) := (h.P.n k hm).2
    simp only [List.mem_cons, List.mem_append, not_or] at hold hk
    rcases hk with h1 | h1 | h1
    · exact hold.1 h1
    · exact hold.2.1 h1
    · rcases S.f k h1 with h2 | h2
      · exact hold.2.2 h2
      · have := hlt k hm; omega
  refine ⟨P1.swap hn (fun k hk => ?_), S.c.blk h.b hA, O', h.f2, fun k hk => ?_, h.fx⟩
  · simp only [List.mem_cons, List.mem_append] at hk
    rcases hk with h1 | h1 | h1
    · rw [h1]; exact Nat.lt_of_lt_of_le h.b.lt S.c.size
    · exact Nat.lt_of_lt_of_le (hX k h1).1 S.c.size
    · exact O'.lt h1
  · rcases S.f k hk with h1 | h1
    · exact h.f3 k h1
    · exact Nat.le_trans h.P.c.size h1
/-- A box of the walk. -/
theorem ApM.box (h : ApM w0 X g v l A vg got H w) (o : Obj) : ApM w0 (w.heap.size :: X) g v l A vg got H (w.alloc o) := by
  have k := (Chg.refl [] w).alloc o
  refine ⟨(h.P.alloc o).forget fun j hj => ?_, k.blk h.b (by simp), h.o.chg0 k, h.f2, h.f3, fun j hj => ?_⟩
  · simp only [List.mem_cons, List.mem_append] at hj ⊢
    rcases hj with h1 | (h1 | h1) | h1
    · exact .inr (.inl h1)
    · exact .inl h1
    · exact .inr (.inr (.inl h1))
    · exact .inr (.inr (.inr h1))
  · rcases List.mem_cons.1 hj with rfl | h1
    · exact h.P.c.size
    · exact h.fx j h1
theorem ApM.less {Y : List Nat} (h : ApM w0 X g v l A vg got H w) (hY : ∀ k ∈ Y, k ∈ X) : ApM w0 Y g v l A vg got H w :=
  ⟨h.P.forget fun j hj => by
    simp only [List.mem_cons, List.mem_append] at hj ⊢
    rcases hj with h1 | h1 | h1
    · exact .inl h1
    · exact .inr (.inl (hY j h1))
    · exact .inr (.inr h1), h.b, h.o, h.f2, h.f3, fun k hk => h.fx k (hY k hk)⟩
theorem rep_map (n : Nat) (v : Value) : List.replicate n v = (List.range n).map fun _ => v := by simp [List.map_const']
theorem zc_map (W : World) (A n : Nat) (h : Blk W A 4 (zcells (.bool false) n)) : Blk W A 4 ((List.range n).map fun i => Value.bool ((fun _ : Nat => false) i)).toArray := by rw [zcells_list, rep_map] at h; exact h
theorem ApM.start {w1 : World} (I : IsPg w1 g 400 v (newL 400)) (c1 : Chg [] w w1) (f1 : ∀ k ∈ g :: fpv v, w.heap.size ≤ k) :
    ApM w [] g v (newL 400) w1.heap.size (.slice none 0 0) [] (fun _ => false) (w1.alloc (.cells (zcells (.bool false) 400) 4)) := by
  have c2 := (Chg.refl [] w1).alloc (.cells (zcells (.bool false) 400) 4)
  have hlt : ∀ k ∈ g :: fpv v, k < w1.heap.size := fun k hk => by
    rcases List.mem_cons.1 hk with rfl | h
    · exact I.b.lt
    · exact own_lt I.o (mem_fpv.1 h)
  have e : ∀ k, k ∈ w1.heap.size :: ([] ++ fpv (.slice none 0 0)) → k = w1.heap.size := fun k hk => by simpa [fpv, Value.ownBlock] using hk
  refine ⟨⟨I.chg0 c2, c1.trans c2, fun k hk => ⟨f1 k hk, fun hm => ?_⟩, fun k hk => ?_⟩, ?_, OwnT.nil _, c1.size, by simp [fpv, Value.ownBlock], by simp⟩
  · have := hlt k hk; have := e k hm; omega
  · rw [e k hk, World.size_alloc]; omega
  · exact zc_map _ _ 400 (Blk.new w1 4 (zcells (.bool false) 400))
end
end Go.Proofs.Ytcmligooekbodaa
