/- Package central: how its rows lie in memory; side, has, last. -/
import Derived.Test.YtmafiagakoglkaaGreatDoorLs
namespace Go.Proofs.YtmafiagakoglkaaGreatDoor
open Go.RowKit Go.Maps

def ceC (v : Nat → Value) : Array Value := ((List.range 64).map v).toArray
theorem ceC_size (v : Nat → Value) : (ceC v).size = 64 := by unfold ceC; simp
theorem ceC_at (v : Nat → Value) {j : Nat} (h : j < 64) : (ceC v)[j]? = some (v j) := by unfold ceC; simp [h]
def updV {α : Type} (f : Nat → α) (j : Nat) (x : α) : Nat → α := fun i => if i = j then x else f i
theorem updV_same {α : Type} (f : Nat → α) (j : Nat) (x : α) : updV f j x j = x := if_pos rfl
theorem updV_other {α : Type} (f : Nat → α) {i j : Nat} (x : α) (h : i ≠ j) : updV f j x i = f i := if_neg h
theorem ceC_set (v : Nat → Value) {j : Nat} (h : j < 64) (x : Value) : (ceC v).setIfInBounds j x = ceC (updV v j x) := by
  apply Array.ext_getElem?
  intro i
  rw [Array.getElem?_setIfInBounds]
  by_cases e : j = i
  · subst e
    rw [if_pos rfl, if_pos (by rw [ceC_size]; exact h), ceC_at _ h, updV_same]
  · rw [if_neg e]
    by_cases hi : i < 64
    · rw [ceC_at _ hi, ceC_at _ hi, updV_other _ _ (Ne.symm e)]
    · rw [Array.getElem?_eq_none (by rw [ceC_size]; omega), Array.getElem?_eq_none (by rw [ceC_size]; omega)]
/-- The rows of central: 64 lists of the call's own, apart from one another. -/
structure IsCe (w : World) (gc gl : Nat) (v : Nat → Value) (r : Nat → List Nat) : Prop where
  b : Blk w gc 117 #[.slice (some ⟨gl, 0, none⟩) 16 16]
  l : Blk w gl 123 (ceC v)
  o : ∀ j, j < 64 → OwnI 3 w (v j) (intsN (r j))
  d : ∀ i j, i < 64 → j < 64 → i ≠ j → ∀ k ∈ fpv (v i), k ∉ fpv (v j)
/-- Its blocks. -/
def CeF (gc gl : Nat) (v : Nat → Value) (k : Nat) : Prop := k = gc ∨ k = gl ∨ ∃ j, j < 64 ∧ k ∈ fpv (v j)
section
variable {w w' : World} {gc gl : Nat} {v : Nat → Value} {r : Nat → List Nat}
theorem IsCe.chg {S : List Nat} (I : IsCe w gc gl v r) (c : Chg S w w') (hn : ∀ k, CeF gc gl v k → k ∉ S) : IsCe w' gc gl v r :=
  ⟨c.blk I.b (hn _ (.inl rfl)), c.blk I.l (hn _ (.inr (.inl rfl))), fun j hj => (I.o j hj).chg c (fun k hk => hn k (.inr (.inr ⟨j, hj, hk⟩))), I.d⟩
theorem IsCe.chg0 (I : IsCe w gc gl v r) (c : Chg [] w w') : IsCe w' gc gl v r := I.chg c (by simp)
theorem IsCe.cell (I : IsCe w gc gl v r) {j : Nat} (hj : j < 64) : w.cell? ⟨gl, j, none⟩ = some (v j) := I.l.cellv j (ceC_at v hj)
theorem IsCe.ne_gl (I : IsCe w gc gl v r) {j : Nat} (hj : j < 64) : gl ∉ fpv (v j) := fun hm => own_ne (I.o j hj).o I.l (by decide) (mem_fpv.1 hm)
theorem IsCe.ne_gc (I : IsCe w gc gl v r) {j : Nat} (hj : j < 64) : gc ∉ fpv (v j) := fun hm => own_ne (I.o j hj).o I.b (by decide) (mem_fpv.1 hm)
theorem IsCe.ne (I : IsCe w gc gl v r) : gc ≠ gl := I.b.ne_ I.l (by decide)
theorem IsCe.lt (I : IsCe w gc gl v r) {k : Nat} (hk : CeF gc gl v k) : k < w.heap.size := by
  rcases hk with rfl | rfl | ⟨j, hj, hk⟩
  · exact I.b.lt
  · exact I.l.lt
  · exact (I.o j hj).lt hk
/-- One row told anew: a list made out of it, or a new one, then stored in its place. -/
theorem IsCe.set (I : IsCe w gc gl v r) {j : Nat} (hj : j < 64) {u : Value} {xs : List Nat} (s : Stp (fpv (v j)) (fpv u) w w') (O : OwnI 3 w' u (intsN xs)) :
    IsCe (w'.setCell ⟨gl, j, none⟩ u) gc gl (updV v j u) (updV r j xs) := by
  have hgl : gl ∉ fpv (v j) := I.ne_gl hj
  have B1 : Blk w' gl 123 (ceC v) := s.c.blk I.l hgl
  have B2 := B1.set_ j u
  rw [ceC_set v hj] at B2
  have C2 : Chg [gl] w' (w'.setCell ⟨gl, j, none⟩ u) := (Chg.refl [gl] w').setCell (.inl (by simp)) u
  have far : ∀ {k}, k ∈ fpv u → k ≠ gl := fun {k} hk e => by
    rcases s.f k hk with h1 | h1
    · rw [e] at h1; exact hgl h1
    · have := I.l.lt; omega
  refine ⟨C2.blk (s.c.blk I.b (I.ne_gc hj)) (by simp [I.ne]), B2, fun i hi => ?_, fun i i' hi hi' hne k hk hk' => ?_⟩
  · by_cases e : i = j
    · subst e
      rw [updV_same, updV_same]
      exact O.chg C2 (fun k hk hm => far hk (by simpa using hm))
    · rw [updV_other _ _ e, updV_other _ _ e]
      exact ((I.o i hi).chg s.c (fun k hk => I.d i j hi hj e k hk)).chg C2 (fun k hk hm => I.ne_gl hi (by have : k = gl := (by simpa using hm); rw [← this]; exact hk))
  · by_cases e : i = j
    · subst e
      rw [updV_same] at hk
      rw [updV_other _ _ (Ne.symm hne)] at hk'
      rcases s.f k hk with h1 | h1
      · exact I.d i i' hi hi' hne k h1 hk'
      · have := (I.o i' hi').lt hk'; omega
    · rw [updV_other _ _ e] at hk
      by_cases e' : i' = j
      · subst e'
        rw [updV_same] at hk'
        rcases s.f k hk' with h1 | h1
        · exact I.d i i' hi hi' hne k hk h1
        · have := (I.o i hi).lt hk; omega
      · rw [updV_other _ _ e'] at hk'
        exact I.d i i' hi hi' hne k hk hk'
end
set_option maxHeartbeats 400000 in
theorem side_ok (w : World) (b : Bool) : Calls Tryz.prog 93 #[.bool b] w (QuPost (.int .i64 (if b then 1 else 0)) w) := by
  cases b
  all_goals
    go_enter Tryz.func93, Tryz.ntmps93
    go_wp2_with fail
    go_ret
    exact ⟨rfl, rfl⟩
set_option maxHeartbeats 800000 in
theorem has_k (w : World) (gc gl : Nat) (v : Nat → Value) (r : Nat → List Nat) (I : IsCe w gc gl v r) (k : Nat) (hk : k < 16) : Calls Tryz.prog 92 #[.pointer (some ⟨gc, 0, none⟩), .int .i64 (k : Nat)] w (QuPost (.bool true) w) := by
  have b0 : w.cell? ⟨gc, 0, none⟩ = some (.slice (some ⟨gl, 0, none⟩) 16 16) := I.b.cellv 0 rfl
  have h0 : (0 : Int) ≤ (k : Int) := by omega
  have h1 : (k : Int) < 16 := by omega
  clear I
  go_enter Tryz.func92, Tryz.ntmps92
  go_wp2_with fail
  go_ret
  exact ⟨rfl, rfl⟩
set_option maxHeartbeats 800000 in
theorem last_nil (w : World) (p : Addr) (v : Value) (hc : w.cell? p = some v) (O : OwnI 3 w v []) : Calls Tryz.prog 140 #[.pointer (some p)] w (QuPost (.tuple #[.int .i64 0, .bool false]) w) := by
  obtain ⟨A, c, rfl⟩ : ∃ A c, v = .slice A 0 c := O.slice
  clear O
  go_enter Tryz.func140, Tryz.ntmps140
  go_wp2_with fail
  go_ret2
  exact ⟨rfl, rfl⟩
theorem OwnI.pop {E : TypeId} {w : World} {g n c : Nat} {xs : List Int} {x : Int} (h : OwnI E w (.slice (some ⟨g, 0, none⟩) (n + 1) c) (xs ++ [x])) (hn : n = xs.length) : OwnI E w (.slice (some ⟨g, 0, none⟩) n c) xs := by
  subst hn
  rcases h.o.2 with ⟨e, _⟩ | ⟨g', cap, cur, e, hb0, hg, hc, hm, hs, ht⟩
  · simp at e
  · injection e with e1 e2 e3
    injection e1 with e1
    injection e1 with e1
    subst e1 e3
    refine ⟨⟨by simp, .inr ⟨g, c, cur, rfl, hb0, hg, by simp at hc; omega, hm, hs, ?_⟩⟩⟩
    have h2 := congrArg (List.take xs.length) ht
    rw [List.take_take] at h2
    simp at h2
    have h3 : min xs.length (xs.length + 1) = xs.length := by omega
    simpa [h3] using h2
def LsPost (p : Addr) (x : Int) (xs : List Int) (v : Value) (w : World) (e : Ending) (w' : World) : Prop :=
  ∃ u, e = .returned (.tuple #[.int .i64 x, .bool true]) ∧ w' = w.setCell p u ∧ OwnI 3 w u xs ∧ fpv u = fpv v
set_option maxHeartbeats 1600000 in
set_option maxRecDepth 100000 in
theorem last_some (w : World) (p : Addr) (v : Value) (xs : List Int) (x : Int) (hc : w.cell? p = some v) (hf : w.frozen? p = false) (O : OwnI 3 w v (xs ++ [x])) (hl : xs.length ≤ 1000000) : Calls Tryz.prog 140 #[.pointer (some p)] w (LsPost p x xs v w) := by
  obtain ⟨A, c, rfl⟩ := O.slice
  have hx : (xs ++ [x])[xs.length]? = some x := by rw [List.getElem?_append_right (Nat.le_refl _)]; simp
  obtain ⟨g, rfl, c1, -, -⟩ := O.cell hx
  have hcap := O.cap
  have hn : (xs ++ [x]).length = xs.length + 1 := by simp
  rw [hn] at hc hcap O ⊢
  obtain ⟨n, hm⟩ : ∃ n, n = xs.length := ⟨_, rfl⟩
  rw [← hm] at c1 hl hc hcap O ⊢
  have d0 : ¬ (n : Int) + 1 = 0 := by omega
  have d1 : (((n : Int) + 1) == 0) = false := by rw [beq_eq_false_iff_ne]; omega
  have d2 : (0 : Int) ≤ (n : Int) := by omega
  have d3 : (n : Int) < (n : Int) + 1 := by omega
  have d4 : (n : Int) ≤ (c : Int) := by omega
  have HO := Lib.hid (And.intro O (And.intro hm hcap)); clear O hm hx hn
  go_enter Tryz.func140, Tryz.ntmps140
  go_wp2_with fail
  go_ret2
  exact ⟨.slice (some ⟨g, 0, none⟩) n c, rfl, rfl, HO.out.1.pop HO.out.2.1, rfl⟩
end Go.Proofs.YtmafiagakoglkaaGreatDoor
