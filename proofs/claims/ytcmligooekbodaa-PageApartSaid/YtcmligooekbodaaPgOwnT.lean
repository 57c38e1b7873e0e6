/- A list of runs that the call owns and that may begin inside its block. Plain theorems on worlds. -/
import Derived.Test.YtcmligooekbodaaPgOwnR
import Derived.Test.YtcmligooekbodaaPgCmp
import Derived.ArgAppend
namespace Go.Proofs.Ytcmligooekbodaa
open Go.RowKit

structure OwnTS (w : World) (g off n cap : Nat) (pre : List Value) (l : List R) (rest : List Value) : Prop where
  b : Blk w g 34 (pre ++ (rc l ++ rest)).toArray
  p : pre.length = off
  c : (rc l).length + rest.length = cap * 2
  n : n = l.length
  le : l.length ≤ cap
  m : cap ≤ maxLen
def OwnT (w : World) (v : Value) (l : List R) : Prop := (v = .slice none 0 0 ∧ l = []) ∨ ∃ g off cap pre rest, v = .slice (some ⟨g, off, none⟩) l.length cap ∧ OwnTS w g off l.length cap pre l rest
section
variable {w w' : World} {v : Value} {l : List R}
theorem OwnT.nil (w : World) : OwnT w (.slice none 0 0) [] := .inl ⟨rfl, rfl⟩
theorem OwnT.of (h : w.ownsRow 0 34 2 v l.length (rc l)) : OwnT w v l := by
  rcases Nat.eq_zero_or_pos l.length with h0 | h0
  · rcases h.2 with ⟨rfl, _⟩ | ⟨g, cap, cur, rfl, _, hb, hc, hm, hs, ht⟩
    · exact .inl ⟨rfl, List.eq_nil_of_length_eq_zero h0⟩
    · refine .inr ⟨g, 0, cap, [], cur.toList, rfl, ⟨?_, rfl, ?_, rfl, hc, hm⟩⟩
      · have : rc l = [] := by rw [List.eq_nil_of_length_eq_zero h0]; rfl
        rw [this]; exact hb
      · rw [rc_len, h0, Array.length_toList, hs]; omega
  · obtain ⟨g, cap, rest, rfl, hb, hl, hc, hm, _⟩ := own_open h h0
    exact .inr ⟨g, 0, cap, [], rest, rfl, ⟨hb, rfl, hl, rfl, hc, hm⟩⟩
theorem OwnT.slice (h : OwnT w v l) : ∃ A c, v = .slice A l.length c := by
  rcases h with ⟨rfl, rfl⟩ | ⟨g, off, cap, pre, rest, rfl, _⟩
  · exact ⟨_, _, rfl⟩
  · exact ⟨_, _, rfl⟩
theorem OwnT.lt (h : OwnT w v l) {k : Nat} (hk : k ∈ fpv v) : k < w.heap.size := by
  rcases h with ⟨rfl, rfl⟩ | ⟨g, off, cap, pre, rest, rfl, h⟩
  · simp [fpv, Value.ownBlock] at hk
  · have e : k = g := by simpa [fpv, Value.ownBlock, eq_comm] using hk
    rw [e]; exact h.b.lt
theorem OwnT.move (h : OwnT w v l) (hb : ∀ k ∈ fpv v, w'.heap[k]? = w.heap[k]?) : OwnT w' v l := by
  rcases h with h | ⟨g, off, cap, pre, rest, rfl, h⟩
  · exact .inl h
  · exact .inr ⟨g, off, cap, pre, rest, rfl, ⟨(hb g (by simp [fpv, Value.ownBlock])).trans h.b, h.p, h.c, h.n, h.le, h.m⟩⟩
theorem OwnT.chg {S : List Nat} (h : OwnT w v l) (c : Chg S w w') (hn : ∀ k ∈ fpv v, k ∉ S) : OwnT w' v l := h.move fun k hk => c.block k (h.lt hk) (hn k hk)
theorem OwnT.chg0 (h : OwnT w v l) (c : Chg [] w w') : OwnT w' v l := h.chg c (by simp)
theorem OwnT.keep {S : List Nat} (h : OwnT w v l) (k : Keep S w w') (hs : ∀ j ∈ fpv v, j ∈ S) : OwnT w' v l := h.move fun j hj => k j (hs j hj)
theorem OwnT.ne_blk {g : Nat} {t : TypeId} {cs : Array Value} (h : OwnT w v l) (hb : Blk w g t cs) (hne : 34 ≠ t) : g ∉ fpv v := by
  rcases h with ⟨rfl, rfl⟩ | ⟨g', off, cap, pre, rest, rfl, h⟩
  · simp [fpv, Value.ownBlock]
  · intro hm
    have e : g = g' := by simpa [fpv, Value.ownBlock, eq_comm] using hm
    exact Blk.ne_ h.b hb hne e.symm
theorem pre_get (pre xs : List Value) (j : Nat) : (pre ++ xs)[pre.length + j]? = xs[j]? := by
  rw [List.getElem?_append_right (by omega)]; congr 1; omega
theorem OwnTS.cell {g off n cap : Nat} {pre rest : List Value} (h : OwnTS w g off n cap pre l rest) {i : Nat} {r : R} (hr : l[i]? = some r) :
    w.cell? ⟨g, off + i * 2, none⟩ = some (.int .i64 r.f) ∧ w.cell? ⟨g, off + i * 2 + 1, none⟩ = some (.int .i64 r.p) := by
  obtain ⟨h1, h2⟩ := rc_at hr rest
  rw [← h.p, Nat.add_assoc, h.b.cell, h.b.cell, List.getElem?_toArray, List.getElem?_toArray, pre_get, pre_get]
  exact ⟨h1, h2⟩
theorem put_two (q t : List Value) (a b x y : Value) : putAll (q ++ a :: b :: t).toArray q.length [x, y] = (q ++ x :: y :: t).toArray := by
  simp [putAll]
theorem run_push_t (T : TypeId) (hT : Try.prog.underlying T = some (.slice 34)) (ty : TypeId) (h : OwnT w v l) (r : R) (hl : l.length ≤ 1000000) :
    ∃ v' w', (Builtin.append_ #[T, T] ty #[v, .slice (some ⟨w.heap.size, 0, none⟩) 1 1]).run Try.prog (w.alloc (.cells #[.int .i64 r.f, .int .i64 r.p] 34)) = .ok v' w' ∧ OwnT w' v' (l ++ [r]) ∧ Stp (fpv v) (fpv v') w w' := by
  rcases h with ⟨rfl, rfl⟩ | ⟨g, off, cap, pre, rest, rfl, h⟩
  · obtain ⟨v', w', h1, h2, h3⟩ := run_push_run T hT ty (OwnR.nil w) r (by simp)
    exact ⟨v', w', h1, OwnT.of h2.o, h3⟩
  · obtain ⟨i, hi, hz, hsz, hb⟩ := info_parts info_run
    have hn := cells2_new w (.int .i64 r.f) (.int .i64 r.p) 34
    have erc : rc (l ++ [r]) = rc l ++ [.int .i64 r.f, .int .i64 r.p] := by rw [rc_append]; rfl
    have hb1 := h.b.alloc (.cells #[.int .i64 r.f, .int .i64 r.p] 34)
    have hrc := rc_len l
    have hp := h.p
    have hc := h.c
    by_cases hr : l.length + 1 ≤ cap
    · obtain ⟨a, b, t, rfl⟩ : ∃ a b t, rest = a :: b :: t := by
        match rest, hc with
        | [], hc => simp at hc; omega
        | [a], hc => simp at hc; omega
        | a :: b :: t, _ => exact ⟨a, b, t, rfl⟩
      have eo : off + l.length * 2 = (pre ++ rc l).length := by rw [List.length_append]; omega
      have ecs : (pre ++ (rc l ++ a :: b :: t)).toArray = ((pre ++ rc l) ++ a :: b :: t).toArray := by rw [List.append_assoc]
      have hsz2 : (pre ++ (rc l ++ a :: b :: t)).length = off + l.length * 2 + (t.length + 2) := by simp only [List.length_append, List.length_cons]; omega
      have hrun := run_append_room_cells (P := Try.prog) (w.alloc (.cells #[.int .i64 r.f, .int .i64 r.p] 34)) T ty 34 i hT hi g off l.length cap ⟨w.heap.size, 0, none⟩ 1 1 [.int .i64 r.f, .int .i64 r.p] (by rw [hsz]; rfl) hn
        (by intro u hu; simp at hu; rcases hu with rfl | rfl <;> rfl) hr (fun j hj => by
          rw [hsz, hb1.cell, List.getElem?_toArray]
          have hj2 : j < 2 := hj
          rw [List.getElem?_eq_getElem (by omega)]; rfl) (fun j _ => hb1.frozen _)
      rw [hsz, eo] at hrun
      refine ⟨_, _, hrun, .inr ⟨g, off, cap, pre, t, by simp, ⟨?_, hp, ?_, rfl, by simp; omega, h.m⟩⟩, ⟨?_, fun k hk => .inl (by simpa [fpv, Value.ownBlock] using hk)⟩⟩
      · have h5 := Blk.setCells_at (cs := #[]) [.int .i64 r.f, .int .i64 r.p] (pre ++ rc l).length _ _ hb1
        rw [ecs, put_two] at h5
        rw [erc]
        simpa using h5
      · simp only [List.length_cons] at hc
        rw [erc, List.length_append]; simp only [List.length_cons, List.length_nil]; omega
      · exact ((Chg.refl _ w).alloc _).setCells (.inl (by simp [fpv, Value.ownBlock])) _ _
    · obtain ⟨v', w', hrun, r1, r2⟩ := run_append_arg_grows (P := Try.prog) (w.alloc (.cells #[.int .i64 r.f, .int .i64 r.p] 34)) T ty 34 i (.agg #[.int .i64 0, .int .i64 0]) 2 16 hT hi hz hsz hb rfl (by decide) ⟨g, off, none⟩ l.length cap (rc l) hrc
        (fun j u hu => by
          rw [WideShapes.add_plain, hb1.cell, List.getElem?_toArray, ← hp, pre_get, List.getElem?_append_left (List.getElem?_eq_some_iff.1 hu).1]; exact hu)
        ⟨w.heap.size, 0, none⟩ 1 1 [.int .i64 r.f, .int .i64 r.p] rfl hn (by omega) (by unfold maxLen; omega) (by omega)
      refine ⟨v', w', hrun, OwnT.of ?_, ⟨((Chg.refl (fpv _) w).alloc _).grown r2 (by simp), fun k hk => .inr ?_⟩⟩
      · rw [erc, List.length_append]; exact ⟨r1.1, r1.2.imp id fun ⟨g, cap, cur, h1, _, h3⟩ => ⟨g, cap, cur, h1, Nat.zero_le _, h3⟩⟩
      · have := (r1.lt k (mem_fpv.1 hk)).1
        rw [World.size_alloc] at this; omega
theorem wpList_push_t {ops : Array Oper} {rest : List Oper} {op : Oper} {a : Act} {Q : Exit → Act → World → Prop} {T : TypeId} (hgd : op.guard = none) (s x : Operand)
    (hop : op.op = .call { callee := .builtin .append, args := #[s, x], argTypes := #[T, T] }) (hT : Try.prog.underlying T = some (.slice 34)) (hs : a.eval s = v) (h : OwnT w v l) (r : R) (hx : a.eval x = .slice (some ⟨w.heap.size, 0, none⟩) 1 1) (hl : l.length ≤ 1000000)
    (hK : ∀ A' c' w', OwnT w' (.slice A' (l.length + 1) c') (l ++ [r]) → Stp (fpv v) (fpv (.slice A' (l.length + 1) c')) w w' → wpList Try.prog ops Q rest (a.put op.dst (.slice A' (l.length + 1) c')) w') : wpList Try.prog ops Q (op :: rest) a (w.alloc (.cells #[.int .i64 r.f, .int .i64 r.p] 34)) := by
  obtain ⟨v', w', hr, h2, h3⟩ := run_push_t T hT op.type h r hl
  obtain ⟨A', c', e⟩ := h2.slice
  rw [List.length_append, List.length_singleton] at e
  subst e
  refine wpList_plain hgd fun K' hK' => ?_
  unfold Oper.wp execOp
  simp only [hop, resolve, invoke, builtin, Sem.run_bind, Sem.run_pure, Result.andThen_ok, List.map_toArray, List.map_cons, List.map_nil, hs, hx, hr]
  exact hK' _ _ (hK A' c' w' h2 h3)
/-- got[1:] -/
theorem OwnTS.tail {g off n cap : Nat} {pre rest : List Value} {r : R} (h : OwnTS w g off n cap pre (r :: l) rest) : OwnT w (.slice (some ⟨g, off + 2, none⟩) l.length (cap - 1)) l := by
  have hc := h.c
  have hle := h.le
  simp only [List.length_cons] at hle
  refine .inr ⟨g, off + 2, cap - 1, pre ++ [.int .i64 r.f, .int .i64 r.p], rest, rfl, ⟨?_, by rw [List.length_append, h.p]; rfl, ?_, rfl, by omega, by have := h.m; omega⟩⟩
  · have := h.b
    rw [rc_cons] at this
    simpa using this
  · rw [rc_cons, List.length_append] at hc; simp only [List.length_cons, List.length_nil] at hc; omega
end
end Go.Proofs.Ytcmligooekbodaa
