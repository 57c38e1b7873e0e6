/- A list of runs that the call owns: append of one, one of them told anew. Plain theorems on worlds. -/
import Derived.Test.YtcmligooekbodaaPgI
import Derived.Test.YtcmligooekbodaaPgRunsLaw
import Derived.Maps.AppendAt
namespace Go.Proofs.Ytcmligooekbodaa
open Go.RowKit

structure OwnR (w : World) (v : Value) (l : List R) : Prop where
  o : w.ownsRow 0 34 2 v l.length (rc l)
section
variable {w w' : World} {v : Value} {l : List R}
theorem OwnR.nil (w : World) : OwnR w (.slice none 0 0) [] := ⟨World.ownsRow_nil _ _ _ _⟩
theorem OwnR.lt (h : OwnR w v l) {k : Nat} (hk : k ∈ fpv v) : k < w.heap.size := own_lt h.o (mem_fpv.1 hk)
theorem OwnR.chg {S : List Nat} (h : OwnR w v l) (c : Chg S w w') (hn : ∀ k ∈ fpv v, k ∉ S) : OwnR w' v l := ⟨own_chg h.o c fun k hk => hn k (mem_fpv.2 hk)⟩
theorem OwnR.chg0 (h : OwnR w v l) (c : Chg [] w w') : OwnR w' v l := h.chg c (by simp)
theorem OwnR.slice (h : OwnR w v l) : ∃ A c, v = .slice A l.length c := by
  rcases h.o.2 with ⟨rfl, h0⟩ | ⟨g, cap, cur, rfl, _⟩
  · exact ⟨none, 0, by rw [h0]⟩
  · exact ⟨_, _, rfl⟩
theorem OwnR.cell {A : Option Addr} {n c i : Nat} {r : R} (h : OwnR w (.slice A n c) l) (hr : l[i]? = some r) :
    ∃ g, A = some ⟨g, 0, none⟩ ∧ w.cell? ⟨g, i * 2, none⟩ = some (.int .i64 r.f) ∧ w.cell? ⟨g, i * 2 + 1, none⟩ = some (.int .i64 r.p) ∧ w.frozen? ⟨g, i * 2, none⟩ = false ∧ w.frozen? ⟨g, i * 2 + 1, none⟩ = false ∧ g < w.heap.size ∧ n = l.length := by
  have hil := (List.getElem?_eq_some_iff.1 hr).1
  obtain ⟨g, cap, rest, ev, hb, _⟩ := own_open h.o (by omega)
  injection ev with e1 e2 e3
  obtain ⟨h1, h2⟩ := rc_at hr rest
  exact ⟨g, e1, by rw [hb.cell, List.getElem?_toArray]; exact h1, by rw [hb.cell, List.getElem?_toArray]; exact h2, hb.frozen _, hb.frozen _, hb.lt, e2⟩
theorem OwnR.ne_blk {g : Nat} {t : TypeId} {cs : Array Value} (h : OwnR w v l) (hb : Blk w g t cs) (hne : 34 ≠ t) : g ∉ fpv v := fun hm => own_ne h.o hb hne (mem_fpv.1 hm)
/-- One more page in a run. -/
theorem OwnR.setP {g n c i : Nat} {r : R} {p : Nat} (h : OwnR w (.slice (some ⟨g, 0, none⟩) n c) l) (hr : l[i]? = some r) : OwnR (w.setCell ⟨g, i * 2 + 1, none⟩ (.int .i64 p)) (.slice (some ⟨g, 0, none⟩) n c) (l.set i ⟨r.f, p⟩) := by
  have hil := (List.getElem?_eq_some_iff.1 hr).1
  obtain ⟨g', cap, rest, ev, hb, hrl, hc, hm, hx⟩ := own_open h.o (by omega)
  injection ev with e1 e2 e3
  injection e1 with e1
  injection e1 with e1
  subst e1 e2 e3
  have hb' := hb.set_ (i * 2 + 1) (.int .i64 p)
  have es : ((rc l ++ rest).toArray.setIfInBounds (i * 2 + 1) (.int .i64 p)) = (rc (l.set i ⟨r.f, p⟩) ++ rest).toArray := by
    rw [List.setIfInBounds_toArray]
    congr 1
    rw [← rc_set l i ⟨r.f, p⟩ rest hil]
    congr 1
    have h1 := (rc_at hr rest).1
    have hl := (List.getElem?_eq_some_iff.1 h1)
    obtain ⟨hl1, hl2⟩ := hl
    show _ = ((rc l ++ rest).set (i * 2) (.int .i64 r.f))
    rw [← hl2, List.set_getElem_self]
  rw [es] at hb'
  have hl2 : (rc (l.set i ⟨r.f, p⟩)).length = (rc l).length := by rw [rc_len, rc_len, List.length_set]
  refine ⟨?_⟩
  have hs : (l.set i ⟨r.f, p⟩).length = l.length := List.length_set ..
  rw [hs]
  exact own_mk hb' (by rw [hl2]; exact hrl) hc hm (by rw [hl2]; exact hx)
theorem run_push_run (T : TypeId) (hT : Try.prog.underlying T = some (.slice 34)) (ty : TypeId) (h : OwnR w v l) (r : R) (hl : l.length ≤ 1000000) :
    ∃ v' w', (Builtin.append_ #[T, T] ty #[v, .slice (some ⟨w.heap.size, 0, none⟩) 1 1]).run Try.prog (w.alloc (.cells #[.int .i64 r.f, .int .i64 r.p] 34)) = .ok v' w' ∧ OwnR w' v' (l ++ [r]) ∧ Stp (fpv v) (fpv v') w w' := by
  obtain ⟨i, hi, hz, hsz, hb⟩ := info_parts info_run
  obtain ⟨v', w', hrun, h1, h2, h3, h4⟩ := run_append_own_at (P := Try.prog) (w.alloc (.cells #[.int .i64 r.f, .int .i64 r.p] 34)) 0 T ty 34 i (.agg #[.int .i64 0, .int .i64 0]) 2 16 hT hi hz hsz hb rfl (by decide) v l.length (rc l) (h.o.alloc _) ⟨w.heap.size, 0, none⟩ 1 1 [.int .i64 r.f, .int .i64 r.p] rfl
    (fun j u hu => by rw [WideShapes.add_plain, Nat.zero_add, (Blk.new w 34 #[.int .i64 r.f, .int .i64 r.p]).cell]; simpa using hu)
    (by intro u hu; simp at hu; rcases hu with rfl | rfl <;> rfl) (by unfold maxLen; omega) (by omega) (Nat.zero_le _)
  refine ⟨v', w', hrun, ⟨?_⟩, ⟨((Chg.refl (fpv v) w).alloc _).grown h2 fun k hk => .inl (mem_fpv.2 hk), fun k hk => ?_⟩⟩
  · have e : rc (l ++ [r]) = rc l ++ [.int .i64 r.f, .int .i64 r.p] := by rw [rc_append]; rfl
    rw [e, List.length_append]; exact h1
  · rcases h4 with h4 | h4
    · rw [mem_fpv, h4] at hk; exact .inl (mem_fpv.2 hk)
    · rw [mem_fpv, h4] at hk
      injection hk with hk
      rw [World.size_alloc] at hk
      exact .inr (by omega)
theorem wpList_push_run {ops : Array Oper} {rest : List Oper} {op : Oper} {a : Act} {Q : Exit → Act → World → Prop} {T : TypeId} (hgd : op.guard = none) (s x : Operand)
    (hop : op.op = .call { callee := .builtin .append, args := #[s, x], argTypes := #[T, T] }) (hT : Try.prog.underlying T = some (.slice 34)) (hs : a.eval s = v) (h : OwnR w v l) (r : R) (hx : a.eval x = .slice (some ⟨w.heap.size, 0, none⟩) 1 1) (hl : l.length ≤ 1000000)
    (hK : ∀ A' c' w', OwnR w' (.slice A' (l.length + 1) c') (l ++ [r]) → Stp (fpv v) (fpv (.slice A' (l.length + 1) c')) w w' → wpList Try.prog ops Q rest (a.put op.dst (.slice A' (l.length + 1) c')) w') : wpList Try.prog ops Q (op :: rest) a (w.alloc (.cells #[.int .i64 r.f, .int .i64 r.p] 34)) := by
  obtain ⟨v', w', hr, h2, h3⟩ := run_push_run T hT op.type h r hl
  obtain ⟨A', c', e⟩ := h2.slice
  rw [List.length_append, List.length_singleton] at e
  subst e
  refine wpList_plain hgd fun K' hK' => ?_
  unfold Oper.wp execOp
  simp only [hop, resolve, invoke, builtin, Sem.run_bind, Sem.run_pure, Result.andThen_ok, List.map_toArray, List.map_cons, List.map_nil, hs, hx, hr]
  exact hK' _ _ (hK A' c' w' h2 h3)
end
end Go.Proofs.Ytcmligooekbodaa
