/- A list of objects that the call owns, each with slots of its own. Plain theorems on worlds. -/
import Derived.Test.YtfkgooliglcjkaaVwTold
namespace Go.Proofs.Ytfkgooliglcjkaa
open Go.RowKit Go.Maps

def oCells (o : Ob) (s : Value) : List Value := [.int .i64 o.addr, s, .bool o.marked]
def osCells : List Ob → List Value → List Value
  | o :: os, s :: ss => oCells o s ++ osCells os ss
  | _, _ => []
theorem osCells_len : ∀ {os : List Ob} {ss : List Value}, ss.length = os.length → (osCells os ss).length = os.length * 3
  | [], [], _ => rfl
  | o :: os, s :: ss, h => by have := osCells_len (os := os) (ss := ss) (by simpa using h); simp [osCells, oCells, this]; omega
theorem osCells_snoc : ∀ {os : List Ob} {ss : List Value} (o : Ob) (s : Value), ss.length = os.length → osCells (os ++ [o]) (ss ++ [s]) = osCells os ss ++ oCells o s
  | [], [], _, _, _ => by simp [osCells]
  | o' :: os, s' :: ss, o, s, h => by have := osCells_snoc (os := os) (ss := ss) o s (by simpa using h); simp [osCells, this]
theorem osCells_get : ∀ {os : List Ob} {ss : List Value} {i : Nat} {o : Ob}, ss.length = os.length → os[i]? = some o → ∃ s, ss[i]? = some s ∧ (osCells os ss)[i * 3]? = some (.int .i64 o.addr) ∧ (osCells os ss)[i * 3 + 1]? = some s ∧ (osCells os ss)[i * 3 + 2]? = some (.bool o.marked)
  | [], _, _, _, _, h => by simp at h
  | o :: os, [], _, _, h, _ => by simp at h
  | o :: os, s :: ss, 0, o', _, h => by simp at h; subst h; exact ⟨s, rfl, rfl, rfl, rfl⟩
  | o :: os, s :: ss, i + 1, o', hl, h => by
    obtain ⟨s', h1, h2, h3, h4⟩ := osCells_get (os := os) (ss := ss) (i := i) (o := o') (by simpa using hl) (by simpa using h)
    have e0 : (i + 1) * 3 = i * 3 + 3 := by omega
    refine ⟨s', by simpa using h1, ?_, ?_, ?_⟩
    · rw [e0]; simpa [osCells, oCells] using h2
    · rw [e0, show i * 3 + 3 + 1 = (i * 3 + 1) + 3 by omega]; simpa [osCells, oCells] using h3
    · rw [e0, show i * 3 + 3 + 2 = (i * 3 + 2) + 3 by omega]; simpa [osCells, oCells] using h4
structure OwnO (w : World) (B : Nat) (v : Value) (os : List Ob) : Prop where
  ex : ∃ ss : List Value, ss.length = os.length ∧ w.ownsRow 0 30 3 v os.length (osCells os ss) ∧ ∀ (i : Nat) (s : Value) (o : Ob), ss[i]? = some s → os[i]? = some o → OwnI 3 w s o.slots ∧ ∀ k ∈ fpv s, B ≤ k
theorem OwnO.nil (w : World) (B : Nat) : OwnO w B (.slice none 0 0) [] := ⟨[], rfl, World.ownsRow_nil _ _ _ _, fun i s o h => by simp at h⟩
section
variable {w w' : World} {B : Nat} {v : Value} {os : List Ob}
theorem OwnO.slice (h : OwnO w B v os) : ∃ A c, v = .slice A os.length c := by
  obtain ⟨ss, hl, ho, _⟩ := h.ex
  rcases ho.2 with ⟨rfl, h0⟩ | ⟨g, cap, cur, rfl, _⟩
  · exact ⟨none, 0, by rw [h0]⟩
  · exact ⟨_, _, rfl⟩
/-- The blocks that hold it. -/
theorem OwnO.keep (h : OwnO w B v os) (hb : ∀ (k : Nat) (t : TypeId) (cs : Array Value), (t = 30 ∨ t = 3) → Blk w k t cs → Blk w' k t cs) : OwnO w' B v os := by
  obtain ⟨ss, hl, ho, hs⟩ := h.ex
  refine ⟨ss, hl, ⟨ho.1, ?_⟩, fun i s o h1 h2 => ⟨?_, (hs i s o h1 h2).2⟩⟩
  · rcases ho.2 with h0 | ⟨g, cap, cur, e, hb0, hg, r⟩
    · exact .inl h0
    · exact .inr ⟨g, cap, cur, e, hb0, hb g _ cur (.inl rfl) hg, r⟩
  · have h3 := (hs i s o h1 h2).1.o
    refine ⟨h3.1, ?_⟩
    rcases h3.2 with h0 | ⟨g, cap, cur, e, hb0, hg, r⟩
    · exact .inl h0
    · exact .inr ⟨g, cap, cur, e, hb0, hb g _ cur (.inr rfl) hg, r⟩
theorem OwnO.chg0 (h : OwnO w B v os) (c : Chg [] w w') : OwnO w' B v os := h.keep fun k t cs _ hb => c.blk hb (by simp)
/-- A change of an older block of integers. -/
theorem OwnO.chgLow {g : Nat} {cs : Array Value} {S : List Nat} (h : OwnO w B v os) (c : Chg S w w') (hS : ∀ k ∈ S, k = g) (hb : Blk w g 3 cs) (hg : g < B) : OwnO w' B v os := by
  obtain ⟨ss, hl, ho, hs⟩ := h.ex
  refine ⟨ss, hl, own_chg ho c fun k hk hm => ?_, fun i s o h1 h2 => ⟨(hs i s o h1 h2).1.chg c fun k hk hm => ?_, (hs i s o h1 h2).2⟩⟩
  · have := hS k hm
    subst this
    exact own_ne ho hb (by decide) hk
  · have := hS k hm
    have := (hs i s o h1 h2).2 k hk
    omega
/-- A store into a block of another type. -/
theorem OwnO.chgT {g : Nat} {t : TypeId} {cs : Array Value} (h : OwnO w B v os) (c : Chg [g] w w') (hg : Blk w g t cs) (h1 : t ≠ 30) (h2 : t ≠ 3) : OwnO w' B v os :=
  h.keep fun k t' cs' ht hb => c.blk hb (by
    intro hm
    have := only1 hm
    subst this
    rcases ht with rfl | rfl
    · exact hb.ne_ hg h1.symm rfl
    · exact hb.ne_ hg h2.symm rfl)
theorem OwnO.obs {A : Option Addr} {n c : Nat} (h : OwnO w B (.slice A n c) os) (hw : ∀ o ∈ os, WfI o.addr ∧ ∀ x ∈ o.slots, WfI x) (hl : ∀ o ∈ os, o.slots.length ≤ maxLen) : ObsAt w w.heap.size A os := by
  obtain ⟨ss, hsl, ho, hs⟩ := h.ex
  refine ⟨fun i o hio => ?_⟩
  obtain ⟨s, h1, h2, h3, h4⟩ := osCells_get hsl hio
  have hm := List.mem_of_getElem? hio
  rcases ho.2 with ⟨_, h0⟩ | ⟨g, cap, cur, e, _, hg, hc, hmx, hs2, ht⟩
  · have : os = [] := List.eq_nil_of_length_eq_zero h0
    subst this; simp at hio
  · injection e with e1 e2 e3
    have hb : Blk w g 30 cur := hg
    have hcell : ∀ j u, (osCells os ss)[j]? = some u → w.cell? ⟨g, 0 + j, none⟩ = some u := fun j u hu => by
      rw [Nat.zero_add, hb.cell]
      rw [← ht, List.getElem?_take] at hu
      split at hu
      · simpa using hu
      · cases hu
    exact ⟨g, 0, s, e1, hb.lt, hcell _ _ h2, hcell _ _ h3, hcell _ _ h4, (hs i s o h1 hio).1.sl (hw o hm).2 (hl o hm), (hw o hm).1⟩
theorem info_ob : (Try.prog.info? 30).map (fun i => (i.zero, i.size, i.bytes)) = some (some (.agg #[.int .i64 0, .slice none 0 0, .bool false]), 3, 40) := by kernel_rfl
theorem run_push_ob (ty : TypeId) (h : OwnO w B v os) {o : Ob} {A : Option Addr} {n c : Nat} (hs : OwnI 3 w (.slice A n c) o.slots) (hf : ∀ k ∈ fpv (.slice A n c), B ≤ k) (hl : os.length ≤ 1000000) :
    ∃ v' w', (Builtin.append_ #[24, 24] ty #[v, .slice (some ⟨w.heap.size, 0, none⟩) 1 1]).run Try.prog (w.alloc (.cells #[.int .i64 o.addr, .slice A n c, .bool o.marked] 30)) = .ok v' w' ∧ OwnO w' B v' (os ++ [o]) ∧ Stp (fpv v) (fpv v') w w' := by
  obtain ⟨i, hi, hz, hsz, hb⟩ := info_parts info_ob
  obtain ⟨ss, hsl, ho, hss⟩ := h.ex
  obtain ⟨v', w', hrun, h1, h2, h3, h4⟩ := run_append_own_at (P := Try.prog) (w.alloc (.cells #[.int .i64 o.addr, .slice A n c, .bool o.marked] 30)) 0 24 ty 30 i (.agg #[.int .i64 0, .slice none 0 0, .bool false]) 3 40 Try.underlying24 hi hz hsz hb rfl (by decide) v os.length (osCells os ss) (ho.alloc _) ⟨w.heap.size, 0, none⟩ 1 1 (oCells o (.slice A n c)) rfl
    (fun j u hu => by rw [WideShapes.add_plain, Nat.zero_add, (Blk.new w 30 #[.int .i64 o.addr, .slice A n c, .bool o.marked]).cell]; simpa [oCells] using hu)
    (by intro u hu; simp [oCells] at hu; rcases hu with rfl | rfl | rfl <;> rfl) (by unfold maxLen; omega) (by omega) (Nat.zero_le _)
  have hnr : ∀ (k : Nat) (cs : Array Value), Blk w k 3 cs → some k ≠ v.ownBlock := fun k cs hb' e => own_ne ho hb' (by decide) e.symm
  have hS : Stp (fpv v) (fpv v') w w' := ⟨((Chg.refl (fpv v) w).alloc _).grown h2 fun k hk => .inl (mem_fpv.2 hk), fun k hk => by
    rcases h4 with h4 | h4
    · rw [mem_fpv, h4] at hk; exact .inl (mem_fpv.2 hk)
    · rw [mem_fpv, h4] at hk
      injection hk with hk
      rw [World.size_alloc] at hk
      exact .inr (by omega)⟩
  have keepI : ∀ {u : Value} {xs : List Int}, OwnI 3 w u xs → OwnI 3 w' u xs := fun {u xs} hu => hu.chg hS.c fun k hk hm => by
    rcases hu.o.2 with ⟨rfl, _⟩ | ⟨g, cap, cur, rfl, _, hg, _⟩
    · simp [fpv, Value.ownBlock] at hk
    · have e : k = g := by simpa [fpv, Value.ownBlock, eq_comm] using hk
      subst e
      exact hnr k cur hg (mem_fpv.1 hm).symm
  refine ⟨v', w', hrun, ⟨ss ++ [.slice A n c], by simp [hsl], ?_, fun j s o' hj ho' => ?_⟩, hS⟩
  · rw [osCells_snoc o _ hsl, List.length_append]; simpa using h1
  · by_cases hj2 : j < os.length
    · rw [List.getElem?_append_left (by omega)] at hj
      rw [List.getElem?_append_left hj2] at ho'
      exact ⟨keepI (hss j s o' hj ho').1, (hss j s o' hj ho').2⟩
    · have hjl : j = os.length := by
        have := (List.getElem?_eq_some_iff.1 ho').1
        simp at this; omega
      subst hjl
      rw [List.getElem?_append_right (by omega), hsl, Nat.sub_self] at hj
      rw [List.getElem?_append_right (Nat.le_refl _), Nat.sub_self] at ho'
      have e1 : (.slice A n c : Value) = s := by simpa using hj
      have e2 : o = o' := by simpa using ho'
      subst e1 e2
      exact ⟨keepI hs, hf⟩
theorem wpList_push_ob {ops : Array Oper} {rest : List Oper} {op : Oper} {a : Act} {Q : Exit → Act → World → Prop} (hgd : op.guard = none) (s x : Operand)
    (hop : op.op = .call { callee := .builtin .append, args := #[s, x], argTypes := #[24, 24] }) (hs : a.eval s = v) (h : OwnO w B v os) {m : Nat} (hm : m = w.heap.size) (hx : a.eval x = .slice (some ⟨m, 0, none⟩) 1 1) {o : Ob} {A : Option Addr} {n c : Nat} (hi : OwnI 3 w (.slice A n c) o.slots) (hf : ∀ k ∈ fpv (.slice A n c), B ≤ k) (hl : os.length ≤ 1000000)
    (hK : ∀ A' c' w', OwnO w' B (.slice A' (os.length + 1) c') (os ++ [o]) → Stp (fpv v) (fpv (.slice A' (os.length + 1) c')) w w' → wpList Try.prog ops Q rest (a.put op.dst (.slice A' (os.length + 1) c')) w') : wpList Try.prog ops Q (op :: rest) a (w.alloc (.cells #[.int .i64 o.addr, .slice A n c, .bool o.marked] 30)) := by
  subst hm
  obtain ⟨v', w', hr, h2, h3⟩ := run_push_ob op.type h hi hf hl
  obtain ⟨A', c', e⟩ := h2.slice
  rw [List.length_append, List.length_singleton] at e
  subst e
  refine wpList_plain hgd fun K' hK' => ?_
  unfold Oper.wp execOp
  simp only [hop, resolve, invoke, builtin, Sem.run_bind, Sem.run_pure, Result.andThen_ok, List.map_toArray, List.map_cons, List.map_nil, hs, hx, hr]
  exact hK' _ _ (hK A' c' w' h2 h3)
end
end Go.Proofs.Ytfkgooliglcjkaa
