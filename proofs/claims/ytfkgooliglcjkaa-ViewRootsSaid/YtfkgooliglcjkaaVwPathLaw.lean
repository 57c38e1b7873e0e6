/- Ways in a view: the least of the shortest ones, level by level. Plain laws; no program in sight. -/
import Derived.Test.YtfkgooliglcjkaaVwSorted
namespace Go.Proofs.Ytfkgooliglcjkaa
open Go.RowKit Go.Maps

def lexLt : List Int → List Int → Prop
  | a :: p, b :: q => a < b ∨ (a = b ∧ lexLt p q)
  | _, _ => False
theorem lexLt_irrefl : ∀ p : List Int, ¬ lexLt p p
  | [], h => h
  | a :: p, h => by
    rcases h with h | ⟨_, h⟩
    · omega
    · exact lexLt_irrefl p h
theorem lexLt_trans : ∀ {p q r : List Int}, lexLt p q → lexLt q r → lexLt p r
  | a :: p, b :: q, c :: r, h1, h2 => by
    rcases h1 with h1 | ⟨rfl, h1⟩
    · rcases h2 with h2 | ⟨rfl, h2⟩
      · left; omega
      · left; omega
    · rcases h2 with h2 | ⟨rfl, h2⟩
      · left; omega
      · exact .inr ⟨rfl, lexLt_trans h1 h2⟩
  | a :: p, b :: q, [], _, h2 => h2.elim
  | a :: p, [], _, h1, _ => h1.elim
  | [], _, _, h1, _ => h1.elim
theorem lexLt_total : ∀ {p q : List Int}, p.length = q.length → p = q ∨ lexLt p q ∨ lexLt q p
  | [], [], _ => .inl rfl
  | a :: p, b :: q, h => by
    have ih := lexLt_total (p := p) (q := q) (by simpa using h)
    rcases Int.lt_trichotomy a b with h1 | h1 | h1
    · exact .inr (.inl (.inl h1))
    · subst h1
      rcases ih with rfl | h2 | h2
      · exact .inl rfl
      · exact .inr (.inl (.inr ⟨rfl, h2⟩))
      · exact .inr (.inr (.inr ⟨rfl, h2⟩))
    · exact .inr (.inr (.inl h1))
theorem lexLt_snoc : ∀ {p q : List Int} (x y : Int), p.length = q.length → (lexLt (p ++ [x]) (q ++ [y]) ↔ lexLt p q ∨ (p = q ∧ x < y))
  | [], [], x, y, _ => by simp [lexLt]
  | a :: p, b :: q, x, y, h => by
    have ih := lexLt_snoc (p := p) (q := q) x y (by simpa using h)
    simp only [List.cons_append, lexLt, ih, List.cons.injEq]
    constructor
    · rintro (h1 | ⟨rfl, h1 | ⟨rfl, h1⟩⟩)
      · exact .inl (.inl h1)
      · exact .inl (.inr ⟨rfl, h1⟩)
      · exact .inr ⟨⟨rfl, rfl⟩, h1⟩
    · rintro ((h1 | ⟨rfl, h1⟩) | ⟨⟨rfl, rfl⟩, h1⟩)
      · exact .inl h1
      · exact .inr ⟨rfl, .inl h1⟩
      · exact .inr ⟨rfl, .inr ⟨rfl, h1⟩⟩

def Vw.slotsAt (V : Vw) (a : Int) : List Int := match V.at_ a with
  | some k => match V.objects[k]? with
    | some o => o.slots
    | none => []
  | none => []
theorem slotsAt_of {V : Vw} {a : Int} {k : Nat} {o : Ob} (h1 : V.at_ a = some k) (h2 : V.objects[k]? = some o) : V.slotsAt a = o.slots := by unfold Vw.slotsAt; rw [h1]; simp only [h2]
theorem slotsAt_obj {V : Vw} {a x : Int} (h : x ∈ V.slotsAt a) : ∃ k o, V.at_ a = some k ∧ V.objects[k]? = some o ∧ x ∈ o.slots := by
  unfold Vw.slotsAt at h
  cases h1 : V.at_ a with
  | none => rw [h1] at h; simp at h
  | some k =>
    rw [h1] at h
    simp only at h
    cases h2 : V.objects[k]? with
    | none => rw [h2] at h; simp at h
    | some o => rw [h2] at h; exact ⟨k, o, rfl, h2, h⟩
/-- A way along names, from a root. -/
inductive Way (V : Vw) : List Int → Int → Prop
  | root {x : Int} : x ∈ V.said → x ≠ 0 → Way V [x] x
  | step {p : List Int} {a x : Int} : Way V p a → x ∈ V.slotsAt a → x ≠ 0 → Way V (p ++ [x]) x
theorem Way.rch {V : Vw} {p : List Int} {x : Int} (h : Way V p x) : Rch V x := by
  induction h with
  | root h1 h2 => exact .root h1 h2
  | step _ hx h0 ih =>
    obtain ⟨k, o, h1, h2, h3⟩ := slotsAt_obj hx
    exact .step ih h1 h2 h3 h0
theorem Rch.way {V : Vw} {x : Int} (h : Rch V x) : ∃ p, Way V p x := by
  induction h with
  | root h1 h2 => exact ⟨_, .root h1 h2⟩
  | step _ h1 h2 h3 h0 ih =>
    obtain ⟨p, hp⟩ := ih
    exact ⟨_, .step hp (by rw [slotsAt_of h1 h2]; exact h3) h0⟩
theorem Way.pos {V : Vw} {p : List Int} {x : Int} (h : Way V p x) : 1 ≤ p.length := by cases h <;> simp
theorem Way.last {V : Vw} {p : List Int} {x : Int} (h : Way V p x) : p.getLast? = some x := by cases h <;> simp
theorem Way.last_eq {V : Vw} {p : List Int} {x y : Int} (h : Way V p x) (h' : Way V p y) : x = y := by
  have := h.last.symm.trans h'.last
  injection this
def LeastWay (V : Vw) (p : List Int) (x : Int) : Prop := Way V p x ∧ ∀ q, Way V q x → q ≠ p → p.length < q.length ∨ (p.length = q.length ∧ lexLt p q)
theorem LeastWay.uniq {V : Vw} {p q : List Int} {x : Int} (h1 : LeastWay V p x) (h2 : LeastWay V q x) : p = q := by
  by_cases e : p = q
  · exact e
  · rcases h1.2 q h2.1 (fun e' => e e'.symm) with h3 | ⟨h3, h4⟩
    · rcases h2.2 p h1.1 e with h5 | ⟨h5, _⟩ <;> omega
    · rcases h2.2 p h1.1 e with h5 | ⟨_, h6⟩
      · omega
      · exact absurd (lexLt_trans h4 h6) (lexLt_irrefl _)
theorem LeastWay.len {V : Vw} {p q : List Int} {x : Int} (h : LeastWay V p x) (hq : Way V q x) : p.length ≤ q.length := by
  by_cases e : q = p
  · rw [e]; exact Nat.le_refl _
  · rcases h.2 q hq e with h1 | ⟨h1, _⟩ <;> omega
/-- F leads back along p. -/
structure ChainF (F : Int → Option Int) (p : List Int) : Prop where
  st : ∀ i a b, p[i]? = some a → p[i + 1]? = some b → F b = some a
  hd : ∀ r, p[0]? = some r → F r = none

/-- What is known at a level's head. -/
structure PthL (V : Vw) (n : Nat) (F : Int → Option Int) (W : List (List Int × Int)) (S : List Int) : Prop where
  lv : ∀ q ∈ W, LeastWay V q.1 q.2 ∧ q.1.length = n + 1
  all : ∀ p x, Way V p x → p.length = n + 1 → (∀ q, Way V q x → n + 1 ≤ q.length) → ∃ p', (p', x) ∈ W
  so : W.Pairwise fun a b => lexLt a.1 b.1
  seen : ∀ x, (x ∈ V.rootsL ∨ (F x).isSome = true) ↔ ∃ p, Way V p x ∧ p.length ≤ n + 1
  ss : ∀ x, x ∈ S ↔ (x ∈ V.rootsL ∨ (F x).isSome = true)
  nd : S.Nodup
  ch : ∀ q ∈ W, ChainF F q.1
  len : n ≤ S.length ∧ (W ≠ [] → n + 1 ≤ S.length)
theorem PthL.named {V : Vw} {n : Nat} {F : Int → Option Int} {W : List (List Int × Int)} {S : List Int} (h : PthL V n F W S) : S.length ≤ V.names.length := nodup_le h.nd fun x hx => by
  obtain ⟨p, hp, _⟩ := (h.seen x).1 ((h.ss x).1 hx)
  exact hp.rch.named
theorem PthL.wnd {V : Vw} {n : Nat} {F : Int → Option Int} {W : List (List Int × Int)} {S : List Int} (h : PthL V n F W S) : (W.map (·.2)).Nodup := by
  unfold List.Nodup
  rw [List.pairwise_map]
  refine List.Pairwise.imp_of_mem ?_ h.so
  intro a b ha hb hlt e
  have h1 := (h.lv a ha).1
  have h2 := (h.lv b hb).1
  rw [← e] at h2
  rw [h1.uniq h2] at hlt
  exact lexLt_irrefl _ hlt
theorem PthL.wlen {V : Vw} {n : Nat} {F : Int → Option Int} {W : List (List Int × Int)} {S : List Int} (h : PthL V n F W S) : W.length ≤ V.names.length := by
  have := nodup_le (m := V.names) h.wnd fun x hx => by
    obtain ⟨q, hq, rfl⟩ := List.mem_map.1 hx
    exact (h.lv q hq).1.1.rch.named
  simpa using this
theorem PthL.start (V : Vw) : PthL V 0 (fun _ => none) ((srt V.rootsL).map fun x => ([x], x)) V.rootsL := by
  have hone : ∀ {p : List Int} {x : Int}, Way V p x → p.length ≤ 1 → x ∈ V.rootsL ∧ p = [x] := fun {p x} h hl => by
    cases h with
    | root h1 h2 => exact ⟨mem_rootsL.2 ⟨h1, h2⟩, rfl⟩
    | step hp _ _ => have := hp.pos; rw [List.length_append, List.length_singleton] at hl; omega
  refine ⟨fun q hq => ?_, fun p x hp hl _ => ⟨[x], List.mem_map.2 ⟨x, srt_mem.2 (hone hp (by omega)).1, rfl⟩⟩, ?_, fun x => ?_, fun x => by simp, nodup_foldOnce _ _ List.nodup_nil, fun q hq => ?_, Nat.zero_le _, fun h => ?_⟩
  · obtain ⟨x, hx, rfl⟩ := List.mem_map.1 hq
    have hr := mem_rootsL.1 (srt_mem.1 hx)
    refine ⟨⟨.root hr.1 hr.2, fun q hq hne => ?_⟩, rfl⟩
    have := hq.pos
    by_cases hl : q.length ≤ 1
    · exact absurd (hone hq hl).2 hne
    · left; show 1 < q.length; omega
  · rw [List.pairwise_map]
    exact (srt_rising (nodup_foldOnce _ _ List.nodup_nil)).imp fun h => .inl h
  · constructor
    · rintro (h | h)
      · have := mem_rootsL.1 h
        exact ⟨_, .root this.1 this.2, by simp⟩
      · cases h
    · rintro ⟨p, hp, hl⟩
      exact .inl (hone hp hl).1
  · obtain ⟨x, hx, rfl⟩ := List.mem_map.1 hq
    exact ⟨fun i a b h1 h2 => by simp at h2, fun r _ => rfl⟩
  · have : V.rootsL ≠ [] := by rintro e; rw [e] at h; exact h (by simp [srt])
    have := List.length_pos_iff.2 this
    omega

/-- What is known within a level: the pairs D have been done. -/
structure PthN (V : Vw) (F0 : Int → Option Int) (W : List (List Int × Int)) (D : List Int × Int → Int → Prop) (F : Int → Option Int) (N : List (List Int × Int)) : Prop where
  sub : ∀ e b, D e b → e ∈ W ∧ b ∈ V.slotsAt e.2
  f0 : ∀ x, (F0 x).isSome = true → F x = F0 x
  fx : ∀ x, (F x).isSome = true ↔ (F0 x).isSome = true ∨ ∃ q ∈ N, q.2 = x
  nn : ∀ q ∈ N, ∃ e, D e q.2 ∧ q.1 = e.1 ++ [q.2] ∧ q.2 ≠ 0 ∧ q.2 ∉ V.rootsL ∧ F0 q.2 = none ∧ F q.2 = some e.2 ∧ ∀ e', D e' q.2 → e.1 = e'.1 ∨ lexLt e.1 e'.1
  cp : ∀ e b, D e b → b = 0 ∨ b ∈ V.rootsL ∨ (F0 b).isSome = true ∨ ∃ q ∈ N, q.2 = b
  so : N.Pairwise fun a b => lexLt a.1 b.1
  nd : (N.map (·.2)).Nodup
theorem PthN.start (V : Vw) (F0 : Int → Option Int) (W : List (List Int × Int)) : PthN V F0 W (fun _ _ => False) F0 [] :=
  ⟨fun _ _ h => h.elim, fun _ _ => rfl, fun x => by simp, fun q hq => by simp at hq, fun _ _ h => h.elim, List.Pairwise.nil, List.nodup_nil⟩
section
variable {V : Vw} {n : Nat} {F0 F : Int → Option Int} {W N : List (List Int × Int)} {S : List Int} {D : List Int × Int → Int → Prop} {c : List Int × Int} {b : Int}
theorem PthN.old (h : PthN V F0 W D F N) (hc : c ∈ W) (hb : b ∈ V.slotsAt c.2) (hD : ∀ e b', D e b' → lexLt e.1 c.1 ∨ (e = c ∧ b' ≤ b)) (ho : b = 0 ∨ b ∈ V.rootsL ∨ (F b).isSome = true) :
    PthN V F0 W (fun e x => D e x ∨ (e = c ∧ x = b)) F N := by
  refine ⟨?_, h.f0, h.fx, fun q hq => ?_, ?_, h.so, h.nd⟩
  · rintro e x (h1 | ⟨rfl, rfl⟩)
    · exact h.sub e x h1
    · exact ⟨hc, hb⟩
  · obtain ⟨e, h1, h2, h3, h4, h5, h6, h7⟩ := h.nn q hq
    refine ⟨e, .inl h1, h2, h3, h4, h5, h6, ?_⟩
    rintro e' (h8 | ⟨rfl, h8⟩)
    · exact h7 e' h8
    · rcases hD e q.2 h1 with h9 | ⟨rfl, _⟩
      · exact .inr h9
      · exact .inl rfl
  · rintro e x (h1 | ⟨rfl, rfl⟩)
    · exact h.cp e x h1
    · rcases ho with h1 | h1 | h1
      · exact .inl h1
      · exact .inr (.inl h1)
      · rcases (h.fx x).1 h1 with h2 | h2
        · exact .inr (.inr (.inl h2))
        · exact .inr (.inr (.inr h2))
theorem PthN.new (h : PthN V F0 W D F N) (hl : ∀ q ∈ W, q.1.length = n + 1) (hc : c ∈ W) (hb : b ∈ V.slotsAt c.2) (hD : ∀ e b', D e b' → lexLt e.1 c.1 ∨ (e = c ∧ b' ≤ b)) (h0 : b ≠ 0) (h1 : b ∉ V.rootsL) (h2 : (F b).isSome = false) :
    PthN V F0 W (fun e x => D e x ∨ (e = c ∧ x = b)) (putF F b c.2) (N ++ [(c.1 ++ [b], b)]) := by
  have hF0 : F0 b = none := by
    cases e : F0 b with
    | none => rfl
    | some a => have := (h.fx b).2 (.inl (by rw [e]; rfl)); rw [h2] at this; cases this
  have hN : ∀ q ∈ N, q.2 ≠ b := fun q hq e => by have := (h.fx b).2 (.inr ⟨q, hq, e⟩); rw [h2] at this; cases this
  have hnoD : ∀ e, ¬ D e b := fun e hd => by
    rcases h.cp e b hd with h3 | h3 | h3 | ⟨q, hq, e3⟩
    · exact h0 h3
    · exact h1 h3
    · rw [hF0] at h3; cases h3
    · exact hN q hq e3
  refine ⟨?_, fun x hx => ?_, fun x => ?_, fun q hq => ?_, ?_, ?_, ?_⟩
  · rintro e x (h3 | ⟨rfl, rfl⟩)
    · exact h.sub e x h3
    · exact ⟨hc, hb⟩
  · unfold putF
    rw [if_neg (by rintro rfl; rw [hF0] at hx; cases hx)]
    exact h.f0 x hx
  · unfold putF
    by_cases e : x = b
    · subst e
      rw [if_pos rfl]
      simp
    · rw [if_neg e, h.fx]
      constructor
      · rintro (h3 | ⟨q, hq, e3⟩)
        · exact .inl h3
        · exact .inr ⟨q, List.mem_append_left _ hq, e3⟩
      · rintro (h3 | ⟨q, hq, e3⟩)
        · exact .inl h3
        · rcases List.mem_append.1 hq with hq | hq
          · exact .inr ⟨q, hq, e3⟩
          · have : q = (c.1 ++ [b], b) := by simpa using hq
            subst this; exact absurd e3.symm e
  · rcases List.mem_append.1 hq with hqN | hq
    · have hne := hN q hqN
      obtain ⟨e, g1, g2, g3, g4, g5, g6, g7⟩ := h.nn q hqN
      refine ⟨e, .inl g1, g2, g3, g4, g5, by unfold putF; rw [if_neg hne]; exact g6, ?_⟩
      rintro e' (h8 | ⟨rfl, h8⟩)
      · exact g7 e' h8
      · exact absurd h8 hne
    · have e1 : q = (c.1 ++ [b], b) := by simpa using hq
      subst e1
      refine ⟨c, .inr ⟨rfl, rfl⟩, rfl, h0, h1, hF0, by unfold putF; simp, ?_⟩
      rintro e' (h8 | ⟨rfl, _⟩)
      · exact absurd h8 (hnoD e')
      · exact .inl rfl
  · rintro e x (h3 | ⟨rfl, rfl⟩)
    · rcases h.cp e x h3 with g | g | g | ⟨q, hq, g⟩
      · exact .inl g
      · exact .inr (.inl g)
      · exact .inr (.inr (.inl g))
      · exact .inr (.inr (.inr ⟨q, List.mem_append_left _ hq, g⟩))
    · exact .inr (.inr (.inr ⟨_, List.mem_append_right _ (List.mem_singleton_self _), rfl⟩))
  · rw [List.pairwise_append]
    refine ⟨h.so, List.pairwise_singleton _ _, fun q hq q' hq' => ?_⟩
    have e1 : q' = (c.1 ++ [b], b) := by simpa using hq'
    subst e1
    obtain ⟨e, g1, g2, _⟩ := h.nn q hq
    have hle : e.1.length = c.1.length := by rw [hl e (h.sub _ _ g1).1, hl c hc]
    rw [g2]
    refine (lexLt_snoc _ _ hle).2 ?_
    rcases hD e q.2 g1 with g | ⟨rfl, g⟩
    · exact .inl g
    · exact .inr ⟨rfl, by have := hN q hq; omega⟩
  · rw [List.map_append, List.nodup_append]
    refine ⟨h.nd, by simp, fun x hx y hy => ?_⟩
    obtain ⟨q, hq, rfl⟩ := List.mem_map.1 hx
    have : y = b := by simpa using hy
    subst this; exact hN q hq
theorem PthL.next (h : PthL V n F0 W S) (hN : PthN V F0 W D F N) (hD : ∀ e ∈ W, ∀ b ∈ V.slotsAt e.2, D e b) (hW : W ≠ []) : PthL V (n + 1) F N (S ++ N.map (·.2)) := by
  have hseen : ∀ x, (x ∈ V.rootsL ∨ (F x).isSome = true) ↔ (x ∈ V.rootsL ∨ (F0 x).isSome = true) ∨ ∃ q ∈ N, q.2 = x := fun x => by
    rw [hN.fx]
    constructor
    · rintro (g | g | g)
      · exact .inl (.inl g)
      · exact .inl (.inr g)
      · exact .inr g
    · rintro ((g | g) | g)
      · exact .inl g
      · exact .inr (.inl g)
      · exact .inr (.inr g)
  -- a way of n + 2 to what has no shorter one leads through this level
  have back : ∀ p x, Way V p x → p.length = n + 2 → (∀ q, Way V q x → n + 2 ≤ q.length) → ∃ q a p', p = q ++ [x] ∧ Way V q a ∧ x ∈ V.slotsAt a ∧ x ≠ 0 ∧ (p', a) ∈ W := fun p x hp hl hm => by
    cases hp with
    | root _ _ => simp at hl
    | @step q a _ hq hx h0 =>
      have hql : q.length = n + 1 := by simp at hl; omega
      obtain ⟨p', hp'⟩ := h.all q a hq hql (fun r hr => by
        have := hm _ (.step hr hx h0)
        simp at this; omega)
      exact ⟨q, a, p', rfl, hq, hx, h0, hp'⟩
  have all' : ∀ p x, Way V p x → p.length = n + 1 + 1 → (∀ q, Way V q x → n + 1 + 1 ≤ q.length) → ∃ p', (p', x) ∈ N := fun p x hp hl hm => by
    obtain ⟨q, a, p', _, _, hx, h0, hp'⟩ := back p x hp hl hm
    rcases hN.cp _ _ (hD _ hp' x hx) with g | g | g | ⟨r, hr, g⟩
    · exact absurd g h0
    · obtain ⟨r, hr, hl2⟩ := (h.seen x).1 (.inl g); have := hm r hr; omega
    · obtain ⟨r, hr, hl2⟩ := (h.seen x).1 (.inr g); have := hm r hr; omega
    · obtain ⟨r1, r2⟩ := r
      simp only at g
      subst g
      exact ⟨r1, hr⟩
  refine ⟨fun q hq => ?_, all', hN.so, fun x => ?_, fun x => ?_, ?_, fun q hq => ?_, ?_⟩
  · obtain ⟨e, g1, g2, g3, g4, g5, g6, g7⟩ := hN.nn q hq
    obtain ⟨he, hx⟩ := hN.sub _ _ g1
    have hlw := h.lv e he
    have hno : ∀ r, Way V r q.2 → n + 2 ≤ r.length := fun r hr => by
      rcases Nat.lt_or_ge r.length (n + 2) with hlt | hge
      · rcases (h.seen q.2).2 ⟨r, hr, by omega⟩ with k | k
        · exact absurd k g4
        · rw [g5] at k; cases k
      · exact hge
    refine ⟨⟨by rw [g2]; exact .step hlw.1.1 hx g3, fun r hr hne => ?_⟩, by rw [g2]; simp [hlw.2]⟩
    have hl1 : q.1.length = n + 2 := by rw [g2]; simp [hlw.2]
    have hge := hno r hr
    rcases Nat.eq_or_lt_of_le hge with he2 | hgt
    · right
      refine ⟨by omega, ?_⟩
      obtain ⟨s, a, p', e1, hs, hxs, _, hp'⟩ := back r q.2 hr he2.symm hno
      have h9 := g7 _ (hD _ hp' q.2 hxs)
      have hlp := h.lv _ hp'
      have hsl : s.length = n + 1 := by rw [e1] at he2; simp at he2; omega
      rw [g2, e1]
      refine (lexLt_snoc _ _ (by rw [hlw.2, hsl])).2 (.inl ?_)
      have h10 : p' = s ∨ lexLt p' s := by
        by_cases e2 : s = p'
        · exact .inl e2.symm
        · rcases hlp.1.2 s hs e2 with k | ⟨_, k⟩
          · have := hlp.2; simp only at this; omega
          · exact .inr k
      rcases h9 with h9 | h9
      · rcases h10 with h10 | h10
        · exfalso; apply hne; rw [e1, g2, h9]; simp only; rw [h10]
        · rw [h9]; exact h10
      · rcases h10 with h10 | h10
        · rw [← h10]; exact h9
        · exact lexLt_trans h9 h10
    · left; omega
  · rw [hseen]
    constructor
    · rintro (g | ⟨q, hq, rfl⟩)
      · obtain ⟨p, hp, hl⟩ := (h.seen x).1 g
        exact ⟨p, hp, by omega⟩
      · obtain ⟨e, g1, g2, g3, _⟩ := hN.nn q hq
        obtain ⟨he, hx⟩ := hN.sub _ _ g1
        have hlw := h.lv e he
        exact ⟨_, .step hlw.1.1 hx g3, by simp [hlw.2]⟩
    · rintro ⟨p, hp, hl⟩
      by_cases hs : x ∈ V.rootsL ∨ (F0 x).isSome = true
      · exact .inl hs
      · right
        have hno : ∀ r, Way V r x → n + 1 + 1 ≤ r.length := fun r hr => by
          rcases Nat.lt_or_ge r.length (n + 2) with hlt | hge
          · exact absurd ((h.seen x).2 ⟨r, hr, by omega⟩) hs
          · exact hge
        have := hno p hp
        obtain ⟨p', hp'⟩ := all' p x hp (by omega) hno
        exact ⟨_, hp', rfl⟩
  · rw [List.mem_append, h.ss, hseen, List.mem_map]
  · rw [List.nodup_append]
    refine ⟨h.nd, hN.nd, fun x hx y hy e => ?_⟩
    subst e
    obtain ⟨q, hq, rfl⟩ := List.mem_map.1 hy
    obtain ⟨e, _, _, _, g4, g5, _⟩ := hN.nn q hq
    rcases (h.ss _).1 hx with k | k
    · exact g4 k
    · rw [g5] at k; cases k
  · obtain ⟨e, g1, g2, g3, g4, g5, g6, _⟩ := hN.nn q hq
    obtain ⟨he, hx⟩ := hN.sub _ _ g1
    have hch := h.ch e he
    have hlw := h.lv e he
    rw [g2]
    have hroot : ∀ r, e.1[0]? = some r → F r = none := fun r hr => by
      have hr2 : r ∈ V.rootsL := by
        have : ∀ {p : List Int} {x : Int}, Way V p x → ∀ r, p[0]? = some r → r ∈ V.rootsL := fun hp => by
          induction hp with
          | root k1 k2 => intro r hr; simp at hr; subst hr; exact mem_rootsL.2 ⟨k1, k2⟩
          | step k _ _ ih => intro r hr; rw [List.getElem?_append_left (by have := k.pos; omega)] at hr; exact ih r hr
        exact this hlw.1.1 r hr
      cases e1 : F r with
      | none => rfl
      | some a =>
        rcases (hN.fx r).1 (by rw [e1]; rfl) with k | ⟨q', hq', k⟩
        · have := hch.hd r hr; rw [this] at k; cases k
        · obtain ⟨_, _, _, _, k4, _⟩ := hN.nn q' hq'
          rw [k] at k4; exact absurd hr2 k4
    refine ⟨fun i a b h1 h2 => ?_, fun r hr => ?_⟩
    · by_cases hi : i + 1 < e.1.length
      · rw [List.getElem?_append_left (by omega)] at h1
        rw [List.getElem?_append_left hi] at h2
        have := hch.st i a b h1 h2
        rw [hN.f0 b (by rw [this]; rfl)]; exact this
      · have hi2 : i + 1 = e.1.length := by
          have := (List.getElem?_eq_some_iff.1 h2).1
          simp at this; omega
        rw [List.getElem?_append_right (by omega), hi2, Nat.sub_self] at h2
        simp at h2
        subst h2
        rw [List.getElem?_append_left (by omega)] at h1
        have h3 := hlw.1.1.last
        rw [List.getLast?_eq_getElem?, ← hi2, Nat.add_sub_cancel, h1] at h3
        injection h3 with h3
        rw [g6, h3]
    · rw [List.getElem?_append_left (by have := hlw.2; omega)] at hr
      exact hroot r hr
  · have := h.len.2 hW
    refine ⟨by rw [List.length_append]; omega, fun hne => ?_⟩
    have := List.length_pos_iff.2 hne
    rw [List.length_append, List.length_map]; omega
end
end Go.Proofs.Ytfkgooliglcjkaa
