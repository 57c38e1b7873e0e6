/- package view's walk: plain laws. -/
import Derived.Test.YtfkgooliglcjkaaVwSort
namespace Go.Proofs.Ytfkgooliglcjkaa
open Go.RowKit Go.Maps

theorem seenF_push (l : List Int) (x y : Int) : putF (seenF l) x 1 y = seenF (l ++ [x]) y := by
  unfold putF seenF
  by_cases e : y = x
  · subst e; rw [if_pos rfl, if_pos (.inr (by simp))]
  · rw [if_neg e]
    have : (y = 0 ∨ y ∈ l) ↔ (y = 0 ∨ y ∈ l ++ [x]) := by simp [e]
    by_cases h : y = 0 ∨ y ∈ l
    · rw [if_pos h, if_pos (this.1 h)]
    · rw [if_neg h, if_neg (fun q => h (this.2 q))]
theorem addOnce_prefix (l : List Int) (x : Int) : ∃ t, addOnce l x = l ++ t := by
  unfold addOnce
  split
  · exact ⟨[], (List.append_nil _).symm⟩
  · exact ⟨[x], rfl⟩
theorem foldOnce_prefix : ∀ (xs l : List Int), ∃ t, xs.foldl addOnce l = l ++ t
  | [], l => ⟨[], (List.append_nil _).symm⟩
  | x :: xs, l => by
    obtain ⟨t, ht⟩ := foldOnce_prefix xs (addOnce l x)
    obtain ⟨s, hs⟩ := addOnce_prefix l x
    exact ⟨s ++ t, by rw [List.foldl_cons, ht, hs, List.append_assoc]⟩
theorem foldOnce_get {xs l : List Int} {i : Nat} (hi : i < l.length) : (xs.foldl addOnce l)[i]? = l[i]? := by
  obtain ⟨t, ht⟩ := foldOnce_prefix xs l
  rw [ht, List.getElem?_append_left hi]
theorem foldOnce_take {xs l : List Int} {i : Nat} (hi : i ≤ l.length) : (xs.foldl addOnce l).take i = l.take i := by
  obtain ⟨t, ht⟩ := foldOnce_prefix xs l
  rw [ht, List.take_append_of_le_length hi]

/-- How far the walk is: L what has been seen, i of them done. -/
structure WkL (V : Vw) (L : List Int) (i : Nat) : Prop where
  nd : L.Nodup
  r : ∀ x ∈ L, Rch V x
  roots : ∀ x ∈ V.said, x ≠ 0 → x ∈ L
  done : ∀ a ∈ L.take i, ∀ k o, V.at_ a = some k → V.objects[k]? = some o → ∀ x ∈ o.slots, x ≠ 0 → x ∈ L
  le : i ≤ L.length
def thereL (V : Vw) (l : List Int) : List Int := l.filter fun a => (V.at_ a).isSome
def lostL (V : Vw) (l : List Int) : List Int := l.filter fun a => !(V.at_ a).isSome
theorem WkL.start (V : Vw) : WkL V V.rootsL 0 :=
  ⟨nodup_foldOnce _ _ List.nodup_nil, fun x hx => let h := mem_rootsL.1 hx; .root h.1 h.2, fun x h1 h2 => mem_rootsL.2 ⟨h1, h2⟩, fun a ha => by simp at ha, Nat.zero_le _⟩
theorem WkL.len {V : Vw} {L : List Int} {i : Nat} (h : WkL V L i) : L.length ≤ V.names.length := nodup_le h.nd fun x hx => (h.r x hx).named
theorem WkL.lost {V : Vw} {L : List Int} {i : Nat} {a : Int} (h : WkL V L i) (ha : L[i]? = some a) (hn : V.at_ a = none) : WkL V L (i + 1) ∧ lostL V (L.take (i + 1)) = lostL V (L.take i) ++ [a] ∧ thereL V (L.take (i + 1)) = thereL V (L.take i) := by
  have hi := (List.getElem?_eq_some_iff.1 ha).1
  rw [take_succ_get ha]
  refine ⟨⟨h.nd, h.r, h.roots, fun b hb k o h1 => ?_, hi⟩, by simp [lostL, hn], by simp [thereL, hn]⟩
  rw [take_succ_get ha] at hb
  rcases List.mem_append.1 hb with hb | hb
  · exact h.done b hb k o h1
  · have : b = a := by simpa using hb
    subst this; rw [hn] at h1; cases h1
theorem WkL.there {V : Vw} {L : List Int} {i k : Nat} {a : Int} {o : Ob} (h : WkL V L i) (ha : L[i]? = some a) (hk : V.at_ a = some k) (ho : V.objects[k]? = some o) :
    WkL V (o.slots.foldl addOnce L) (i + 1) ∧ lostL V ((o.slots.foldl addOnce L).take (i + 1)) = lostL V (L.take i) ∧ thereL V ((o.slots.foldl addOnce L).take (i + 1)) = thereL V (L.take i) ++ [a] := by
  have hi := (List.getElem?_eq_some_iff.1 ha).1
  have hra := h.r a (List.mem_of_getElem? ha)
  have hL' : ∀ x ∈ L, x ∈ o.slots.foldl addOnce L := fun x hx => (mem_foldOnce _ _ _).2 (.inl hx)
  obtain ⟨t, ht⟩ := foldOnce_prefix o.slots L
  rw [foldOnce_take (show i + 1 ≤ L.length by omega), take_succ_get ha]
  refine ⟨⟨nodup_foldOnce _ _ h.nd, fun x hx => ?_, fun x h1 h2 => hL' x (h.roots x h1 h2), fun b hb k' o' h1 h2 x hx h0 => ?_, ?_⟩, by simp [lostL, hk], by simp [thereL, hk]⟩
  · rcases (mem_foldOnce _ _ _).1 hx with h1 | ⟨h1, h2⟩
    · exact h.r x h1
    · exact .step hra hk ho h1 h2
  · rw [foldOnce_take (show i + 1 ≤ L.length by omega), take_succ_get ha] at hb
    rcases List.mem_append.1 hb with hb | hb
    · exact hL' x (h.done b hb k' o' h1 h2 x hx h0)
    · have : b = a := by simpa using hb
      subst this
      rw [hk] at h1; injection h1 with h1; subst h1
      rw [ho] at h2; injection h2 with h2; subst h2
      exact (mem_foldOnce _ _ _).2 (.inr ⟨hx, h0⟩)
  · rw [ht, List.length_append]; omega
theorem WkL.all {V : Vw} {L : List Int} (h : WkL V L L.length) (x : Int) : x ∈ L ↔ Rch V x := by
  refine ⟨h.r x, fun hx => ?_⟩
  induction hx with
  | root h1 h2 => exact h.roots _ h1 h2
  | step _ hk ho hx h0 ih => exact h.done _ (by rw [List.take_length]; exact ih) _ _ hk ho _ hx h0
theorem WkL.rch {V : Vw} {L : List Int} (h : WkL V L L.length) : IsRch V (srt (thereL V L)) :=
  ⟨srt_rising (h.nd.filter _), fun x => by rw [srt_mem, thereL, List.mem_filter, h.all]⟩
theorem WkL.lostOk {V : Vw} {L : List Int} (h : WkL V L L.length) : IsLost V (srt (lostL V L)) :=
  ⟨srt_rising (h.nd.filter _), fun x => by rw [srt_mem, lostL, List.mem_filter, h.all]; simp⟩
theorem at_lt {V : Vw} {a : Int} {k : Nat} (h : V.at_ a = some k) : ∃ o, V.objects[k]? = some o ∧ o.addr = a := by
  unfold Vw.at_ at h
  obtain ⟨hk, h1, _⟩ := List.findIdx?_eq_some_iff_getElem.1 h
  exact ⟨_, List.getElem?_eq_getElem hk, by simpa using h1⟩

/-! Memory. -/
structure WkM (w0 : World) (V : Vw) (bV bA bS : Nat) (cV : Array Value) (w : World) (v2 v3 v5 : Value) (th lo L : List Int) (N : Nat) : Prop where
  A : IMap Try.prog 3 w bA V.objects.length (atF V)
  S : IMap Try.prog 3 w bS N (seenF L)
  o2 : OwnI 3 w v2 th
  o3 : OwnI 3 w v3 lo
  o5 : OwnI 3 w v5 L
  V : Blk w bV 26 cV
  d23 : ∀ k ∈ fpv v2, k ∉ fpv v3
  d25 : ∀ k ∈ fpv v2, k ∉ fpv v5
  d35 : ∀ k ∈ fpv v3, k ∉ fpv v5
  dA : bA ≠ bS
  c : Chg [] w0 w
  f2 : ∀ k ∈ fpv v2, w0.heap.size ≤ k
  f3 : ∀ k ∈ fpv v3, w0.heap.size ≤ k
  f5 : ∀ k ∈ fpv v5, w0.heap.size ≤ k
  fS : w0.heap.size ≤ bS
section
variable {w0 w w' : World} {V : Vw} {bV bA bS N : Nat} {cV : Array Value} {v2 v3 v5 v' : Value} {th lo L : List Int}
theorem WkM.chg0 (I : WkM w0 V bV bA bS cV w v2 v3 v5 th lo L N) (c : Chg [] w w') : WkM w0 V bV bA bS cV w' v2 v3 v5 th lo L N :=
  ⟨I.A.chg c (by simp), I.S.chg c (by simp), I.o2.chg0 c, I.o3.chg0 c, I.o5.chg0 c, c.blk I.V (by simp), I.d23, I.d25, I.d35, I.dA, I.c.trans c, I.f2, I.f3, I.f5, I.fS⟩
theorem only1 {k b : Nat} (h : k ∈ [b]) : k = b := by simpa using h
theorem fresh_not {E : TypeId} {v u v' : Value} {xs : List Int} (ho : OwnI E w u xs) (S : Stp (fpv v) (fpv v') w w') (hd : ∀ k ∈ fpv v, k ∉ fpv u) : ∀ k ∈ fpv v', k ∉ fpv u := fun k hk hm => by
  rcases S.f k hk with h1 | h1
  · exact hd k h1 hm
  · have := ho.lt hm; omega
theorem fresh_ge {v v' : Value} (S : Stp (fpv v) (fpv v') w w') (c : Chg [] w0 w) (hf : ∀ k ∈ fpv v, w0.heap.size ≤ k) : ∀ k ∈ fpv v', w0.heap.size ≤ k := fun k hk => by
  rcases S.f k hk with h1 | h1
  · exact hf k h1
  · exact Nat.le_trans c.size h1
theorem WkM.push2 (I : WkM w0 V bV bA bS cV w v2 v3 v5 th lo L N) {th' : List Int} (O : OwnI 3 w' v' th') (S : Stp (fpv v2) (fpv v') w w') : WkM w0 V bV bA bS cV w' v' v3 v5 th' lo L N :=
  ⟨I.A.chg S.c (I.A.ne_own I.o2), I.S.chg S.c (I.S.ne_own I.o2), O, I.o3.chg S.c (fun k hk hm => I.d23 k hm hk), I.o5.chg S.c (fun k hk hm => I.d25 k hm hk), S.c.blk I.V (I.o2.ne_blk I.V (by decide)),
    fresh_not I.o3 S I.d23, fresh_not I.o5 S I.d25, I.d35, I.dA, I.c.new S.c I.f2, fresh_ge S I.c I.f2, I.f3, I.f5, I.fS⟩
theorem WkM.push3 (I : WkM w0 V bV bA bS cV w v2 v3 v5 th lo L N) {lo' : List Int} (O : OwnI 3 w' v' lo') (S : Stp (fpv v3) (fpv v') w w') : WkM w0 V bV bA bS cV w' v2 v' v5 th lo' L N :=
  ⟨I.A.chg S.c (I.A.ne_own I.o3), I.S.chg S.c (I.S.ne_own I.o3), I.o2.chg S.c (fun k hk hm => I.d23 k hk hm), O, I.o5.chg S.c (fun k hk hm => I.d35 k hm hk), S.c.blk I.V (I.o3.ne_blk I.V (by decide)),
    fun k hk hm => fresh_not I.o2 S (fun j h1 h2 => I.d23 j h2 h1) k hm hk, I.d25, fresh_not I.o5 S I.d35, I.dA, I.c.new S.c I.f3, I.f2, fresh_ge S I.c I.f3, I.f5, I.fS⟩
theorem WkM.push5 (I : WkM w0 V bV bA bS cV w v2 v3 v5 th lo L N) {w1 : World} {L' : List Int} {M : Nat} (M1 : IMap Try.prog 3 w1 bS M (seenF L')) (C : Chg [bS] w w1) (O : OwnI 3 w' v' L') (S : Stp (fpv v5) (fpv v') w1 w') : WkM w0 V bV bA bS cV w' v2 v3 v' th lo L' M := by
  have o2 : OwnI 3 w1 v2 th := I.o2.chg C (fun k hk hm => I.S.ne_own I.o2 (only1 hm ▸ hk))
  have o3 : OwnI 3 w1 v3 lo := I.o3.chg C (fun k hk hm => I.S.ne_own I.o3 (only1 hm ▸ hk))
  have o5 : OwnI 3 w1 v5 L := I.o5.chg C (fun k hk hm => I.S.ne_own I.o5 (only1 hm ▸ hk))
  have A1 := I.A.chg C (by simpa using I.dA)
  have V1 := C.blk I.V (by simpa using Ne.symm (I.S.ne_blk I.V))
  have c1 := I.c.new C (by simpa using I.fS)
  exact ⟨A1.chg S.c (A1.ne_own o5), M1.chg S.c (M1.ne_own o5), o2.chg S.c (fun k hk hm => I.d25 k hk hm), o3.chg S.c (fun k hk hm => I.d35 k hk hm), O, S.c.blk V1 (o5.ne_blk V1 (by decide)), I.d23,
    fun k hk hm => fresh_not o2 S (fun j h1 h2 => I.d25 j h2 h1) k hm hk, fun k hk hm => fresh_not o3 S (fun j h1 h2 => I.d35 j h2 h1) k hm hk, I.dA, c1.new S.c I.f5, I.f2, I.f3, fresh_ge S c1 I.f5, I.fS⟩
end
end Go.Proofs.Ytfkgooliglcjkaa
