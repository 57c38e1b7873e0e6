/- Package cache: a heap's invariant: each span stands in just one place. Plain. -/
/- Package cache: the invariant through Flush, Begin, Sweep. Plain. -/
import Derived.Test.YtcnchgbngcnijaaGreatDoorMHp
import Derived.Test.YtcnchgbngcnijaaGreatDoorMCc
namespace Go.Proofs.YtcnchgbngcnijaaGreatDoor
open Go.RowKit Go.Maps

/-- z: the span in hand, in no place. -/
structure HpI (A : HpA) (z : Option Nat) : Prop where
  r : ∀ j x, x ∈ A.r j → j < 64 ∧ ∃ s, A.a.sp x = some s ∧ s.k = j / 4 ∧ (j % 2 = 1 ↔ fullS s)
  nd : ∀ j, (A.r j).Nodup
  dj : ∀ i j x, x ∈ A.r i → x ∈ A.r j → i = j
  o : ∀ p k, p < A.P → k < 16 → A.own p k = -1 ∨ ∃ (id : Nat) (s : Sp), A.own p k = id ∧ A.a.sp id = some s ∧ s.k = k
  oi : ∀ p q k l, p < A.P → q < A.P → k < 16 → l < 16 → A.own p k = A.own q l → A.own p k = -1 ∨ (p = q ∧ k = l)
  ro : ∀ p k (id : Nat), p < A.P → k < 16 → A.own p k = id → ∀ j, id ∉ A.r j
  P : A.P ≤ 64
  zz : ∀ id, z = some id → (∃ s, A.a.sp id = some s) ∧ (∀ j, id ∉ A.r j) ∧ ∀ p k, p < A.P → k < 16 → A.own p k ≠ (id : Nat)
  all : ∀ id s, A.a.sp id = some s → z = some id ∨ (∃ j, id ∈ A.r j) ∨ ∃ p k, p < A.P ∧ k < 16 ∧ A.own p k = (id : Nat)
theorem nodup_le {l : List Nat} {N : Nat} (h : l.Nodup) (hl : ∀ x ∈ l, x < N) : l.length ≤ N := by
  induction N generalizing l with
  | zero => cases l with
    | nil => exact Nat.le_refl _
    | cons x xs => have := hl x (List.mem_cons_self ..); omega
  | succ N ih =>
    have h1 := ih (l := l.erase N) (h.erase N) (fun x hx => by
      have h2 := hl x (List.mem_of_mem_erase hx)
      have h3 : x ≠ N := fun e => by
        rw [e] at hx
        exact (List.Nodup.mem_erase_iff h).1 hx |>.1 rfl
      omega)
    rw [List.length_erase] at h1
    split at h1 <;> omega
section
variable {A : HpA} {z : Option Nat}
theorem HpI.ids (I : HpI A z) {N : Nat} (ok : ArOk N A.a) {j x : Nat} (h : x ∈ A.r j) : x < N := by
  obtain ⟨-, s, hs, -⟩ := I.r j x h
  exact ok.top x s hs
theorem HpI.len (I : HpI A z) {N : Nat} (ok : ArOk N A.a) (j : Nat) : (A.r j).length ≤ N := nodup_le (I.nd j) (fun _ hx => I.ids ok hx)
theorem HpI.B (I : HpI A z) {N : Nat} (ok : ArOk N A.a) (hN : N ≤ 6000) : HpB A :=
  ⟨fun j => by have := I.len ok j; omega, fun j x hx => by have := I.ids ok hx; omega, fun p k hp hk => by
    rcases I.o p k hp hk with h | ⟨id, s, h, hs, -⟩
    · exact .inl h
    · have := ok.top id s hs
      exact .inr ⟨id, h, by omega⟩, I.P⟩
/-- Out of a row: last or first. -/
theorem HpI.take (I : HpI A none) {j x : Nat} {xs : List Nat} (h : (A.r j).Perm (x :: xs)) : HpI { A with r := updV A.r j xs } (some x) := by
  have hx : x ∈ A.r j := h.mem_iff.2 (List.mem_cons_self ..)
  have nd := h.nodup_iff.1 (I.nd j)
  rw [List.nodup_cons] at nd
  have mem : ∀ {i y}, y ∈ updV A.r j xs i → y ∈ A.r i := fun {i y} hy => by
    unfold updV at hy
    split at hy
    · next e => rw [e]; exact h.mem_iff.2 (List.mem_cons_of_mem _ hy)
    · exact hy
  refine ⟨fun i y hy => I.r i y (mem hy), fun i => ?_, fun i i' y h1 h2 => I.dj i i' y (mem h1) (mem h2), I.o, I.oi, fun p k id hp hk ho i hi => I.ro p k id hp hk ho i (mem hi), I.P, fun id hid => ?_, fun id s hs => ?_⟩
  · show (updV A.r j xs i).Nodup
    unfold updV
    split
    · exact nd.2
    · exact I.nd i
  · injection hid with hid; subst hid
    obtain ⟨-, s, hs, -⟩ := I.r j x hx
    refine ⟨⟨s, hs⟩, fun i hi => ?_, fun p k hp hk ho => I.ro p k x hp hk ho j hx⟩
    have e := I.dj i j x (mem hi) hx
    subst e
    have hi' : x ∈ updV A.r i xs i := hi
    rw [updV_same] at hi'
    exact nd.1 hi'
  · rcases I.all id s hs with h1 | ⟨i, h1⟩ | h1
    · cases h1
    · by_cases e : id = x
      · exact .inl (by rw [e])
      · refine .inr (.inl ⟨i, ?_⟩)
        show id ∈ updV A.r j xs i
        unfold updV
        split
        · next e2 =>
          rw [e2] at h1
          rcases List.mem_cons.1 (h.mem_iff.1 h1) with h2 | h2
          · exact absurd h2 e
          · exact h2
        · exact h1
    · exact .inr (.inr h1)
/-- What is in no row is put out of none. -/
theorem DelTo.none_ {r r1 : Nat → List Nat} {id : Nat} (h : DelTo r id r1) (hn : ∀ j, id ∉ r j) : r1 = r := by
  rcases h with ⟨h, -⟩ | ⟨j, -, h2, -⟩
  · exact h
  · exact absurd h2 (hn j)
theorem sd_le (b : Bool) : sd b ≤ 1 := by cases b <;> decide
theorem sd_one (b : Bool) : sd b = 1 ↔ b = true := by cases b <;> decide
theorem HpI.put {x k : Nat} {full : Bool} {s : Sp} (I : HpI A (some x)) (hs : A.a.sp x = some s) (hk : s.k = k) (hk2 : k < 16) (hf : full = true ↔ fullS s) : HpI { A with r := updV A.r (k * 4 + sd full) (A.r (k * 4 + sd full) ++ [x]) } none := by
  obtain ⟨-, hn, ho⟩ := I.zz x rfl
  have h1 := sd_le full
  have mem : ∀ {i y}, y ∈ updV A.r (k * 4 + sd full) (A.r (k * 4 + sd full) ++ [x]) i → y ∈ A.r i ∨ (y = x ∧ i = k * 4 + sd full) := fun {i y} hy => by
    unfold updV at hy
    split at hy
    · next e =>
      rcases List.mem_append.1 hy with h | h
      · exact .inl (by rw [e]; exact h)
      · exact .inr ⟨by simpa using h, e⟩
    · exact .inl hy
  refine ⟨fun i y hy => ?_, fun i => ?_, fun i i' y hy hy' => ?_, I.o, I.oi, fun p q id hp hq hid i hi => ?_, I.P, fun _ h => (by cases h), fun id t ht => ?_⟩
  · rcases mem hy with h | ⟨rfl, rfl⟩
    · exact I.r i y h
    · refine ⟨by omega, s, hs, by omega, ?_⟩
      rw [← hf, ← sd_one]
      omega
  · show (updV A.r (k * 4 + sd full) (A.r (k * 4 + sd full) ++ [x]) i).Nodup
    unfold updV
    split
    · rw [List.nodup_append]
      exact ⟨I.nd _, by simp, fun a ha b hb => by simp at hb; subst hb; exact fun e => hn _ (e ▸ ha)⟩
    · exact I.nd i
  · rcases mem hy with h | ⟨rfl, rfl⟩
    · rcases mem hy' with h' | ⟨rfl, rfl⟩
      · exact I.dj i i' y h h'
      · exact absurd h (hn i)
    · rcases mem hy' with h' | ⟨-, rfl⟩
      · exact absurd h' (hn i')
      · rfl
  · rcases mem hi with h | ⟨rfl, rfl⟩
    · exact I.ro p q id hp hq hid i h
    · exact ho p q hp hq hid
  · rcases I.all id t ht with h | ⟨i, h⟩ | h
    · injection h with h; subst h
      refine .inr (.inl ⟨k * 4 + sd full, ?_⟩)
      show x ∈ updV A.r _ _ _
      rw [updV_same]; simp
    · refine .inr (.inl ⟨i, ?_⟩)
      show id ∈ updV A.r _ _ _
      unfold updV
      split
      · next e => rw [← e]; exact List.mem_append_left _ h
      · exact h
    · exact .inr (.inr h)
/-- A span turned that stands in no row. -/
theorem HpI.turn (I : HpI A z) {a' : Ar} {x : Nat} {s s' : Sp} (hs : A.a.sp x = some s) (e : a'.sp = updF A.a.sp x (some s')) (hk : s'.k = s.k) (hn : ∀ j, x ∉ A.r j) : HpI { A with a := a' } z := by
  have get : ∀ y t, A.a.sp y = some t → ∃ t', a'.sp y = some t' ∧ t'.k = t.k ∧ (y ≠ x → t' = t) := fun y t ht => by
    rw [e]
    by_cases h : y = x
    · subst h
      rw [hs] at ht; injection ht with ht; subst ht
      exact ⟨s', updF_same _ _ _, hk, fun h => absurd rfl h⟩
    · exact ⟨t, (updF_other _ _ h).trans ht, rfl, fun _ => rfl⟩
  refine ⟨fun j y hy => ?_, I.nd, I.dj, fun p k hp hk => ?_, I.oi, I.ro, I.P, fun id hid => ?_, fun id t ht => ?_⟩
  · obtain ⟨h1, t, ht, h2, h3⟩ := I.r j y hy
    obtain ⟨t', ht', h4, h5⟩ := get y t ht
    have := h5 (fun e => hn j (e ▸ hy))
    subst this
    exact ⟨h1, t', ht', h2, h3⟩
  · rcases I.o p k hp hk with h | ⟨id, t, h, ht, h2⟩
    · exact .inl h
    · obtain ⟨t', ht', h4, -⟩ := get id t ht
      exact .inr ⟨id, t', h, ht', h4.trans h2⟩
  · obtain ⟨⟨t, ht⟩, h1, h2⟩ := I.zz id hid
    obtain ⟨t', ht', -⟩ := get id t ht
    exact ⟨⟨t', ht'⟩, h1, h2⟩
  · have ht0 : a'.sp id = some t := ht
    rw [e] at ht0
    by_cases h : id = x
    · subst h; exact I.all id s hs
    · rw [updF_other _ _ h] at ht0; exact I.all id t ht0
/-- A new span. -/
theorem HpI.fresh (I : HpI A none) {a' : Ar} {x : Nat} {s : Sp} (hx : A.a.sp x = none) (e : a'.sp = updF A.a.sp x (some s)) : HpI { A with a := a' } (some x) := by
  have get : ∀ y t, A.a.sp y = some t → y ≠ x ∧ a'.sp y = some t := fun y t ht => by
    rw [e]
    by_cases h : y = x
    · subst h; rw [hx] at ht; cases ht
    · exact ⟨h, (updF_other _ _ h).trans ht⟩
  refine ⟨fun j y hy => ?_, I.nd, I.dj, fun p k hp hk => ?_, I.oi, I.ro, I.P, fun id hid => ?_, fun id t ht => ?_⟩
  · obtain ⟨h1, t, ht, h2⟩ := I.r j y hy
    exact ⟨h1, t, (get y t ht).2, h2⟩
  · rcases I.o p k hp hk with h | ⟨id, t, h, ht, h2⟩
    · exact .inl h
    · exact .inr ⟨id, t, h, (get id t ht).2, h2⟩
  · injection hid with hid; subst hid
    refine ⟨⟨s, ?_⟩, fun j hj => ?_, fun p k hp hk ho => ?_⟩
    · show a'.sp x = _
      rw [e]; exact updF_same _ _ _
    · obtain ⟨-, t, ht, -⟩ := I.r j x hj
      rw [hx] at ht; cases ht
    · have ho' : A.own p k = (x : Nat) := ho
      rcases I.o p k hp hk with h | ⟨id, t, h, ht, -⟩
      · omega
      · have : id = x := by omega
        subst this
        rw [hx] at ht; cases ht
  · have ht0 : a'.sp id = some t := ht
    rw [e] at ht0
    by_cases h : id = x
    · exact .inl (by rw [h])
    · rw [updF_other _ _ h] at ht0
      rcases I.all id t ht0 with h1 | h1
      · cases h1
      · exact .inr h1
/-- The span in hand, given to a P. -/
theorem HpI.give {x : Nat} {s : Sp} (I : HpI A (some x)) (hs : A.a.sp x = some s) {p k : Nat} (hp : p < A.P) (hk : k < 16) (hsk : s.k = k) (h0 : A.own p k = -1) : HpI { A with own := updV A.own p (updV (A.own p) k (x : Nat)) } none := by
  obtain ⟨-, hn, ho⟩ := I.zz x rfl
  have at_ : ∀ q l, updV A.own p (updV (A.own p) k ((x : Nat) : Int)) q l = if q = p ∧ l = k then ((x : Nat) : Int) else A.own q l := fun q l => by
    unfold updV
    by_cases e : q = p
    · subst e
      by_cases e2 : l = k
      · subst e2; simp
      · simp [e2]
    · simp [e]
  refine ⟨I.r, I.nd, I.dj, fun q l hq hl => ?_, fun q q' l l' hq hq' hl hl' h => ?_, fun q l id hq hl hid j hj => ?_, I.P, fun _ h => (by cases h), fun id t ht => ?_⟩
  · show updV A.own p _ q l = -1 ∨ ∃ (id : Nat) (s : Sp), updV A.own p _ q l = _ ∧ _
    rw [at_]
    split
    · next h => exact .inr ⟨x, s, rfl, hs, by rw [hsk, h.2]⟩
    · exact I.o q l hq hl
  · have h' : updV A.own p (updV (A.own p) k ((x : Nat) : Int)) q l = updV A.own p (updV (A.own p) k ((x : Nat) : Int)) q' l' := h
    show updV A.own p _ q l = -1 ∨ _
    rw [at_] at h' ⊢
    rw [at_] at h'
    by_cases c1 : q = p ∧ l = k
    · by_cases c2 : q' = p ∧ l' = k
      · exact .inr ⟨c1.1.trans c2.1.symm, c1.2.trans c2.2.symm⟩
      · rw [if_pos c1, if_neg c2] at h'
        exact absurd h'.symm (ho q' l' hq' hl')
    · by_cases c2 : q' = p ∧ l' = k
      · rw [if_neg c1, if_pos c2] at h'
        exact absurd h' (ho q l hq hl)
      · rw [if_neg c1, if_neg c2] at h'
        rw [if_neg c1]
        exact I.oi q q' l l' hq hq' hl hl' h'
  · have h' : updV A.own p (updV (A.own p) k ((x : Nat) : Int)) q l = (id : Nat) := hid
    rw [at_] at h'
    split at h'
    · have : x = id := by omega
      exact hn j (this ▸ hj)
    · exact I.ro q l id hq hl h' j hj
  · rcases I.all id t ht with h | h | ⟨q, l, hq, hl, h⟩
    · injection h with h; subst h
      exact .inr (.inr ⟨p, k, hp, hk, by show updV A.own p _ p k = _; rw [at_, if_pos ⟨rfl, rfl⟩]⟩)
    · exact .inr (.inl h)
    · refine .inr (.inr ⟨q, l, hq, hl, ?_⟩)
      show updV A.own p _ q l = _
      rw [at_, if_neg]
      · exact h
      · rintro ⟨rfl, rfl⟩; omega
/-- A P's span taken in hand. -/
theorem HpI.back (I : HpI A none) {x p k : Nat} (hp : p < A.P) (hk : k < 16) (h0 : A.own p k = (x : Nat)) : HpI { A with own := updV A.own p (updV (A.own p) k (-1)) } (some x) := by
  have at_ : ∀ q l, updV A.own p (updV (A.own p) k (-1)) q l = if q = p ∧ l = k then -1 else A.own q l := fun q l => by
    unfold updV
    by_cases e : q = p
    · subst e
      by_cases e2 : l = k
      · subst e2; simp
      · simp [e2]
    · simp [e]
  refine ⟨I.r, I.nd, I.dj, fun q l hq hl => ?_, fun q q' l l' hq hq' hl hl' h => ?_, fun q l id hq hl hid j hj => ?_, I.P, fun id h => ?_, fun id t ht => ?_⟩
  · show updV A.own p _ q l = -1 ∨ ∃ (id : Nat) (s : Sp), updV A.own p _ q l = _ ∧ _
    rw [at_]
    split
    · exact .inl rfl
    · exact I.o q l hq hl
  · have h' : updV A.own p (updV (A.own p) k (-1)) q l = updV A.own p (updV (A.own p) k (-1)) q' l' := h
    show updV A.own p _ q l = -1 ∨ _
    rw [at_] at h' ⊢
    rw [at_] at h'
    by_cases c1 : q = p ∧ l = k
    · rw [if_pos c1]; exact .inl rfl
    · rw [if_neg c1] at h' ⊢
      by_cases c2 : q' = p ∧ l' = k
      · rw [if_pos c2] at h'; exact .inl h'
      · rw [if_neg c2] at h'
        exact I.oi q q' l l' hq hq' hl hl' h'
  · have h' : updV A.own p (updV (A.own p) k (-1)) q l = (id : Nat) := hid
    rw [at_] at h'
    split at h'
    · omega
    · exact I.ro q l id hq hl h' j hj
  · injection h with h; subst h
    refine ⟨?_, I.ro p k x hp hk h0, fun q l hq hl h => ?_⟩
    · rcases I.o p k hp hk with h | ⟨id, s, h, hs, -⟩
      · omega
      · have : id = x := by omega
        exact ⟨s, this ▸ hs⟩
    · have h' : updV A.own p (updV (A.own p) k (-1)) q l = (x : Nat) := h
      rw [at_] at h'
      split at h'
      · omega
      · next hne =>
        rcases I.oi q p l k hq hp hl hk (h'.trans h0.symm) with h1 | h1
        · omega
        · exact hne h1
  · rcases I.all id t ht with h | h | ⟨q, l, hq, hl, h⟩
    · cases h
    · exact .inr (.inl h)
    · by_cases c : q = p ∧ l = k
      · obtain ⟨rfl, rfl⟩ := c
        have : id = x := by omega
        exact .inl (by rw [this])
      · refine .inr (.inr ⟨q, l, hq, hl, ?_⟩)
        show updV A.own p _ q l = _
        rw [at_, if_neg c]; exact h
end
end Go.Proofs.YtcnchgbngcnijaaGreatDoor
namespace Go.Proofs.YtcnchgbngcnijaaGreatDoor
open Go.RowKit Go.Maps

section
variable {A : HpA}
theorem HpI.putTo {x k : Nat} {s : Sp} {r' : Nat → List Nat} (I : HpI A (some x)) (hs : A.a.sp x = some s) (hk : s.k = k) (hk2 : k < 16) (h : PutTo A.a A.r k x r') : HpI { A with r := r' } none := by
  obtain ⟨r1, full, hd, hf, rfl⟩ := h
  have := hd.none_ (I.zz x rfl).2.1
  subst this
  refine I.put hs hk hk2 (hf.trans ⟨fun h => h s (by unfold spI; rw [if_pos (by omega), Int.toNat_natCast]; exact hs), fun h t ht => ?_⟩)
  unfold spI at ht
  rw [if_pos (by omega), Int.toNat_natCast, hs] at ht
  injection ht with ht
  rw [← ht]; exact h
theorem HpI.flushN (I : HpI A none) {p : Nat} (hp : p < A.P) : ∀ {n : Nat} {r' : Nat → List Nat}, n ≤ 16 → FlR A.a (A.own p) n A.r r' → HpI { A with r := r', own := updV A.own p (flO (A.own p) n) } none
  | 0, r', _, h => by
    have h' : r' = A.r := h
    subst h'
    rw [flO_zero, updV_self]; exact I
  | n + 1, r', hn, ⟨r1, h1, h2⟩ => by
    have J := HpI.flushN I hp (by omega) h1
    rcases h2 with ⟨h3, rfl⟩ | ⟨id, h3, h4⟩
    · rw [← flO_same h3]; exact J
    · have e1 : updV A.own p (flO (A.own p) n) p n = (id : Nat) := by rw [updV_same, flO_at]; exact h3
      have K := J.back hp (by omega : n < 16) e1
      have e2 : updV (updV A.own p (flO (A.own p) n)) p (updV (updV A.own p (flO (A.own p) n) p) n (-1)) = updV A.own p (flO (A.own p) (n + 1)) := by
        rw [updV_same, flO_set]
        funext i
        unfold updV
        split <;> rfl
      have K2 : HpI { A with r := r1, own := updV A.own p (flO (A.own p) (n + 1)) } (some id) := by rw [← e2]; exact K
      rcases I.o p n hp (by omega) with h5 | ⟨id', s, h5, hs, hk⟩
      · omega
      · have : id' = id := by omega
        subst this
        exact K2.putTo hs hk (by omega) h4
theorem HpI.flush (I : HpI A none) {p : Nat} (hp : p < A.P) {r' : Nat → List Nat} (h : FlR A.a (A.own p) 16 A.r r') : HpI { A with r := r', own := updV A.own p (flO (A.own p) 16) } none := I.flushN hp (Nat.le_refl _) h
/-- All Ps flushed, one by one. -/
def FaR (a : Ar) (own : Nat → Nat → Int) : Nat → (Nat → List Nat) → (Nat → List Nat) → Prop
  | 0, r, r' => r' = r
  | p + 1, r, r' => ∃ r1, FaR a own p r r1 ∧ FlR a (own p) 16 r1 r'
def faO (own : Nat → Nat → Int) (n : Nat) : Nat → Nat → Int := fun q => if q < n then flO (own q) 16 else own q
theorem faO_zero (own : Nat → Nat → Int) : faO own 0 = own := by funext k; unfold faO; rw [if_neg (by omega)]
theorem faO_at (own : Nat → Nat → Int) (n : Nat) : faO own n n = own n := by unfold faO; rw [if_neg (by omega)]
theorem faO_set (own : Nat → Nat → Int) (n : Nat) : updV (faO own n) n (flO (own n) 16) = faO own (n + 1) := by
  funext k
  unfold updV faO
  by_cases e : k = n
  · rw [if_pos e, if_pos (by omega), e]
  · rw [if_neg e]
    by_cases h : k < n
    · rw [if_pos h, if_pos (by omega)]
    · rw [if_neg h, if_neg (by omega)]
theorem HpI.flushAll (I : HpI A none) : ∀ {n : Nat} {r' : Nat → List Nat}, n ≤ A.P → FaR A.a A.own n A.r r' → HpI { A with r := r', own := faO A.own n } none
  | 0, r', _, h => by
    have h' : r' = A.r := h
    subst h'
    rw [faO_zero]; exact I
  | n + 1, r', hn, ⟨r1, h1, h2⟩ => by
    have J := HpI.flushAll I (by omega) h1
    have e : faO A.own n n = A.own n := faO_at _ _
    have K := J.flush (p := n) (by show n < A.P; omega) (r' := r') (by show FlR A.a (faO A.own n n) 16 r1 r'; rw [e]; exact h2)
    rw [← faO_set]
    have e2 : flO (faO A.own n n) 16 = flO (A.own n) 16 := by rw [e]
    rw [← e2]
    exact K
theorem PutTo.un {a : Ar} {r r' : Nat → List Nat} {k id : Nat} (h : PutTo a r k id r') {j x : Nat} (hj : 2 ≤ j % 4) (hx : x ∈ r' j) : x ∈ r j := by
  obtain ⟨r1, full, hd, -, rfl⟩ := h
  have := sd_le full
  unfold updV at hx
  rw [if_neg (by omega)] at hx
  exact hd.mem hx
theorem FlR.un {a : Ar} {f : Nat → Int} : ∀ {n : Nat} {r r' : Nat → List Nat}, FlR a f n r r' → ∀ {j x : Nat}, 2 ≤ j % 4 → x ∈ r' j → x ∈ r j
  | 0, r, r', h, j, x, _, hx => by rw [h] at hx; exact hx
  | n + 1, r, r', ⟨r1, h1, h2⟩, j, x, hj, hx => by
    rcases h2 with ⟨-, rfl⟩ | ⟨id, hid, h3⟩
    · exact h1.un hj hx
    · exact h1.un hj (h3.un hj hx)
theorem FaR.un {a : Ar} {own : Nat → Nat → Int} : ∀ {n : Nat} {r r' : Nat → List Nat}, FaR a own n r r' → ∀ {j x : Nat}, 2 ≤ j % 4 → x ∈ r' j → x ∈ r j
  | 0, r, r', h, j, x, _, hx => by rw [h] at hx; exact hx
  | n + 1, r, r', ⟨r1, h1, h2⟩, j, x, hj, hx => h1.un hj (h2.un hj hx)
theorem unsN_zero {r : Nat → List Nat} : ∀ {n : Nat}, unsN r n = 0 ↔ ∀ k, k < n → r (k * 4 + 2) = [] ∧ r (k * 4 + 3) = []
  | 0 => ⟨fun _ k h => by omega, fun _ => rfl⟩
  | n + 1 => by
    rw [unsN]
    constructor
    · intro h k hk
      have h1 : (r (n * 4 + 2)) = [] := List.eq_nil_of_length_eq_zero (by omega)
      have h2 : (r (n * 4 + 3)) = [] := List.eq_nil_of_length_eq_zero (by omega)
      by_cases e : k = n
      · rw [e]; exact ⟨h1, h2⟩
      · exact (unsN_zero (n := n)).1 (by omega) k (by omega)
    · intro h
      obtain ⟨h1, h2⟩ := h n (by omega)
      rw [(unsN_zero (n := n)).2 (fun k hk => h k (by omega)), h1, h2]; rfl
theorem HpI.unz {z : Option Nat} (I : HpI A z) (h : unsN A.r 16 = 0) {j : Nat} (hj : 2 ≤ j % 4) : A.r j = [] := by
  rcases Nat.lt_or_ge j 64 with h1 | h1
  · obtain ⟨h2, h3⟩ := unsN_zero.1 h (j / 4) (by omega)
    have : j = j / 4 * 4 + 2 ∨ j = j / 4 * 4 + 3 := by omega
    rcases this with e | e
    · rw [e]; exact h2
    · rw [e]; exact h3
  · rw [List.eq_nil_iff_forall_not_mem]
    intro x hx
    have := (I.r j x hx).1
    omega
theorem bgR_at {r : Nat → List Nat} (h : ∀ j, 2 ≤ j % 4 → r j = []) (h64 : ∀ j, 64 ≤ j → r j = []) (j : Nat) : bgR r 32 j = if j % 4 < 2 then [] else r (j - 2) := by
  unfold bgR
  by_cases h1 : j / 4 * 2 + j % 2 < 32
  · rw [if_pos h1]
    split
    · rfl
    · rw [h j (by omega), List.nil_append]
  · rw [if_neg h1, h64 j (by omega)]
    split
    · rfl
    · rw [h64 (j - 2) (by omega)]
theorem HpI.begin {z : Option Nat} (I : HpI A z) (h : ∀ j, 2 ≤ j % 4 → A.r j = []) : HpI { A with r := bgR A.r 32 } z := by
  have h64 : ∀ j, 64 ≤ j → A.r j = [] := fun j hj => by
    rw [List.eq_nil_iff_forall_not_mem]
    intro x hx
    have := (I.r j x hx).1
    omega
  have mem : ∀ {j x}, x ∈ bgR A.r 32 j → 2 ≤ j % 4 ∧ x ∈ A.r (j - 2) := fun {j x} hx => by
    rw [bgR_at h h64] at hx
    split at hx
    · cases hx
    · exact ⟨by omega, hx⟩
  refine ⟨fun j x hx => ?_, fun j => ?_, fun i j x hi hj => ?_, I.o, I.oi, fun p k id hp hk hid j hj => I.ro p k id hp hk hid _ (mem hj).2, I.P, fun id hid => ⟨(I.zz id hid).1, fun j hj => (I.zz id hid).2.1 _ (mem hj).2, (I.zz id hid).2.2⟩, fun id s hs => ?_⟩
  · obtain ⟨h1, h2⟩ := mem hx
    obtain ⟨h3, s, hs, h4, h5⟩ := I.r _ x h2
    have h6 : (j - 2) % 4 < 2 := by
      rcases Nat.lt_or_ge ((j - 2) % 4) 2 with h6 | h6
      · exact h6
      · rw [h _ h6] at h2; cases h2
    exact ⟨by omega, s, hs, by omega, by rw [← h5]; omega⟩
  · show (bgR A.r 32 j).Nodup
    rw [bgR_at h h64]
    split
    · exact List.nodup_nil
    · exact I.nd _
  · have := I.dj _ _ x (mem hi).2 (mem hj).2
    have := (mem hi).1
    have := (mem hj).1
    omega
  · rcases I.all id s hs with h1 | ⟨j, h1⟩ | h1
    · exact .inl h1
    · refine .inr (.inl ⟨j + 2, ?_⟩)
      show id ∈ bgR A.r 32 (j + 2)
      rw [bgR_at h h64]
      have h6 : j % 4 < 2 := by
        rcases Nat.lt_or_ge (j % 4) 2 with h6 | h6
        · exact h6
        · rw [h _ h6] at h1; cases h1
      rw [if_neg (by omega), Nat.add_sub_cancel]; exact h1
    · exact .inr (.inr h1)
/-- One span taken from its row, swept, and put. -/
theorem HpI.sweep {x : Nat} {s : Sp} (I : HpI A (some x)) (hs : A.a.sp x = some s) (n : Nat) : HpI { A with a := sweepA A.a x s n } (some x) :=
  I.turn (s' := sweptS s) hs rfl rfl (I.zz x rfl).2.1
theorem HpI.swept {j x : Nat} {xs : List Nat} {s : Sp} {r' : Nat → List Nat} {n : Nat} (I : HpI A none) (h : A.r j = x :: xs) (hs : A.a.sp x = some s) (hk : j / 4 < 16) (hp : PutTo (sweepA A.a x s n) (updV A.r j xs) (j / 4) x r') : HpI { A with a := sweepA A.a x s n, r := r' } none := by
  have J := (I.take (j := j) (x := x) (xs := xs) (by rw [h])).sweep (s := s) hs n
  obtain ⟨-, t, ht, hk2, -⟩ := I.r j x (by rw [h]; simp)
  rw [hs] at ht; injection ht with ht; subst ht
  exact J.putTo (k := j / 4) (s := sweptS s) (r' := r') (updF_same _ _ _) hk2 hk hp
end
end Go.Proofs.YtcnchgbngcnijaaGreatDoor
