/- Package cache: the invariant through Flush, Begin, Sweep. Plain. -/
import Derived.Test.YtmafiagakoglkaaGreatDoorHpI
import Derived.Test.YtmafiagakoglkaaGreatDoorCe6
namespace Go.Proofs.YtmafiagakoglkaaGreatDoor
open Go.RowKit Go.Maps

section
variable {A : HpA}
theorem HpI.putTo {x k : Nat} {s : Sp} {r' : Nat → List Nat} (I : HpI A (some x)) (hs : A.a.sp x = some s) (hk : s.k = k) (hk2 : k < 16) (h : PutTo A.a A.r k x r') : HpI { A with r := r' } none := by
  obtain ⟨r1, full, hd, hf, rfl⟩ := h
  have := hd.none_ (I.zz x rfl).2.1
  subst this
  refine I.put hs hk hk2 (hf.trans ⟨fun h => h s (by unfold spI; rw [if_pos (by omega), Int.toNat_natCast]; exact hs), fun h t ht => ?_⟩)
  unfold spI at ht
  rw [if_pos (by omega), Int.toNat_natCast, hs] at ht
  injection ht with ht
  rw [← ht]; exact h
theorem HpI.flushN (I : HpI A none) {p : Nat} (hp : p < A.P) : ∀ {n : Nat} {r' : Nat → List Nat}, n ≤ 16 → FlR A.a (A.own p) n A.r r' → HpI { A with r := r', own := updV A.own p (flO (A.own p) n) } none
  | 0, r', _, h => by
    have h' : r' = A.r := h
    subst h'
    rw [flO_zero, updV_self]; exact I
  | n + 1, r', hn, ⟨r1, h1, h2⟩ => by
    have J := HpI.flushN I hp (by omega) h1
    rcases h2 with ⟨h3, rfl⟩ | ⟨id, h3, h4⟩
    · rw [← flO_same h3]; exact J
    · have e1 : updV A.own p (flO (A.own p) n) p n = (id : Nat) := by rw [updV_same, flO_at]; exact h3
      have K := J.back hp (by omega : n < 16) e1
      have e2 : updV (updV A.own p (flO (A.own p) n)) p (updV (updV A.own p (flO (A.own p) n) p) n (-1)) = updV A.own p (flO (A.own p) (n + 1)) := by
        rw [updV_same, flO_set]
        funext i
        unfold updV
        split <;> rfl
      have K2 : HpI { A with r := r1, own := updV A.own p (flO (A.own p) (n + 1)) } (some id) := by rw [← e2]; exact K
      rcases I.o p n hp (by omega) with h5 | ⟨id', s, h5, hs, hk⟩
      · omega
      · have : id' = id := by omega
        subst this
        exact K2.putTo hs hk (by omega) h4
theorem HpI.flush (I : HpI A none) {p : Nat} (hp : p < A.P) {r' : Nat → List Nat} (h : FlR A.a (A.own p) 16 A.r r') : HpI { A with r := r', own := updV A.own p (flO (A.own p) 16) } none := I.flushN hp (Nat.le_refl _) h
/-- All Ps flushed, one by one. -/
def FaR (a : Ar) (own : Nat → Nat → Int) : Nat → (Nat → List Nat) → (Nat → List Nat) → Prop
  | 0, r, r' => r' = r
  | p + 1, r, r' => ∃ r1, FaR a own p r r1 ∧ FlR a (own p) 16 r1 r'
def faO (own : Nat → Nat → Int) (n : Nat) : Nat → Nat → Int := fun q => if q < n then flO (own q) 16 else own q
theorem faO_zero (own : Nat → Nat → Int) : faO own 0 = own := by funext k; unfold faO; rw [if_neg (by omega)]
theorem faO_at (own : Nat → Nat → Int) (n : Nat) : faO own n n = own n := by unfold faO; rw [if_neg (by omega)]
theorem faO_set (own : Nat → Nat → Int) (n : Nat) : updV (faO own n) n (flO (own n) 16) = faO own (n + 1) := by
  funext k
  unfold updV faO
  by_cases e : k = n
  · rw [if_pos e, if_pos (by omega), e]
  · rw [if_neg e]
    by_cases h : k < n
    · rw [if_pos h, if_pos (by omega)]
    · rw [if_neg h, if_neg (by omega)]
theorem HpI.flushAll (I : HpI A none) : ∀ {n : Nat} {r' : Nat → List Nat}, n ≤ A.P → FaR A.a A.own n A.r r' → HpI { A with r := r', own := faO A.own n } none
  | 0, r', _, h => by
    have h' : r' = A.r := h
    subst h'
    rw [faO_zero]; exact I
  | n + 1, r', hn, ⟨r1, h1, h2⟩ => by
    have J := HpI.flushAll I (by omega) h1
    have e : faO A.own n n = A.own n := faO_at _ _
    have K := J.flush (p := n) (by show n < A.P; omega) (r' := r') (by show FlR A.a (faO A.own n n) 16 r1 r'; rw [e]; exact h2)
    rw [← faO_set]
    have e2 : flO (faO A.own n n) 16 = flO (A.own n) 16 := by rw [e]
    rw [← e2]
    exact K
theorem PutTo.un {a : Ar} {r r' : Nat → List Nat} {k id : Nat} (h : PutTo a r k id r') {j x : Nat} (hj : 2 ≤ j % 4) (hx : x ∈ r' j) : x ∈ r j := by
  obtain ⟨r1, full, hd, -, rfl⟩ := h
  have := sd_le full
  unfold updV at hx
  rw [if_neg (by omega)] at hx
  exact hd.mem hx
theorem FlR.un {a : Ar} {f : Nat → Int} : ∀ {n : Nat} {r r' : Nat → List Nat}, FlR a f n r r' → ∀ {j x : Nat}, 2 ≤ j % 4 → x ∈ r' j → x ∈ r j
  | 0, r, r', h, j, x, _, hx => by rw [h] at hx; exact hx
  | n + 1, r, r', ⟨r1, h1, h2⟩, j, x, hj, hx => by
    rcases h2 with ⟨-, rfl⟩ | ⟨id, hid, h3⟩
    · exact h1.un hj hx
    · exact h1.un hj (h3.un hj hx)
theorem FaR.un {a : Ar} {own : Nat → Nat → Int} : ∀ {n : Nat} {r r' : Nat → List Nat}, FaR a own n r r' → ∀ {j x : Nat}, 2 ≤ j % 4 → x ∈ r' j → x ∈ r j
  | 0, r, r', h, j, x, _, hx => by rw [h] at hx; exact hx
  | n + 1, r, r', ⟨r1, h1, h2⟩, j, x, hj, hx => h1.un hj (h2.un hj hx)
theorem unsN_zero {r : Nat → List Nat} : ∀ {n : Nat}, unsN r n = 0 ↔ ∀ k, k < n → r (k * 4 + 2) = [] ∧ r (k * 4 + 3) = []
  | 0 => ⟨fun _ k h => by omega, fun _ => rfl⟩
  | n + 1 => by
    rw [unsN]
    constructor
    · intro h k hk
      have h1 : (r (n * 4 + 2)) = [] := List.eq_nil_of_length_eq_zero (by omega)
      have h2 : (r (n * 4 + 3)) = [] := List.eq_nil_of_length_eq_zero (by omega)
      by_cases e : k = n
      · rw [e]; exact ⟨h1, h2⟩
      · exact (unsN_zero (n := n)).1 (by omega) k (by omega)
    · intro h
      obtain ⟨h1, h2⟩ := h n (by omega)
      rw [(unsN_zero (n := n)).2 (fun k hk => h k (by omega)), h1, h2]; rfl
theorem HpI.unz {z : Option Nat} (I : HpI A z) (h : unsN A.r 16 = 0) {j : Nat} (hj : 2 ≤ j % 4) : A.r j = [] := by
  rcases Nat.lt_or_ge j 64 with h1 | h1
  · obtain ⟨h2, h3⟩ := unsN_zero.1 h (j / 4) (by omega)
    have : j = j / 4 * 4 + 2 ∨ j = j / 4 * 4 + 3 := by omega
    rcases this with e | e
    · rw [e]; exact h2
    · rw [e]; exact h3
  · rw [List.eq_nil_iff_forall_not_mem]
    intro x hx
    have := (I.r j x hx).1
    omega
theorem bgR_at {r : Nat → List Nat} (h : ∀ j, 2 ≤ j % 4 → r j = []) (h64 : ∀ j, 64 ≤ j → r j = []) (j : Nat) : bgR r 32 j = if j % 4 < 2 then [] else r (j - 2) := by
  unfold bgR
  by_cases h1 : j / 4 * 2 + j % 2 < 32
  · rw [if_pos h1]
    split
    · rfl
    · rw [h j (by omega), List.nil_append]
  · rw [if_neg h1, h64 j (by omega)]
    split
    · rfl
    · rw [h64 (j - 2) (by omega)]
theorem HpI.begin {z : Option Nat} (I : HpI A z) (h : ∀ j, 2 ≤ j % 4 → A.r j = []) : HpI { A with r := bgR A.r 32 } z := by
  have h64 : ∀ j, 64 ≤ j → A.r j = [] := fun j hj => by
    rw [List.eq_nil_iff_forall_not_mem]
    intro x hx
    have := (I.r j x hx).1
    omega
  have mem : ∀ {j x}, x ∈ bgR A.r 32 j → 2 ≤ j % 4 ∧ x ∈ A.r (j - 2) := fun {j x} hx => by
    rw [bgR_at h h64] at hx
    split at hx
    · cases hx
    · exact ⟨by omega, hx⟩
  refine ⟨fun j x hx => ?_, fun j => ?_, fun i j x hi hj => ?_, I.o, I.oi, fun p k id hp hk hid j hj => I.ro p k id hp hk hid _ (mem hj).2, I.P, fun id hid => ⟨(I.zz id hid).1, fun j hj => (I.zz id hid).2.1 _ (mem hj).2, (I.zz id hid).2.2⟩, fun id s hs => ?_⟩
  · obtain ⟨h1, h2⟩ := mem hx
    obtain ⟨h3, s, hs, h4, h5⟩ := I.r _ x h2
    have h6 : (j - 2) % 4 < 2 := by
      rcases Nat.lt_or_ge ((j - 2) % 4) 2 with h6 | h6
      · exact h6
      · rw [h _ h6] at h2; cases h2
    exact ⟨by omega, s, hs, by omega, by rw [← h5]; omega⟩
  · show (bgR A.r 32 j).Nodup
    rw [bgR_at h h64]
    split
    · exact List.nodup_nil
    · exact I.nd _
  · have := I.dj _ _ x (mem hi).2 (mem hj).2
    have := (mem hi).1
    have := (mem hj).1
    omega
  · rcases I.all id s hs with h1 | ⟨j, h1⟩ | h1
    · exact .inl h1
    · refine .inr (.inl ⟨j + 2, ?_⟩)
      show id ∈ bgR A.r 32 (j + 2)
      rw [bgR_at h h64]
      have h6 : j % 4 < 2 := by
        rcases Nat.lt_or_ge (j % 4) 2 with h6 | h6
        · exact h6
        · rw [h _ h6] at h1; cases h1
      rw [if_neg (by omega), Nat.add_sub_cancel]; exact h1
    · exact .inr (.inr h1)
/-- One span taken from its row, swept, and put. -/
theorem HpI.sweep {x : Nat} {s : Sp} (I : HpI A (some x)) (hs : A.a.sp x = some s) (n : Nat) : HpI { A with a := sweepA A.a x s n } (some x) :=
  I.turn (s' := sweptS s) hs rfl rfl (I.zz x rfl).2.1
theorem HpI.swept {j x : Nat} {xs : List Nat} {s : Sp} {r' : Nat → List Nat} {n : Nat} (I : HpI A none) (h : A.r j = x :: xs) (hs : A.a.sp x = some s) (hk : j / 4 < 16) (hp : PutTo (sweepA A.a x s n) (updV A.r j xs) (j / 4) x r') : HpI { A with a := sweepA A.a x s n, r := r' } none := by
  have J := (I.take (j := j) (x := x) (xs := xs) (by rw [h])).sweep (s := s) hs n
  obtain ⟨-, t, ht, hk2, -⟩ := I.r j x (by rw [h]; simp)
  rw [hs] at ht; injection ht with ht; subst ht
  exact J.putTo (k := j / 4) (s := sweptS s) (r' := r') (updF_same _ _ _) hk2 hk hp
end
end Go.Proofs.YtmafiagakoglkaaGreatDoor
