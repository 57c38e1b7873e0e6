/- Lists of the call's own beside an arena; what stands in objects, told by two lists. Plain. -/
import Derived.Test.YtkocikpoagfonaaDoorSer
import Derived.Test.YtkocikpoagfonaaDoorZSl
namespace Go.Proofs.YtkocikpoagfonaaDoor
open Go.RowKit

structure LsS (W w : World) (h : ArH) (a : Ar) (v : Value) (l : List Int) : Prop where
  o : OwnI 3 w v l
  nf : ∀ k ∈ fpv v, ¬ ArF h a k
  new : ∀ k ∈ fpv v, W.heap.size ≤ k
section
variable {W w w' : World} {g N b : Nat} {h h' : ArH} {a a' : Ar} {v v' u u' : Value} {l l' : List Int}
theorem LsS.nil (W w : World) (h : ArH) (a : Ar) : LsS W w h a (.slice none 0 0) [] := ⟨OwnI.nil _ _, fun k hk => by simp [fpv, Value.ownBlock] at hk, fun k hk => by simp [fpv, Value.ownBlock] at hk⟩
theorem LsS.sta (L : LsS W w h a v l) (st : StA h a h' a' w w') : LsS W w' h' a' v l :=
  ⟨L.o.sta st L.nf, fun k hk hF => by
    rcases st.fr k hF with h1 | h1
    · exact L.nf k hk h1
    · have := L.o.lt hk; omega, L.new⟩
theorem LsS.chg0 (L : LsS W w h a v l) (c : Chg [] w w') : LsS W w' h a v l := ⟨L.o.chg0 c, L.nf, L.new⟩
theorem LsS.push (L : LsS W w h a v l) (M : ArM w h a) (hW : W.heap.size ≤ w.heap.size) (O : OwnI 3 w' v' l') (s : Stp (fpv v) (fpv v') w w') : LsS W w' h a v' l' :=
  ⟨O, fun k hk hF => by
    rcases s.f k hk with h1 | h1
    · exact L.nf k h1 hF
    · have := M.lt k hF; omega, fun k hk => by
    rcases s.f k hk with h1 | h1
    · exact L.new k h1
    · omega⟩
theorem LsS.beside (L : LsS W w h a v l) (s : Stp (fpv u) (fpv u') w w') (d : ∀ k ∈ fpv v, k ∉ fpv u) : LsS W w' h a v l ∧ ∀ k ∈ fpv v, k ∉ fpv u' :=
  ⟨⟨L.o.chg s.c d, L.nf, L.new⟩, fun k hk hm => by
    rcases s.f k hm with h1 | h1
    · exact d k hk h1
    · have := L.o.lt hk; omega⟩
theorem ArS.stp (S : ArS W w g h a N b) (L : LsS W w h a v l) (s : Stp (fpv v) (fpv v') w w') : ArS W w' g h a N b :=
  ⟨S.M.chg s.c (fun k hk hm => L.nf k hm hk), S.I, S.far, S.c.new s.c L.new, S.ga, S.m⟩
end
structure Cont (a : Ar) (As Ss : List Nat) (V : Nat → Nat → Int) : Prop where
  len : As.length = Ss.length
  nd : As.Nodup
  mem : ∀ x, (a.ob x).isSome = true ↔ x ∈ As
  at_ : ∀ t x n, As[t]? = some x → Ss[t]? = some n → ∃ ys : List Int, a.ob x = some ys ∧ ys.length = n ∧ ∀ j, j < n → ys.getD j 0 = V t j
theorem Cont.new (n : Nat) (V : Nat → Nat → Int) : Cont (newA n) [] [] V := ⟨rfl, List.nodup_nil, fun x => by simp [newA], fun t x n h => by simp at h⟩
section
variable {a a' : Ar} {As Ss : List Nat} {V V' : Nat → Nat → Int} (C : Cont a As Ss V)
include C
theorem Cont.ext (h : ∀ t n j, Ss[t]? = some n → j < n → V t j = V' t j) : Cont a As Ss V' :=
  ⟨C.len, C.nd, C.mem, fun t x n hx hn => by
    obtain ⟨ys, h1, h2, h3⟩ := C.at_ t x n hx hn
    exact ⟨ys, h1, h2, fun j hj => (h3 j hj).trans (h t n j hn hj)⟩⟩
theorem Cont.congr (e : a'.ob = a.ob) : Cont a' As Ss V := ⟨C.len, C.nd, fun x => by rw [e]; exact C.mem x, fun t x n hx hn => by rw [e]; exact C.at_ t x n hx hn⟩
theorem Cont.add {x n : Nat} (hf : a.ob x = none) (e : a'.ob = updF a.ob x (some (List.replicate n 0))) (hV : ∀ j, j < n → V As.length j = 0) : Cont a' (As ++ [x]) (Ss ++ [n]) V := by
  have hx : x ∉ As := fun hm => by have := (C.mem x).2 hm; rw [hf] at this; cases this
  refine ⟨by rw [List.length_append, List.length_append, C.len]; rfl, ?_, fun y => ?_, fun t y m hy hm => ?_⟩
  · rw [List.nodup_append]
    exact ⟨C.nd, by simp, fun p hp q hq => by simp at hq; subst hq; exact fun e => hx (e ▸ hp)⟩
  · rw [e, List.mem_append, List.mem_singleton]
    by_cases h1 : y = x
    · subst h1; rw [updF_same]; simp
    · rw [updF_other _ _ h1, C.mem y]; simp [h1]
  · rw [e]
    by_cases ht : t < As.length
    · rw [List.getElem?_append_left ht] at hy
      rw [List.getElem?_append_left (by rw [← C.len]; exact ht)] at hm
      have h1 : y ≠ x := fun e => hx (e ▸ List.mem_of_getElem? hy)
      rw [updF_other _ _ h1]
      exact C.at_ t y m hy hm
    · have e1 : t = As.length := by
        have := (List.getElem?_eq_some_iff.1 hy).1
        simp at this; omega
      subst e1
      rw [List.getElem?_append_right (Nat.le_refl _)] at hy
      rw [List.getElem?_append_right (by rw [C.len]; exact Nat.le_refl _)] at hm
      have h2 : x = y := by simpa using hy
      have h3 : n = m := by rw [C.len] at hm; simpa using hm
      subst h2 h3
      rw [updF_same]
      exact ⟨_, rfl, List.length_replicate .., fun j hj => by rw [hV j hj, List.getD_eq_getElem?_getD, List.getElem?_replicate]; split <;> rfl⟩
theorem Cont.load {t x n j : Nat} (hx : As[t]? = some x) (hn : Ss[t]? = some n) (hj : j < n) : loadV a (x : Nat) (j : Nat) = V t j ∧ slotC a (x : Nat) (j : Nat) = 0 := by
  obtain ⟨ys, h1, h2, h3⟩ := C.at_ t x n hx hn
  have h4 : obI a (x : Nat) = some ys := by rw [obI_nat]; exact h1
  exact ⟨by rw [loadV_in h4 (by omega) (by omega), Int.toNat_natCast]; exact h3 j hj, slotC_in h4 (by omega) (by omega)⟩
theorem Cont.put {t x n j : Nat} (hx : As[t]? = some x) (hn : Ss[t]? = some n) (hj : j < n) (v : Int) : Cont (putA a (x : Nat) (j : Nat) v) As Ss (fun t' j' => if t' = t ∧ j' = j then v else V t' j') := by
  obtain ⟨ys, h1, h2, h3⟩ := C.at_ t x n hx hn
  have e := putA_ob (a := a) v h1 (by omega : j < ys.length)
  refine ⟨C.len, C.nd, fun y => by rw [putA_some]; exact C.mem y, fun t' y m hy hm => ?_⟩
  rw [e]
  by_cases h4 : y = x
  · subst h4
    have h5 : t' = t := by
      have a1 := List.getElem?_eq_some_iff.1 hy
      have a2 := List.getElem?_eq_some_iff.1 hx
      exact (List.getElem_inj C.nd).1 (a1.2.trans a2.2.symm)
    subst h5
    rw [hn] at hm; injection hm with hm; subst hm
    rw [updF_same]
    refine ⟨_, rfl, by rw [List.length_set]; exact h2, fun j' hj' => ?_⟩
    by_cases h6 : j' = j
    · subst h6
      rw [if_pos ⟨rfl, rfl⟩, List.getD_eq_getElem?_getD, List.getElem?_set_self (by omega)]; rfl
    · rw [if_neg (fun h => h6 h.2), ← h3 j' hj', List.getD_eq_getElem?_getD, List.getElem?_set_ne (by omega), ← List.getD_eq_getElem?_getD]
  · have h5 : t' ≠ t := fun e => by rw [e, hx] at hy; injection hy with hy; exact h4 hy.symm
    rw [updF_other _ _ h4]
    obtain ⟨zs, z1, z2, z3⟩ := C.at_ t' y m hy hm
    exact ⟨zs, z1, z2, fun j' hj' => by rw [if_neg (fun h => h5 h.1)]; exact z3 j' hj'⟩
theorem Cont.len_ {t x n : Nat} (hx : As[t]? = some x) (hn : Ss[t]? = some n) : ((obI a (x : Nat)).getD []).length = n := by
  obtain ⟨ys, h1, h2, -⟩ := C.at_ t x n hx hn
  rw [obI_nat, h1]; exact h2
end
/-- Keys of a map of objects that rise are those listed, as many. -/
theorem Cont.keys_len {a : Ar} {As Ss : List Nat} {V : Nat → Nat → Int} (C : Cont a As Ss V) {ks : List Int} (hr : Rise ks) (hm : ∀ x, x ∈ ks ↔ (obI a x).isSome = true) : ks.length = As.length := by
  have h1 : (intsN As).Nodup := by
    unfold intsN
    exact List.Pairwise.map _ (fun p q (h : p ≠ q) (e : (p : Int) = (q : Int)) => h (by omega)) C.nd
  have h2 : ks.Perm (intsN As) := (List.perm_ext_iff_of_nodup (rise_nodup hr) h1).2 fun x => by
    rw [hm x]
    unfold obI intsN
    rw [List.mem_map]
    constructor
    · intro h
      split at h
      · exact ⟨x.toNat, (C.mem _).1 h, by omega⟩
      · cases h
    · rintro ⟨y, hy, rfl⟩
      rw [if_pos (by omega), Int.toNat_natCast]
      exact (C.mem y).2 hy
  have := h2.length_eq
  rw [this]; unfold intsN; rw [List.length_map]
end Go.Proofs.YtkocikpoagfonaaDoor
