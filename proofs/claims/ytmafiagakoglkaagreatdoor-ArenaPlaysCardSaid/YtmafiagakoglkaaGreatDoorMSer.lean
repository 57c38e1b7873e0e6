/- ArenaComes: plain parts, and the walk. -/
/- Spans made one by one; a span with its first place used or marked, or not: what the laws of layer 7 carry. Plain. -/
/- Lists of the call's own beside an arena; what stands in objects, told by two lists. Plain. -/
/- Objects in the first places of spans: used, marked or not (for ArenaMarks, ArenaSums). Plain. -/
import Derived.Test.YtmafiagakoglkaaGreatDoorArT
import Derived.Test.YtmafiagakoglkaaGreatDoorMZ
import Derived.Test.YtmafiagakoglkaaGreatDoorMCl
namespace Go.Proofs.YtmafiagakoglkaaGreatDoor
open Go.RowKit

theorem mod_n (x : Int) (m : Nat) (hm : 1 ≤ m) (hm2 : m ≤ 1000000) : ∃ n : Nat, n < m ∧ wrap64 ((IntKind.u64.wrap x).tmod m) = n := by
  have h0 : 0 ≤ IntKind.u64.wrap x := by rw [IntKind.wrap_u64]; omega
  rw [Int.tmod_eq_emod_of_nonneg h0]
  have h1 := Int.emod_nonneg (IntKind.u64.wrap x) (b := (m : Int)) (by omega)
  have h2 := Int.emod_lt_of_pos (IntKind.u64.wrap x) (b := (m : Int)) (by omega)
  obtain ⟨n, hn⟩ : ∃ n : Nat, (n : Int) = (IntKind.u64.wrap x) % (m : Int) := ⟨((IntKind.u64.wrap x) % (m : Int)).toNat, by omega⟩
  exact ⟨n, by omega, by unfold wrap64; omega⟩
theorem spn_addr (f q : Nat) : (spn f q).addr 0 = f * 64 := by unfold Sp.addr spn; simp
section
variable {a : Ar}
theorem obI_nat (x : Nat) : obI a (x : Nat) = a.ob x := by unfold obI; rw [if_pos (by omega), Int.toNat_natCast]
theorem slotC_in {x : Int} {xs : List Int} {i : Int} (ho : obI a x = some xs) (h0 : 0 ≤ i) (h1 : i < xs.length) : slotC a x i = 0 := by unfold slotC; rw [ho]; exact if_pos ⟨h0, h1⟩
theorem slotC_out {x : Int} {xs : List Int} {i : Int} (ho : obI a x = some xs) (h : ¬ (0 ≤ i ∧ i < xs.length)) : slotC a x i = 2 := by unfold slotC; rw [ho]; exact if_neg h
theorem slotC_none {x i : Int} (ho : obI a x = none) : slotC a x i = 4 := by unfold slotC; rw [ho]
theorem loadV_in {x : Int} {xs : List Int} {i : Int} (ho : obI a x = some xs) (h0 : 0 ≤ i) (h1 : i < xs.length) : loadV a x i = xs.getD i.toNat 0 := by unfold loadV; rw [ho]; exact if_pos ⟨h0, h1⟩
theorem loadV_out {x : Int} {xs : List Int} {i : Int} (ho : obI a x = some xs) (h : ¬ (0 ≤ i ∧ i < xs.length)) : loadV a x i = 0 := by unfold loadV; rw [ho]; exact if_neg h
theorem loadV_none {x i : Int} (ho : obI a x = none) : loadV a x i = 0 := by unfold loadV; rw [ho]
theorem putA_sp (x i v : Int) : (putA a x i v).sp = a.sp := by unfold putA; split <;> rfl
theorem putA_l (x i v : Int) : (putA a x i v).l = a.l := by unfold putA; split <;> rfl
theorem putA_live (x i v : Int) : (putA a x i v).live = a.live := by unfold putA; split <;> rfl
theorem putA_ob {x : Nat} {xs : List Int} {i : Nat} (v : Int) (ho : a.ob x = some xs) (h1 : i < xs.length) : (putA a (x : Nat) (i : Nat) v).ob = updF a.ob x (some (xs.set i v)) := by
  unfold putA
  rw [if_pos (slotC_in (by rw [obI_nat]; exact ho) (by omega) (by omega))]
  show updF a.ob (Int.toNat (x : Nat)) ((a.ob (Int.toNat (x : Nat))).map fun xs => xs.set (Int.toNat (i : Nat)) v) = _
  rw [Int.toNat_natCast, Int.toNat_natCast, ho]
  rfl
theorem putA_no {x i : Int} (v : Int) (h : slotC a x i ≠ 0) : putA a x i v = a := by unfold putA; rw [if_neg h]
theorem putA_some {x i v : Int} {y : Nat} : ((putA a x i v).ob y).isSome = (a.ob y).isSome := by
  unfold putA
  split
  · show (updF a.ob x.toNat _ y).isSome = _
    by_cases e : y = x.toNat
    · subst e
      rw [updF_same]
      cases a.ob x.toNat <;> rfl
    · rw [updF_other _ _ e]
  · rfl
end
theorem cnt_pos {F : Nat → Bool} {i : Nat} : ∀ {n : Nat}, i < n → F i = true → 0 < cntF F n
  | 0, h, _ => by omega
  | n + 1, h, hF => by
    rw [cntF]
    by_cases e : i = n
    · subst e; rw [if_pos hF]; omega
    · have := cnt_pos (n := n) (by omega) hF
      omega
theorem filt_one {p : Nat → Bool} (h0 : p 0 = true) (h : ∀ i, 0 < i → p i = false) : ∀ n, 1 ≤ n → (List.range n).filter p = [0]
  | 0, hn => by omega
  | 1, _ => by simp [List.range_succ, h0]
  | n + 2, _ => by
    rw [List.range_succ, List.filter_append, filt_one h0 h (n + 1) (by omega)]
    simp [h (n + 1) (by omega)]
def oneF : Nat → Bool := fun i => decide (i = 0)
def s2 (q : Nat) : Sp := allocS (spn 1 q) 0 true
def s3 (q : Nat) : Sp := sweptS (s2 q)
def s4 (q : Nat) : Sp := sweptS (s3 q)
def s5 (q : Nat) : Sp := allocS (s4 q) 0 false
theorem s2_F (q i : Nat) : (s2 q).F i = decide (i = 0) := by show setF (fun _ => false) 0 i = _; unfold setF; simp
theorem s2_M (q i : Nat) : (s2 q).M i = decide (i = 0) := by show setF (fun _ => false) 0 i = _; unfold setF; simp
theorem s2_swept (q : Nat) : sweptL (s2 q) = [] := by
  unfold sweptL
  rw [List.filter_eq_nil_iff]
  intro i hi
  have := (List.mem_filter.1 hi).2
  rw [s2_F] at this
  rw [s2_M, this]; decide
theorem s3_swept {q : Nat} (hq : q < 16) : sweptL (s3 q) = [0] := by
  unfold sweptL
  have e1 : ∀ i, (s3 q).F i = decide (i = 0) := fun i => s2_M q i
  have e2 : allN (s3 q).F (slK (s3 q).k) = [0] := filt_one (by rw [e1]; rfl) (fun i hi => by rw [e1]; exact decide_eq_false (by omega)) _ (kF hq).2.2.2.2.2.2.2.1
  rw [e2]; rfl
theorem s5_M (q i : Nat) : (s5 q).M i = false := rfl
theorem s5_F (q : Nat) : (s5 q).F 0 = true := by show setF (s4 q).F 0 0 = true; unfold setF; simp
theorem addr64 {s : Sp} (h : s.first = 1) : s.addr 0 = 64 := by unfold Sp.addr; rw [h]; omega
end Go.Proofs.YtmafiagakoglkaaGreatDoor
namespace Go.Proofs.YtmafiagakoglkaaGreatDoor
open Go.RowKit

theorem ArI.fresh {N : Nat} {a : Ar} (I : ArI N a) {id y : Nat} {s : Sp} (hs : a.sp id = some s) (hy : y < slK s.k) (hF : s.F y = false) : a.ob (s.addr y) = none := by
  cases e : a.ob (s.addr y) with
  | none => rfl
  | some xs =>
    obtain ⟨id', t, i, ht, hi, hFt, hx⟩ := (I.ok.ob (s.addr y)).1 (by rw [e]; rfl)
    have e1 := I.ok.other hs ht hy hi hx
    subst e1
    rw [hs] at ht; injection ht with ht; subst ht
    have e2 := Sp.addr_inj (I.ok.pg id s hs).1 hx
    subst e2
    rw [hF] at hFt; cases hFt
/-- Spans 0 to i - 1 are there; what is left is one run, of 512 pages in all. -/
structure SerA (a : Ar) (i f p : Nat) : Prop where
  l : a.l = [⟨f, p⟩]
  s : f + p = 512
  f : f ≤ 1 + 4 * i
  sp : ∀ j, j < i → a.sp j ≠ none
theorem SerA.new : SerA (newA 512) 0 1 511 := ⟨rfl, rfl, by decide, fun j h => by omega⟩
section
variable {a : Ar} {i f p : Nat} (h : SerA a i f p)
include h
theorem SerA.span {q : Nat} (hq : q < 16) (hi : i ≤ 100) : SerA (spanA a [⟨f + pgK q, p - pgK q⟩] i q f) (i + 1) (f + pgK q) (p - pgK q) := by
  have h1 := (kF hq).2.2.2.2.2.1
  have h2 := h.s
  have h3 := h.f
  refine ⟨rfl, by omega, by omega, fun j hj => ?_⟩
  show updF a.sp i _ j ≠ none
  by_cases e : j = i
  · rw [e, updF_same]; simp
  · rw [updF_other _ _ e]; exact h.sp j (by omega)
theorem SerA.set {id live : Nat} {s' : Sp} {ob : Nat → Option (List Int)} : SerA { a with sp := updF a.sp id (some s'), ob := ob, live := live } i f p :=
  ⟨h.l, h.s, h.f, fun j hj => by
    show updF a.sp id _ j ≠ none
    by_cases e : j = id
    · rw [e, updF_same]; simp
    · rw [updF_other _ _ e]; exact h.sp j hj⟩
theorem SerA.put (x k v : Int) : SerA (putA a x k v) i f p := ⟨by rw [putA_l]; exact h.l, h.s, h.f, fun j hj => by rw [putA_sp]; exact h.sp j hj⟩
end
/-- A span of which the first place alone may be used, or marked. -/
structure Spt (s : Sp) (F M : Bool) : Prop where
  F : ∀ x, s.F x = (decide (x = 0) && F)
  M : ∀ x, s.M x = (decide (x = 0) && M)
  fr : s.fr = 0
theorem spn_spt (f q : Nat) : Spt (spn f q) false false := ⟨fun x => by simp [spn], fun x => by simp [spn], rfl⟩
section
variable {s : Sp} {F M : Bool} (h : Spt s F M)
include h
theorem Spt.alloc (black : Bool) : Spt (allocS s 0 black) true (black || M) := by
  refine ⟨fun x => ?_, fun x => ?_, rfl⟩
  · show setF s.F 0 x = _
    unfold setF
    by_cases e : x = 0
    · subst e; simp
    · rw [if_neg e, h.F x]; simp [e]
  · cases black
    · show s.M x = _
      rw [h.M x]; simp
    · show setF s.M 0 x = _
      unfold setF
      by_cases e : x = 0
      · subst e; simp
      · rw [if_neg e, h.M x]; simp [e]
theorem Spt.mark : Spt (markS s 0) F true := by
  refine ⟨h.F, fun x => ?_, h.fr⟩
  show setF s.M 0 x = _
  unfold setF
  by_cases e : x = 0
  · subst e; simp
  · rw [if_neg e, h.M x]; simp [e]
theorem Spt.sweep : Spt (sweptS s) M false := ⟨fun x => h.M x, fun x => by simp [sweptS], rfl⟩
theorem Spt.swept (hk : s.k < 16) : sweptL s = if F && !M then [0] else [] := by
  unfold sweptL
  have e2 : allN s.F (slK s.k) = if F then [0] else [] := by
    cases F
    · unfold allN
      rw [if_neg (by decide), List.filter_eq_nil_iff]
      intro x _
      rw [h.F x]; simp
    · exact filt_one (by rw [h.F]; rfl) (fun i hi => by rw [h.F]; simp; omega) _ (kF hk).2.2.2.2.2.2.2.1
  rw [e2]
  cases F
  · rfl
  · have := h.M 0
    cases M
    · simp [this]
    · simp [this]
theorem Spt.none_ (hF : F = false) : ∀ n, cntF s.F n = 0
  | 0 => rfl
  | n + 1 => by
    rw [cntF, Spt.none_ hF n, h.F n, hF]; simp
end
/-- Nothing used: nothing lives. -/
theorem livN_zero {f : Nat → Option Sp} (h : ∀ j s, f j = some s → cntF s.F (slK s.k) = 0) : ∀ n, livN f n = 0
  | 0 => rfl
  | n + 1 => by
    rw [livN, livN_zero h n]
    unfold spW
    cases e : f n with
    | none => rfl
    | some s => show 0 + cntF s.F (slK s.k) * szK s.k = 0; rw [h n s e]; simp
end Go.Proofs.YtmafiagakoglkaaGreatDoor
namespace Go.Proofs.YtmafiagakoglkaaGreatDoor
open Go.RowKit

structure LsS (W w : World) (h : ArH) (a : Ar) (v : Value) (l : List Int) : Prop where
  o : OwnI 3 w v l
  nf : ∀ k ∈ fpv v, ¬ ArF h a k
  new : ∀ k ∈ fpv v, W.heap.size ≤ k
section
variable {W w w' : World} {g N b : Nat} {h h' : ArH} {a a' : Ar} {v v' u u' : Value} {l l' : List Int}
theorem LsS.nil (W w : World) (h : ArH) (a : Ar) : LsS W w h a (.slice none 0 0) [] := ⟨OwnI.nil _ _, fun k hk => by simp [fpv, Value.ownBlock] at hk, fun k hk => by simp [fpv, Value.ownBlock] at hk⟩
theorem LsS.sta (L : LsS W w h a v l) (st : StA h a h' a' w w') : LsS W w' h' a' v l :=
  ⟨L.o.sta st L.nf, fun k hk hF => by
    rcases st.fr k hF with h1 | h1
    · exact L.nf k hk h1
    · have := L.o.lt hk; omega, L.new⟩
theorem LsS.chg0 (L : LsS W w h a v l) (c : Chg [] w w') : LsS W w' h a v l := ⟨L.o.chg0 c, L.nf, L.new⟩
theorem LsS.push (L : LsS W w h a v l) (M : ArM w h a) (hW : W.heap.size ≤ w.heap.size) (O : OwnI 3 w' v' l') (s : Stp (fpv v) (fpv v') w w') : LsS W w' h a v' l' :=
  ⟨O, fun k hk hF => by
    rcases s.f k hk with h1 | h1
    · exact L.nf k h1 hF
    · have := M.lt k hF; omega, fun k hk => by
    rcases s.f k hk with h1 | h1
    · exact L.new k h1
    · omega⟩
theorem LsS.beside (L : LsS W w h a v l) (s : Stp (fpv u) (fpv u') w w') (d : ∀ k ∈ fpv v, k ∉ fpv u) : LsS W w' h a v l ∧ ∀ k ∈ fpv v, k ∉ fpv u' :=
  ⟨⟨L.o.chg s.c d, L.nf, L.new⟩, fun k hk hm => by
    rcases s.f k hm with h1 | h1
    · exact d k hk h1
    · have := L.o.lt hk; omega⟩
theorem ArS.stp (S : ArS W w g h a N b) (L : LsS W w h a v l) (s : Stp (fpv v) (fpv v') w w') : ArS W w' g h a N b :=
  ⟨S.M.chg s.c (fun k hk hm => L.nf k hm hk), S.I, S.far, S.c.new s.c L.new, S.ga, S.m⟩
end
structure Cont (a : Ar) (As Ss : List Nat) (V : Nat → Nat → Int) : Prop where
  len : As.length = Ss.length
  nd : As.Nodup
  mem : ∀ x, (a.ob x).isSome = true ↔ x ∈ As
  at_ : ∀ t x n, As[t]? = some x → Ss[t]? = some n → ∃ ys : List Int, a.ob x = some ys ∧ ys.length = n ∧ ∀ j, j < n → ys.getD j 0 = V t j
theorem Cont.new (n : Nat) (V : Nat → Nat → Int) : Cont (newA n) [] [] V := ⟨rfl, List.nodup_nil, fun x => by simp [newA], fun t x n h => by simp at h⟩
section
variable {a a' : Ar} {As Ss : List Nat} {V V' : Nat → Nat → Int} (C : Cont a As Ss V)
include C
theorem Cont.ext (h : ∀ t n j, Ss[t]? = some n → j < n → V t j = V' t j) : Cont a As Ss V' :=
  ⟨C.len, C.nd, C.mem, fun t x n hx hn => by
    obtain ⟨ys, h1, h2, h3⟩ := C.at_ t x n hx hn
    exact ⟨ys, h1, h2, fun j hj => (h3 j hj).trans (h t n j hn hj)⟩⟩
theorem Cont.congr (e : a'.ob = a.ob) : Cont a' As Ss V := ⟨C.len, C.nd, fun x => by rw [e]; exact C.mem x, fun t x n hx hn => by rw [e]; exact C.at_ t x n hx hn⟩
theorem Cont.add {x n : Nat} (hf : a.ob x = none) (e : a'.ob = updF a.ob x (some (List.replicate n 0))) (hV : ∀ j, j < n → V As.length j = 0) : Cont a' (As ++ [x]) (Ss ++ [n]) V := by
  have hx : x ∉ As := fun hm => by have := (C.mem x).2 hm; rw [hf] at this; cases this
  refine ⟨by rw [List.length_append, List.length_append, C.len]; rfl, ?_, fun y => ?_, fun t y m hy hm => ?_⟩
  · rw [List.nodup_append]
    exact ⟨C.nd, by simp, fun p hp q hq => by simp at hq; subst hq; exact fun e => hx (e ▸ hp)⟩
  · rw [e, List.mem_append, List.mem_singleton]
    by_cases h1 : y = x
    · subst h1; rw [updF_same]; simp
    · rw [updF_other _ _ h1, C.mem y]; simp [h1]
  · rw [e]
    by_cases ht : t < As.length
    · rw [List.getElem?_append_left ht] at hy
      rw [List.getElem?_append_left (by rw [← C.len]; exact ht)] at hm
      have h1 : y ≠ x := fun e => hx (e ▸ List.mem_of_getElem? hy)
      rw [updF_other _ _ h1]
      exact C.at_ t y m hy hm
    · have e1 : t = As.length := by
        have := (List.getElem?_eq_some_iff.1 hy).1
        simp at this; omega
      subst e1
      rw [List.getElem?_append_right (Nat.le_refl _)] at hy
      rw [List.getElem?_append_right (by rw [C.len]; exact Nat.le_refl _)] at hm
      have h2 : x = y := by simpa using hy
      have h3 : n = m := by rw [C.len] at hm; simpa using hm
      subst h2 h3
      rw [updF_same]
      exact ⟨_, rfl, List.length_replicate .., fun j hj => by rw [hV j hj, List.getD_eq_getElem?_getD, List.getElem?_replicate]; split <;> rfl⟩
theorem Cont.load {t x n j : Nat} (hx : As[t]? = some x) (hn : Ss[t]? = some n) (hj : j < n) : loadV a (x : Nat) (j : Nat) = V t j ∧ slotC a (x : Nat) (j : Nat) = 0 := by
  obtain ⟨ys, h1, h2, h3⟩ := C.at_ t x n hx hn
  have h4 : obI a (x : Nat) = some ys := by rw [obI_nat]; exact h1
  exact ⟨by rw [loadV_in h4 (by omega) (by omega), Int.toNat_natCast]; exact h3 j hj, slotC_in h4 (by omega) (by omega)⟩
theorem Cont.put {t x n j : Nat} (hx : As[t]? = some x) (hn : Ss[t]? = some n) (hj : j < n) (v : Int) : Cont (putA a (x : Nat) (j : Nat) v) As Ss (fun t' j' => if t' = t ∧ j' = j then v else V t' j') := by
  obtain ⟨ys, h1, h2, h3⟩ := C.at_ t x n hx hn
  have e := putA_ob (a := a) v h1 (by omega : j < ys.length)
  refine ⟨C.len, C.nd, fun y => by rw [putA_some]; exact C.mem y, fun t' y m hy hm => ?_⟩
  rw [e]
  by_cases h4 : y = x
  · subst h4
    have h5 : t' = t := by
      have a1 := List.getElem?_eq_some_iff.1 hy
      have a2 := List.getElem?_eq_some_iff.1 hx
      exact (List.getElem_inj C.nd).1 (a1.2.trans a2.2.symm)
    subst h5
    rw [hn] at hm; injection hm with hm; subst hm
    rw [updF_same]
    refine ⟨_, rfl, by rw [List.length_set]; exact h2, fun j' hj' => ?_⟩
    by_cases h6 : j' = j
    · subst h6
      rw [if_pos ⟨rfl, rfl⟩, List.getD_eq_getElem?_getD, List.getElem?_set_self (by omega)]; rfl
    · rw [if_neg (fun h => h6 h.2), ← h3 j' hj', List.getD_eq_getElem?_getD, List.getElem?_set_ne (by omega), ← List.getD_eq_getElem?_getD]
  · have h5 : t' ≠ t := fun e => by rw [e, hx] at hy; injection hy with hy; exact h4 hy.symm
    rw [updF_other _ _ h4]
    obtain ⟨zs, z1, z2, z3⟩ := C.at_ t' y m hy hm
    exact ⟨zs, z1, z2, fun j' hj' => by rw [if_neg (fun h => h5 h.1)]; exact z3 j' hj'⟩
theorem Cont.len_ {t x n : Nat} (hx : As[t]? = some x) (hn : Ss[t]? = some n) : ((obI a (x : Nat)).getD []).length = n := by
  obtain ⟨ys, h1, h2, -⟩ := C.at_ t x n hx hn
  rw [obI_nat, h1]; exact h2
end
/-- Keys of a map of objects that rise are those listed, as many. -/
theorem Cont.keys_len {a : Ar} {As Ss : List Nat} {V : Nat → Nat → Int} (C : Cont a As Ss V) {ks : List Int} (hr : Rise ks) (hm : ∀ x, x ∈ ks ↔ (obI a x).isSome = true) : ks.length = As.length := by
  have h1 : (intsN As).Nodup := by
    unfold intsN
    exact List.Pairwise.map _ (fun p q (h : p ≠ q) (e : (p : Int) = (q : Int)) => h (by omega)) C.nd
  have h2 : ks.Perm (intsN As) := (List.perm_ext_iff_of_nodup (rise_nodup hr) h1).2 fun x => by
    rw [hm x]
    unfold obI intsN
    rw [List.mem_map]
    constructor
    · intro h
      split at h
      · exact ⟨x.toNat, (C.mem _).1 h, by omega⟩
      · cases h
    · rintro ⟨y, hy, rfl⟩
      rw [if_pos (by omega), Int.toNat_natCast]
      exact (C.mem y).2 hy
  have := h2.length_eq
  rw [this]; unfold intsN; rw [List.length_map]
end Go.Proofs.YtmafiagakoglkaaGreatDoor
namespace Go.Proofs.YtmafiagakoglkaaGreatDoor
open Go.RowKit

structure MkA (a : Ar) (m : Nat) (c F M : Nat → Bool) (st : List Int) : Prop where
  sp : ∀ j, j < m → ∃ s, a.sp j = some s ∧ Spt s (F j) (M j)
  me : ∀ x, x ∈ st ↔ ∃ j s, j < m ∧ c j = true ∧ a.sp j = some s ∧ x = ((s.addr 0 : Nat) : Int)
  r : Rise st
  l : st.length ≤ m
  w : ∀ x ∈ st, 0 ≤ x ∧ x < 16777216
theorem MkA.new (n : Nat) (c F M : Nat → Bool) : MkA (newA n) 0 c F M [] := ⟨fun j h => by omega, fun x => ⟨fun h => by simp at h, fun ⟨_, _, h, _⟩ => by omega⟩, List.Pairwise.nil, Nat.le_refl _, by simp⟩
section
variable {a a' : Ar} {m id : Nat} {c F M F' M' : Nat → Bool} {st : List Int} {s s' : Sp} (K : MkA a m c F M st)
include K
theorem MkA.ext (hF : ∀ j, j < m → F j = F' j) (hM : ∀ j, j < m → M j = M' j) : MkA a m c F' M' st :=
  ⟨fun j hj => by obtain ⟨s, h1, h2⟩ := K.sp j hj; rw [hF j hj, hM j hj] at h2; exact ⟨s, h1, h2⟩, K.me, K.r, K.l, K.w⟩
theorem MkA.congr (e : a'.sp = a.sp) : MkA a' m c F M st := ⟨fun j hj => by rw [e]; exact K.sp j hj, fun x => by rw [e]; exact K.me x, K.r, K.l, K.w⟩
/-- One of the spans turned: it lies where it lay. -/
theorem MkA.set (hid : id < m) (hs : a.sp id = some s) (e : a'.sp = updF a.sp id (some s')) (ha : s'.addr 0 = s.addr 0) {f u : Bool} (h : Spt s' f u) :
    MkA a' m c (fun j => if j = id then f else F j) (fun j => if j = id then u else M j) st := by
  refine ⟨fun j hj => ?_, fun x => ?_, K.r, K.l, K.w⟩
  · rw [e]
    by_cases e1 : j = id
    · subst e1
      rw [updF_same, if_pos rfl, if_pos rfl]
      exact ⟨s', rfl, h⟩
    · rw [updF_other _ _ e1, if_neg e1, if_neg e1]
      exact K.sp j hj
  · rw [K.me x, e]
    constructor
    · rintro ⟨j, t, hj, hc, ht, hx⟩
      by_cases e1 : j = id
      · subst e1
        rw [hs] at ht; injection ht with ht; subst ht
        exact ⟨j, s', hj, hc, updF_same _ _ _, by rw [ha]; exact hx⟩
      · exact ⟨j, t, hj, hc, (updF_other _ _ e1).trans ht, hx⟩
    · rintro ⟨j, t, hj, hc, ht, hx⟩
      by_cases e1 : j = id
      · subst e1
        rw [updF_same] at ht; injection ht with ht; subst ht
        exact ⟨j, s, hj, hc, hs, by rw [← ha]; exact hx⟩
      · rw [updF_other _ _ e1] at ht
        exact ⟨j, t, hj, hc, ht, hx⟩
/-- One more span. -/
theorem MkA.more (e : ∀ j, j ≠ m → a'.sp j = a.sp j) (hs : a'.sp m = some s) (h : Spt s (F m) (M m)) (hx : s.addr 0 < 16777216) : MkA a' (m + 1) c F M (if c m then putL st ((s.addr 0 : Nat) : Int) else st) := by
  refine ⟨fun j hj => ?_, fun x => ?_, ?_, ?_, fun x hx' => ?_⟩
  · by_cases e1 : j = m
    · subst e1; exact ⟨s, hs, h⟩
    · rw [e j e1]; exact K.sp j (by omega)
  · have h1 : (∃ j t, j < m + 1 ∧ c j = true ∧ a'.sp j = some t ∧ x = ((t.addr 0 : Nat) : Int)) ↔ x ∈ st ∨ (c m = true ∧ x = ((s.addr 0 : Nat) : Int)) := by
      rw [K.me x]
      constructor
      · rintro ⟨j, t, hj, hc, ht, hx⟩
        by_cases e1 : j = m
        · subst e1
          rw [hs] at ht; injection ht with ht; subst ht
          exact .inr ⟨hc, hx⟩
        · rw [e j e1] at ht
          exact .inl ⟨j, t, by omega, hc, ht, hx⟩
      · rintro (⟨j, t, hj, hc, ht, hx⟩ | ⟨hc, hx⟩)
        · exact ⟨j, t, by omega, hc, by rw [e j (by omega)]; exact ht, hx⟩
        · exact ⟨m, s, by omega, hc, hs, hx⟩
    rw [h1]
    cases c m
    · simp
    · simp [mem_putL]
  · cases c m
    · exact K.r
    · exact rising_putL K.r
  · have := K.l
    cases c m
    · show st.length ≤ m + 1; omega
    · have := len_putL st ((s.addr 0 : Nat) : Int); show (putL st _).length ≤ m + 1; omega
  · have h2 : x ∈ st ∨ x = ((s.addr 0 : Nat) : Int) := by
      cases hc : c m
      · rw [hc] at hx'; exact .inl hx'
      · rw [hc] at hx'; exact mem_putL.1 hx'
    rcases h2 with h2 | h2
    · exact K.w x h2
    · omega
/-- Which addresses are objects'. -/
theorem MkA.obs {N : Nat} (ok : ArOk N a) (hN : N = m) (x : Int) : (obI a x).isSome = true ↔ ∃ j s, j < m ∧ F j = true ∧ a.sp j = some s ∧ x = ((s.addr 0 : Nat) : Int) := by
  subst hN
  have key : ∀ y : Nat, (a.ob y).isSome = true ↔ ∃ j s, j < N ∧ F j = true ∧ a.sp j = some s ∧ y = s.addr 0 := fun y => by
    rw [ok.ob y]
    constructor
    · rintro ⟨id, s, i, hs, hi, hF, hx⟩
      have hid := ok.top id s hs
      obtain ⟨t, ht, hS⟩ := K.sp id hid
      rw [hs] at ht; injection ht with ht; subst ht
      rw [hS.F i, Bool.and_eq_true, decide_eq_true_iff] at hF
      obtain ⟨rfl, hF⟩ := hF
      exact ⟨id, s, hid, hF, hs, hx⟩
    · rintro ⟨j, s, hj, hF, hs, hx⟩
      obtain ⟨t, ht, hS⟩ := K.sp j hj
      rw [hs] at ht; injection ht with ht; subst ht
      exact ⟨j, s, 0, hs, (kF (ok.pg j s hs).1).2.2.2.2.2.2.2.1, by rw [hS.F]; simp [hF], hx⟩
  unfold obI
  by_cases h0 : 0 ≤ x
  · rw [if_pos h0, key]
    constructor
    · rintro ⟨j, s, h1, h2, h3, h4⟩; exact ⟨j, s, h1, h2, h3, by omega⟩
    · rintro ⟨j, s, h1, h2, h3, h4⟩; exact ⟨j, s, h1, h2, h3, by omega⟩
  · rw [if_neg h0]
    constructor
    · intro h; cases h
    · rintro ⟨j, s, h1, h2, h3, h4⟩; omega
end
theorem MkA.live {a : Ar} {m : Nat} {c F M : Nat → Bool} {st : List Int} (K : MkA a m c F M st) (I : ArI m a) (hF : ∀ j, j < m → F j = false) : a.live = 0 := by
  rw [I.lv]
  refine livN_zero (fun j s hs => ?_) m
  have hj := I.ok.top j s hs
  obtain ⟨t, ht, hS⟩ := K.sp j hj
  rw [hs] at ht; injection ht with ht; subst ht
  exact hS.none_ (hF j hj) _
end Go.Proofs.YtmafiagakoglkaaGreatDoor
