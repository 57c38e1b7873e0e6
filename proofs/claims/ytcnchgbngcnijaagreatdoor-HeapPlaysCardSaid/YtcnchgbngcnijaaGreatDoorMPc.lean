/- PageBest: plain laws. -/
/- Runs of free pages: plain laws for PageMerges, PageApart, PageLefts, PagePlays. No program in sight. -/
/- The document's runs, page by page. Plain laws; no program in sight. -/
/- A list of runs that the call owns: append of one, one of them told anew. Plain theorems on worlds. -/
/- Two lists of runs that are the same are told so; a page beside other blocks. -/
import Derived.Test.YtcnchgbngcnijaaGreatDoorMPb
import Derived.Test.YtcnchgbngcnijaaGreatDoorMPa
import Derived.Maps.AppendAt
import Derived.BigQuiet
import Derived.Deep.DeepCutAuto
namespace Go.Proofs.YtcnchgbngcnijaaGreatDoor

/-- What PageBest keeps in mind: best of the runs so far for w. -/
structure Bst (w : Nat) (l : List R) (b : R) : Prop where
  none : b.p = 0 → (∀ r ∈ l, r.p < w) ∧ b.f = 0
  some : b.p ≠ 0 → Best l w b
theorem Best.uniq {l : List R} {k : Nat} {r s : R} (h1 : Best l k r) (h2 : Best l k s) : r = s := by
  have a := h1.2.2 s h2.1 h2.2.1
  have b := h2.2.2 r h1.1 h1.2.1
  cases r; cases s
  simp only [R.mk.injEq] at *
  omega
end Go.Proofs.YtcnchgbngcnijaaGreatDoor
namespace Go.Proofs.YtcnchgbngcnijaaGreatDoor

/-! Neighbours. -/
/-! How many runs there are. -/
def stc (F : Nat → Bool) : Nat → Nat → Bool → Nat
  | _, 0, _ => 0
  | i, m + 1, b => (if F i = true ∧ b = false then 1 else 0) + stc F (i + 1) m (F i)
/-! PageMerges: steps that meet each page once. -/
/-- What is free behind i rounds. -/
def mrgF (m d i x : Nat) : Bool := (List.range i).any fun j => j * d % m + 1 == x
end Go.Proofs.YtcnchgbngcnijaaGreatDoor
namespace Go.Proofs.YtcnchgbngcnijaaGreatDoor

/-- l says what F says, of n pages. -/
def SayF (n : Nat) (l : List R) (F : Nat → Bool) : Prop := ∀ x, Fr l x ↔ x < n ∧ F x = true
def bump : List R → List R
  | [] => []
  | [r] => [⟨r.f, r.p + 1⟩]
  | r :: s :: t => r :: bump (s :: t)
theorem bump_snoc : ∀ (a : List R) (r : R), bump (a ++ [r]) = a ++ [⟨r.f, r.p + 1⟩]
  | [], _ => rfl
  | [q], r => rfl
  | q :: s :: t, r => by
    show q :: bump (s :: t ++ [r]) = _
    rw [bump_snoc (s :: t) r]; rfl
def runsTo (F : Nat → Bool) : Nat → List R
  | 0 => []
  | i + 1 => if F i = true then (if 1 ≤ i ∧ F (i - 1) = true then bump (runsTo F i) else runsTo F i ++ [⟨i, 1⟩]) else runsTo F i
theorem runsTo_no {F : Nat → Bool} {i : Nat} (h : F i = false) : runsTo F (i + 1) = runsTo F i := by rw [runsTo, if_neg (by rw [h]; decide)]
theorem runsTo_new {F : Nat → Bool} {i : Nat} (h : F i = true) (h2 : ¬ (1 ≤ i ∧ F (i - 1) = true)) : runsTo F (i + 1) = runsTo F i ++ [⟨i, 1⟩] := by rw [runsTo, if_pos h, if_neg h2]
theorem runsTo_more {F : Nat → Bool} {i : Nat} (h : F i = true) (h2 : 1 ≤ i ∧ F (i - 1) = true) : runsTo F (i + 1) = bump (runsTo F i) := by rw [runsTo, if_pos h, if_pos h2]
structure RunsTo (F : Nat → Bool) (i : Nat) (l : List R) : Prop where
  ok : OkF 0 l
  nx : nxt1 0 l ≤ i + 1
  fr : ∀ x, Fr l x ↔ x < i ∧ F x = true
  la : 1 ≤ i ∧ F (i - 1) = true → ∃ a r, l = a ++ [r] ∧ r.f + r.p = i
  no : ¬ (1 ≤ i ∧ F (i - 1) = true) → nxt1 0 l ≤ i
  ln : l.length ≤ i
theorem runsTo_ok (F : Nat → Bool) : ∀ i, RunsTo F i (runsTo F i)
  | 0 => ⟨trivial, Nat.zero_le 1, fun x => ⟨fun h => absurd h fr_nil, fun h => by omega⟩, fun h => by omega, fun _ => Nat.le_refl _, Nat.le_refl _⟩
  | i + 1 => by
    have ih := runsTo_ok F i
    cases hi : F i with
    | false =>
      rw [runsTo_no hi]
      refine ⟨ih.ok, Nat.le_succ_of_le ih.nx, fun x => ?_, fun h => by simp [hi] at h, fun _ => ih.nx, Nat.le_succ_of_le ih.ln⟩
      rw [ih.fr]
      constructor
      · rintro ⟨a, b⟩; exact ⟨by omega, b⟩
      · rintro ⟨a, b⟩
        refine ⟨?_, b⟩
        by_cases e : x = i
        · rw [e, hi] at b; cases b
        · omega
    | true =>
      by_cases h2 : 1 ≤ i ∧ F (i - 1) = true
      · obtain ⟨a, r, e, hr⟩ := ih.la h2
        rw [runsTo_more hi h2, e, bump_snoc]
        have hok := ih.ok
        rw [e, OkF.append] at hok
        have hfr := ih.fr
        rw [e] at hfr
        have hp : 1 ≤ r.p := hok.2.2.1
        refine ⟨OkF.append.2 ⟨hok.1, hok.2.1, by show 1 ≤ r.p + 1; omega, trivial⟩, ?_, fun x => ?_, fun _ => ⟨a, _, rfl, by show r.f + (r.p + 1) = i + 1; omega⟩, fun h => absurd ⟨by omega, by simpa using hi⟩ h, ?_⟩
        · rw [nxt1_snoc]; show r.f + (r.p + 1) + 1 ≤ i + 1 + 1; omega
        · have h3 := hfr x
          rw [fr_append] at h3 ⊢
          have e1 : Fr [r] x ↔ r.f ≤ x ∧ x < r.f + r.p := by simp [Fr]
          have e2 : Fr [⟨r.f, r.p + 1⟩] x ↔ r.f ≤ x ∧ x < r.f + (r.p + 1) := by simp [Fr]
          rw [e1] at h3
          rw [e2]
          constructor
          · rintro (h4 | ⟨h4, h5⟩)
            · have := h3.1 (.inl h4); exact ⟨by omega, this.2⟩
            · by_cases e : x = i
              · rw [e]; exact ⟨by omega, hi⟩
              · have := h3.1 (.inr ⟨h4, by omega⟩); exact ⟨by omega, this.2⟩
          · rintro ⟨h4, h5⟩
            by_cases e : x = i
            · right; omega
            · rcases h3.2 ⟨by omega, h5⟩ with h6 | h6
              · exact .inl h6
              · right; omega
        · have := ih.ln
          rw [e] at this
          simp only [List.length_append, List.length_singleton] at this ⊢
          omega
      · rw [runsTo_new hi h2]
        have hnx := ih.no h2
        refine ⟨OkF.append.2 ⟨ih.ok, hnx, Nat.le_refl _, trivial⟩, ?_, fun x => ?_, fun _ => ⟨_, _, rfl, rfl⟩, fun h => absurd ⟨by omega, by simpa using hi⟩ h, ?_⟩
        · rw [nxt1_snoc]; exact Nat.le_refl _
        · rw [fr_append, ih.fr]
          have e2 : Fr [⟨i, 1⟩] x ↔ x = i := by simp [Fr]; omega
          rw [e2]
          constructor
          · rintro (⟨h4, h5⟩ | rfl)
            · exact ⟨by omega, h5⟩
            · exact ⟨by omega, hi⟩
          · rintro ⟨h4, h5⟩
            by_cases e : x = i
            · exact .inr e
            · exact .inl ⟨by omega, h5⟩
        · have := ih.ln; simp only [List.length_append, List.length_singleton]; omega
theorem runs_eq {n : Nat} {l : List R} {F : Nat → Bool} (h : Okn n l) (hs : SayF n l F) : runsTo F n = l :=
  okf_uniq (runsTo_ok F n).ok (h.1.mono (Nat.zero_le _)) fun x => ((runsTo_ok F n).fr x).trans (hs x).symm
theorem sumR_snoc (a : List R) (r : R) : sumR (a ++ [r]) = sumR a + r.p := by simp [sumR]
theorem runs_sum (F : Nat → Bool) : ∀ i, sumR (runsTo F i) = ((List.range i).filter F).length
  | 0 => rfl
  | i + 1 => by
    have ih := runs_sum F i
    rw [List.range_succ, List.filter_append, List.length_append, ← ih]
    cases hi : F i with
    | false => rw [runsTo_no hi]; simp [hi]
    | true =>
      by_cases h2 : 1 ≤ i ∧ F (i - 1) = true
      · obtain ⟨a, r, e, _⟩ := (runsTo_ok F i).la h2
        rw [runsTo_more hi h2, e, bump_snoc, sumR_snoc, sumR_snoc]; simp [hi]; omega
      · rw [runsTo_new hi h2, sumR_snoc]; simp [hi]
/-- What is taken, what is given back. -/
def takeF (F : Nat → Bool) (f k x : Nat) : Bool := F x && !(decide (f ≤ x ∧ x < f + k))
def giveF (F : Nat → Bool) (f k x : Nat) : Bool := F x || decide (f ≤ x ∧ x < f + k)
theorem sayF_cut {n : Nat} {l : List R} {F : Nat → Bool} {r : R} {k : Nat} (h : Okn n l) (hs : SayF n l F) (hr : r ∈ l) (hk : k ≤ r.p) : SayF n (cutR l r k) (takeF F r.f k) := fun x => by
  rw [cutR_fr h hr hk, hs x]
  unfold takeF
  constructor
  · rintro ⟨⟨a, b⟩, c⟩; exact ⟨a, by rw [b, decide_eq_false c]; rfl⟩
  · rintro ⟨a, b⟩
    rw [Bool.and_eq_true, Bool.not_eq_true', decide_eq_false_iff_not] at b
    exact ⟨⟨a, b.1⟩, b.2⟩
theorem sayF_back {n : Nat} {l : List R} {F : Nat → Bool} {f k : Nat} (h : Okn n l) (hs : SayF n l F) (hk : 1 ≤ k) (hf : 1 ≤ f) (hn : f + k ≤ n) (hno : ¬ someR l f k) : SayF n (backR l f k) (giveF F f k) := fun x => by
  have h2 := backR_ok h hk hf hn (fun q => hno ((someR_iff h hk).2 q))
  rw [h2.2 x, hs x]
  unfold giveF
  constructor
  · rintro (⟨a, b⟩ | ⟨a, b⟩)
    · exact ⟨a, by rw [b]; rfl⟩
    · exact ⟨by omega, by rw [decide_eq_true ⟨a, b⟩, Bool.or_true]⟩
  · rintro ⟨a, b⟩
    rw [Bool.or_eq_true, decide_eq_true_iff] at b
    rcases b with b | b
    · exact .inl ⟨a, b⟩
    · exact .inr b
theorem some_F {n : Nat} {l : List R} {F : Nat → Bool} {f k : Nat} (h : Okn n l) (hs : SayF n l F) (hk : 1 ≤ k) (hn : f + k ≤ n) : someR l f k ↔ ∃ j, j < k ∧ F (f + j) = true := by
  rw [someR_iff h hk]
  constructor
  · rintro ⟨x, a, b, c⟩; exact ⟨x - f, by omega, by rw [show f + (x - f) = x by omega]; exact ((hs x).1 c).2⟩
  · rintro ⟨j, a, b⟩; exact ⟨f + j, by omega, by omega, (hs _).2 ⟨by omega, b⟩⟩
/-- The best so far of the first ones. -/
def BestTo (l : List R) (k i : Nat) (b : Option Nat) : Prop := match b with
  | none => ∀ r ∈ l.take i, r.p < k
  | some j => j < i ∧ ∃ r, l[j]? = some r ∧ k ≤ r.p ∧ ∀ j' s, j' < i → l[j']? = some s → k ≤ s.p → r.p < s.p ∨ (r.p = s.p ∧ j ≤ j')
theorem OkF.rise : ∀ {l : List R} {lo : Nat}, OkF lo l → ∀ {i j : Nat} {r s : R}, i < j → l[i]? = some r → l[j]? = some s → r.f < s.f
  | [], _, _, _, _, _, _, _, h, _ => by simp at h
  | q :: t, lo, h, 0, j + 1, r, s, _, h1, h2 => by
    simp at h1; subst h1
    have h3 := (h.2.2.bd s (List.mem_of_getElem? (by simpa using h2))).1
    have := h.2.1; omega
  | q :: t, lo, h, i + 1, j + 1, r, s, hij, h1, h2 => h.2.2.rise (i := i) (j := j) (by omega) (by simpa using h1) (by simpa using h2)
theorem BestTo.best {l : List R} {n k j : Nat} (h : Okn n l) (hb : BestTo l k l.length (some j)) : ∃ r, l[j]? = some r ∧ Best l k r := by
  obtain ⟨_, r, hr, hk, hm⟩ := hb
  refine ⟨r, hr, List.mem_of_getElem? hr, hk, fun s hs hks => ?_⟩
  obtain ⟨j', hj'⟩ := List.getElem?_of_mem hs
  rcases hm j' s (List.getElem?_eq_some_iff.1 hj').1 hj' hks with h1 | ⟨h1, h2⟩
  · exact .inl h1
  · refine .inr ⟨h1, ?_⟩
    rcases Nat.lt_or_eq_of_le h2 with h3 | h3
    · exact Nat.le_of_lt (h.1.rise h3 hr hj')
    · subst h3; rw [hr] at hj'; injection hj' with hj'; rw [hj']; exact Nat.le_refl _
theorem BestTo.nobody {l : List R} {k : Nat} (hb : BestTo l k l.length none) : ∀ r ∈ l, r.p < k := by
  have := hb
  unfold BestTo at this
  rwa [List.take_length] at this
theorem BestTo.start (l : List R) (k : Nat) : BestTo l k 0 none := by unfold BestTo; simp
section
variable {l : List R} {k i : Nat} {b : Option Nat} {s : R}
theorem BestTo.skip (h : BestTo l k i b) (hs : l[i]? = some s) (hn : s.p < k) : BestTo l k (i + 1) b := by
  cases b with
  | none =>
    unfold BestTo at h ⊢
    intro r hr
    rw [List.take_add_one, hs] at hr
    rcases List.mem_append.1 hr with h1 | h1
    · exact h r h1
    · have e : r = s := by simpa using h1
      rw [e]; exact hn
  | some j =>
    obtain ⟨h0, r, h1, h2, h3⟩ := h
    refine ⟨by omega, r, h1, h2, fun j' s' hj hs' hk => ?_⟩
    by_cases e : j' = i
    · subst e; rw [hs] at hs'; injection hs' with hs'; subst hs'; omega
    · exact h3 j' s' (by omega) hs' hk
theorem BestTo.keep {j : Nat} {r : R} (h : BestTo l k i (some j)) (hs : l[i]? = some s) (hr : l[j]? = some r) (hn : ¬ s.p < r.p) : BestTo l k (i + 1) (some j) := by
  obtain ⟨h0, r', h1, h2, h3⟩ := h
  rw [hr] at h1; injection h1 with h1; subst h1
  refine ⟨by omega, r, hr, h2, fun j' s' hj hs' hk => ?_⟩
  by_cases e : j' = i
  · subst e; rw [hs] at hs'; injection hs' with hs'; subst hs'; omega
  · exact h3 j' s' (by omega) hs' hk
theorem BestTo.first (h : BestTo l k i none) (hs : l[i]? = some s) (hk : k ≤ s.p) : BestTo l k (i + 1) (some i) := by
  refine ⟨by omega, s, hs, hk, fun j' s' hj hs' hk' => ?_⟩
  by_cases e : j' = i
  · subst e; rw [hs] at hs'; injection hs' with hs'; subst hs'; exact .inr ⟨rfl, Nat.le_refl _⟩
  · have := h s' (List.mem_of_getElem? (i := j') (by rw [List.getElem?_take, if_pos (by omega)]; exact hs')); omega
theorem BestTo.turn {j : Nat} {r : R} (h : BestTo l k i (some j)) (hs : l[i]? = some s) (hr : l[j]? = some r) (hk : k ≤ s.p) (hn : s.p < r.p) : BestTo l k (i + 1) (some i) := by
  obtain ⟨h0, r', h1, h2, h3⟩ := h
  rw [hr] at h1; injection h1 with h1; subst h1
  refine ⟨by omega, s, hs, hk, fun j' s' hj hs' hk' => ?_⟩
  by_cases e : j' = i
  · subst e; rw [hs] at hs'; injection hs' with hs'; subst hs'; exact .inr ⟨rfl, Nat.le_refl _⟩
  · rcases h3 j' s' (by omega) hs' hk' with h4 | ⟨h4, _⟩
    · exact .inl (by omega)
    · exact .inl (by omega)
end
end Go.Proofs.YtcnchgbngcnijaaGreatDoor
namespace Go.Proofs.YtcnchgbngcnijaaGreatDoor
open Go.RowKit

structure OwnR (w : World) (v : Value) (l : List R) : Prop where
  o : w.ownsRow 0 119 2 v l.length (rc l)
section
variable {w w' : World} {v : Value} {l : List R}
theorem OwnR.nil (w : World) : OwnR w (.slice none 0 0) [] := ⟨World.ownsRow_nil _ _ _ _⟩
theorem OwnR.chg {S : List Nat} (h : OwnR w v l) (c : Chg S w w') (hn : ∀ k ∈ fpv v, k ∉ S) : OwnR w' v l := ⟨own_chg h.o c fun k hk => hn k (mem_fpv.2 hk)⟩
theorem OwnR.chg0 (h : OwnR w v l) (c : Chg [] w w') : OwnR w' v l := h.chg c (by simp)
theorem OwnR.slice (h : OwnR w v l) : ∃ A c, v = .slice A l.length c := by
  rcases h.o.2 with ⟨rfl, h0⟩ | ⟨g, cap, cur, rfl, _⟩
  · exact ⟨none, 0, by rw [h0]⟩
  · exact ⟨_, _, rfl⟩
theorem OwnR.cell {A : Option Addr} {n c i : Nat} {r : R} (h : OwnR w (.slice A n c) l) (hr : l[i]? = some r) :
    ∃ g, A = some ⟨g, 0, none⟩ ∧ w.cell? ⟨g, i * 2, none⟩ = some (.int .i64 r.f) ∧ w.cell? ⟨g, i * 2 + 1, none⟩ = some (.int .i64 r.p) ∧ w.frozen? ⟨g, i * 2, none⟩ = false ∧ w.frozen? ⟨g, i * 2 + 1, none⟩ = false ∧ g < w.heap.size ∧ n = l.length := by
  have hil := (List.getElem?_eq_some_iff.1 hr).1
  obtain ⟨g, cap, rest, ev, hb, _⟩ := own_open h.o (by omega)
  injection ev with e1 e2 e3
  obtain ⟨h1, h2⟩ := rc_at hr rest
  exact ⟨g, e1, by rw [hb.cell, List.getElem?_toArray]; exact h1, by rw [hb.cell, List.getElem?_toArray]; exact h2, hb.frozen _, hb.frozen _, hb.lt, e2⟩
theorem OwnR.ne_blk {g : Nat} {t : TypeId} {cs : Array Value} (h : OwnR w v l) (hb : Blk w g t cs) (hne : 119 ≠ t) : g ∉ fpv v := fun hm => own_ne h.o hb hne (mem_fpv.1 hm)
/-- One more page in a run. -/
theorem OwnR.setP {g n c i : Nat} {r : R} {p : Nat} (h : OwnR w (.slice (some ⟨g, 0, none⟩) n c) l) (hr : l[i]? = some r) : OwnR (w.setCell ⟨g, i * 2 + 1, none⟩ (.int .i64 p)) (.slice (some ⟨g, 0, none⟩) n c) (l.set i ⟨r.f, p⟩) := by
  have hil := (List.getElem?_eq_some_iff.1 hr).1
  obtain ⟨g', cap, rest, ev, hb, hrl, hc, hm, hx⟩ := own_open h.o (by omega)
  injection ev with e1 e2 e3
  injection e1 with e1
  injection e1 with e1
  subst e1 e2 e3
  have hb' := hb.set_ (i * 2 + 1) (.int .i64 p)
  have es : ((rc l ++ rest).toArray.setIfInBounds (i * 2 + 1) (.int .i64 p)) = (rc (l.set i ⟨r.f, p⟩) ++ rest).toArray := by
    rw [List.setIfInBounds_toArray]
    congr 1
    rw [← rc_set l i ⟨r.f, p⟩ rest hil]
    congr 1
    have h1 := (rc_at hr rest).1
    have hl := (List.getElem?_eq_some_iff.1 h1)
    obtain ⟨hl1, hl2⟩ := hl
    show _ = ((rc l ++ rest).set (i * 2) (.int .i64 r.f))
    rw [← hl2, List.set_getElem_self]
  rw [es] at hb'
  have hl2 : (rc (l.set i ⟨r.f, p⟩)).length = (rc l).length := by rw [rc_len, rc_len, List.length_set]
  refine ⟨?_⟩
  have hs : (l.set i ⟨r.f, p⟩).length = l.length := List.length_set ..
  rw [hs]
  exact own_mk hb' (by rw [hl2]; exact hrl) hc hm (by rw [hl2]; exact hx)
theorem run_push_run (T : TypeId) (hT : Tryz.prog.underlying T = some (.slice 119)) (ty : TypeId) (h : OwnR w v l) (r : R) (hl : l.length ≤ 1000000) :
    ∃ v' w', (Builtin.append_ #[T, T] ty #[v, .slice (some ⟨w.heap.size, 0, none⟩) 1 1]).run Tryz.prog (w.alloc (.cells #[.int .i64 r.f, .int .i64 r.p] 119)) = .ok v' w' ∧ OwnR w' v' (l ++ [r]) ∧ Stp (fpv v) (fpv v') w w' := by
  obtain ⟨i, hi, hz, hsz, hb⟩ := info_parts info_run
  obtain ⟨v', w', hrun, h1, h2, h3, h4⟩ := run_append_own_at (P := Tryz.prog) (w.alloc (.cells #[.int .i64 r.f, .int .i64 r.p] 119)) 0 T ty 119 i (.agg #[.int .i64 0, .int .i64 0]) 2 16 hT hi hz hsz hb rfl (by decide) v l.length (rc l) (h.o.alloc _) ⟨w.heap.size, 0, none⟩ 1 1 [.int .i64 r.f, .int .i64 r.p] rfl
    (fun j u hu => by rw [WideShapes.add_plain, Nat.zero_add, (Blk.new w 119 #[.int .i64 r.f, .int .i64 r.p]).cell]; simpa using hu)
    (by intro u hu; simp at hu; rcases hu with rfl | rfl <;> rfl) (by unfold maxLen; omega) (by omega) (Nat.zero_le _)
  refine ⟨v', w', hrun, ⟨?_⟩, ⟨((Chg.refl (fpv v) w).alloc _).grown h2 fun k hk => .inl (mem_fpv.2 hk), fun k hk => ?_⟩⟩
  · have e : rc (l ++ [r]) = rc l ++ [.int .i64 r.f, .int .i64 r.p] := by rw [rc_append]; rfl
    rw [e, List.length_append]; exact h1
  · rcases h4 with h4 | h4
    · rw [mem_fpv, h4] at hk; exact .inl (mem_fpv.2 hk)
    · rw [mem_fpv, h4] at hk
      injection hk with hk
      rw [World.size_alloc] at hk
      exact .inr (by omega)
theorem wpList_push_run {ops : Array Oper} {rest : List Oper} {op : Oper} {a : Act} {Q : Exit → Act → World → Prop} {T : TypeId} (hgd : op.guard = none) (s x : Operand)
    (hop : op.op = .call { callee := .builtin .append, args := #[s, x], argTypes := #[T, T] }) (hT : Tryz.prog.underlying T = some (.slice 119)) (hs : a.eval s = v) (h : OwnR w v l) (r : R) (hx : a.eval x = .slice (some ⟨w.heap.size, 0, none⟩) 1 1) (hl : l.length ≤ 1000000)
    (hK : ∀ A' c' w', OwnR w' (.slice A' (l.length + 1) c') (l ++ [r]) → Stp (fpv v) (fpv (.slice A' (l.length + 1) c')) w w' → wpList Tryz.prog ops Q rest (a.put op.dst (.slice A' (l.length + 1) c')) w') : wpList Tryz.prog ops Q (op :: rest) a (w.alloc (.cells #[.int .i64 r.f, .int .i64 r.p] 119)) := by
  obtain ⟨v', w', hr, h2, h3⟩ := run_push_run T hT op.type h r hl
  obtain ⟨A', c', e⟩ := h2.slice
  rw [List.length_append, List.length_singleton] at e
  subst e
  refine wpList_plain hgd fun K' hK' => ?_
  unfold Oper.wp execOp
  simp only [hop, resolve, invoke, builtin, Sem.run_bind, Sem.run_pure, Result.andThen_ok, List.map_toArray, List.map_cons, List.map_nil, hs, hx, hr]
  exact hK' _ _ (hK A' c' w' h2 h3)
end
end Go.Proofs.YtcnchgbngcnijaaGreatDoor
namespace Go.Proofs.YtcnchgbngcnijaaGreatDoor
open Go.RowKit

def CmRel (w0 : World) (n : Nat) (gk : Nat) (idx : Value) (w : World) : Prop := ∃ i, gk + i = n + 1 ∧ i ≤ n ∧ idx = .int .i64 (i : Nat) ∧ ∃ m, w = w0.drewN m
theorem Chg.newP {T : List Nat} {a w w' : World} (h : Chg [] a w) (c : Chg T w w') (hT : ∀ k ∈ T, a.heap.size ≤ k) : Chg [] a w' :=
  ⟨c.os.trans h.os, c.tape.trans h.tape, c.output.trans h.output, Nat.le_trans h.size c.size, fun k hk _ =>
    (c.block k (Nat.lt_of_lt_of_le hk h.size) (fun hm => by have := hT k hm; omega)).trans (h.block k hk (by simp))⟩
/-! One answer. -/
theorem AllocSays.uniq {l : List R} {k a c a' c' : Int} {l1 l2 : List R} (h1 : AllocSays l k a c l1) (h2 : AllocSays l k a' c' l2) : a = a' ∧ c = c' ∧ l1 = l2 := by
  rcases h1 with ⟨x, rfl, rfl, rfl⟩ | ⟨x, y, rfl, rfl, rfl⟩ | ⟨x, r, hr, rfl, rfl, rfl⟩
  · rcases h2 with ⟨_, rfl, rfl, rfl⟩ | ⟨x', _⟩ | ⟨x', _⟩
    · exact ⟨rfl, rfl, rfl⟩
    · omega
    · omega
  · rcases h2 with ⟨x', _⟩ | ⟨_, _, rfl, rfl, rfl⟩ | ⟨_, s, hs, _⟩
    · omega
    · exact ⟨rfl, rfl, rfl⟩
    · have := y s hs.1; have := hs.2.1; omega
  · rcases h2 with ⟨x', _⟩ | ⟨_, y, _⟩ | ⟨_, s, hs, rfl, rfl, rfl⟩
    · omega
    · have := y r hr.1; have := hr.2.1; omega
    · obtain rfl := Best.uniq hr hs
      exact ⟨rfl, rfl, rfl⟩
theorem FreeSays.uniq {n : Nat} {l : List R} {f k c c' : Int} {l1 l2 : List R} (h1 : FreeSays n l f k c l1) (h2 : FreeSays n l f k c' l2) : c = c' ∧ l1 = l2 := by
  rcases h1 with ⟨x, rfl, rfl⟩ | ⟨x, ⟨y, rfl, rfl⟩ | ⟨y, rfl, rfl⟩⟩
  · rcases h2 with ⟨_, rfl, rfl⟩ | ⟨x', _⟩
    · exact ⟨rfl, rfl⟩
    · exact absurd x x'
  · rcases h2 with ⟨x', _⟩ | ⟨_, ⟨_, rfl, rfl⟩ | ⟨y', _⟩⟩
    · exact absurd x' x
    · exact ⟨rfl, rfl⟩
    · exact absurd y y'
  · rcases h2 with ⟨x', _⟩ | ⟨_, ⟨y', _⟩ | ⟨_, rfl, rfl⟩⟩
    · exact absurd x' x
    · exact absurd y' y
    · exact ⟨rfl, rfl⟩
end Go.Proofs.YtcnchgbngcnijaaGreatDoor
