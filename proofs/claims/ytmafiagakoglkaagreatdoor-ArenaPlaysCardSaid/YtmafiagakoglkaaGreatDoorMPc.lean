/- PageBest: plain laws. -/
/- Runs of free pages: plain laws for PageMerges, PageApart, PageLefts, PagePlays. No program in sight. -/
/- The document's runs, page by page. Plain laws; no program in sight. -/
/- A list of runs that the call owns: append of one, one of them told anew. Plain theorems on worlds. -/
/- Two lists of runs that are the same are told so; a page beside other blocks. -/
import Derived.Test.YtmafiagakoglkaaGreatDoorMPb
import Derived.Test.YtmafiagakoglkaaGreatDoorMPa
import Derived.Maps.AppendAt
import Derived.BigQuiet
import Derived.Deep.DeepCutAuto
namespace Go.Proofs.YtmafiagakoglkaaGreatDoor

theorem plc_all {l : List R} {f : Nat} (h : ∀ r ∈ l, r.f < f) : plc l f = l.length := by
  unfold plc
  congr 1
  induction l with
  | nil => rfl
  | cons r t ih =>
    rw [List.takeWhile_cons_of_pos (by simpa using h r (by simp)), ih (fun s hs => h s (by simp [hs]))]
/-- Pages that are given back behind all runs, with one page between, are a run of their own. -/
theorem free_behind {n : Nat} {l : List R} {at_ k : Nat} {c : Int} {l' : List R} (h : OkF 1 l) (hx : nxt1 1 l ≤ at_) (hk : 1 ≤ k) (hn : at_ + k ≤ n) (hs : FreeSays n l at_ k c l') : c = 0 ∧ l' = l ++ [⟨at_, k⟩] ∧ OkF 1 l' ∧ nxt1 1 l' = at_ + k + 1 := by
  have hge := h.nxt_ge
  have hb : ∀ r ∈ l, r.f + r.p + 1 ≤ at_ := fun r hr => by have := (h.bd r hr).2.2; omega
  have hp : plc l at_ = l.length := plc_all fun r hr => by have := hb r hr; omega
  rcases hs with ⟨h1, _⟩ | ⟨_, ⟨h1, _⟩ | ⟨_, hc, hl⟩⟩
  · omega
  · exfalso
    rcases h1 with ⟨r, h1, h2, h3⟩ | ⟨r, h2, h3⟩
    · simp only [Int.toNat_natCast] at h2 h3
      have := hb r (List.mem_of_getElem? h2)
      omega
    · simp only [Int.toNat_natCast] at h2 h3
      rw [hp, List.getElem?_eq_none (Nat.le_refl _)] at h2
      cases h2
  · simp only [Int.toNat_natCast] at hl
    have e : l' = l ++ [⟨at_, k⟩] := by
      have h5 := backR_split (a := l) (b := []) (first := at_) (k := k) (by rw [List.append_nil]; exact hp.symm)
      rw [List.append_nil] at h5
      rw [hl, h5]
      cases List.eq_nil_or_concat l with
      | inl h6 => subst h6; rfl
      | inr h6 =>
        obtain ⟨a, q, rfl⟩ := h6
        have hq := hb q (by simp)
        rw [if_neg (by simp)]
        have h7 := joinR_at a q (frontR at_ k [])
        have e1 : (a ++ [q]).length - 1 = a.length := by simp
        have e2 : a ++ [q] ++ frontR at_ k [] = a ++ q :: frontR at_ k [] := by simp
        rw [List.concat_eq_append, e1, e2, h7]
        simp only [frontR]
        rw [if_neg (by show ¬ q.f + q.p = at_; omega)]
        simp
    refine ⟨hc, e, ?_, ?_⟩
    · rw [e, OkF.append]; exact ⟨h, hx, hk, trivial⟩
    · rw [e, nxt1_snoc]

/-- What PageBest keeps in mind: best of the runs so far for w. -/
structure Bst (w : Nat) (l : List R) (b : R) : Prop where
  none : b.p = 0 → (∀ r ∈ l, r.p < w) ∧ b.f = 0
  some : b.p ≠ 0 → Best l w b
theorem Bst.nil (w : Nat) : Bst w [] ⟨0, 0⟩ := ⟨fun _ => ⟨by simp, rfl⟩, fun h => absurd rfl h⟩
theorem Bst.snoc {w at_ n : Nat} {l : List R} {b : R} (h : Bst w l b) (hf : ∀ r ∈ l, r.f < at_) (hn : 1 ≤ n) :
    Bst w (l ++ [⟨at_, n⟩]) (if w ≤ n ∧ (b.p = 0 ∨ n < b.p) then ⟨at_, n⟩ else b) := by
  by_cases hc : w ≤ n ∧ (b.p = 0 ∨ n < b.p)
  · rw [if_pos hc]
    refine ⟨fun h0 => by simp only at h0; omega, fun _ => ⟨by simp, hc.1, fun s hs hk => ?_⟩⟩
    rcases List.mem_append.1 hs with hs | hs
    · rcases hc.2 with h0 | h0
      · have := (h.none h0).1 s hs; omega
      · by_cases hb : b.p = 0
        · omega
        · have := (h.some hb).2.2 s hs hk
          left; show n < s.p; omega
    · have : s = ⟨at_, n⟩ := by simpa using hs
      subst this; right; exact ⟨rfl, Nat.le_refl _⟩
  · rw [if_neg hc]
    refine ⟨fun h0 => ⟨fun r hr => ?_, (h.none h0).2⟩, fun hb => ⟨List.mem_append_left _ (h.some hb).1, (h.some hb).2.1, fun s hs hk => ?_⟩⟩
    · rcases List.mem_append.1 hr with hr | hr
      · exact (h.none h0).1 r hr
      · have : r = ⟨at_, n⟩ := by simpa using hr
        subst this; show n < w; omega
    · rcases List.mem_append.1 hs with hs | hs
      · exact (h.some hb).2.2 s hs hk
      · have : s = ⟨at_, n⟩ := by simpa using hs
        subst this
        have h1 : w ≤ n := hk
        have h2 := hf b (h.some hb).1
        by_cases h3 : b.p < n
        · exact .inl h3
        · right; exact ⟨by show b.p = n; omega, by show b.f ≤ at_; omega⟩
theorem Best.uniq {l : List R} {k : Nat} {r s : R} (h1 : Best l k r) (h2 : Best l k s) : r = s := by
  have a := h1.2.2 s h2.1 h2.2.1
  have b := h2.2.2 r h1.1 h1.2.1
  cases r; cases s
  simp only [R.mk.injEq] at *
  omega
theorem cut_sum {n : Nat} {l : List R} {r : R} {k : Nat} (h : Okn n l) (hr : r ∈ l) (hk : k ≤ r.p) : sumR (cutR l r k) + k = sumR l := by
  obtain ⟨a, b, rfl⟩ := List.append_of_mem hr
  rw [cutR_split h.1]
  split
  · simp [sumR]; omega
  · simp [sumR]; omega
end Go.Proofs.YtmafiagakoglkaaGreatDoor
namespace Go.Proofs.YtmafiagakoglkaaGreatDoor

/-- Pages that are handed out are not free; given back at once they are taken. -/
theorem free_taken {n : Nat} {l : List R} {r : R} {k : Nat} {c : Int} {l' : List R} (h : Okn n l) (hb : Best l k r) (hk : 1 ≤ k) (hs : FreeSays n (cutR l r k) r.f k c l') :
    c = 0 ∧ Okn n l' ∧ sumR l' = sumR l := by
  have hr := hb.1
  have hkp := hb.2.1
  have hbd := h.bd r hr
  have h2 := cutR_ok h hr hkp
  have hno : ¬ ∃ x, r.f ≤ x ∧ x < r.f + k ∧ Fr (cutR l r k) x := by
    rintro ⟨x, h3, h4, h5⟩
    exact ((cutR_fr h hr hkp x).1 h5).2 ⟨h3, h4⟩
  rcases hs with ⟨h1, _⟩ | ⟨_, ⟨h1, _⟩ | ⟨_, hc, hl⟩⟩
  · omega
  · simp only [Int.toNat_natCast] at h1
    exact absurd ((someR_iff h2 hk).1 h1) hno
  · simp only [Int.toNat_natCast] at hl
    have h3 := backR_ok h2 hk hbd.1 (by omega) hno
    have h4 := cut_sum h hr hkp
    rw [hl]
    exact ⟨hc, h3.1, by rw [backR_sum]; exact h4⟩
/-- Free, where something is free. -/
theorem free_state2 {n : Nat} {l : List R} {f k : Nat} {c : Int} {l' : List R} (h : Okn n l) (hk : 1 ≤ k) (hf : 1 ≤ f) (hn : f + k ≤ n) (x : Nat) (h1 : f ≤ x) (h2 : x < f + k) (hx : Fr l x) (hs : FreeSays n l f k c l') :
    c = 5 ∧ l' = l := by
  rcases hs with ⟨h1, _⟩ | ⟨_, ⟨_, hc, hl⟩ | ⟨h3, _⟩⟩
  · omega
  · exact ⟨hc, hl⟩
  · simp only [Int.toNat_natCast] at h3
    exact absurd ((someR_iff h hk).2 ⟨x, h1, h2, hx⟩) h3

/-! Neighbours. -/
theorem OkF.at {l : List R} {lo : Nat} (h : OkF lo l) {j : Nat} {r : R} (hr : l[j]? = some r) : lo ≤ r.f ∧ 1 ≤ r.p ∧ r.f + r.p + 1 ≤ nxt1 lo l := h.bd r (List.mem_of_getElem? hr)
theorem OkF.next : ∀ {l : List R} {lo : Nat}, OkF lo l → ∀ {j : Nat} {r s : R}, l[j]? = some r → l[j + 1]? = some s → r.f + r.p + 1 ≤ s.f
  | [], _, _, _, _, _, h, _ => by simp at h
  | q :: t, _, h, 0, r, s, h1, h2 => by
    simp at h1; subst h1
    exact (h.2.2.at (j := 0) h2).1
  | q :: t, _, h, j + 1, r, s, h1, h2 => by
    exact h.2.2.next (j := j) (by simpa using h1) (by simpa using h2)

/-! How many runs there are. -/
def stc (F : Nat → Bool) : Nat → Nat → Bool → Nat
  | _, 0, _ => 0
  | i, m + 1, b => (if F i = true ∧ b = false then 1 else 0) + stc F (i + 1) m (F i)
theorem stc_succ (F : Nat → Bool) (i m : Nat) (b : Bool) : stc F i (m + 1) b = (if F i = true ∧ b = false then 1 else 0) + stc F (i + 1) m (F i) := rfl
theorem stc_le (F : Nat → Bool) : ∀ m i b, stc F i m b ≤ m
  | 0, _, _ => Nat.le_refl _
  | m + 1, i, b => by have := stc_le F m (i + 1) (F i); rw [stc_succ]; split <;> omega
theorem stc_false (F : Nat → Bool) (i m : Nat) : stc F i (m + 1) false = (if F i = true then 1 else 0) + stc F (i + 1) m (F i) := by
  rw [stc_succ]; by_cases h : F i = true <;> simp [h]
theorem stc_true (F : Nat → Bool) (i m : Nat) : stc F i (m + 1) true = stc F (i + 1) m (F i) := by
  rw [stc_succ]; simp
theorem scan_len (F : Nat → Bool) : ∀ m i, (scanR F i m).length = stc F i m false
  | 0, _ => rfl
  | m + 1, i => by
    have ih := scan_len F m (i + 1)
    obtain ⟨h1, _, h3⟩ := scanR_ok F m (i + 1)
    rw [scanR_succ, stc_false]
    by_cases hi : F i = true
    · rw [if_pos hi, if_pos hi, hi]
      cases m with
      | zero => rfl
      | succ m =>
        rw [stc_true]
        rw [stc_false] at ih
        have h4 := h3 (i + 1)
        generalize scanR F (i + 1) (m + 1) = c at ih h1 h3 h4 ⊢
        cases c with
        | nil =>
          simp only [List.length_nil, List.length_cons] at ih ⊢
          omega
        | cons r t =>
          simp only [List.length_cons] at ih ⊢
          by_cases e : r.f = i + 1
          · rw [if_pos e]
            have hF : F (i + 1) = true := (h4.1 (fr_cons.2 (.inl ⟨by omega, by have := h1.2.1; omega⟩))).2.2
            rw [if_pos hF] at ih
            simp only [List.length_cons]; omega
          · rw [if_neg e]
            have hF : ¬ F (i + 1) = true := fun q => by
              have h5 := h4.2 ⟨Nat.le_refl _, by omega, q⟩
              have h6 := h1.1
              rcases fr_cons.1 h5 with h7 | h7
              · omega
              · have := (h1.2.2.fr h7).1; omega
            rw [if_neg hF] at ih
            simp only [List.length_cons]; omega
    · have hf : F i = false := by simpa using hi
      rw [if_neg hi, if_neg hi, hf, ih]; omega

/-- All pages are free: one run. -/
theorem one_run {m : Nat} {l : List R} (h : Okn (m + 1) l) (hm : 1 ≤ m) (hs : sumR l = m) : l = [⟨1, m⟩] := by
  obtain ⟨h1, h2⟩ := h
  cases l with
  | nil => simp [sumR] at hs; omega
  | cons r t =>
    have h3 := h1.1
    have h4 := h1.2.1
    have e : sumR (r :: t) = r.p + sumR t := rfl
    have h6 : nxt1 1 (r :: t) = nxt1 (r.f + r.p + 1) t := rfl
    cases t with
    | nil =>
      have : sumR [] = 0 := rfl
      have h7 : nxt1 (r.f + r.p + 1) [] = r.f + r.p + 1 := rfl
      have e1 : r.p = m := by omega
      have e2 : r.f = 1 := by omega
      cases r; simp_all
    | cons s t' =>
      exfalso
      have h7 := sum_bd h1.2.2.2.2
      have h8 := h1.2.2.1
      have h9 : nxt1 (r.f + r.p + 1) (s :: t') = nxt1 (s.f + s.p + 1) t' := rfl
      have e5 : sumR (s :: t') = s.p + sumR t' := rfl
      omega
/-- All pages are free: one run, by pages. -/
theorem one_run' {m : Nat} {l : List R} (h : Okn (m + 1) l) (hm : 1 ≤ m) (hf : ∀ x, 1 ≤ x → x < m + 1 → Fr l x) : l = [⟨1, m⟩] := by
  refine okf_uniq h.1 (⟨Nat.le_refl _, hm, trivial⟩ : OkF 1 [⟨1, m⟩]) fun x => ?_
  rw [fr_cons]
  simp only [fr_nil, or_false]
  constructor
  · intro q; have := h.1.fr q; have := h.2; omega
  · rintro ⟨q1, q2⟩; exact hf x q1 (by omega)

/-! PageMerges: steps that meet each page once. -/
theorem step_apart {m d i j : Nat} (hc : Nat.gcd d m = 1) (hij : j < i) (hi : i < m) : j * d % m ≠ i * d % m := by
  intro e
  have h1 : m ∣ i * d - j * d := Nat.dvd_of_mod_eq_zero (Nat.sub_mod_eq_zero_of_mod_eq e.symm)
  rw [← Nat.sub_mul] at h1
  have h2 : Nat.Coprime m d := by unfold Nat.Coprime; rw [Nat.gcd_comm]; exact hc
  have h3 := h2.dvd_of_dvd_mul_right h1
  have := Nat.le_of_dvd (by omega) h3
  omega
theorem step_mod (m d i : Nat) : (i * d % m + d) % m = (i + 1) * d % m := by rw [Nat.add_mul, Nat.one_mul, Nat.mod_add_mod]
/-- What is free behind i rounds. -/
def mrgF (m d i x : Nat) : Bool := (List.range i).any fun j => j * d % m + 1 == x
theorem mrgF_succ (m d i x : Nat) : mrgF m d (i + 1) x = (mrgF m d i x || (i * d % m + 1 == x)) := by simp [mrgF, List.range_succ]
theorem mrgF_zero (m d i : Nat) : mrgF m d i 0 = false := by simp [mrgF]
theorem mrgF_new {m d i : Nat} (hc : Nat.gcd d m = 1) (hi : i < m) : mrgF m d i (i * d % m + 1) = false := by
  rw [mrgF, List.any_eq_false]
  intro j hj
  have := step_apart hc (List.mem_range.1 hj) hi
  simp; omega
end Go.Proofs.YtmafiagakoglkaaGreatDoor
namespace Go.Proofs.YtmafiagakoglkaaGreatDoor

/-- l says what F says, of n pages. -/
def SayF (n : Nat) (l : List R) (F : Nat → Bool) : Prop := ∀ x, Fr l x ↔ x < n ∧ F x = true
def bump : List R → List R
  | [] => []
  | [r] => [⟨r.f, r.p + 1⟩]
  | r :: s :: t => r :: bump (s :: t)
theorem bump_snoc : ∀ (a : List R) (r : R), bump (a ++ [r]) = a ++ [⟨r.f, r.p + 1⟩]
  | [], _ => rfl
  | [q], r => rfl
  | q :: s :: t, r => by
    show q :: bump (s :: t ++ [r]) = _
    rw [bump_snoc (s :: t) r]; rfl
def runsTo (F : Nat → Bool) : Nat → List R
  | 0 => []
  | i + 1 => if F i = true then (if 1 ≤ i ∧ F (i - 1) = true then bump (runsTo F i) else runsTo F i ++ [⟨i, 1⟩]) else runsTo F i
theorem runsTo_no {F : Nat → Bool} {i : Nat} (h : F i = false) : runsTo F (i + 1) = runsTo F i := by rw [runsTo, if_neg (by rw [h]; decide)]
theorem runsTo_new {F : Nat → Bool} {i : Nat} (h : F i = true) (h2 : ¬ (1 ≤ i ∧ F (i - 1) = true)) : runsTo F (i + 1) = runsTo F i ++ [⟨i, 1⟩] := by rw [runsTo, if_pos h, if_neg h2]
theorem runsTo_more {F : Nat → Bool} {i : Nat} (h : F i = true) (h2 : 1 ≤ i ∧ F (i - 1) = true) : runsTo F (i + 1) = bump (runsTo F i) := by rw [runsTo, if_pos h, if_pos h2]
structure RunsTo (F : Nat → Bool) (i : Nat) (l : List R) : Prop where
  ok : OkF 0 l
  nx : nxt1 0 l ≤ i + 1
  fr : ∀ x, Fr l x ↔ x < i ∧ F x = true
  la : 1 ≤ i ∧ F (i - 1) = true → ∃ a r, l = a ++ [r] ∧ r.f + r.p = i
  no : ¬ (1 ≤ i ∧ F (i - 1) = true) → nxt1 0 l ≤ i
  ln : l.length ≤ i
theorem runsTo_ok (F : Nat → Bool) : ∀ i, RunsTo F i (runsTo F i)
  | 0 => ⟨trivial, Nat.zero_le 1, fun x => ⟨fun h => absurd h fr_nil, fun h => by omega⟩, fun h => by omega, fun _ => Nat.le_refl _, Nat.le_refl _⟩
  | i + 1 => by
    have ih := runsTo_ok F i
    cases hi : F i with
    | false =>
      rw [runsTo_no hi]
      refine ⟨ih.ok, Nat.le_succ_of_le ih.nx, fun x => ?_, fun h => by simp [hi] at h, fun _ => ih.nx, Nat.le_succ_of_le ih.ln⟩
      rw [ih.fr]
      constructor
      · rintro ⟨a, b⟩; exact ⟨by omega, b⟩
      · rintro ⟨a, b⟩
        refine ⟨?_, b⟩
        by_cases e : x = i
        · rw [e, hi] at b; cases b
        · omega
    | true =>
      by_cases h2 : 1 ≤ i ∧ F (i - 1) = true
      · obtain ⟨a, r, e, hr⟩ := ih.la h2
        rw [runsTo_more hi h2, e, bump_snoc]
        have hok := ih.ok
        rw [e, OkF.append] at hok
        have hfr := ih.fr
        rw [e] at hfr
        have hp : 1 ≤ r.p := hok.2.2.1
        refine ⟨OkF.append.2 ⟨hok.1, hok.2.1, by show 1 ≤ r.p + 1; omega, trivial⟩, ?_, fun x => ?_, fun _ => ⟨a, _, rfl, by show r.f + (r.p + 1) = i + 1; omega⟩, fun h => absurd ⟨by omega, by simpa using hi⟩ h, ?_⟩
        · rw [nxt1_snoc]; show r.f + (r.p + 1) + 1 ≤ i + 1 + 1; omega
        · have h3 := hfr x
          rw [fr_append] at h3 ⊢
          have e1 : Fr [r] x ↔ r.f ≤ x ∧ x < r.f + r.p := by simp [Fr]
          have e2 : Fr [⟨r.f, r.p + 1⟩] x ↔ r.f ≤ x ∧ x < r.f + (r.p + 1) := by simp [Fr]
          rw [e1] at h3
          rw [e2]
          constructor
          · rintro (h4 | ⟨h4, h5⟩)
            · have := h3.1 (.inl h4); exact ⟨by omega, this.2⟩
            · by_cases e : x = i
              · rw [e]; exact ⟨by omega, hi⟩
              · have := h3.1 (.inr ⟨h4, by omega⟩); exact ⟨by omega, this.2⟩
          · rintro ⟨h4, h5⟩
            by_cases e : x = i
            · right; omega
            · rcases h3.2 ⟨by omega, h5⟩ with h6 | h6
              · exact .inl h6
              · right; omega
        · have := ih.ln
          rw [e] at this
          simp only [List.length_append, List.length_singleton] at this ⊢
          omega
      · rw [runsTo_new hi h2]
        have hnx := ih.no h2
        refine ⟨OkF.append.2 ⟨ih.ok, hnx, Nat.le_refl _, trivial⟩, ?_, fun x => ?_, fun _ => ⟨_, _, rfl, rfl⟩, fun h => absurd ⟨by omega, by simpa using hi⟩ h, ?_⟩
        · rw [nxt1_snoc]; exact Nat.le_refl _
        · rw [fr_append, ih.fr]
          have e2 : Fr [⟨i, 1⟩] x ↔ x = i := by simp [Fr]; omega
          rw [e2]
          constructor
          · rintro (⟨h4, h5⟩ | rfl)
            · exact ⟨by omega, h5⟩
            · exact ⟨by omega, hi⟩
          · rintro ⟨h4, h5⟩
            by_cases e : x = i
            · exact .inr e
            · exact .inl ⟨by omega, h5⟩
        · have := ih.ln; simp only [List.length_append, List.length_singleton]; omega
theorem runs_eq {n : Nat} {l : List R} {F : Nat → Bool} (h : Okn n l) (hs : SayF n l F) : runsTo F n = l :=
  okf_uniq (runsTo_ok F n).ok (h.1.mono (Nat.zero_le _)) fun x => ((runsTo_ok F n).fr x).trans (hs x).symm
theorem sumR_snoc (a : List R) (r : R) : sumR (a ++ [r]) = sumR a + r.p := by simp [sumR]
theorem runs_sum (F : Nat → Bool) : ∀ i, sumR (runsTo F i) = ((List.range i).filter F).length
  | 0 => rfl
  | i + 1 => by
    have ih := runs_sum F i
    rw [List.range_succ, List.filter_append, List.length_append, ← ih]
    cases hi : F i with
    | false => rw [runsTo_no hi]; simp [hi]
    | true =>
      by_cases h2 : 1 ≤ i ∧ F (i - 1) = true
      · obtain ⟨a, r, e, _⟩ := (runsTo_ok F i).la h2
        rw [runsTo_more hi h2, e, bump_snoc, sumR_snoc, sumR_snoc]; simp [hi]; omega
      · rw [runsTo_new hi h2, sumR_snoc]; simp [hi]
/-- What is taken, what is given back. -/
def takeF (F : Nat → Bool) (f k x : Nat) : Bool := F x && !(decide (f ≤ x ∧ x < f + k))
def giveF (F : Nat → Bool) (f k x : Nat) : Bool := F x || decide (f ≤ x ∧ x < f + k)
theorem sayF_cut {n : Nat} {l : List R} {F : Nat → Bool} {r : R} {k : Nat} (h : Okn n l) (hs : SayF n l F) (hr : r ∈ l) (hk : k ≤ r.p) : SayF n (cutR l r k) (takeF F r.f k) := fun x => by
  rw [cutR_fr h hr hk, hs x]
  unfold takeF
  constructor
  · rintro ⟨⟨a, b⟩, c⟩; exact ⟨a, by rw [b, decide_eq_false c]; rfl⟩
  · rintro ⟨a, b⟩
    rw [Bool.and_eq_true, Bool.not_eq_true', decide_eq_false_iff_not] at b
    exact ⟨⟨a, b.1⟩, b.2⟩
theorem sayF_back {n : Nat} {l : List R} {F : Nat → Bool} {f k : Nat} (h : Okn n l) (hs : SayF n l F) (hk : 1 ≤ k) (hf : 1 ≤ f) (hn : f + k ≤ n) (hno : ¬ someR l f k) : SayF n (backR l f k) (giveF F f k) := fun x => by
  have h2 := backR_ok h hk hf hn (fun q => hno ((someR_iff h hk).2 q))
  rw [h2.2 x, hs x]
  unfold giveF
  constructor
  · rintro (⟨a, b⟩ | ⟨a, b⟩)
    · exact ⟨a, by rw [b]; rfl⟩
    · exact ⟨by omega, by rw [decide_eq_true ⟨a, b⟩, Bool.or_true]⟩
  · rintro ⟨a, b⟩
    rw [Bool.or_eq_true, decide_eq_true_iff] at b
    rcases b with b | b
    · exact .inl ⟨a, b⟩
    · exact .inr b
theorem some_F {n : Nat} {l : List R} {F : Nat → Bool} {f k : Nat} (h : Okn n l) (hs : SayF n l F) (hk : 1 ≤ k) (hn : f + k ≤ n) : someR l f k ↔ ∃ j, j < k ∧ F (f + j) = true := by
  rw [someR_iff h hk]
  constructor
  · rintro ⟨x, a, b, c⟩; exact ⟨x - f, by omega, by rw [show f + (x - f) = x by omega]; exact ((hs x).1 c).2⟩
  · rintro ⟨j, a, b⟩; exact ⟨f + j, by omega, by omega, (hs _).2 ⟨by omega, b⟩⟩
/-- The best so far of the first ones. -/
def BestTo (l : List R) (k i : Nat) (b : Option Nat) : Prop := match b with
  | none => ∀ r ∈ l.take i, r.p < k
  | some j => j < i ∧ ∃ r, l[j]? = some r ∧ k ≤ r.p ∧ ∀ j' s, j' < i → l[j']? = some s → k ≤ s.p → r.p < s.p ∨ (r.p = s.p ∧ j ≤ j')
theorem OkF.rise : ∀ {l : List R} {lo : Nat}, OkF lo l → ∀ {i j : Nat} {r s : R}, i < j → l[i]? = some r → l[j]? = some s → r.f < s.f
  | [], _, _, _, _, _, _, _, h, _ => by simp at h
  | q :: t, lo, h, 0, j + 1, r, s, _, h1, h2 => by
    simp at h1; subst h1
    have h3 := (h.2.2.bd s (List.mem_of_getElem? (by simpa using h2))).1
    have := h.2.1; omega
  | q :: t, lo, h, i + 1, j + 1, r, s, hij, h1, h2 => h.2.2.rise (i := i) (j := j) (by omega) (by simpa using h1) (by simpa using h2)
theorem BestTo.best {l : List R} {n k j : Nat} (h : Okn n l) (hb : BestTo l k l.length (some j)) : ∃ r, l[j]? = some r ∧ Best l k r := by
  obtain ⟨_, r, hr, hk, hm⟩ := hb
  refine ⟨r, hr, List.mem_of_getElem? hr, hk, fun s hs hks => ?_⟩
  obtain ⟨j', hj'⟩ := List.getElem?_of_mem hs
  rcases hm j' s (List.getElem?_eq_some_iff.1 hj').1 hj' hks with h1 | ⟨h1, h2⟩
  · exact .inl h1
  · refine .inr ⟨h1, ?_⟩
    rcases Nat.lt_or_eq_of_le h2 with h3 | h3
    · exact Nat.le_of_lt (h.1.rise h3 hr hj')
    · subst h3; rw [hr] at hj'; injection hj' with hj'; rw [hj']; exact Nat.le_refl _
theorem BestTo.nobody {l : List R} {k : Nat} (hb : BestTo l k l.length none) : ∀ r ∈ l, r.p < k := by
  have := hb
  unfold BestTo at this
  rwa [List.take_length] at this
theorem BestTo.start (l : List R) (k : Nat) : BestTo l k 0 none := by unfold BestTo; simp
section
variable {l : List R} {k i : Nat} {b : Option Nat} {s : R}
theorem BestTo.skip (h : BestTo l k i b) (hs : l[i]? = some s) (hn : s.p < k) : BestTo l k (i + 1) b := by
  cases b with
  | none =>
    unfold BestTo at h ⊢
    intro r hr
    rw [List.take_add_one, hs] at hr
    rcases List.mem_append.1 hr with h1 | h1
    · exact h r h1
    · have e : r = s := by simpa using h1
      rw [e]; exact hn
  | some j =>
    obtain ⟨h0, r, h1, h2, h3⟩ := h
    refine ⟨by omega, r, h1, h2, fun j' s' hj hs' hk => ?_⟩
    by_cases e : j' = i
    · subst e; rw [hs] at hs'; injection hs' with hs'; subst hs'; omega
    · exact h3 j' s' (by omega) hs' hk
theorem BestTo.keep {j : Nat} {r : R} (h : BestTo l k i (some j)) (hs : l[i]? = some s) (hr : l[j]? = some r) (hn : ¬ s.p < r.p) : BestTo l k (i + 1) (some j) := by
  obtain ⟨h0, r', h1, h2, h3⟩ := h
  rw [hr] at h1; injection h1 with h1; subst h1
  refine ⟨by omega, r, hr, h2, fun j' s' hj hs' hk => ?_⟩
  by_cases e : j' = i
  · subst e; rw [hs] at hs'; injection hs' with hs'; subst hs'; omega
  · exact h3 j' s' (by omega) hs' hk
theorem BestTo.first (h : BestTo l k i none) (hs : l[i]? = some s) (hk : k ≤ s.p) : BestTo l k (i + 1) (some i) := by
  refine ⟨by omega, s, hs, hk, fun j' s' hj hs' hk' => ?_⟩
  by_cases e : j' = i
  · subst e; rw [hs] at hs'; injection hs' with hs'; subst hs'; exact .inr ⟨rfl, Nat.le_refl _⟩
  · have := h s' (List.mem_of_getElem? (i := j') (by rw [List.getElem?_take, if_pos (by omega)]; exact hs')); omega
theorem BestTo.turn {j : Nat} {r : R} (h : BestTo l k i (some j)) (hs : l[i]? = some s) (hr : l[j]? = some r) (hk : k ≤ s.p) (hn : s.p < r.p) : BestTo l k (i + 1) (some i) := by
  obtain ⟨h0, r', h1, h2, h3⟩ := h
  rw [hr] at h1; injection h1 with h1; subst h1
  refine ⟨by omega, s, hs, hk, fun j' s' hj hs' hk' => ?_⟩
  by_cases e : j' = i
  · subst e; rw [hs] at hs'; injection hs' with hs'; subst hs'; exact .inr ⟨rfl, Nat.le_refl _⟩
  · rcases h3 j' s' (by omega) hs' hk' with h4 | ⟨h4, _⟩
    · exact .inl (by omega)
    · exact .inl (by omega)
end
end Go.Proofs.YtmafiagakoglkaaGreatDoor
namespace Go.Proofs.YtmafiagakoglkaaGreatDoor
open Go.RowKit

structure OwnR (w : World) (v : Value) (l : List R) : Prop where
  o : w.ownsRow 0 140 2 v l.length (rc l)
section
variable {w w' : World} {v : Value} {l : List R}
theorem OwnR.nil (w : World) : OwnR w (.slice none 0 0) [] := ⟨World.ownsRow_nil _ _ _ _⟩
theorem OwnR.lt (h : OwnR w v l) {k : Nat} (hk : k ∈ fpv v) : k < w.heap.size := own_lt h.o (mem_fpv.1 hk)
theorem OwnR.chg {S : List Nat} (h : OwnR w v l) (c : Chg S w w') (hn : ∀ k ∈ fpv v, k ∉ S) : OwnR w' v l := ⟨own_chg h.o c fun k hk => hn k (mem_fpv.2 hk)⟩
theorem OwnR.chg0 (h : OwnR w v l) (c : Chg [] w w') : OwnR w' v l := h.chg c (by simp)
theorem OwnR.slice (h : OwnR w v l) : ∃ A c, v = .slice A l.length c := by
  rcases h.o.2 with ⟨rfl, h0⟩ | ⟨g, cap, cur, rfl, _⟩
  · exact ⟨none, 0, by rw [h0]⟩
  · exact ⟨_, _, rfl⟩
theorem OwnR.cell {A : Option Addr} {n c i : Nat} {r : R} (h : OwnR w (.slice A n c) l) (hr : l[i]? = some r) :
    ∃ g, A = some ⟨g, 0, none⟩ ∧ w.cell? ⟨g, i * 2, none⟩ = some (.int .i64 r.f) ∧ w.cell? ⟨g, i * 2 + 1, none⟩ = some (.int .i64 r.p) ∧ w.frozen? ⟨g, i * 2, none⟩ = false ∧ w.frozen? ⟨g, i * 2 + 1, none⟩ = false ∧ g < w.heap.size ∧ n = l.length := by
  have hil := (List.getElem?_eq_some_iff.1 hr).1
  obtain ⟨g, cap, rest, ev, hb, _⟩ := own_open h.o (by omega)
  injection ev with e1 e2 e3
  obtain ⟨h1, h2⟩ := rc_at hr rest
  exact ⟨g, e1, by rw [hb.cell, List.getElem?_toArray]; exact h1, by rw [hb.cell, List.getElem?_toArray]; exact h2, hb.frozen _, hb.frozen _, hb.lt, e2⟩
theorem OwnR.ne_blk {g : Nat} {t : TypeId} {cs : Array Value} (h : OwnR w v l) (hb : Blk w g t cs) (hne : 140 ≠ t) : g ∉ fpv v := fun hm => own_ne h.o hb hne (mem_fpv.1 hm)
/-- One more page in a run. -/
theorem OwnR.setP {g n c i : Nat} {r : R} {p : Nat} (h : OwnR w (.slice (some ⟨g, 0, none⟩) n c) l) (hr : l[i]? = some r) : OwnR (w.setCell ⟨g, i * 2 + 1, none⟩ (.int .i64 p)) (.slice (some ⟨g, 0, none⟩) n c) (l.set i ⟨r.f, p⟩) := by
  have hil := (List.getElem?_eq_some_iff.1 hr).1
  obtain ⟨g', cap, rest, ev, hb, hrl, hc, hm, hx⟩ := own_open h.o (by omega)
  injection ev with e1 e2 e3
  injection e1 with e1
  injection e1 with e1
  subst e1 e2 e3
  have hb' := hb.set_ (i * 2 + 1) (.int .i64 p)
  have es : ((rc l ++ rest).toArray.setIfInBounds (i * 2 + 1) (.int .i64 p)) = (rc (l.set i ⟨r.f, p⟩) ++ rest).toArray := by
    rw [List.setIfInBounds_toArray]
    congr 1
    rw [← rc_set l i ⟨r.f, p⟩ rest hil]
    congr 1
    have h1 := (rc_at hr rest).1
    have hl := (List.getElem?_eq_some_iff.1 h1)
    obtain ⟨hl1, hl2⟩ := hl
    show _ = ((rc l ++ rest).set (i * 2) (.int .i64 r.f))
    rw [← hl2, List.set_getElem_self]
  rw [es] at hb'
  have hl2 : (rc (l.set i ⟨r.f, p⟩)).length = (rc l).length := by rw [rc_len, rc_len, List.length_set]
  refine ⟨?_⟩
  have hs : (l.set i ⟨r.f, p⟩).length = l.length := List.length_set ..
  rw [hs]
  exact own_mk hb' (by rw [hl2]; exact hrl) hc hm (by rw [hl2]; exact hx)
theorem run_push_run (T : TypeId) (hT : Tryz.prog.underlying T = some (.slice 140)) (ty : TypeId) (h : OwnR w v l) (r : R) (hl : l.length ≤ 1000000) :
    ∃ v' w', (Builtin.append_ #[T, T] ty #[v, .slice (some ⟨w.heap.size, 0, none⟩) 1 1]).run Tryz.prog (w.alloc (.cells #[.int .i64 r.f, .int .i64 r.p] 140)) = .ok v' w' ∧ OwnR w' v' (l ++ [r]) ∧ Stp (fpv v) (fpv v') w w' := by
  obtain ⟨i, hi, hz, hsz, hb⟩ := info_parts info_run
  obtain ⟨v', w', hrun, h1, h2, h3, h4⟩ := run_append_own_at (P := Tryz.prog) (w.alloc (.cells #[.int .i64 r.f, .int .i64 r.p] 140)) 0 T ty 140 i (.agg #[.int .i64 0, .int .i64 0]) 2 16 hT hi hz hsz hb rfl (by decide) v l.length (rc l) (h.o.alloc _) ⟨w.heap.size, 0, none⟩ 1 1 [.int .i64 r.f, .int .i64 r.p] rfl
    (fun j u hu => by rw [WideShapes.add_plain, Nat.zero_add, (Blk.new w 140 #[.int .i64 r.f, .int .i64 r.p]).cell]; simpa using hu)
    (by intro u hu; simp at hu; rcases hu with rfl | rfl <;> rfl) (by unfold maxLen; omega) (by omega) (Nat.zero_le _)
  refine ⟨v', w', hrun, ⟨?_⟩, ⟨((Chg.refl (fpv v) w).alloc _).grown h2 fun k hk => .inl (mem_fpv.2 hk), fun k hk => ?_⟩⟩
  · have e : rc (l ++ [r]) = rc l ++ [.int .i64 r.f, .int .i64 r.p] := by rw [rc_append]; rfl
    rw [e, List.length_append]; exact h1
  · rcases h4 with h4 | h4
    · rw [mem_fpv, h4] at hk; exact .inl (mem_fpv.2 hk)
    · rw [mem_fpv, h4] at hk
      injection hk with hk
      rw [World.size_alloc] at hk
      exact .inr (by omega)
theorem wpList_push_run {ops : Array Oper} {rest : List Oper} {op : Oper} {a : Act} {Q : Exit → Act → World → Prop} {T : TypeId} (hgd : op.guard = none) (s x : Operand)
    (hop : op.op = .call { callee := .builtin .append, args := #[s, x], argTypes := #[T, T] }) (hT : Tryz.prog.underlying T = some (.slice 140)) (hs : a.eval s = v) (h : OwnR w v l) (r : R) (hx : a.eval x = .slice (some ⟨w.heap.size, 0, none⟩) 1 1) (hl : l.length ≤ 1000000)
    (hK : ∀ A' c' w', OwnR w' (.slice A' (l.length + 1) c') (l ++ [r]) → Stp (fpv v) (fpv (.slice A' (l.length + 1) c')) w w' → wpList Tryz.prog ops Q rest (a.put op.dst (.slice A' (l.length + 1) c')) w') : wpList Tryz.prog ops Q (op :: rest) a (w.alloc (.cells #[.int .i64 r.f, .int .i64 r.p] 140)) := by
  obtain ⟨v', w', hr, h2, h3⟩ := run_push_run T hT op.type h r hl
  obtain ⟨A', c', e⟩ := h2.slice
  rw [List.length_append, List.length_singleton] at e
  subst e
  refine wpList_plain hgd fun K' hK' => ?_
  unfold Oper.wp execOp
  simp only [hop, resolve, invoke, builtin, Sem.run_bind, Sem.run_pure, Result.andThen_ok, List.map_toArray, List.map_cons, List.map_nil, hs, hx, hr]
  exact hK' _ _ (hK A' c' w' h2 h3)
end
end Go.Proofs.YtmafiagakoglkaaGreatDoor
namespace Go.Proofs.YtmafiagakoglkaaGreatDoor
open Go.RowKit

def CmRel (w0 : World) (n : Nat) (gk : Nat) (idx : Value) (w : World) : Prop := ∃ i, gk + i = n + 1 ∧ i ≤ n ∧ idx = .int .i64 (i : Nat) ∧ ∃ m, w = w0.drewN m
theorem OwnR.keep {S : List Nat} {w w' : World} {v : Value} {l : List R} (h : OwnR w v l) (k : Keep S w w') (hs : ∀ j ∈ fpv v, j ∈ S) : OwnR w' v l := by
  refine ⟨h.o.1, ?_⟩
  rcases h.o.2 with h0 | ⟨g, cap, cur, rfl, hb, hg, r⟩
  · exact .inl h0
  · exact .inr ⟨g, cap, cur, rfl, hb, (k g (hs g (by simp [fpv, Value.ownBlock]))).trans hg, r⟩
theorem Chg.newP {T : List Nat} {a w w' : World} (h : Chg [] a w) (c : Chg T w w') (hT : ∀ k ∈ T, a.heap.size ≤ k) : Chg [] a w' :=
  ⟨c.os.trans h.os, c.tape.trans h.tape, c.output.trans h.output, Nat.le_trans h.size c.size, fun k hk _ =>
    (c.block k (Nat.lt_of_lt_of_le hk h.size) (fun hm => by have := hT k hm; omega)).trans (h.block k hk (by simp))⟩
/-- A change of the walk's own blocks. -/
theorem PgI.chgS {w0 w w' : World} {S T : List Nat} {g n : Nat} {l : List R} {v : Value} (P : PgI w0 S w g n l v) (c : Chg T w w') (hT : ∀ k ∈ T, k ∈ S) (h0 : ∀ k ∈ T, w0.heap.size ≤ k) : PgI w0 S w' g n l v := by
  refine ⟨⟨c.blk P.I.b (fun hm => (P.n g (List.mem_cons_self ..)).2 (hT g hm)), own_chg P.I.o c fun k hk hm => (P.n k (List.mem_cons_of_mem _ (mem_fpv.2 hk))).2 (hT k hm)⟩, P.c.newP c h0, P.n, fun k hk => Nat.lt_of_lt_of_le (P.s k hk) c.size⟩
/-- Other blocks of the walk. -/
theorem PgI.swap {w0 w : World} {S T : List Nat} {g n : Nat} {l : List R} {v : Value} (P : PgI w0 S w g n l v) (h1 : ∀ k ∈ T, k ∉ g :: fpv v) (h2 : ∀ k ∈ T, k < w.heap.size) : PgI w0 T w g n l v :=
  ⟨P.I, P.c, fun k hk => ⟨(P.n k hk).1, fun hm => h1 k hm hk⟩, h2⟩
theorem PgI.lt {w0 w : World} {S : List Nat} {g n : Nat} {l : List R} {v : Value} (P : PgI w0 S w g n l v) : ∀ k ∈ g :: fpv v, k < w.heap.size := fun k hk => by
  rcases List.mem_cons.1 hk with rfl | h
  · exact P.I.b.lt
  · exact own_lt P.I.o (mem_fpv.1 h)
/-! One answer. -/
theorem AllocSays.uniq {l : List R} {k a c a' c' : Int} {l1 l2 : List R} (h1 : AllocSays l k a c l1) (h2 : AllocSays l k a' c' l2) : a = a' ∧ c = c' ∧ l1 = l2 := by
  rcases h1 with ⟨x, rfl, rfl, rfl⟩ | ⟨x, y, rfl, rfl, rfl⟩ | ⟨x, r, hr, rfl, rfl, rfl⟩
  · rcases h2 with ⟨_, rfl, rfl, rfl⟩ | ⟨x', _⟩ | ⟨x', _⟩
    · exact ⟨rfl, rfl, rfl⟩
    · omega
    · omega
  · rcases h2 with ⟨x', _⟩ | ⟨_, _, rfl, rfl, rfl⟩ | ⟨_, s, hs, _⟩
    · omega
    · exact ⟨rfl, rfl, rfl⟩
    · have := y s hs.1; have := hs.2.1; omega
  · rcases h2 with ⟨x', _⟩ | ⟨_, y, _⟩ | ⟨_, s, hs, rfl, rfl, rfl⟩
    · omega
    · have := y r hr.1; have := hr.2.1; omega
    · obtain rfl := Best.uniq hr hs
      exact ⟨rfl, rfl, rfl⟩
theorem FreeSays.uniq {n : Nat} {l : List R} {f k c c' : Int} {l1 l2 : List R} (h1 : FreeSays n l f k c l1) (h2 : FreeSays n l f k c' l2) : c = c' ∧ l1 = l2 := by
  rcases h1 with ⟨x, rfl, rfl⟩ | ⟨x, ⟨y, rfl, rfl⟩ | ⟨y, rfl, rfl⟩⟩
  · rcases h2 with ⟨_, rfl, rfl⟩ | ⟨x', _⟩
    · exact ⟨rfl, rfl⟩
    · exact absurd x x'
  · rcases h2 with ⟨x', _⟩ | ⟨_, ⟨_, rfl, rfl⟩ | ⟨y', _⟩⟩
    · exact absurd x' x
    · exact ⟨rfl, rfl⟩
    · exact absurd y y'
  · rcases h2 with ⟨x', _⟩ | ⟨_, ⟨y', _⟩ | ⟨_, rfl, rfl⟩⟩
    · exact absurd x' x
    · exact absurd y' y
    · exact ⟨rfl, rfl⟩
end Go.Proofs.YtmafiagakoglkaaGreatDoor
