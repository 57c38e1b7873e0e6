/- The document's Path: how far things are from an address; the least way down. Plain laws; no program in sight. -/
import Derived.Test.YtfkgooliglcjkaaVwClosedLaw
namespace Go.Proofs.Ytfkgooliglcjkaa

/-- A chain of n steps down to addr, all of it reached. -/
inductive Dn (V : Vw) (R : List Int) (addr : Int) : Nat → Int → Prop
  | here : Dn V R addr 0 addr
  | step {n : Nat} {x y : Int} : x ∈ R → y ∈ V.slotsAt x → y ∈ R → Dn V R addr n y → Dn V R addr (n + 1) x
section
variable {V : Vw} {R : List Int} {addr : Int}
theorem Dn.mem {n : Nat} {x : Int} (ha : addr ∈ R) (h : Dn V R addr n x) : x ∈ R := by
  cases h with
  | here => exact ha
  | step h1 _ _ _ => exact h1
/-- What is known of far: numbers below d stand, and those of d of the list P. -/
structure FarI (V : Vw) (R : List Int) (addr : Int) (d : Nat) (P : List Int) (F : Int → Option Int) : Prop where
  c : ∀ x v, F x = some v → ∃ n : Nat, v = (n : Int) + 1 ∧ n ≤ d ∧ Dn V R addr n x ∧ ∀ m, Dn V R addr m x → n ≤ m
  a : ∀ x n, Dn V R addr n x → n < d ∨ (n ≤ d ∧ x ∈ P) → (F x).isSome = true
theorem FarI.start : FarI V R addr 1 [] (putF (fun _ => none) addr 1) := by
  refine ⟨fun x v h => ?_, fun x n hn hd => ?_⟩
  · unfold putF at h
    split at h
    · next e => injection h with h; subst h e; exact ⟨0, rfl, by omega, .here, fun m _ => Nat.zero_le _⟩
    · cases h
  · rcases hd with hd | ⟨_, hd⟩
    · have e : n = 0 := by omega
      subst e
      cases hn
      unfold putF; rw [if_pos rfl]; rfl
    · simp at hd
theorem FarI.next {d : Nat} {F : Int → Option Int} (ha : addr ∈ R) (h : FarI V R addr d R F) : FarI V R addr (d + 1) [] F :=
  ⟨fun x v hx => by obtain ⟨n, h1, h2, h3⟩ := h.c x v hx; exact ⟨n, h1, by omega, h3⟩, fun x n hn hd => by
    rcases hd with hd | ⟨_, hd⟩
    · exact h.a x n hn (.inr ⟨by omega, hn.mem ha⟩)
    · simp at hd⟩
theorem FarI.skip {d : Nat} {P : List Int} {F : Int → Option Int} {x : Int} (h : FarI V R addr d P F) (hx : (F x).isSome = true) : FarI V R addr d (P ++ [x]) F :=
  ⟨h.c, fun y n hn hd => by
    rcases hd with hd | ⟨hd, hy⟩
    · exact h.a y n hn (.inl hd)
    · rcases List.mem_append.1 hy with h1 | h1
      · exact h.a y n hn (.inr ⟨hd, h1⟩)
      · rw [List.mem_singleton.1 h1]; exact hx⟩
/-- What a pass over slots has found. -/
def hit (F : Int → Option Int) (R : List Int) (d : Nat) (s : List Int) : Bool := s.any fun y => decide (F y = some (d : Int)) && decide (y ∈ R)
def farNow (F : Int → Option Int) (R : List Int) (d : Nat) (x : Int) (s : List Int) : Int → Option Int := if hit F R d s = true then putF F x ((d : Int) + 1) else F
theorem hit_snoc {F : Int → Option Int} {d : Nat} {s : List Int} {y : Int} : hit F R d (s ++ [y]) = (hit F R d s || (decide (F y = some (d : Int)) && decide (y ∈ R))) := by unfold hit; simp [List.any_append]
theorem farNow_nil (F : Int → Option Int) (d : Nat) (x : Int) : farNow F R d x [] = F := by unfold farNow hit; simp
theorem farNow_at {F : Int → Option Int} {d : Nat} {x : Int} {s : List Int} {y : Int} (hx : F x = none) : farNow F R d x s y = some (d : Int) ↔ F y = some (d : Int) := by
  unfold farNow
  split
  · by_cases e : y = x
    · subst e
      have h1 : putF F y ((d : Int) + 1) y = some ((d : Int) + 1) := by simp [putF]
      rw [h1, hx]; constructor
      · intro h; injection h with h; omega
      · intro h; cases h
    · have h1 : putF F x ((d : Int) + 1) y = F y := by simp [putF, e]
      rw [h1]
  · exact Iff.rfl
theorem farNow_yes {F : Int → Option Int} {d : Nat} {x : Int} {s : List Int} {y : Int} (h1 : F y = some (d : Int)) (h2 : y ∈ R) (z : Int) : putF (farNow F R d x s) x ((d : Int) + 1) z = farNow F R d x (s ++ [y]) z := by
  have h3 : hit F R d (s ++ [y]) = true := by rw [hit_snoc, decide_eq_true h1, decide_eq_true h2]; simp
  unfold farNow
  rw [if_pos h3]
  split
  · unfold putF; by_cases e : z = x <;> simp [e]
  · rfl
theorem farNow_no {F : Int → Option Int} {d : Nat} {x : Int} {s : List Int} {y : Int} (h : ¬ (F y = some (d : Int) ∧ y ∈ R)) : farNow F R d x (s ++ [y]) = farNow F R d x s := by
  have h3 : (decide (F y = some (d : Int)) && decide (y ∈ R)) = false := by
    by_cases h1 : F y = some (d : Int)
    · by_cases h2 : y ∈ R
      · exact absurd ⟨h1, h2⟩ h
      · simp [h2]
    · simp [h1]
  unfold farNow
  rw [hit_snoc, h3, Bool.or_false]
theorem hit_iff {F : Int → Option Int} {d : Nat} {s : List Int} : hit F R d s = true ↔ ∃ y ∈ s, F y = some (d : Int) ∧ y ∈ R := by
  unfold hit; rw [List.any_eq_true]; simp
theorem FarI.pass {d : Nat} {P : List Int} {F : Int → Option Int} {x : Int} (h : FarI V R addr d P F) (hd : 1 ≤ d) (hxR : x ∈ R) (hx : F x = none) : FarI V R addr d (P ++ [x]) (farNow F R d x (V.slotsAt x)) := by
  have hno : ∀ n, Dn V R addr n x → d ≤ n := fun n hn => by
    rcases Nat.lt_or_ge n d with h1 | h1
    · have := h.a x n hn (.inl h1); rw [hx] at this; cases this
    · exact h1
  have hfound : ∀ n, Dn V R addr n x → n ≤ d → hit F R d (V.slotsAt x) = true := fun n hn hle => by
    have e : n = d := by have := hno n hn; omega
    subst e
    cases hn with
    | here => omega
    | @step n' _ y h1 h2 h3 h4 =>
      have h5 := h.a y n' h4 (.inl (by omega))
      obtain ⟨v, hv⟩ := Option.isSome_iff_exists.1 h5
      obtain ⟨m, e1, h6, h7, h8⟩ := h.c y v hv
      have := h8 n' h4
      have h9 := hno (m + 1) (.step h1 h2 h3 h7)
      have e2 : m = n' := by omega
      subst e2
      exact hit_iff.2 ⟨y, h2, by rw [hv, e1]; norm_cast, h3⟩
  refine ⟨fun z v hz => ?_, fun z n hn hdz => ?_⟩
  · unfold farNow at hz
    split at hz
    · next hh =>
      unfold putF at hz
      split at hz
      · next e =>
        subst e
        injection hz with hz
        obtain ⟨y, h1, h2, h3⟩ := hit_iff.1 hh
        obtain ⟨m, e1, h6, h7, _⟩ := h.c y _ h2
        have e2 : m + 1 = d := by omega
        refine ⟨d, hz.symm, Nat.le_refl _, ?_, hno⟩
        rw [← e2]; exact .step hxR h1 h3 h7
      · exact h.c z v hz
    · exact h.c z v hz
  · have hold : (F z).isSome = true → (farNow F R d x (V.slotsAt x) z).isSome = true := fun h1 => by
      unfold farNow
      split
      · unfold putF
        by_cases e : z = x
        · simp [e]
        · simpa [e] using h1
      · exact h1
    by_cases e : z = x
    · subst e
      have hle : n ≤ d := by rcases hdz with h1 | ⟨h1, _⟩ <;> omega
      unfold farNow
      rw [if_pos (hfound n hn hle)]; simp [putF]
    · refine hold ?_
      rcases hdz with h1 | ⟨h1, h2⟩
      · exact h.a z n hn (.inl h1)
      · rcases List.mem_append.1 h2 with h3 | h3
        · exact h.a z n hn (.inr ⟨h1, h3⟩)
        · exact absurd (List.mem_singleton.1 h3) e

/-! Ways and chains. -/
theorem short_nodup {p : List Int} {x : Int} (hw : Way V p x) (hl : ∀ q, Way V q x → p.length ≤ q.length) : p.Nodup := by
  unfold List.Nodup
  rw [List.pairwise_iff_getElem]
  intro i j hi hj hij e
  have d1 : p = p.take (i + 1) ++ p.drop (i + 1) := (List.take_append_drop _ _).symm
  have d2 : p = p.take (j + 1) ++ p.drop (j + 1) := (List.take_append_drop _ _).symm
  have n1 : p.take (i + 1) ≠ [] := by intro e0; have := congrArg List.length e0; rw [List.length_take, List.length_nil] at this; omega
  have n2 : p.take (j + 1) ≠ [] := by intro e0; have := congrArg List.length e0; rw [List.length_take, List.length_nil] at this; omega
  obtain ⟨a, ha, _⟩ := Way.pre _ rfl (by rw [← d1]; exact hw) n1
  obtain ⟨b, hb, hq⟩ := Way.pre _ rfl (by rw [← d2]; exact hw) n2
  have e1 := ha.last.symm.trans (take_last hi)
  have e2 := hb.last.symm.trans (take_last hj)
  injection e1 with e1
  injection e2 with e2
  have e3 : a = b := by rw [e1, e2, e]
  subst e3
  have hl := hl _ (hq _ ha)
  have := congrArg List.length d2
  simp only [List.length_append, List.length_take, List.length_drop] at hl
  omega
theorem way_short {x : Int} : ∀ (n : Nat) {p : List Int}, p.length ≤ n → Way V p x → ∃ q, Way V q x ∧ ∀ r, Way V r x → q.length ≤ r.length
  | 0, p, hp, h => by have := h.pos; omega
  | n + 1, p, hp, h => by
    by_cases hs : ∀ r, Way V r x → p.length ≤ r.length
    · exact ⟨p, h, hs⟩
    · rw [Classical.not_forall] at hs
      obtain ⟨r, hr⟩ := hs
      rw [Classical.not_imp] at hr
      exact way_short n (by omega) hr.1
theorem way_inR (hR : IsRch V R) (ha : addr ∈ R) {p : List Int} (h : Way V p addr) : ∀ a ∈ p, a ∈ R := fun a hm => by
  rcases h.objs a hm with h1 | h1
  · rw [h1]; exact ha
  · exact (hR.m a).2 ⟨h.mem a hm, h1⟩
theorem way_dn (hR : IsRch V R) (ha : addr ∈ R) {p : List Int} (h : Way V p addr) : ∀ (k j : Nat) (a : Int), p[j]? = some a → j + k + 1 = p.length → Dn V R addr k a
  | 0, j, a, hj, hk => by
    have h1 := h.last
    rw [List.getLast?_eq_getElem?, show p.length - 1 = j by omega, hj] at h1
    injection h1 with h1
    rw [h1]; exact .here
  | k + 1, j, a, hj, hk => by
    obtain ⟨b, hb⟩ : ∃ b, p[j + 1]? = some b := ⟨_, List.getElem?_eq_getElem (by omega)⟩
    exact .step (way_inR hR ha h a (List.mem_of_getElem? hj)) (h.link j a b hj hb) (way_inR hR ha h b (List.mem_of_getElem? hb)) (way_dn hR ha h k (j + 1) b hb (by omega))

/-! The best root. -/
def BestI (F : Int → Option Int) (S P : List Int) (b : Int) : Prop := (b = 0 ∧ ∀ x ∈ P, x ∈ S → F x = none) ∨ (b ≠ 0 ∧ b ∈ P ∧ b ∈ S ∧ ∃ v, F b = some v ∧ ∀ x ∈ P, x ∈ S → ∀ u, F x = some u → v < u ∨ (v = u ∧ b ≤ x))
theorem BestI.start (F : Int → Option Int) (S : List Int) : BestI F S [] 0 := .inl ⟨rfl, by simp⟩
section
variable {F : Int → Option Int} {S P : List Int} {b x : Int}
theorem BestI.skip (h : BestI F S P b) (hx : ¬ (x ∈ S ∧ (F x).isSome = true)) : BestI F S (P ++ [x]) b := by
  have hn : x ∈ S → F x = none := fun h1 => by
    cases e : F x with
    | none => rfl
    | some v => exact absurd ⟨h1, by rw [e]; rfl⟩ hx
  rcases h with ⟨h1, h2⟩ | ⟨h1, h2, h3, v, h4, h5⟩
  · refine .inl ⟨h1, fun y hy hS => ?_⟩
    rcases List.mem_append.1 hy with h6 | h6
    · exact h2 y h6 hS
    · rw [List.mem_singleton.1 h6] at hS ⊢; exact hn hS
  · refine .inr ⟨h1, List.mem_append_left _ h2, h3, v, h4, fun y hy hS u hu => ?_⟩
    rcases List.mem_append.1 hy with h6 | h6
    · exact h5 y h6 hS u hu
    · rw [List.mem_singleton.1 h6] at hS hu; rw [hn hS] at hu; cases hu
theorem BestI.keep {v u : Int} (h : BestI F S P b) (hb : b ≠ 0) (hv : F b = some v) (hu : F x = some u) (hle : ¬ u < v) (hlt : ∀ y ∈ P, y < x) : BestI F S (P ++ [x]) b := by
  rcases h with ⟨h1, _⟩ | ⟨h1, h2, h3, v', h4, h5⟩
  · exact absurd h1 hb
  · rw [hv] at h4
    injection h4 with h4
    subst h4
    refine .inr ⟨h1, List.mem_append_left _ h2, h3, v, hv, fun y hy hS w hw => ?_⟩
    rcases List.mem_append.1 hy with h6 | h6
    · exact h5 y h6 hS w hw
    · rw [List.mem_singleton.1 h6] at hw ⊢
      rw [hu] at hw; injection hw with hw
      have := hlt b h2
      omega
theorem BestI.turn {u : Int} (h : BestI F S P b) (hx0 : x ≠ 0) (hS : x ∈ S) (hu : F x = some u) (hb : b = 0 ∨ ∃ v, F b = some v ∧ u < v) : BestI F S (P ++ [x]) x := by
  refine .inr ⟨hx0, by simp, hS, u, hu, fun y hy hyS w hw => ?_⟩
  rcases List.mem_append.1 hy with h6 | h6
  · rcases h with ⟨_, h2⟩ | ⟨h1, _, _, v', h4, h5⟩
    · rw [h2 y h6 hyS] at hw; cases hw
    · rcases hb with hb | ⟨v, hv, hlt⟩
      · exact absurd hb h1
      · rw [hv] at h4
        injection h4 with h4
        rcases h5 y h6 hyS w hw with h7 | ⟨h7, _⟩
        · left; omega
        · left; omega
  · rw [List.mem_singleton.1 h6] at hw ⊢
    rw [hu] at hw; injection hw with hw
    right; exact ⟨hw, Int.le_refl _⟩
end
/-! The next one down. -/
def NextI (F : Int → Option Int) (t : Int) (P : List Int) (b : Int) : Prop := (b = 0 ∧ ∀ y ∈ P, y ≠ 0 → F y ≠ some t) ∨ (b ≠ 0 ∧ b ∈ P ∧ F b = some t ∧ ∀ y ∈ P, y ≠ 0 → F y = some t → b ≤ y)
theorem NextI.start (F : Int → Option Int) (t : Int) : NextI F t [] 0 := .inl ⟨rfl, by simp⟩
section
variable {F : Int → Option Int} {P : List Int} {b x t : Int}
theorem NextI.skip (h : NextI F t P b) (hx : x = 0 ∨ F x ≠ some t) : NextI F t (P ++ [x]) b := by
  rcases h with ⟨h1, h2⟩ | ⟨h1, h2, h3, h4⟩
  · refine .inl ⟨h1, fun y hy h0 => ?_⟩
    rcases List.mem_append.1 hy with h6 | h6
    · exact h2 y h6 h0
    · rw [List.mem_singleton.1 h6] at h0 ⊢
      rcases hx with hx | hx
      · exact absurd hx h0
      · exact hx
  · refine .inr ⟨h1, List.mem_append_left _ h2, h3, fun y hy h0 hy2 => ?_⟩
    rcases List.mem_append.1 hy with h6 | h6
    · exact h4 y h6 h0 hy2
    · rw [List.mem_singleton.1 h6] at h0 hy2
      rcases hx with hx | hx
      · exact absurd hx h0
      · exact absurd hy2 hx
theorem NextI.keep (h : NextI F t P b) (hb : b ≠ 0) (hle : ¬ x < b) : NextI F t (P ++ [x]) b := by
  rcases h with ⟨h1, _⟩ | ⟨h1, h2, h3, h4⟩
  · exact absurd h1 hb
  · refine .inr ⟨h1, List.mem_append_left _ h2, h3, fun y hy h0 hy2 => ?_⟩
    rcases List.mem_append.1 hy with h6 | h6
    · exact h4 y h6 h0 hy2
    · rw [List.mem_singleton.1 h6]; omega
theorem NextI.turn (h : NextI F t P b) (hx0 : x ≠ 0) (hx : F x = some t) (hb : b = 0 ∨ x < b) : NextI F t (P ++ [x]) x := by
  refine .inr ⟨hx0, by simp, hx, fun y hy h0 hy2 => ?_⟩
  rcases List.mem_append.1 hy with h6 | h6
  · rcases h with ⟨_, h2⟩ | ⟨h1, _, _, h4⟩
    · exact absurd hy2 (h2 y h6 h0)
    · rcases hb with hb | hb
      · exact absurd hb h1
      · have := h4 y h6 h0 hy2; omega
  · rw [List.mem_singleton.1 h6]; exact Int.le_refl _
end
/-! Down the least way. -/
structure DwnI (V : Vw) (R : List Int) (addr : Int) (F : Int → Option Int) (L : Nat) (p : List Int) (b : Int) (n : Nat) : Prop where
  w : Way V p b
  f : F b = some ((n : Int) + 1)
  l : p.length + n = L
  q : ∀ q, Way V q addr → L < q.length ∨ (q.length = L ∧ (p = q.take p.length ∨ lexLt p (q.take p.length)))
theorem take_one {q : List Int} {r : Int} (h : q[0]? = some r) : q.take 1 = [r] := by
  cases q with
  | nil => simp at h
  | cons a t => simp at h; simp [h]
theorem far_all (hR : IsRch V R) (ha : addr ∈ R) {F : Int → Option Int} (h : FarI V R addr (R.length + 1) [] F) {q : List Int} (hq : Way V q addr) (hl : q.length ≤ R.length + 1) {j : Nat} {a : Int} (hj : q[j]? = some a) : ∃ m : Nat, F a = some ((m : Int) + 1) ∧ m + j + 1 ≤ q.length ∧ Dn V R addr m a ∧ ∀ i, Dn V R addr i a → m ≤ i := by
  have hjl := (List.getElem?_eq_some_iff.1 hj).1
  have hd := way_dn hR ha hq (q.length - 1 - j) j a hj (by omega)
  have hs := h.a a _ hd (.inl (by omega))
  obtain ⟨v, hv⟩ := Option.isSome_iff_exists.1 hs
  obtain ⟨m, e, _, h3, h4⟩ := h.c a v hv
  have := h4 _ hd
  exact ⟨m, by rw [hv, e], by omega, h3, h4⟩
theorem DwnI.start (hR : IsRch V R) (ha : addr ∈ R) {F : Int → Option Int} (h : FarI V R addr (R.length + 1) [] F) {b : Int} (hb : BestI F V.rootsL R b) : b ≠ 0 ∧ b ∈ R ∧ ∃ n, n ≤ R.length + 1 ∧ DwnI V R addr F (n + 1) [b] b n := by
  obtain ⟨p0, hp0⟩ := ((hR.m addr).1 ha).1.way
  obtain ⟨q, hq, hs⟩ := way_short _ (Nat.le_refl _) hp0
  have hql : q.length ≤ R.length := nodup_le (short_nodup hq hs) (way_inR hR ha hq)
  obtain ⟨r, hr, hrr⟩ := hq.head
  obtain ⟨m, h1, h2, _⟩ := far_all hR ha h hq (by omega) hr
  rcases hb with ⟨_, hb⟩ | ⟨h0, hbR, hbS, v, hv, hb⟩
  · rw [hb r (way_inR hR ha hq r (List.mem_of_getElem? hr)) hrr] at h1; cases h1
  · obtain ⟨n, e, hn, _⟩ := h.c b v hv
    subst e
    refine ⟨h0, hbR, n, hn, ⟨.root (mem_rootsL.1 hbS).1 h0, hv, by simp [Nat.add_comm], fun q' hq' => ?_⟩⟩
    by_cases hlen : q'.length ≤ R.length + 1
    · obtain ⟨r', hr', hrr'⟩ := hq'.head
      obtain ⟨m', g1, g2, _⟩ := far_all hR ha h hq' hlen hr'
      rcases hb r' (way_inR hR ha hq' r' (List.mem_of_getElem? hr')) hrr' _ g1 with g3 | ⟨g3, g4⟩
      · left; omega
      · by_cases hlt : n + 1 < q'.length
        · exact .inl hlt
        · refine .inr ⟨by omega, ?_⟩
          rw [List.length_singleton, take_one hr']
          rcases Int.lt_or_eq_of_le g4 with g5 | g5
          · exact .inr (.inl g5)
          · exact .inl (by rw [g5])
    · obtain ⟨m2, hm2⟩ : ∃ m2 : Nat, m2 = m := ⟨m, rfl⟩
      rcases hb r (way_inR hR ha hq r (List.mem_of_getElem? hr)) hrr _ h1 with g3 | ⟨g3, _⟩
      · left; omega
      · left; omega
theorem DwnI.end_ {F : Int → Option Int} {L n : Nat} {p : List Int} {b : Int} (hd : DwnI V R addr F L p b n) {d : Nat} (h : FarI V R addr d [] F) (e : b = addr) : LeastWay V p addr := by
  subst e
  obtain ⟨m, e1, _, _, h4⟩ := h.c b _ hd.f
  have := h4 0 .here
  have e2 : n = 0 := by omega
  have hl := hd.l
  refine ⟨hd.w, fun q hq hne => ?_⟩
  rcases hd.q q hq with h1 | ⟨h1, h2⟩
  · left; omega
  · right
    have e3 : q.take p.length = q := List.take_of_length_le (by omega)
    rw [e3] at h2
    refine ⟨by omega, ?_⟩
    rcases h2 with h2 | h2
    · exact absurd h2.symm hne
    · exact h2
theorem DwnI.pos {F : Int → Option Int} {L n : Nat} {p : List Int} {b : Int} (hd : DwnI V R addr F L p b n) {d : Nat} (h : FarI V R addr d [] F) (e : b ≠ addr) : 1 ≤ n := by
  obtain ⟨m, e1, _, h3, _⟩ := h.c b _ hd.f
  have e2 : m = n := by omega
  subst e2
  cases h3 with
  | here => exact absurd rfl e
  | step _ _ _ _ => omega
theorem DwnI.step (hR : IsRch V R) (ha : addr ∈ R) {F : Int → Option Int} (h : FarI V R addr (R.length + 1) [] F) {L n : Nat} {p : List Int} {b : Int} (hd : DwnI V R addr F L p b (n + 1)) {x : Int} (hx : NextI F ((n : Int) + 1) (V.slotsAt b) x) :
    x ≠ 0 ∧ x ∈ R ∧ DwnI V R addr F L (p ++ [x]) x n := by
  obtain ⟨m, e1, _, h3, h4⟩ := h.c b _ hd.f
  have e2 : m = n + 1 := by omega
  subst e2
  have hpl := hd.w.pos
  -- there is one
  obtain ⟨y, hy1, hy2, hy3⟩ : ∃ y, y ∈ V.slotsAt b ∧ y ≠ 0 ∧ F y = some ((n : Int) + 1) := by
    cases h3 with
    | @step _ _ y g1 g2 g3 g4 =>
      have hs := h.a y n g4 (.inl (by have := hd.l; omega))
      obtain ⟨v, hv⟩ := Option.isSome_iff_exists.1 hs
      obtain ⟨m, e, _, k3, k4⟩ := h.c y v hv
      have := k4 n g4
      have := h4 (m + 1) (.step g1 g2 g3 k3)
      have e3 : m = n := by omega
      subst e3
      exact ⟨y, g2, ((hR.m y).1 g3).1.ne, by rw [hv, e]⟩
  rcases hx with ⟨_, hx⟩ | ⟨hx0, hxs, hxf, hxm⟩
  · exact absurd hy3 (hx y hy1 hy2)
  · obtain ⟨m, e, _, k3, _⟩ := h.c x _ hxf
    refine ⟨hx0, k3.mem ha, ⟨.step hd.w hxs hx0, hxf, ?_, fun q hq => ?_⟩⟩
    · have := hd.l; simp; omega
    · rcases hd.q q hq with g1 | ⟨g1, g2⟩
      · exact .inl g1
      · refine .inr ⟨g1, ?_⟩
        have hl := hd.l
        obtain ⟨z, hz⟩ : ∃ z, q[p.length]? = some z := ⟨_, List.getElem?_eq_getElem (by omega)⟩
        have et : q.take (p ++ [x]).length = q.take p.length ++ [z] := by
          rw [List.length_append, List.length_singleton, take_succ_get hz]
        have elen : p.length = (q.take p.length).length := by rw [List.length_take]; omega
        rw [et]
        rcases g2 with g2 | g2
        · -- the same so far: z is one of those that may be next
          have hb' : q[p.length - 1]? = some b := by
            have h5 := hd.w.last
            rw [List.getLast?_eq_getElem?] at h5
            have h6 : (q.take p.length)[p.length - 1]? = some b := by rw [← g2]; exact h5
            rw [List.getElem?_take, if_pos (by omega)] at h6
            exact h6
          have hzs := hq.link (p.length - 1) b z hb' (by rw [show p.length - 1 + 1 = p.length by omega]; exact hz)
          have hzR := way_inR hR ha hq z (List.mem_of_getElem? hz)
          have hbR := way_inR hR ha hq b (List.mem_of_getElem? hb')
          have hzd := way_dn hR ha hq n p.length z hz (by omega)
          have hs := h.a z n hzd (.inl (by omega))
          obtain ⟨v, hv⟩ := Option.isSome_iff_exists.1 hs
          obtain ⟨m', e', _, k3', k4'⟩ := h.c z v hv
          have := k4' n hzd
          have := h4 (m' + 1) (.step hbR hzs hzR k3')
          have e3 : m' = n := by omega
          subst e3
          have hle := hxm z hzs ((hR.m z).1 hzR).1.ne (by rw [hv, e'])
          rcases Int.lt_or_eq_of_le hle with g5 | g5
          · exact .inr ((lexLt_snoc x z elen).2 (.inr ⟨g2, g5⟩))
          · left; rw [← g2, g5]
        · exact .inr ((lexLt_snoc x z elen).2 (.inl g2))
/-! Few. -/
theorem rch_objs (hR : IsRch V R) : R.length ≤ V.objects.length := by
  have := nodup_le (m := V.objects.map (·.addr)) (hR.s.imp fun h => by omega) fun x hx => by
    obtain ⟨_, h2⟩ := (hR.m x).1 hx
    obtain ⟨k, hk⟩ := Option.isSome_iff_exists.1 h2
    obtain ⟨o, ho, hoa⟩ := at_lt hk
    exact List.mem_map.2 ⟨o, List.mem_of_getElem? ho, hoa⟩
  simpa using this
theorem rising_take {l : List Int} {i : Nat} {x : Int} (h : Rising l) (hx : l[i]? = some x) : ∀ y ∈ l.take i, y < x := fun y hy => by
  obtain ⟨j, hj⟩ := List.getElem?_of_mem hy
  have hji : j < i := by
    have := (List.getElem?_eq_some_iff.1 hj).1
    rw [List.length_take] at this; omega
  have hj2 := hj
  rw [List.getElem?_take, if_pos hji] at hj2
  obtain ⟨hi, rfl⟩ := List.getElem?_eq_some_iff.1 hx
  obtain ⟨hj3, rfl⟩ := List.getElem?_eq_some_iff.1 hj2
  exact List.pairwise_iff_getElem.1 h j i hj3 hi hji
theorem IsPath.uniq {p q : List Int} {x : Int} (h1 : IsPath V x p) (h2 : IsPath V x q) : p = q := by
  rcases h1 with ⟨a1, b1⟩ | ⟨a1, b1⟩
  · rcases h2 with ⟨a2, _⟩ | ⟨a2, b2⟩
    · rw [a1, a2]
    · rcases b1 with b1 | b1
      · rw [b1] at a2; cases a2
      · exact absurd b2.1.rch b1
  · rcases h2 with ⟨_, b2⟩ | ⟨_, b2⟩
    · rcases b2 with b2 | b2
      · rw [b2] at a1; cases a1
      · exact absurd b1.1.rch b2
    · exact b1.uniq b2
end
end Go.Proofs.Ytfkgooliglcjkaa
