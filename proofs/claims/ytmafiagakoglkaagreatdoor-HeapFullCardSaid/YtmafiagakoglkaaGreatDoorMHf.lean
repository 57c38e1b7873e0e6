/- HeapFull: plain parts: a heap of one class alone; what Alloc does; when it is full. -/
/- HeapFull: plain parts: all places taken; objects counted; all swept; all dropped. -/
import Derived.Test.YtmafiagakoglkaaGreatDoorHpC2
namespace Go.Proofs.YtmafiagakoglkaaGreatDoor
open Go.RowKit Go.Maps

def lst (f p : Nat) : List R := if p = 0 then [] else [⟨f, p⟩]
theorem sumR_lst (f p : Nat) : sumR (lst f p) = p := by
  unfold lst
  split
  · next h => rw [h]; rfl
  · exact sumR_one f p
theorem says_lst {f p k : Nat} {x c : Int} {l' : List R} (hk : 1 ≤ k) (h : AllocSays (lst f p) (k : Nat) x c l') : (k ≤ p ∧ x = (f : Nat) ∧ c = 0 ∧ l' = lst (f + k) (p - k)) ∨ (p < k ∧ c = 3) := by
  by_cases hp : p = 0
  · right
    subst hp
    have e : lst f 0 = [] := rfl
    rw [e] at h
    rcases h with ⟨h, _⟩ | ⟨_, -, -, h, -⟩ | ⟨_, r, hr, -⟩
    · omega
    · exact ⟨by omega, h⟩
    · cases hr.1
  · have e : lst f p = [⟨f, p⟩] := if_neg hp
    rw [e] at h
    rcases h with ⟨h, _⟩ | ⟨_, h1, -, h, -⟩ | ⟨_, r, hr, ha, hc, hl⟩
    · omega
    · right
      have := h1 ⟨f, p⟩ (by simp)
      simp only at this
      exact ⟨by omega, h⟩
    · left
      have e : r = ⟨f, p⟩ := by have := hr.1; simpa using this
      subst e
      have h2 := hr.2.1
      rw [Int.toNat_natCast] at h2 hl
      have h2' : k ≤ p := h2
      refine ⟨h2', ha, hc, ?_⟩
      rw [hl]
      unfold cutR lst
      show (if p = k then _ else _) = _
      by_cases e : p = k
      · rw [if_pos e, if_pos (by omega)]; simp
      · rw [if_neg e, if_neg (by omega)]; simp
def cO (o : Option Sp) : Nat := match o with | none => 0 | some s => cntF s.F (slK s.k)
structure FuA (A : HpA) (npg q m got : Nat) : Prop where
  cls : ∀ id s, A.a.sp id = some s → s.k = q
  ids : ∀ j, (A.a.sp j).isSome = true ↔ j < m
  l : ∃ pp, A.a.l = lst (1 + m * pgK q) pp ∧ 1 + m * pgK q + pp = npg
  nh : ∀ id s, A.a.sp id = some s → ∀ y, y < s.fr → s.F y = true
  nm : ∀ id s y, A.a.sp id = some s → s.M y = false
  unz : ∀ j, 2 ≤ j % 4 → A.r j = []
  tot : smO cO A.a.sp 64 = got
theorem FuA.new (npg q P : Nat) (h : 2 ≤ npg) : FuA (hp0 npg P) npg q 0 0 := by
  refine ⟨fun _ _ h => (by cases h), fun j => ⟨fun h => (by cases h), fun h => by omega⟩, ⟨npg - 1, ?_, by omega⟩, fun _ _ h => (by cases h), fun _ _ _ h => (by cases h), fun _ _ => rfl, smO_zero (fun j => rfl) 64⟩
  show newL npg = _
  unfold newL lst
  rw [if_pos (by omega), if_neg (by omega)]
  simp
theorem ArI.low {N N' : Nat} {a : Ar} (I : ArI N a) (h : ∀ id s, a.sp id = some s → id < N') : ArI N' a := by
  have ok := I.ok
  have hn : ∀ j, N ≤ j → a.sp j = none := fun j hj => by
    cases e : a.sp j with
    | none => rfl
    | some s => have := ok.top j s e; omega
  have hn' : ∀ j, N' ≤ j → a.sp j = none := fun j hj => by
    cases e : a.sp j with
    | none => rfl
    | some s => have := h j s e; omega
  refine ⟨⟨ok.ok, ok.n, h, ok.ow, ok.pg, ok.ob, ok.len⟩, I.mf, I.fz, ?_⟩
  rw [I.lv]
  rcases Nat.le_total N N' with h1 | h1
  · exact (livN_more hn h1).symm
  · exact livN_more hn' h1
theorem HpS.low {W w : World} {H : HpH} {A : HpA} {N N' b : Nat} (Q : HpS W w H A N b) (h : ∀ id s, A.a.sp id = some s → id < N') : HpS W w H A N' b :=
  ⟨Q.hb, ⟨Q.S.M, Q.S.I.low h, Q.S.far, Q.S.c, Q.S.ga, Q.S.m⟩, Q.C, Q.o, Q.g, Q.inj, Q.d1, Q.d2, Q.n1, Q.n2⟩
theorem DrR.keeps {l : List Int} {A B : HpA} {n : Nat} (h : DrR l A B n) (hl : l.Nodup) (J : ∃ N, ArI N A.a) (hno : ∀ y, ¬ DrC A y) : B = A := by
  obtain ⟨N, J⟩ := J
  have hsp := h.spans hl
  have e : B.a.sp = A.a.sp := funext fun y => (hsp y).2 fun g => hno y g.2
  obtain ⟨h1, h2, h3⟩ := h.sums J.ok.top
  rw [e] at h3
  exact h.zero (by omega)
section
variable {A : HpA} {npg q m got : Nat} (K : FuA A npg q m got)
include K
theorem FuA.lt {id : Nat} {s : Sp} (hs : A.a.sp id = some s) : id < m := (K.ids id).1 (by rw [hs]; rfl)
theorem FuA.cap (hq : q < 16) : m ≤ (npg - 1) / pgK q := by
  obtain ⟨pp, -, h⟩ := K.l
  have := (kF hq).2.2.2.2.1
  rw [Nat.le_div_iff_mul_le (by omega)]; omega
/-- No span to be taken away, where those in rows are full. -/
theorem FuA.noC (I : HpI A none) (hq : q < 16) (hr : A.r (q * 4) = []) (y : Nat) : ¬ DrC A y := fun ⟨s, hs, ho, _, h⟩ => by
  have hk := K.cls y s hs
  rcases I.all y s hs with h1 | ⟨j, h1⟩ | h1
  · cases h1
  · obtain ⟨-, t, ht, h2, h3⟩ := I.r j y h1
    rw [hs] at ht
    have e := Option.some.inj ht
    subst e
    have hfull : fullS s := h3.1 (by
      rcases Nat.lt_or_ge (j % 4) 2 with h4 | h4
      · rcases (by omega : j % 4 = 0 ∨ j % 4 = 1) with h5 | h5
        · have e2 : j = q * 4 := by omega
          rw [e2, hr] at h1; cases h1
        · omega
      · rw [K.unz j h4] at h1; cases h1)
    have : cntF s.F (slK s.k) = slK s.k := cnt_all fun z hz => by
      rcases Nat.lt_or_ge z s.fr with h9 | h9
      · exact K.nh y s hs z h9
      · exact hfull z h9 hz
    have hsl : 1 ≤ slK q := (kF hq).2.2.2.2.2.2.2.1
    rw [hk] at this h
    omega
  · exact ho h1
/-- What seek does. -/
theorem FuA.ful {B : HpA} {g : List Int} {id : Nat} {ok : Bool} (h : SeekR q A id g ok B) (I : HpI A none) {N : Nat} (J : ArI N A.a) (hq : q < 16) {f pp : Nat} (hl : A.a.l = lst f pp) :
    g = [] ∧ ((ok = true ∧ ∃ xs, A.r (q * 4) = xs ++ [id] ∧ B = { A with r := updV A.r (q * 4) xs }) ∨
      (ok = true ∧ A.r (q * 4) = [] ∧ pgK q ≤ pp ∧ A.a.sp id = none ∧ (∀ j, j < id → A.a.sp j ≠ none) ∧ B = { A with a := spanA A.a (lst (f + pgK q) (pp - pgK q)) id q f }) ∨
      (ok = false ∧ A.r (q * 4) = [] ∧ pp < pgK q ∧ B = A)) := by
  have hpg := (kF hq).2.2.2.2.1
  have h2z := K.unz (q * 4 + 2) (by omega)
  have h3z := K.unz (q * 4 + 3) (by omega)
  cases h with
  | swept h => exact ⟨rfl, .inl ⟨rfl, _, h, rfl⟩⟩
  | unswept h0 h1 => rw [h2z] at h1; exact absurd h1.symm (by simp)
  | full h0 h1 h2 h3 =>
    obtain ⟨-, e⟩ := h2.none_ h3z
    rw [e, h3z] at h3; exact absurd h3.symm (by simp)
  | fresh h0 h1 h2 h3 h4 h5 h6 =>
    obtain ⟨e1, e⟩ := h2.none_ h3z
    subst e
    rw [hl] at h4
    rcases says_lst hpg h4 with ⟨h7, h8, -, h9⟩ | ⟨-, h8⟩
    · have e2 := Int.ofNat.inj h8
      subst e2 h9
      exact ⟨e1, .inr (.inl ⟨rfl, h0, h7, h5, h6, rfl⟩)⟩
    · cases h8
  | again h0 h1 h2 h3 h4 h5 h6 h7 h8 h9 =>
    obtain ⟨e1, e⟩ := h2.none_ h3z
    subst e
    have e3 := h8.keeps (rise_nodup h6) ⟨N, J⟩ (K.noC I hq h0)
    subst e3
    rw [hl] at h4 h9
    rcases says_lst hpg h4 with ⟨-, -, h7, -⟩ | ⟨h7, -⟩
    · exact absurd h7 h5
    · rcases says_lst hpg h9 with ⟨h10, -⟩ | ⟨-, h10⟩
      · omega
      · cases h10
  | no h0 h1 h2 h3 h4 h5 h6 h7 h8 h9 h10 =>
    obtain ⟨e1, e⟩ := h2.none_ h3z
    subst e
    have e3 := h8.keeps (rise_nodup h6) ⟨N, J⟩ (K.noC I hq h0)
    subst e3
    rw [hl] at h4
    rcases says_lst hpg h4 with ⟨-, -, h7, -⟩ | ⟨h7, -⟩
    · exact absurd h7 h5
    · exact ⟨e1, .inr (.inr ⟨rfl, h0, h7, rfl⟩)⟩
end
theorem FuA.same {A B : HpA} {npg q m got : Nat} (K : FuA A npg q m got) (ea : B.a = A.a) (er : ∀ j, 2 ≤ j % 4 → B.r j = A.r j) : FuA B npg q m got :=
  ⟨by rw [ea]; exact K.cls, by rw [ea]; exact K.ids, by rw [ea]; exact K.l, by rw [ea]; exact K.nh, by rw [ea]; exact K.nm, fun j hj => (er j hj).trans (K.unz j hj), by rw [ea]; exact K.tot⟩
theorem FuA.m64 {A : HpA} {npg q m got : Nat} (K : FuA A npg q m got) (hq : q < 16) (hn : npg ≤ 64) : m ≤ 63 := by
  obtain ⟨pp, -, h⟩ := K.l
  have h1 := (kF hq).2.2.2.2.1
  have : m * 1 ≤ m * pgK q := Nat.mul_le_mul_left _ h1
  omega
theorem FuA.place {A A' : HpA} {npg q m got id y : Nat} {s : Sp} (K : FuA A npg q m got) (hq : q < 16) (hn : npg ≤ 64) (hs : A.a.sp id = some s) (hy : PlcS s y) (e : A'.a.sp = updF A.a.sp id (some (allocS s y false))) (el : A'.a.l = A.a.l) (er : ∀ j, 2 ≤ j % 4 → A'.r j = A.r j) : FuA A' npg q m (got + 1) := by
  have get : ∀ {i t}, A'.a.sp i = some t → (i = id ∧ t = allocS s y false) ∨ (i ≠ id ∧ A.a.sp i = some t) := fun {i t} ht => by
    rw [e] at ht
    by_cases e2 : i = id
    · rw [e2, updF_same] at ht; exact .inl ⟨e2, (Option.some.inj ht).symm⟩
    · rw [updF_other _ _ e2] at ht; exact .inr ⟨e2, ht⟩
  have hid := K.lt hs
  have h63 := K.m64 hq hn
  have hat := smO_at (φ := cO) (f := A.a.sp) (g := A'.a.sp) (id := id) (fun j hj => by rw [e, updF_other _ _ hj]) (n := 64) (by omega)
  have hF := cntF_flip (F := s.F) hy.2.1
  rw [flip_set hy.2.2.1, hy.2.2.1] at hF
  simp only [Bool.false_eq_true, if_false] at hF
  rw [hs, e, updF_same] at hat
  have k1 : cO (some (allocS s y false)) = cntF (setF s.F y) (slK s.k) := rfl
  have k2 : cO (some s) = cntF s.F (slK s.k) := rfl
  refine ⟨fun i t ht => ?_, fun j => ?_, by rw [el]; exact K.l, fun i t ht z hz => ?_, fun i t z ht => ?_, fun j hj => (er j hj).trans (K.unz j hj), ?_⟩
  · rcases get ht with ⟨-, rfl⟩ | ⟨-, h⟩
    · exact K.cls id s hs
    · exact K.cls i t h
  · rw [e]
    by_cases e2 : j = id
    · rw [e2, updF_same]; exact ⟨fun _ => hid, fun _ => rfl⟩
    · rw [updF_other _ _ e2]; exact K.ids j
  · rcases get ht with ⟨-, rfl⟩ | ⟨-, h⟩
    · have hz' : z < y := hz
      refine allocS_F ?_
      rcases Nat.lt_or_ge z s.fr with h1 | h1
      · exact K.nh id s hs z h1
      · exact hy.2.2.2 z h1 hz'
    · exact K.nh i t h z hz
  · rcases get ht with ⟨-, rfl⟩ | ⟨-, h⟩
    · exact K.nm id s z hs
    · exact K.nm i t z h
  · rw [e]
    have := K.tot
    omega
theorem FuA.span {A : HpA} {npg q m got id pp : Nat} (K : FuA A npg q m got) (hq : q < 16) (hn : npg ≤ 64) (hl : A.a.l = lst (1 + m * pgK q) pp) (hp : 1 + m * pgK q + pp = npg) (hpp : pgK q ≤ pp) (hid : A.a.sp id = none) (hall : ∀ j, j < id → A.a.sp j ≠ none) :
    FuA { A with a := spanA A.a (lst (1 + m * pgK q + pgK q) (pp - pgK q)) id q (1 + m * pgK q) } npg q (m + 1) got := by
  have h63 := K.m64 hq hn
  have hidm : id = m := by
    rcases Nat.lt_trichotomy id m with h | h | h
    · have := (K.ids id).2 h
      rw [hid] at this; cases this
    · exact h
    · have h1 := hall m h
      have h2 : ¬ (A.a.sp m).isSome = true := fun h => by have := (K.ids m).1 h; omega
      cases e : A.a.sp m with
      | none => exact absurd e h1
      | some s => rw [e] at h2; exact absurd rfl h2
  subst hidm
  have get : ∀ {i t}, updF A.a.sp id (some (spn (1 + id * pgK q) q)) i = some t → (i = id ∧ t = spn (1 + id * pgK q) q) ∨ (i ≠ id ∧ A.a.sp i = some t) := fun {i t} ht => by
    by_cases e2 : i = id
    · rw [e2, updF_same] at ht; exact .inl ⟨e2, (Option.some.inj ht).symm⟩
    · rw [updF_other _ _ e2] at ht; exact .inr ⟨e2, ht⟩
  have hat := smO_at (φ := cO) (f := A.a.sp) (g := updF A.a.sp id (some (spn (1 + id * pgK q) q))) (id := id) (fun j hj => by rw [updF_other _ _ hj]) (n := 64) (by omega)
  rw [hid, updF_same] at hat
  have k1 : cO (some (spn (1 + id * pgK q) q)) = 0 := cnt_noF fun _ _ => rfl
  have k2 : cO none = 0 := rfl
  refine ⟨fun i t ht => ?_, fun j => ?_, ⟨pp - pgK q, ?_, ?_⟩, fun i t ht z hz => ?_, fun i t z ht => ?_, K.unz, ?_⟩
  · rcases get ht with ⟨-, rfl⟩ | ⟨-, h⟩
    · rfl
    · exact K.cls i t h
  · show (updF A.a.sp id (some (spn (1 + id * pgK q) q)) j).isSome = true ↔ _
    by_cases e2 : j = id
    · rw [e2, updF_same]; exact ⟨fun _ => by omega, fun _ => rfl⟩
    · rw [updF_other _ _ e2, K.ids j]; omega
  · show lst _ _ = lst _ _
    rw [Nat.succ_mul, Nat.add_assoc]
  · rw [Nat.succ_mul]; omega
  · rcases get ht with ⟨-, rfl⟩ | ⟨-, h⟩
    · have hz' : z < 0 := hz
      omega
    · exact K.nh i t h z hz
  · rcases get ht with ⟨-, rfl⟩ | ⟨-, h⟩
    · rfl
    · exact K.nm i t z h
  · show smO cO (updF A.a.sp id (some (spn (1 + id * pgK q) q))) 64 = got
    have := K.tot
    omega
theorem AlcR.ful {A A' : HpA} {npg q m got p n x N : Nat} {g : List Int} {c : Int} (K : FuA A npg q m got) (h : AlcR p q n false A x g c A') (I : HpI A none) (J : ArI N A.a) (hn : npg ≤ 64) (hp : p < A.P) (hq : q < 16) :
    g = [] ∧ A'.P = A.P ∧ A'.a.n = A.a.n ∧ (∀ p' k', p' ≠ p → A'.own p' k' = A.own p' k') ∧ (A.r (q * 4) = [] → A'.r (q * 4) = []) ∧
    ((c = 0 ∧ ∃ m', FuA A' npg q m' (got + 1)) ∨ (c = 3 ∧ FuA A' npg q m got ∧ m = (npg - 1) / pgK q ∧ A'.own p q = -1 ∧ A'.r (q * 4) = [])) := by
  cases h with
  | has h1 h2 h3 h4 => exact ⟨rfl, rfl, rfl, fun _ _ _ => rfl, fun h => h, .inl ⟨rfl, m, K.place hq hn h2 h4 rfl rfl fun _ _ => rfl⟩⟩
  | got h1 h2 h3 h4 h5 =>
    rename_i A1 A2 id y s
    obtain ⟨I1, ho1, hP1, ha1⟩ := h1.inv I hp hq
    obtain ⟨e1, e2, e3, e4⟩ := h1.own_
    have K1 : FuA A1 npg q m got := K.same ha1 fun j hj => e3 j (by omega)
    obtain ⟨pp, hl, hpp⟩ := K1.l
    have hown : ∀ (o : Nat → Nat → Int), o = A1.own → ∀ p' k', p' ≠ p → updV o p (updV (o p) q ((id : Nat) : Int)) p' k' = A.own p' k' := fun o ho p' k' hne => by
      rw [updV2, if_neg (fun h => hne h.1), ho]; exact e4 p' k' (.inl hne)
    obtain ⟨hg, ⟨-, xs, hx, rfl⟩ | ⟨-, hr0, hle, hid, hall, rfl⟩ | ⟨h6, -⟩⟩ := K1.ful h2 I1 (by rw [ha1]; exact J) hq hl
    · have K2 : FuA { A1 with r := updV A1.r (q * 4) xs } npg q m got := K1.same rfl fun j hj => updV_other _ _ (by omega)
      refine ⟨hg, hP1, by rw [← ha1]; rfl, fun p' k' hne => hown A1.own rfl p' k' hne, fun h => ?_, .inl ⟨rfl, m, K2.place hq hn h3 h5 rfl rfl fun _ _ => rfl⟩⟩
      rw [← e3 (q * 4) (by omega), hx] at h
      exact absurd h (by simp)
    · have K2 := K1.span hq hn hl hpp hle hid hall
      refine ⟨hg, hP1, by rw [← ha1]; rfl, fun p' k' hne => hown A1.own rfl p' k' hne, fun h => ?_, .inl ⟨rfl, m + 1, K2.place hq hn h3 h5 rfl rfl fun _ _ => rfl⟩⟩
      show A1.r (q * 4) = []
      rw [e3 (q * 4) (by omega)]; exact h
    · cases h6
  | no h1 h2 =>
    rename_i A1
    obtain ⟨I1, ho1, hP1, ha1⟩ := h1.inv I hp hq
    obtain ⟨e1, e2, e3, e4⟩ := h1.own_
    have K1 : FuA A1 npg q m got := K.same ha1 fun j hj => e3 j (by omega)
    obtain ⟨pp, hl, hpp⟩ := K1.l
    obtain ⟨hg, ⟨h6, -⟩ | ⟨h6, -⟩ | ⟨-, hr0, hlt, rfl⟩⟩ := K1.ful h2 I1 (by rw [ha1]; exact J) hq hl
    · cases h6
    · cases h6
    · refine ⟨hg, hP1, by rw [ha1], fun p' k' hne => e4 p' k' (.inl hne), fun h => hr0, .inr ⟨rfl, K1, ?_, ho1, hr0⟩⟩
      have hpg := (kF hq).2.2.2.2.1
      refine (Nat.div_eq_of_lt_le ?_ ?_).symm
      · omega
      · rw [Nat.succ_mul]; omega
end Go.Proofs.YtmafiagakoglkaaGreatDoor
namespace Go.Proofs.YtmafiagakoglkaaGreatDoor
open Go.RowKit Go.Maps

theorem smO_const {φ : Option Sp → Nat} {f : Nat → Option Sp} {c m : Nat} : ∀ {n : Nat}, (∀ j, j < m → φ (f j) = c) → (∀ j, m ≤ j → φ (f j) = 0) → smO φ f n = (min m n) * c
  | 0, _, _ => by simp [smO]
  | n + 1, h1, h2 => by
    rw [smO, smO_const (n := n) h1 h2]
    rcases Nat.lt_or_ge n m with h | h
    · rw [h1 n h, show min m n = n by omega, show min m (n + 1) = n + 1 by omega, Nat.succ_mul]
    · rw [h2 n h, show min m n = m by omega, show min m (n + 1) = m by omega]; rfl
section
variable {A : HpA} {npg q m got : Nat} (K : FuA A npg q m got)
include K
theorem FuA.none_at {j : Nat} (hj : m ≤ j) : A.a.sp j = none := by
  cases e : A.a.sp j with
  | none => rfl
  | some s => have := (K.ids j).1 (by rw [e]; rfl); omega
theorem FuA.some_at {j : Nat} (hj : j < m) : ∃ s, A.a.sp j = some s := Option.isSome_iff_exists.1 ((K.ids j).2 hj)
theorem FuA.le (hq : q < 16) (hn : npg ≤ 64) : got ≤ m * slK q := by
  have h63 := K.m64 hq hn
  rw [← K.tot]
  have h1 : smO cO A.a.sp 64 ≤ smO (fun o => isO o * slK q) A.a.sp 64 := smO_le fun j hj => by
    cases e : A.a.sp j with
    | none => exact Nat.zero_le _
    | some s =>
      show cntF s.F (slK s.k) ≤ 1 * slK q
      rw [K.cls j s e, Nat.one_mul]
      exact cntF_le _ _
  have h2 := smO_const (φ := fun o => isO o * slK q) (f := A.a.sp) (c := slK q) (m := m) (n := 64) (fun j hj => by obtain ⟨s, hs⟩ := K.some_at hj; rw [hs]; exact Nat.one_mul _) (fun j hj => by rw [K.none_at hj]; exact Nat.zero_mul _)
  rw [show min m 64 = m by omega] at h2
  omega
theorem FuA.most (hq : q < 16) (hn : npg ≤ 64) : got ≤ (npg - 1) / pgK q * slK q := Nat.le_trans (K.le hq hn) (Nat.mul_le_mul_right _ (K.cap hq))
/-- Nobody owns a span, no row has room: all places are taken. -/
theorem FuA.full (I : HpI A none) (hq : q < 16) (hn : npg ≤ 64) (ho : ∀ p, p < A.P → A.own p q = -1) (hr : A.r (q * 4) = []) : got = m * slK q := by
  have h63 := K.m64 hq hn
  rw [← K.tot]
  have h2 := smO_const (φ := cO) (f := A.a.sp) (c := slK q) (m := m) (n := 64) (fun j hj => by
    obtain ⟨s, hs⟩ := K.some_at hj
    have hk := K.cls j s hs
    rw [hs]
    show cntF s.F (slK s.k) = slK q
    rw [hk]
    have hfull : fullS s := by
      rcases I.all j s hs with h1 | ⟨i, h1⟩ | ⟨p, k, hp, hk2, h1⟩
      · cases h1
      · obtain ⟨-, t, ht, h2, h3⟩ := I.r i j h1
        rw [hs] at ht
        have e := Option.some.inj ht
        subst e
        refine h3.1 ?_
        rcases Nat.lt_or_ge (i % 4) 2 with h4 | h4
        · rcases (by omega : i % 4 = 0 ∨ i % 4 = 1) with h5 | h5
          · have e2 : i = q * 4 := by omega
            rw [e2, hr] at h1; cases h1
          · omega
        · rw [K.unz i h4] at h1; cases h1
      · have hkq : k = q := by
          rcases I.o p k hp hk2 with h7 | ⟨i2, u, h7, hu, h8⟩
          · omega
          · have : i2 = j := by omega
            subst this
            rw [hs] at hu
            have e := Option.some.inj hu
            subst e
            omega
        subst hkq
        have := ho p hp
        omega
    exact cnt_all fun z hz => by
      rcases Nat.lt_or_ge z s.fr with h9 | h9
      · exact K.nh j s hs z h9
      · exact hfull z h9 (by rw [hk]; exact hz)) (fun j hj => by rw [K.none_at hj]; rfl)
  rw [show min m 64 = m by omega] at h2
  exact h2
end
theorem smO_inv {φ : Option Sp → Nat} {f : Nat → Option Sp} : ∀ {n : Nat}, smO φ f n = 0 → ∀ j, j < n → φ (f j) = 0
  | 0, _, j, hj => by omega
  | n + 1, h, j, hj => by
    rw [smO] at h
    by_cases e : j = n
    · rw [e]; omega
    · exact smO_inv (n := n) (by omega) j (by omega)
theorem FuA.zero {A : HpA} {npg q m : Nat} (K : FuA A npg q m 0) (hq : q < 16) (hn : npg ≤ 64) {id : Nat} {s : Sp} (hs : A.a.sp id = some s) : cntF s.F (slK s.k) = 0 := by
  have h1 := K.lt hs
  have h2 := K.m64 hq hn
  have h3 := smO_inv K.tot id (by omega)
  rw [hs] at h3
  exact h3
/-! Objects counted. -/
def obL (f : Nat → Option Sp) : Nat → List Nat
  | 0 => []
  | n + 1 => obL f n ++ (match f n with | none => [] | some s => (allN s.F (slK s.k)).map s.addr)
theorem obL_len (f : Nat → Option Sp) : ∀ n, (obL f n).length = smO cO f n
  | 0 => rfl
  | n + 1 => by
    rw [obL, smO, List.length_append, obL_len f n]
    congr 1
    cases f n with
    | none => rfl
    | some s => show ((allN s.F (slK s.k)).map s.addr).length = cntF s.F (slK s.k); rw [List.length_map, allN_len]
theorem mem_allN {F : Nat → Bool} {n i : Nat} : i ∈ allN F n ↔ i < n ∧ F i = true := by
  unfold allN; rw [List.mem_filter, List.mem_range]
theorem mem_obL {f : Nat → Option Sp} {x : Nat} : ∀ {n : Nat}, x ∈ obL f n ↔ ∃ id s i, id < n ∧ f id = some s ∧ i < slK s.k ∧ s.F i = true ∧ x = s.addr i
  | 0 => ⟨fun h => (by cases h), fun ⟨_, _, _, h, _⟩ => by omega⟩
  | n + 1 => by
    rw [obL, List.mem_append, mem_obL (n := n)]
    constructor
    · rintro (⟨id, s, i, h1, h2⟩ | h)
      · exact ⟨id, s, i, by omega, h2⟩
      · cases e : f n with
        | none => rw [e] at h; cases h
        | some s =>
          rw [e] at h
          obtain ⟨i, hi, rfl⟩ := List.mem_map.1 h
          obtain ⟨h1, h2⟩ := mem_allN.1 hi
          exact ⟨n, s, i, by omega, e, h1, h2, rfl⟩
    · rintro ⟨id, s, i, h1, h2, h3, h4, rfl⟩
      by_cases e : id = n
      · subst e
        right
        rw [h2]
        exact List.mem_map.2 ⟨i, mem_allN.2 ⟨h3, h4⟩, rfl⟩
      · exact .inl ⟨id, s, i, by omega, h2, h3, h4, rfl⟩
theorem obL_nodup {N : Nat} {a : Ar} (ok : ArOk N a) : ∀ n, (obL a.sp n).Nodup
  | 0 => List.nodup_nil
  | n + 1 => by
    rw [obL, List.nodup_append]
    refine ⟨obL_nodup ok n, ?_, fun x hx y hy e => ?_⟩
    · cases e : a.sp n with
      | none => exact List.nodup_nil
      | some s =>
        show ((allN s.F (slK s.k)).map s.addr).Nodup
        unfold allN
        exact List.Pairwise.map _ (fun p q (h : p ≠ q) (e2 : s.addr p = s.addr q) => h (Sp.addr_inj (ok.pg n s e).1 e2)) ((List.nodup_range).filter _)
    · subst e
      obtain ⟨id, s, i, h1, h2, h3, -, h5⟩ := mem_obL.1 hx
      cases e : a.sp n with
      | none => rw [e] at hy; cases hy
      | some t =>
        rw [e] at hy
        obtain ⟨i2, hi2, h6⟩ := List.mem_map.1 hy
        have := ok.other h2 e h3 (mem_allN.1 hi2).1 (by omega)
        omega
theorem objs_len {N : Nat} {a : Ar} (J : ArI N a) (h64 : ∀ id s, a.sp id = some s → id < 64) {ks : List Int} (hr : Rise ks) (hm : ∀ x, x ∈ ks ↔ (obI a x).isSome = true) : ks.length = smO cO a.sp 64 := by
  have h1 : (intsN (obL a.sp 64)).Perm ks := by
    refine (List.perm_ext_iff_of_nodup ?_ (rise_nodup hr)).2 fun x => ?_
    · unfold intsN
      exact List.Pairwise.map _ (fun p q (h : p ≠ q) (e : (p : Int) = (q : Int)) => h (by omega)) (obL_nodup J.ok 64)
    · rw [hm x, obI_iff]
      unfold intsN
      rw [List.mem_map]
      constructor
      · rintro ⟨z, hz, rfl⟩
        obtain ⟨id, s, i, -, h2, h3, h4, rfl⟩ := mem_obL.1 hz
        exact ⟨_, rfl, (J.ok.ob _).2 ⟨id, s, i, h2, h3, h4, rfl⟩⟩
      · rintro ⟨z, rfl, h⟩
        obtain ⟨id, s, i, h2, h3, h4, rfl⟩ := (J.ok.ob z).1 h
        exact ⟨_, mem_obL.2 ⟨id, s, i, h64 id s h2, h2, h3, h4, rfl⟩, rfl⟩
  rw [← h1.length_eq, ← obL_len]
  unfold intsN; rw [List.length_map]
/-! Swept. -/
structure FsA (A : HpA) (npg q m got : Nat) : Prop where
  cls : ∀ id s, A.a.sp id = some s → s.k = q
  ids : ∀ j, (A.a.sp j).isSome = true ↔ j < m
  l : ∃ pp, A.a.l = lst (1 + m * pgK q) pp ∧ 1 + m * pgK q + pp = npg
  nh : ∀ id s, A.a.sp id = some s → ∀ y, y < s.fr → s.F y = true
  nm : ∀ id s y, A.a.sp id = some s → s.M y = false
  sw : ∀ id s, A.a.sp id = some s → (∀ j, 2 ≤ j % 4 → id ∉ A.r j) → cntF s.F (slK s.k) = 0
  own : ∀ p k, p < A.P → k < 16 → A.own p k = -1
  tot : smO cO A.a.sp 64 = got
theorem FuA.begin {A A1 : HpA} {npg q m got : Nat} (K : FuA A npg q m got) (ea : A1.a = A.a) (ho : ∀ p k, p < A1.P → k < 16 → A1.own p k = -1) (hw : ∀ id s, A.a.sp id = some s → ∃ j, 2 ≤ j % 4 ∧ id ∈ A1.r j) : FsA A1 npg q m got :=
  ⟨by rw [ea]; exact K.cls, by rw [ea]; exact K.ids, by rw [ea]; exact K.l, by rw [ea]; exact K.nh, by rw [ea]; exact K.nm, fun id s hs hno => by
    rw [ea] at hs
    obtain ⟨j, hj, hm⟩ := hw id s hs
    exact absurd hm (hno j hj), ho, by rw [ea]; exact K.tot⟩
theorem FsA.sweep {A : HpA} {npg q m got N j0 x k : Nat} {xs : List Nat} {s : Sp} {r' : Nat → List Nat} (K : FsA A npg q m got) (I : HpI A none) (J : ArI N A.a) (hr : A.r j0 = x :: xs) (hs : A.a.sp x = some s) (h : PutTo (sweepA A.a x s (sweptL s).length) (updV A.r j0 xs) k x r') (hx : x < 64) :
    ∃ got', FsA { A with a := sweepA A.a x s (sweptL s).length, r := r' } npg q m got' ∧ got' + (sweptL s).length = got := by
  have get : ∀ {y t}, updF A.a.sp x (some (sweptS s)) y = some t → (y = x ∧ t = sweptS s) ∨ (y ≠ x ∧ A.a.sp y = some t) := fun {y t} ht => by
    by_cases e : y = x
    · rw [e, updF_same] at ht; exact .inl ⟨e, (Option.some.inj ht).symm⟩
    · rw [updF_other _ _ e] at ht; exact .inr ⟨e, ht⟩
  have hat := smO_at (φ := cO) (f := A.a.sp) (g := updF A.a.sp x (some (sweptS s))) (fun j hj => by rw [updF_other _ _ hj]) hx
  rw [updF_same, hs] at hat
  have hM0 : cntF s.M (slK s.k) = 0 := cnt_noF fun i _ => K.nm x s i hs
  have hlen := swept_len (fun i => J.mf x s i hs)
  have k1 : cO (some (sweptS s)) = cntF s.M (slK s.k) := rfl
  have k2 : cO (some s) = cntF s.F (slK s.k) := rfl
  have htot := K.tot
  refine ⟨smO cO (updF A.a.sp x (some (sweptS s))) 64, ⟨fun id t ht => ?_, fun j => ?_, K.l, fun id t ht y hy => ?_, fun id t y ht => ?_, fun id t ht hno => ?_, K.own, rfl⟩, by omega⟩
  · rcases get ht with ⟨-, rfl⟩ | ⟨-, h1⟩
    · exact K.cls x s hs
    · exact K.cls id t h1
  · show (updF A.a.sp x (some (sweptS s)) j).isSome = true ↔ _
    by_cases e : j = x
    · rw [e, updF_same, ← K.ids x, hs]; simp
    · rw [updF_other _ _ e]; exact K.ids j
  · rcases get ht with ⟨-, rfl⟩ | ⟨-, h1⟩
    · have hy' : y < 0 := hy
      omega
    · exact K.nh id t h1 y hy
  · rcases get ht with ⟨-, rfl⟩ | ⟨-, h1⟩
    · rfl
    · exact K.nm id t y h1
  · rcases get ht with ⟨-, rfl⟩ | ⟨hne, h1⟩
    · exact hM0
    · exact K.sw id t h1 fun j hj hm => hno j hj (((swept_rows I hr h hj).1 id hne).2 hm)
theorem FsA.done {A : HpA} {npg q m got N : Nat} (K : FsA A npg q m got) (J : ArI N A.a) (hun : ∀ j, 2 ≤ j % 4 → A.r j = []) : got = 0 ∧ FuA A npg q m 0 ∧ A.a.live = 0 ∧ ∀ id s, A.a.sp id = some s → cntF s.F (slK s.k) = 0 := by
  have hz : ∀ id s, A.a.sp id = some s → cntF s.F (slK s.k) = 0 := fun id s hs => K.sw id s hs fun j hj hm => by rw [hun j hj] at hm; cases hm
  have h0 : got = 0 := by
    rw [← K.tot]
    exact smO_zero (fun j => by
      cases e : A.a.sp j with
      | none => rfl
      | some s => exact hz j s e) 64
  subst h0
  refine ⟨rfl, ⟨K.cls, K.ids, K.l, K.nh, K.nm, hun, K.tot⟩, ?_, hz⟩
  rw [J.lv, livN_smO]
  exact smO_zero (fun j => by
    cases e : A.a.sp j with
    | none => rfl
    | some s => show cntF s.F (slK s.k) * szK s.k = 0; rw [hz j s e, Nat.zero_mul]) N
/-- Nothing used, nobody's, none waits: all is taken away. -/
theorem FuA.drops {A B : HpA} {npg q m n N : Nat} {ks : List Int} (K : FuA A npg q m 0) (J : ArI N A.a) (hq : q < 16) (hn : npg ≤ 64) (hz : ∀ id s, A.a.sp id = some s → cntF s.F (slK s.k) = 0) (ho : ∀ p k, p < A.P → k < 16 → A.own p k = -1) (h : DrR ks A B n) (hr : Rise ks) (hm : ∀ x, x ∈ ks ↔ (spI A.a x).isSome = true) : sumR B.a.l = npg - 1 := by
  have hsp := h.spans (rise_nodup hr)
  have h63 := K.m64 hq hn
  obtain ⟨pp, hl, hpp⟩ := K.l
  obtain ⟨-, h2, -⟩ := h.sums (N := 64) (fun id s hs => by have := K.lt hs; omega)
  have hB : ∀ j, B.a.sp j = none := fun j => by
    cases e : A.a.sp j with
    | none =>
      rw [(hsp j).2 (fun g => by obtain ⟨t, ht, -⟩ := g.2; rw [e] at ht; cases ht)]; exact e
    | some t =>
      refine (hsp j).1 ⟨(hm _).2 (spI_iff.2 ⟨by omega, by rw [Int.toNat_natCast, e]; rfl⟩), t, e, fun ho2 => ?_, fun hw => ?_, hz j t e⟩
      · obtain ⟨p, k, hp, hk, h4⟩ := ho2
        have := ho p k hp hk
        omega
      · obtain ⟨i, hi, h4⟩ := mem_waN.1 hw
        rw [K.unz _ (by omega), K.unz _ (by omega)] at h4
        rcases h4 with h4 | h4 <;> cases h4
  have h3 : smO pgO B.a.sp 64 = 0 := smO_zero (fun j => by rw [hB j]; rfl) 64
  have h4 := smO_const (φ := pgO) (f := A.a.sp) (c := pgK q) (m := m) (n := 64) (fun j hj => by obtain ⟨s, hs⟩ := K.some_at hj; rw [hs]; show pgK s.k = pgK q; rw [K.cls j s hs]) (fun j hj => by rw [K.none_at hj]; rfl)
  rw [show min m 64 = m by omega] at h4
  rw [hl, sumR_lst] at h2
  omega
end Go.Proofs.YtmafiagakoglkaaGreatDoor
