/- Spans made one by one; a span with its first place used or marked, or not: what the laws of layer 7 carry. Plain. -/
import Derived.Test.YtkocikpoagfonaaDoorArC
namespace Go.Proofs.YtkocikpoagfonaaDoor
open Go.RowKit

theorem ArI.fresh {N : Nat} {a : Ar} (I : ArI N a) {id y : Nat} {s : Sp} (hs : a.sp id = some s) (hy : y < slK s.k) (hF : s.F y = false) : a.ob (s.addr y) = none := by
  cases e : a.ob (s.addr y) with
  | none => rfl
  | some xs =>
    obtain ⟨id', t, i, ht, hi, hFt, hx⟩ := (I.ok.ob (s.addr y)).1 (by rw [e]; rfl)
    have e1 := I.ok.other hs ht hy hi hx
    subst e1
    rw [hs] at ht; injection ht with ht; subst ht
    have e2 := Sp.addr_inj (I.ok.pg id s hs).1 hx
    subst e2
    rw [hF] at hFt; cases hFt
/-- Spans 0 to i - 1 are there; what is left is one run, of 512 pages in all. -/
structure SerA (a : Ar) (i f p : Nat) : Prop where
  l : a.l = [⟨f, p⟩]
  s : f + p = 512
  f : f ≤ 1 + 4 * i
  sp : ∀ j, j < i → a.sp j ≠ none
theorem SerA.new : SerA (newA 512) 0 1 511 := ⟨rfl, rfl, by decide, fun j h => by omega⟩
section
variable {a : Ar} {i f p : Nat} (h : SerA a i f p)
include h
theorem SerA.span {q : Nat} (hq : q < 16) (hi : i ≤ 100) : SerA (spanA a [⟨f + pgK q, p - pgK q⟩] i q f) (i + 1) (f + pgK q) (p - pgK q) := by
  have h1 := (kF hq).2.2.2.2.2.1
  have h2 := h.s
  have h3 := h.f
  refine ⟨rfl, by omega, by omega, fun j hj => ?_⟩
  show updF a.sp i _ j ≠ none
  by_cases e : j = i
  · rw [e, updF_same]; simp
  · rw [updF_other _ _ e]; exact h.sp j (by omega)
theorem SerA.set {id live : Nat} {s' : Sp} {ob : Nat → Option (List Int)} : SerA { a with sp := updF a.sp id (some s'), ob := ob, live := live } i f p :=
  ⟨h.l, h.s, h.f, fun j hj => by
    show updF a.sp id _ j ≠ none
    by_cases e : j = id
    · rw [e, updF_same]; simp
    · rw [updF_other _ _ e]; exact h.sp j hj⟩
theorem SerA.put (x k v : Int) : SerA (putA a x k v) i f p := ⟨by rw [putA_l]; exact h.l, h.s, h.f, fun j hj => by rw [putA_sp]; exact h.sp j hj⟩
end
/-- A span of which the first place alone may be used, or marked. -/
structure Spt (s : Sp) (F M : Bool) : Prop where
  F : ∀ x, s.F x = (decide (x = 0) && F)
  M : ∀ x, s.M x = (decide (x = 0) && M)
  fr : s.fr = 0
theorem spn_spt (f q : Nat) : Spt (spn f q) false false := ⟨fun x => by simp [spn], fun x => by simp [spn], rfl⟩
section
variable {s : Sp} {F M : Bool} (h : Spt s F M)
include h
theorem Spt.alloc (black : Bool) : Spt (allocS s 0 black) true (black || M) := by
  refine ⟨fun x => ?_, fun x => ?_, rfl⟩
  · show setF s.F 0 x = _
    unfold setF
    by_cases e : x = 0
    · subst e; simp
    · rw [if_neg e, h.F x]; simp [e]
  · cases black
    · show s.M x = _
      rw [h.M x]; simp
    · show setF s.M 0 x = _
      unfold setF
      by_cases e : x = 0
      · subst e; simp
      · rw [if_neg e, h.M x]; simp [e]
theorem Spt.mark : Spt (markS s 0) F true := by
  refine ⟨h.F, fun x => ?_, h.fr⟩
  show setF s.M 0 x = _
  unfold setF
  by_cases e : x = 0
  · subst e; simp
  · rw [if_neg e, h.M x]; simp [e]
theorem Spt.sweep : Spt (sweptS s) M false := ⟨fun x => h.M x, fun x => by simp [sweptS], rfl⟩
theorem Spt.swept (hk : s.k < 16) : sweptL s = if F && !M then [0] else [] := by
  unfold sweptL
  have e2 : allN s.F (slK s.k) = if F then [0] else [] := by
    cases F
    · unfold allN
      rw [if_neg (by decide), List.filter_eq_nil_iff]
      intro x _
      rw [h.F x]; simp
    · exact filt_one (by rw [h.F]; rfl) (fun i hi => by rw [h.F]; simp; omega) _ (kF hk).2.2.2.2.2.2.2.1
  rw [e2]
  cases F
  · rfl
  · have := h.M 0
    cases M
    · simp [this]
    · simp [this]
theorem Spt.none_ (hF : F = false) : ∀ n, cntF s.F n = 0
  | 0 => rfl
  | n + 1 => by
    rw [cntF, Spt.none_ hF n, h.F n, hF]; simp
end
/-- Nothing used: nothing lives. -/
theorem livN_zero {f : Nat → Option Sp} (h : ∀ j s, f j = some s → cntF s.F (slK s.k) = 0) : ∀ n, livN f n = 0
  | 0 => rfl
  | n + 1 => by
    rw [livN, livN_zero h n]
    unfold spW
    cases e : f n with
    | none => rfl
    | some s => show 0 + cntF s.F (slK s.k) * szK s.k = 0; rw [h n s e]; simp
end Go.Proofs.YtkocikpoagfonaaDoor
