/- ArenaDrops: plain parts. -/
import Derived.Test.YtmafiagakoglkaaGreatDoorDr
import Derived.Test.YtmafiagakoglkaaGreatDoorMSer
namespace Go.Proofs.YtmafiagakoglkaaGreatDoor
open Go.RowKit

/-- Two runs of a list lie apart, with a page between. -/
theorem OkF.sep {l : List R} {lo : Nat} (h : OkF lo l) {r s : R} (hr : r ∈ l) (hs : s ∈ l) (hne : r ≠ s) : r.f + r.p + 1 ≤ s.f ∨ s.f + s.p + 1 ≤ r.f := by
  obtain ⟨a, b, rfl⟩ := List.append_of_mem hr
  rw [OkF.append] at h
  obtain ⟨h1, h2, h3, h4⟩ := h
  rcases List.mem_append.1 hs with h5 | h5
  · have := (h1.bd s h5).2.2
    right; omega
  · rcases List.mem_cons.1 h5 with h6 | h6
    · exact absurd h6.symm hne
    · have := (h4.bd s h6).1
      left; omega
/-- Pages that are free one behind another lie in one run. -/
theorem run_of {n : Nat} {l : List R} (h : Okn n l) {f p : Nat} (hp : 1 ≤ p) (hall : ∀ x, f ≤ x → x < f + p → Fr l x) : ∃ r ∈ l, p ≤ r.p := by
  obtain ⟨r, hr, h1, h2⟩ := hall f (Nat.le_refl _) (by omega)
  refine ⟨r, hr, ?_⟩
  rcases Nat.lt_or_ge (r.f + r.p) (f + p) with h3 | h3
  · obtain ⟨s, hs, h4, h5⟩ := hall (r.f + r.p) (by omega) h3
    have hne : r ≠ s := by rintro rfl; omega
    rcases h.1.sep hr hs hne with g | g <;> omega
  · omega
/-- Spans 0 to i - 1 are there, of classes told, nothing in them; what is left is one run, of 256 pages in all. -/
structure SerD (a : Ar) (i f p : Nat) (cl : Nat → Nat) : Prop where
  l : a.l = [⟨f, p⟩]
  s : f + p = 256
  f : f ≤ 1 + 4 * i
  n : a.n = 256
  sp : ∀ j, j < i → ∃ s, a.sp j = some s ∧ s.k = cl j ∧ Spt s false false
theorem SerD.new (cl : Nat → Nat) : SerD (newA 256) 0 1 255 cl := ⟨rfl, rfl, by decide, rfl, fun j h => by omega⟩
theorem SerD.ne {a : Ar} {i f p : Nat} {cl : Nat → Nat} (h : SerD a i f p cl) : ∀ j, j < i → a.sp j ≠ none := fun j hj => by
  obtain ⟨s, hs, -⟩ := h.sp j hj
  rw [hs]; simp
theorem SerD.span {a : Ar} {i f p q : Nat} {cl : Nat → Nat} (h : SerD a i f p cl) (hq : q < 16) (hi : i ≤ 20) (hc : cl i = q) : SerD (spanA a [⟨f + pgK q, p - pgK q⟩] i q f) (i + 1) (f + pgK q) (p - pgK q) cl := by
  have h1 := (kF hq).2.2.2.2.2.1
  have h2 := h.s
  have h3 := h.f
  refine ⟨rfl, by omega, by omega, h.n, fun j hj => ?_⟩
  show ∃ s, updF a.sp i (some (spn f q)) j = some s ∧ _
  by_cases e : j = i
  · rw [e, updF_same]; exact ⟨_, rfl, hc.symm, spn_spt f q⟩
  · rw [updF_other _ _ e]; exact h.sp j (by omega)
/-- Nothing used, nothing there. -/
theorem none_at {N : Nat} {a : Ar} (ok : ArOk N a) (h : ∀ j s, a.sp j = some s → ∃ M, Spt s false M) (x : Nat) : a.ob x = none := by
  cases e : a.ob x with
  | none => rfl
  | some xs =>
    obtain ⟨id, s, i, hs, -, hF, -⟩ := (ok.ob x).1 (by rw [e]; rfl)
    obtain ⟨M, hM⟩ := h id s hs
    rw [hM.F i] at hF
    simp at hF
theorem live_zero {N : Nat} {a : Ar} (I : ArI N a) (h : ∀ j s, a.sp j = some s → ∃ M, Spt s false M) : a.live = 0 := by
  rw [I.lv]
  refine livN_zero (fun j s hs => ?_) N
  obtain ⟨M, hM⟩ := h j s hs
  exact hM.none_ rfl _
theorem fullS_spt {s : Sp} {F M : Bool} (h : Spt s F M) (hk : s.k < 16) (hF : F = false) : ¬ fullS s := fun hf => by
  have := hf 0 (by rw [h.fr]; exact Nat.le_refl _) (kF hk).2.2.2.2.2.2.2.1
  rw [h.F, hF] at this
  simp at this
end Go.Proofs.YtmafiagakoglkaaGreatDoor
