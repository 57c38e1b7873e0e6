/- MachineFaults, plain: who looks into nothing is dead by it; the others come to their ends. -/
/- MachineYields, in plain Lean: the step. -/
/- MachineYields: the machine keeps the invariant, from its beginning on. -/
/- MachineYields: machine and model keep step, whatever the run. -/
/- MachineYields: goroutines that yield to one another on one P all come to their ends, each with all of its yields. (Printed by wip/genmi9.py.) -/
/- MachineFaults: its program may be; a program of three functions. (The statement's walk is to follow: it wants a seat of its row.) -/
import Derived.Test.YtepnlcemlnkpdaaGreatDoorMn3J
import Derived.Test.YtepnlcemlnkpdaaGreatDoorMi7J
import Derived.Test.YtepnlcemlnkpdaaGreatDoorMf5J
import Derived.Test.YtepnlcemlnkpdaaGreatDoorMe3J
namespace Go.Proofs.YtepnlcemlnkpdaaGreatDoor
set_option maxHeartbeats 16000000
set_option maxRecDepth 100000
open Go.RowKit Go.Maps
def fFirst (k : Nat) : List Ins := (List.range k).map (fun i => ⟨8, 1 + i % 2, 0, 0⟩) ++ [⟨0, 0, 0, 0⟩]
def fBad (a : Nat) : List Ins := List.replicate a ⟨4, 2, 3, 0⟩ ++ [⟨2, 1, 9, 0⟩, ⟨7, 0, 0, 0⟩]
def fThird : List Ins := [⟨9, 0, 0, 0⟩, ⟨9, 0, 0, 0⟩]
def fFs (k a : Nat) : List (List Ins) := [fFirst k, fBad a, fThird]
def fOf (j : Nat) : Nat := if j = 0 then 0 else 1 + (j - 1) % 2
def fNx (k a : Nat) (X : Mdl) (g : Nat) : Ins := (((fFs k a).getD (fOf g) [])[(X.gs g).pc.toNat]?).getD ⟨0, 0, 0, 0⟩
structure FG (k a n j : Nat) (z : MdG) : Prop where
  f : z.f = (fOf j : Nat)
  sk : z.sk = fun _ => 0
  cnt : z.cnt = 0
  st : z.st = 1 ∨ z.st = 5
  p0 : j = 0 → z.st = 1 → ∃ pc : Nat, z.pc = pc ∧ pc + 1 = n
  p0d : j = 0 → z.st = 5 → n = k + 1
  p1 : fOf j = 1 → z.st = 1 → ∃ pc : Nat, z.pc = pc ∧ pc ≤ a
  p2 : fOf j = 2 → z.st = 1 → ∃ pc : Nat, z.pc = pc ∧ pc ≤ 2
structure FJ (k a : Nat) (X : Mdl) (cms : List ComA) : Prop where
  fs : X.fs = fFs k a
  wt : X.wt = fun _ => []
  n1 : 1 ≤ X.n
  nk : X.n ≤ k + 1
  g : ∀ j, j < X.n → FG k a X.n j (X.gs j)
  cf : ∀ c ∈ cms, c.flt = true → c.f = 1 ∧ c.pc = (a : Nat) ∧ c.op = 2 ∧ c.v = 0
  c7 : ∀ c ∈ cms, ¬ c.op = 7
  nf : cms.countP (fun c => c.flt) = (List.range X.n).countP (fun j => decide (fOf j = 1 ∧ (X.gs j).st = 5))
  ne : cms.countP (fun c => decide (c.op = 0)) = (List.range X.n).countP (fun j => decide (¬ fOf j = 1 ∧ (X.gs j).st = 5))
theorem fOf_012 (j : Nat) : fOf j = 0 ∨ fOf j = 1 ∨ fOf j = 2 := by unfold fOf; split <;> omega
theorem fOf_0 {j : Nat} : fOf j = 0 ↔ j = 0 := by unfold fOf; split <;> omega
section
variable {k a : Nat} {X : Mdl} {cms : List ComA}
theorem FJ.wtx (h : FJ k a X cms) : WtX X :=
  ⟨fun b _ y hy => by rw [h.wt] at hy; simp at hy, fun b _ => by rw [h.wt]; simp, fun b c _ _ _ y hy => by rw [h.wt] at hy; simp at hy⟩
theorem FJ.next (hk : k ≤ 10) (ha : a ≤ 40) (h : FJ k a X cms) {g : Nat} (hg : g < X.n) (hst : (X.gs g).st = 1) : ∃ pc : Nat, (X.gs g).pc = pc ∧
    ((g = 0 ∧ pc + 1 = X.n ∧ pc < k ∧ fNx k a X g = ⟨8, 1 + pc % 2, 0, 0⟩ ∧ (fFirst k)[pc]? = some (fNx k a X g)) ∨
     (g = 0 ∧ pc + 1 = X.n ∧ pc = k ∧ fNx k a X g = ⟨0, 0, 0, 0⟩ ∧ (fFirst k)[pc]? = some (fNx k a X g)) ∨
     (fOf g = 1 ∧ pc < a ∧ fNx k a X g = ⟨4, 2, 3, 0⟩ ∧ (fBad a)[pc]? = some (fNx k a X g)) ∨
     (fOf g = 1 ∧ pc = a ∧ fNx k a X g = ⟨2, 1, 9, 0⟩ ∧ (fBad a)[pc]? = some (fNx k a X g)) ∨
     (fOf g = 2 ∧ pc < 2 ∧ fNx k a X g = ⟨9, 0, 0, 0⟩ ∧ fThird[pc]? = some (fNx k a X g)) ∨
     (fOf g = 2 ∧ pc = 2 ∧ fNx k a X g = ⟨0, 0, 0, 0⟩)) := by
  have G := h.g g hg
  have hnk := h.nk
  have hf : ∀ pc : Nat, (X.gs g).pc = pc → fNx k a X g = (((fFs k a).getD (fOf g) [])[pc]?).getD ⟨0, 0, 0, 0⟩ := fun pc e => by
    unfold fNx; rw [e, Int.toNat_natCast]
  rcases fOf_012 g with e | e | e
  · have e0 := fOf_0.1 e
    obtain ⟨pc, hp, hn⟩ := G.p0 e0 hst
    refine ⟨pc, hp, ?_⟩
    have h1 := hf pc hp
    rw [e] at h1
    have h1 : fNx k a X g = ((fFirst k)[pc]?).getD ⟨0, 0, 0, 0⟩ := h1
    by_cases hlt : pc < k
    · have h2 : (fFirst k)[pc]? = some ⟨8, 1 + pc % 2, 0, 0⟩ := by
        unfold fFirst
        rw [List.getElem?_append_left (by simpa using hlt)]
        simp [hlt]
      rw [h2] at h1
      exact .inl ⟨e0, hn, hlt, h1, by rw [h2, h1]; rfl⟩
    · have hpk : pc = k := by omega
      have h2 : (fFirst k)[pc]? = some ⟨0, 0, 0, 0⟩ := by
        unfold fFirst
        rw [hpk, List.getElem?_append_right (by simp)]
        simp
      rw [h2] at h1
      exact .inr (.inl ⟨e0, hn, hpk, h1, by rw [h2, h1]; rfl⟩)
  · obtain ⟨pc, hp, hn⟩ := G.p1 e hst
    refine ⟨pc, hp, .inr (.inr ?_)⟩
    have h1 := hf pc hp
    rw [e] at h1
    have h1 : fNx k a X g = ((fBad a)[pc]?).getD ⟨0, 0, 0, 0⟩ := h1
    by_cases hlt : pc < a
    · have h2 : (fBad a)[pc]? = some ⟨4, 2, 3, 0⟩ := by
        unfold fBad
        rw [List.getElem?_append_left (by simpa using hlt)]
        simp [hlt]
      rw [h2] at h1
      exact .inl ⟨e, hlt, h1, by rw [h2, h1]; rfl⟩
    · have hpk : pc = a := by omega
      have h2 : (fBad a)[pc]? = some ⟨2, 1, 9, 0⟩ := by
        unfold fBad
        rw [hpk, List.getElem?_append_right (by simp)]
        simp
      rw [h2] at h1
      exact .inr (.inl ⟨e, hpk, h1, by rw [h2, h1]; rfl⟩)
  · obtain ⟨pc, hp, hn⟩ := G.p2 e hst
    refine ⟨pc, hp, .inr (.inr (.inr (.inr ?_)))⟩
    have h1 := hf pc hp
    rw [e] at h1
    have h1 : fNx k a X g = (fThird[pc]?).getD ⟨0, 0, 0, 0⟩ := h1
    have : pc = 0 ∨ pc = 1 ∨ pc = 2 := by omega
    rcases this with rfl | rfl | rfl
    · exact .inl ⟨e, by omega, h1, by rw [h1]; rfl⟩
    · exact .inl ⟨e, by omega, h1, by rw [h1]; rfl⟩
    · exact .inr ⟨e, rfl, h1⟩
theorem FJ.fine (hk : k ≤ 10) (ha : a ≤ 40) (h : FJ k a X cms) {g : Nat} (hg : g < X.n) (hst : (X.gs g).st = 1) : AtP (fFs k a) X g (fNx k a X g) ∧ Fine X g (fNx k a X g) := by
  obtain ⟨pc, hp, hc⟩ := h.next hk ha hg hst
  have G := h.g g hg
  have hnk := h.nk
  have hcnt : 0 ≤ (X.gs g).cnt ∧ (X.gs g).cnt ≤ 1000000 := by rw [G.cnt]; omega
  have hf := G.f
  rcases hc with ⟨e0, hn, hlt, e, hi⟩ | ⟨e0, hn, hlt, e, hi⟩ | ⟨e0, hlt, e, hi⟩ | ⟨e0, hlt, e, hi⟩ | ⟨e0, hlt, e, hi⟩ | ⟨e0, hlt, e⟩
  · rw [fOf_0.2 e0] at hf
    refine ⟨⟨0, pc, fFirst k, hf, hp, by omega, rfl, .inl hi, by simp [fFirst]⟩, ?_⟩
    rw [e]
    exact ⟨by simp, by show 1 + pc % 2 < 256; omega, by simp, fun _ => ⟨by simp, by omega⟩, by simp, hcnt, by simp, by simp⟩
  · rw [fOf_0.2 e0] at hf
    refine ⟨⟨0, pc, fFirst k, hf, hp, by omega, rfl, .inl hi, by simp [fFirst]⟩, ?_⟩
    rw [e]
    exact ⟨by simp, by simp, by simp, by simp, by simp, hcnt, by simp, by simp⟩
  · rw [e0] at hf
    refine ⟨⟨1, pc, fBad a, hf, hp, by omega, rfl, .inl hi, by simp [fBad]⟩, ?_⟩
    rw [e]
    exact ⟨by simp, by simp, by simp, by simp, by simp, hcnt, by simp, by simp⟩
  · rw [e0] at hf
    refine ⟨⟨1, pc, fBad a, hf, hp, by omega, rfl, .inl hi, by simp [fBad]⟩, ?_⟩
    rw [e]
    exact ⟨by simp, by simp, by simp, by simp, by simp, hcnt, by simp, fun _ => by rw [G.sk]⟩
  · rw [e0] at hf
    refine ⟨⟨2, pc, fThird, hf, hp, by omega, rfl, .inl hi, by simp [fThird]⟩, ?_⟩
    rw [e]
    exact ⟨by simp, by simp, by simp, by simp, by simp, hcnt, by simp, by simp⟩
  · rw [e0] at hf
    refine ⟨⟨2, pc, fThird, hf, hp, by omega, rfl, .inr ⟨hlt, e⟩, by simp [fThird]⟩, ?_⟩
    rw [e]
    exact ⟨by simp, by simp, by simp, by simp, by simp, hcnt, by simp, by simp⟩
theorem cnt_upd {n g : Nat} {p p' : Nat → Bool} (hg : g < n) (h : ∀ j, j < n → j ≠ g → p' j = p j) (h0 : p g = false) : (List.range n).countP p' = (List.range n).countP p + if p' g = true then 1 else 0 := by
  induction n with
  | zero => omega
  | succ n ih =>
    rw [List.range_succ, List.countP_append, List.countP_append, List.countP_singleton, List.countP_singleton]
    by_cases e : g = n
    · subst e
      have h1 : (List.range g).countP p' = (List.range g).countP p := List.countP_congr fun j hj => by
        have hj := List.mem_range.1 hj
        rw [h j (by omega) (by omega)]
      rw [h1, h0]
      simp
    · have h1 := ih (by omega) (fun j hj hne => h j (by omega) hne)
      rw [h1, h n (by omega) (fun e2 => e e2.symm)]
      omega
theorem FJ.upd (h : FJ k a X cms) {g : Nat} (hg : g < X.n) (hst : (X.gs g).st = 1) (z : MdG) (hz : FG k a X.n g z) (c : ComA) (hcf : c.flt = true → c.f = 1 ∧ c.pc = (a : Nat) ∧ c.op = 2 ∧ c.v = 0) (hc7 : ¬ c.op = 7)
    (hfl : c.flt = true ↔ (fOf g = 1 ∧ z.st = 5)) (hop : c.op = 0 ↔ (¬ fOf g = 1 ∧ z.st = 5)) : FJ k a { X with gs := updV X.gs g z } (cms ++ [c]) := by
  refine ⟨h.fs, h.wt, h.n1, h.nk, fun j hj => ?_, fun c' hc' => ?_, fun c' hc' => ?_, ?_, ?_⟩
  · show FG k a X.n j (updV X.gs g z j)
    by_cases e : j = g
    · subst e; rw [updV_same]; exact hz
    · rw [updV_other _ _ e]; exact h.g j hj
  · rcases List.mem_append.1 hc' with e | e
    · exact h.cf c' e
    · rw [List.mem_singleton.1 e]; exact hcf
  · rcases List.mem_append.1 hc' with e | e
    · exact h.c7 c' e
    · rw [List.mem_singleton.1 e]; exact hc7
  · rw [List.countP_append, List.countP_singleton, h.nf]
    show _ = (List.range X.n).countP (fun j => decide (fOf j = 1 ∧ (updV X.gs g z j).st = 5))
    rw [cnt_upd (p := fun j => decide (fOf j = 1 ∧ (X.gs j).st = 5)) (p' := fun j => decide (fOf j = 1 ∧ (updV X.gs g z j).st = 5)) hg (fun j _ hne => by simp only [updV_other _ _ hne]) (by simp [hst])]
    congr 1
    simp only [updV_same, decide_eq_true_eq]
    by_cases e : c.flt = true
    · rw [if_pos e, if_pos (hfl.1 e)]
    · rw [if_neg e, if_neg (fun h => e (hfl.2 h))]
  · rw [List.countP_append, List.countP_singleton, h.ne]
    show _ = (List.range X.n).countP (fun j => decide (¬ fOf j = 1 ∧ (updV X.gs g z j).st = 5))
    rw [cnt_upd (p := fun j => decide (¬ fOf j = 1 ∧ (X.gs j).st = 5)) (p' := fun j => decide (¬ fOf j = 1 ∧ (updV X.gs g z j).st = 5)) hg (fun j _ hne => by simp only [updV_other _ _ hne]) (by simp [hst])]
    congr 1
    simp only [updV_same, decide_eq_true_eq]
    by_cases e : c.op = 0
    · rw [if_pos e, if_pos (hop.1 e)]
    · rw [if_neg e, if_neg (fun h => e (hop.2 h))]
theorem FJ.keep (hk : k ≤ 10) (ha : a ≤ 40) (h : FJ k a X cms) {g : Nat} (hg : g < X.n) (hst : (X.gs g).st = 1) : FJ k a (doW X g (fNx k a X g)) (cms ++ [tellW X g (fNx k a X g)]) := by
  obtain ⟨pc, hp, hc⟩ := h.next hk ha hg hst
  have G := h.g g hg
  have ne : ¬ ((5 : Int) = 1) := by decide
  rcases hc with ⟨e0, hn, hlt, e, -⟩ | ⟨e0, hn, hlt, e, -⟩ | ⟨e0, hlt, e, -⟩ | ⟨e0, hlt, e, -⟩ | ⟨e0, hlt, e, -⟩ | ⟨e0, hlt, e⟩
  · subst e0
    rw [e]
    obtain ⟨G2, hG2⟩ : ∃ G2, G2 = updV (updV X.gs 0 { X.gs 0 with pc := (X.gs 0).pc + 1 }) X.n ⟨1, ((1 + pc % 2 : Nat) : Int), 0, 0, updV (fun _ => 0) 0 ((X.gs 0).sk 0)⟩ := ⟨_, rfl⟩
    have ex : doW X 0 ⟨8, 1 + pc % 2, 0, 0⟩ = { X with n := X.n + 1, gs := G2 } := by rw [hG2]; rfl
    have et : tellW X 0 ⟨8, 1 + pc % 2, 0, 0⟩ = ⟨((0 : Nat) : Int), (X.gs 0).f, (X.gs 0).pc, ((8 : Nat) : Int), (X.n : Nat), false⟩ := rfl
    rw [ex, et]
    have hn1 := h.n1
    have old : ∀ j, j < X.n → (G2 j).st = (X.gs j).st := fun j hj => by
      rw [hG2, updV_other _ _ (by omega)]
      by_cases e : j = 0
      · subst e; rw [updV_same]
      · rw [updV_other _ _ e]
    have new : (G2 X.n).st = 1 := by rw [hG2, updV_same]
    refine ⟨h.fs, h.wt, by show 1 ≤ X.n + 1; omega, by show X.n + 1 ≤ k + 1; omega, fun j hj => ?_, fun c' hc' => ?_, fun c' hc' => ?_, ?_, ?_⟩
    · have hj : j < X.n + 1 := hj
      show FG k a (X.n + 1) j (G2 j)
      rw [hG2]
      by_cases e1 : j = X.n
      · subst e1
        rw [updV_same]
        refine ⟨?_, ?_, rfl, .inl rfl, fun e => by omega, fun e => by omega, fun _ _ => ⟨0, rfl, by omega⟩, fun _ _ => ⟨0, rfl, by omega⟩⟩
        · show ((1 + pc % 2 : Nat) : Int) = (fOf X.n : Nat)
          unfold fOf
          rw [if_neg (by omega), show X.n - 1 = pc by omega]
        · show updV (fun _ => (0 : Int)) 0 ((X.gs 0).sk 0) = fun _ => 0
          rw [G.sk]
          funext j
          unfold updV; split <;> rfl
      · rw [updV_other _ _ e1]
        by_cases e : j = 0
        · subst e
          rw [updV_same]
          refine ⟨G.f, G.sk, G.cnt, .inl hst, fun _ _ => ⟨pc + 1, by show (X.gs 0).pc + 1 = _; rw [hp]; rfl, by omega⟩, fun _ h5 => absurd (hst.symm.trans h5) (by decide), fun e _ => ?_, fun e _ => ?_⟩
          · exact absurd (fOf_0.2 rfl) (by omega)
          · exact absurd (fOf_0.2 rfl) (by omega)
        · rw [updV_other _ _ e]
          have Gj := h.g j (by omega)
          exact ⟨Gj.f, Gj.sk, Gj.cnt, Gj.st, fun e0 => absurd e0 e, fun e0 => absurd e0 e, Gj.p1, Gj.p2⟩
    · rcases List.mem_append.1 hc' with e | e
      · exact h.cf c' e
      · rw [List.mem_singleton.1 e]; simp
    · rcases List.mem_append.1 hc' with e | e
      · exact h.c7 c' e
      · rw [List.mem_singleton.1 e]; simp
    · rw [List.countP_append, List.countP_singleton, h.nf]
      show _ = (List.range (X.n + 1)).countP _
      rw [List.range_succ, List.countP_append, List.countP_singleton]
      show _ = (List.range X.n).countP (fun j => decide (fOf j = 1 ∧ (G2 j).st = 5)) + _
      rw [show (List.range X.n).countP (fun j => decide (fOf j = 1 ∧ (G2 j).st = 5)) = (List.range X.n).countP (fun j => decide (fOf j = 1 ∧ (X.gs j).st = 5)) from List.countP_congr fun j hj => by simp only [old j (List.mem_range.1 hj)]]
      simp [new]
    · rw [List.countP_append, List.countP_singleton, h.ne]
      show _ = (List.range (X.n + 1)).countP _
      rw [List.range_succ, List.countP_append, List.countP_singleton]
      show _ = (List.range X.n).countP (fun j => decide (¬ fOf j = 1 ∧ (G2 j).st = 5)) + _
      rw [show (List.range X.n).countP (fun j => decide (¬ fOf j = 1 ∧ (G2 j).st = 5)) = (List.range X.n).countP (fun j => decide (¬ fOf j = 1 ∧ (X.gs j).st = 5)) from List.countP_congr fun j hj => by simp only [old j (List.mem_range.1 hj)]]
      simp [new]
  · have f0 := fOf_0.2 e0
    rw [e]
    exact h.upd hg hst { X.gs g with pc := (X.gs g).pc + 1, st := 5 } ⟨G.f, G.sk, G.cnt, .inr rfl, fun _ h5 => absurd h5 ne, fun _ _ => by omega, fun _ h5 => absurd h5 ne, fun _ h5 => absurd h5 ne⟩ ⟨(g : Nat), (X.gs g).f, (X.gs g).pc, ((0 : Nat) : Int), 0, false⟩ (by simp) (by simp) (by simp [f0]) (by simp [f0])
  · rw [e]
    have hsk : updV (X.gs g).sk 2 ((X.gs g).sk 3) = fun _ => 0 := by
      rw [G.sk]; funext j; unfold updV; split <;> rfl
    exact h.upd hg hst { X.gs g with pc := (X.gs g).pc + 1, sk := updV (X.gs g).sk 2 ((X.gs g).sk 3) } ⟨G.f, hsk, G.cnt, G.st, fun e1 => absurd (fOf_0.2 e1) (by omega), fun e1 => absurd (fOf_0.2 e1) (by omega), fun _ _ => ⟨pc + 1, by show (X.gs g).pc + 1 = _; rw [hp]; rfl, by omega⟩, fun e1 => by omega⟩ ⟨(g : Nat), (X.gs g).f, (X.gs g).pc, ((4 : Nat) : Int), 0, false⟩ (by simp) (by simp) (by simp [hst]) (by simp [hst])
  · rw [e]
    exact h.upd hg hst { X.gs g with pc := (X.gs g).pc + 1, st := 5 } ⟨G.f, G.sk, G.cnt, .inr rfl, fun _ h5 => absurd h5 ne, fun e1 => absurd (fOf_0.2 e1) (by omega), fun _ h5 => absurd h5 ne, fun _ h5 => absurd h5 ne⟩ ⟨(g : Nat), (X.gs g).f, (X.gs g).pc, ((2 : Nat) : Int), 0, true⟩ (fun _ => ⟨by rw [G.f, e0]; rfl, by rw [hp, hlt], rfl, rfl⟩) (by simp) (by simp [e0]) (by simp [e0])
  · rw [e]
    exact h.upd hg hst { X.gs g with pc := (X.gs g).pc + 1 } ⟨G.f, G.sk, G.cnt, G.st, fun e1 => absurd (fOf_0.2 e1) (by omega), fun e1 => absurd (fOf_0.2 e1) (by omega), fun e1 => by omega, fun _ _ => ⟨pc + 1, by show (X.gs g).pc + 1 = _; rw [hp]; rfl, by omega⟩⟩ ⟨(g : Nat), (X.gs g).f, (X.gs g).pc, ((9 : Nat) : Int), 0, false⟩ (by simp) (by simp) (by simp [hst]) (by simp [hst])
  · rw [e]
    exact h.upd hg hst { X.gs g with pc := (X.gs g).pc + 1, st := 5 } ⟨G.f, G.sk, G.cnt, .inr rfl, fun _ h5 => absurd h5 ne, fun e1 => absurd (fOf_0.2 e1) (by omega), fun _ h5 => absurd h5 ne, fun _ h5 => absurd h5 ne⟩ ⟨(g : Nat), (X.gs g).f, (X.gs g).pc, ((0 : Nat) : Int), 0, false⟩ (by simp) (by simp) (by simp [e0]) (by simp [e0])
theorem FJ.start (h1 : X.fs = fFs k a) (h2 : X.n = 1) (h3 : (X.gs 0).st = 1) (h4 : (X.gs 0).f = 0) (h5 : (X.gs 0).pc = 0) (h6 : (X.gs 0).cnt = 0) (h7 : X.wt = fun _ => []) (h8 : (X.gs 0).sk = fun _ => 0) : FJ k a X [] := by
  refine ⟨h1, h7, by omega, by omega, fun j hj => ?_, by simp, by simp, ?_, ?_⟩
  · have : j = 0 := by omega
    subst this
    exact ⟨h4, h8, h6, .inl h3, fun _ _ => ⟨0, h5, by omega⟩, fun _ e => absurd (h3.symm.trans e) (by decide), fun e => absurd (fOf_0.2 rfl) (by omega), fun e => absurd (fOf_0.2 rfl) (by omega)⟩
  · rw [h2, List.range_one]; simp [h3]
  · rw [h2, List.range_one]; simp [h3]
theorem FJ.stV {m : Mac} {loc : Nat → Nat × Nat} (h : FJ k a X cms) (R : Rel m X) (L : WF m loc) (C : Calm m) : stV m = 0 ∨ (stV m = 1 ∧ ∀ j, j < X.n → (X.gs j).st = 5) := by
  have hn := R.n
  have hsl := L.sl
  unfold Proofs.YtepnlcemlnkpdaaGreatDoor.stV
  rw [if_neg (by rw [C.out]; decide)]
  by_cases hd : cntI m.sts 5 = m.sts.length
  · rw [if_pos hd]
    refine .inr ⟨rfl, fun j hj => ?_⟩
    rw [hn] at hj
    have h1 := L.st j hj
    have h5 := (List.count_eq_length.1 hd) _ (List.mem_of_getElem? h1)
    rw [R.st j _ h1, ← h5]
    decide
  · rw [if_neg hd, if_neg]
    · exact .inl rfl
    · intro hz
      apply hd
      unfold cntI
      rw [List.count_eq_length]
      intro x hx
      obtain ⟨j, hj, rfl⟩ := List.mem_iff_getElem.1 hx
      rw [hsl] at hj
      have h1 := L.st j hj
      have hs := (h.g j (by omega)).st
      rw [R.st j _ h1] at hs
      have hm := List.count_pos_iff.2 (List.mem_of_getElem? h1)
      have e : m.sts[j]'(by omega) = (((loc j).1 : Nat) : Int) := by
        rw [List.getElem?_eq_getElem (by omega)] at h1
        exact Option.some.inj h1
      rw [e]
      rcases L.kd j hj with ⟨e1, -⟩ | ⟨e1, -⟩ | e1 | e1
      · rw [e1] at hm
        have hm : 0 < cntI m.sts 1 := hm
        omega
      · rw [e1] at hm
        have hm : 0 < cntI m.sts 2 := hm
        omega
      · rw [e1] at hs; exact absurd hs (by decide)
      · rw [e1]; rfl
theorem fcnt1 : ∀ k ≤ 10, (List.range (k + 1)).countP (fun j => decide (fOf j = 1)) = (k + 1) / 2 := by decide
theorem fcnt2 : ∀ k ≤ 10, (List.range (k + 1)).countP (fun j => decide (¬ fOf j = 1)) = 1 + k / 2 := by decide
theorem FJ.done (hk : k ≤ 10) (h : FJ k a X cms) (hd : ∀ j, j < X.n → (X.gs j).st = 5) : cms.countP (fun c => c.flt) = (k + 1) / 2 ∧ cms.countP (fun c => decide (c.op = 0)) = 1 + k / 2 := by
  have hn : X.n = k + 1 := (h.g 0 (by have := h.n1; omega)).p0d rfl (hd 0 (by have := h.n1; omega))
  constructor
  · rw [h.nf, hn, ← fcnt1 k hk]
    exact List.countP_congr fun j hj => by simp [hd j (by rw [hn]; exact List.mem_range.1 hj)]
  · rw [h.ne, hn, ← fcnt2 k hk]
    exact List.countP_congr fun j hj => by simp [hd j (by rw [hn]; exact List.mem_range.1 hj)]
theorem FJ.run {P : Nat} {wB : World} {gW : Nat} {wo : Int} {b1 b2 : Nat} {va vf : Value} {vs : List Value} (hk : k ≤ 10) (ha : a ≤ 40) (PR : PrR wB wB.heap.size vf vs (fFs k a)) (h1 : 1 ≤ P) (hP : P ≤ 64) (N : Nat) (hN : N ≤ 400000) : RunJ gW P N (GJ P (fFs k a) wB gW wo b1 b2 va vf (FJ k a)) :=
  GJ.run (Ops.fine PR (nx := fNx k a) (fun X cms h => ⟨by have := h.nk; omega, h.wtx, h.fs⟩) (fun X cms g h hg hst => h.fine hk ha hg hst) (fun X cms g h hg hst => h.keep hk ha hg hst)) h1 hP N hN
end
section
variable {k y s i : Nat} {m : Mac} {L : List Nat}
end
section
variable {k y s i : Nat} {m : Mac} {g : Nat} {L : List Nat}
end
def YJ (k y : Nat) (wB : World) (gW : Nat) (wo : Int) (b1 b2 : Nat) (va vf : Value) (i : Nat) (s : Int) (w : World) : Prop :=
  ∃ p m a X Q cP cV, BothM wB w gW (1 : Nat) wo b1 b2 va cP cV p m a X ∧ Rel m X ∧ YI k y i i m Q ∧ s = stV m ∧ (p.vq = .slice none 0 0 ∧ p.vtm = .slice none 0 0 ∧ p.vfr = .slice none 0 0) ∧ a.vf = vf ∧ a.ck = 0
theorem OwnG.rd {α : Type} {f : α → List Value} {sz : Nat} {E : TypeId} {w : World} {v : Value} {xs : List α} (hf : ∀ x, (f x).length = sz) (h : OwnG f sz E w v xs) : RdG f sz w w.heap.size v xs := by
  obtain ⟨A, c, rfl⟩ := h.slice
  refine ⟨⟨A, c, rfl⟩, fun A' n c' e i x hx => ?_⟩
  injection e with e1 e2 e3
  obtain ⟨g, hA, hc, -, -, -, hl⟩ := h.cell hf hx
  refine ⟨g, 0, e1.symm.trans hA, hl, fun j u hu => ?_⟩
  rw [Nat.zero_add]
  exact hc j u hu
theorem rdG_blk {α : Type} {f : α → List Value} {sz : Nat} {E : TypeId} {w : World} {g n c : Nat} {cs : Array Value} {xs : List α} (hf : ∀ x, (f x).length = sz) (B : Blk w g E cs) (hcs : cs = (xs.flatMap f).toArray) (hn : n = xs.length) : RdG f sz w w.heap.size (.slice (some ⟨g, 0, none⟩) n c) xs := by
  subst hcs hn
  refine ⟨⟨_, _, rfl⟩, fun A' n c' e i x hx => ?_⟩
  injection e with e1 e2 e3
  refine ⟨g, 0, e1.symm, B.lt, fun j u hu => ?_⟩
  have hj : j < sz := by have := (List.getElem?_eq_some_iff.1 hu).1; rw [hf] at this; exact this
  rw [Nat.zero_add]
  refine B.cellv _ ?_
  rw [List.getElem?_toArray, flat_at hf hx hj]
  exact hu
instance decOkIns (G F S : Nat) (i : Ins) : Decidable (okIns G F S i) := by unfold okIns; infer_instance
def dnC (n : Nat) (f : Nat → Nat) : Array Value := ((List.range n).map fun j => Value.int .i64 ((f j : Nat) : Int)).toArray
def YcRel (w7 : World) (k gd : Nat) (cms : List ComA) (gk : Nat) (idx : Value) (w : World) : Prop := ∃ j : Nat, gk + j = cms.length + 1 ∧ j ≤ cms.length ∧ idx = .int .i64 (j : Nat) ∧ Blk w gd 3 (dnC (k + 1) (yds (cms.take j))) ∧ Chg [] w7 w
def YeRel (w8 : World) (k : Nat) (gk : Nat) (idx : Value) (w : World) : Prop := ∃ j : Nat, gk + j = k + 2 ∧ 1 ≤ j ∧ j ≤ k + 1 ∧ idx = .int .i64 (j : Nat) ∧ Chg [] w8 w
def YfRel (w1 : World) (k : Nat) (gk : Nat) (v idx : Value) (w : World) : Prop := ∃ (i : Nat) (A : Option Addr) (c : Nat), gk + i = k + 1 ∧ i ≤ k ∧ idx = .int .i64 (i : Nat) ∧ v = .slice A i c ∧ OwnG insC 4 27 w (.slice A i c) (List.replicate i ⟨8, 1, 0, 0⟩) ∧ (∀ b ∈ fpv (.slice A i c), w1.heap.size ≤ b) ∧ Chg [] w1 w
theorem PrR.three {w : World} {gF c : Nat} {v1 v2 v3 : Value} {l1 l2 l3 : List Ins} (BF : Blk w gF 28 #[v1, v2, v3]) (R1 : RdG insC 4 w w.heap.size v1 l1) (R2 : RdG insC 4 w w.heap.size v2 l2) (R3 : RdG insC 4 w w.heap.size v3 l3) : PrR w w.heap.size (.slice (some ⟨gF, 0, none⟩) 3 c) [v1, v2, v3] [l1, l2, l3] := by
  obtain ⟨A1, c1, e1⟩ := R1.ex
  obtain ⟨A2, c2, e2⟩ := R2.ex
  obtain ⟨A3, c3, e3⟩ := R3.ex
  refine ⟨⟨⟨_, _, rfl⟩, fun A n c' e i y hy => ?_, fun y hy => ?_⟩, rfl, fun i u l h1 h2 => ?_⟩
  · injection e with e4 e5 e6
    refine ⟨gF, 0, e4.symm, BF.lt, ?_⟩
    rw [Nat.zero_add]
    exact BF.cellv _ (by rw [← hy]; exact List.getElem?_toArray)
  · rcases List.mem_cons.1 hy with rfl | hy
    · rw [e1]; rfl
    · rcases List.mem_cons.1 hy with rfl | hy
      · rw [e2]; rfl
      · rw [List.mem_singleton.1 hy, e3]; rfl
  · match i with
    | 0 =>
      have e4 : v1 = u := by simpa using h1
      have e5 : l1 = l := by simpa using h2
      subst e4 e5; exact R1
    | 1 =>
      have e4 : v2 = u := by simpa using h1
      have e5 : l2 = l := by simpa using h2
      subst e4 e5; exact R2
    | 2 =>
      have e4 : v3 = u := by simpa using h1
      have e5 : l3 = l := by simpa using h2
      subst e4 e5; exact R3
    | i + 3 => simp at h1
theorem okF4 (S : Nat) : okIns 1 3 S ⟨4, 2, 3, 0⟩ := ⟨rfl, by decide, by decide, by decide, by decide⟩
theorem okF2 (S : Nat) : okIns 1 3 S ⟨2, 1, 9, 0⟩ := ⟨rfl, by decide, by decide, by decide, by decide⟩
theorem okF7 (S : Nat) : okIns 1 3 S ⟨7, 0, 0, 0⟩ := ⟨rfl, by decide, by decide, by decide, by decide⟩
theorem okF9 (S : Nat) : okIns 1 3 S ⟨9, 0, 0, 0⟩ := ⟨rfl, by decide, by decide, by decide, by decide⟩
theorem okF0 (S : Nat) : okIns 1 3 S ⟨0, 0, 0, 0⟩ := ⟨rfl, by decide, by decide, by decide, by decide⟩
theorem okF8 (S b : Nat) (hb : b < 2) : okIns 1 3 S ⟨8, 1 + b, 0, 0⟩ := by
  have : b = 0 ∨ b = 1 := by omega
  rcases this with rfl | rfl <;> exact ⟨rfl, by decide, by decide, by decide, by decide⟩
theorem okFaults {k a : Nat} (hk : k ≤ 10) (ha : a ≤ 40) : OkP 1 (fFs k a) := by
  refine ⟨by omega, by show 1 ≤ 3; omega, by show 3 ≤ 16; omega, fun l hl => ?_⟩
  have hl : l = fFirst k ∨ l = fBad a ∨ l = fThird := by simpa [fFs] using hl
  rcases hl with rfl | rfl | rfl
  · refine ⟨by simp [fFirst], by simp [fFirst]; omega, fun i hi => ?_⟩
    rcases List.mem_append.1 hi with h | h
    · obtain ⟨j, -, rfl⟩ := List.mem_map.1 h
      exact okF8 _ _ (by omega)
    · rw [List.mem_singleton.1 h]; exact okF0 _
  · refine ⟨by simp [fBad], by simp [fBad]; omega, fun i hi => ?_⟩
    rcases List.mem_append.1 hi with h | h
    · rw [List.eq_of_mem_replicate h]; exact okF4 _
    · rcases List.mem_cons.1 h with rfl | h
      · exact okF2 _
      · rw [List.mem_singleton.1 h]; exact okF7 _
  · refine ⟨by simp [fThird], by simp [fThird], fun i hi => ?_⟩
    have : i = ⟨9, 0, 0, 0⟩ := by simpa [fThird] using hi
    rw [this]; exact okF9 _
end Go.Proofs.YtepnlcemlnkpdaaGreatDoor
