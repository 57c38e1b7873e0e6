/- ArenaPlays: the state of both forms, side by side. -/
import Derived.Test.YtmafiagakoglkaaGreatDoorRl
import Derived.Test.YtmafiagakoglkaaGreatDoorGa
namespace Go.Proofs.YtmafiagakoglkaaGreatDoor
open Go.RowKit Go.Maps

theorem ArS.sub {w0 w w' : World} {g N b : Nat} {h : ArH} {a : Ar} {S : List Nat} (Q : ArS w0 w g h a N b) (c : Chg S w w') (hn : ∀ k ∈ S, ¬ ArF h a k) (hf : ∀ k ∈ S, w0.heap.size ≤ k) : ArS w0 w' g h a N b :=
  ⟨Q.M.chg c (fun k hk hm => hn k hm hk), Q.I, Q.far, Q.c.newS c hf, Q.ga, Q.m⟩
structure ApT (W : World) (g rg : Nat) (h : ArH) (hr : RaH) (a : Ar) (ids : List Nat) (N b m : Nat) (w : World) : Prop where
  S : ArS W w g h a N b
  M : RaM w hr a ids
  far : ∀ k, RaF hr a k → W.heap.size ≤ k
  apart : ∀ k, RaF hr a k → ¬ ArF h a k
  rg : hr.g = rg
  mw : hr.mw ≤ m
section
variable {W w w1 w2 : World} {g rg N b m N' b' m' : Nat} {h h1 : ArH} {hr hr' : RaH} {a a' : Ar} {ids ids' : List Nat}
theorem ApT.chg0 (T : ApT W g rg h hr a ids N b m w) (c : Chg [] w w1) : ApT W g rg h hr a ids N b m w1 := ⟨T.S.chg0 c, T.M.chg0 c, T.far, T.apart, T.rg, T.mw⟩
/-- Behind the code's op. -/
theorem ApT.mid (T : ApT W g rg h hr a ids N b m w) (st : StA h a h1 a' w w1) : RaM w1 hr a ids := by
  obtain ⟨S, c, hS⟩ := st.chg
  exact T.M.chg c (fun k hk hm => T.apart k hk (hS k hm))
/-- Behind both. -/
theorem ApT.both (T : ApT W g rg h hr a ids N b m w) (S1 : ArS W w1 g h1 a' N' b') (st : StA h a h1 a' w w1) (M2 : RaM w2 hr' a' ids') (sr : StR hr a hr' a' w1 w2) (hg : hr'.g = hr.g) (hm : hr'.mw ≤ m') : ApT W g rg h1 hr' a' ids' N' b' m' w2 := by
  have nA : ∀ k, RaF hr a k → ¬ ArF h1 a' k := fun k hk hf => by
    rcases st.fr k hf with h2 | h2
    · exact T.apart k hk h2
    · have := T.M.lt hk; omega
  obtain ⟨S, c, hS⟩ := sr.chg
  refine ⟨S1.sub c (fun k hk => nA k (hS k hk)) (fun k hk => T.far k (hS k hk)), M2, fun k hk => ?_, fun k hk hf => ?_, hg.trans T.rg, hm⟩
  · rcases sr.fr k hk with h2 | h2
    · exact T.far k h2
    · exact Nat.le_trans S1.c.size h2
  · rcases sr.fr k hk with h2 | h2
    · exact nA k h2 hf
    · have := S1.M.lt k hf; omega
/-- Something of one's own beside both stays. -/
theorem ApT.keep (T : ApT W g rg h hr a ids N b m w) (st : StA h a h1 a' w w1) (sr : StR hr a hr' a' w1 w2) {k : Nat} (hk : k < w.heap.size) (h2 : ¬ ArF h a k) (h3 : ¬ RaF hr a k) : w2.heap[k]? = w.heap[k]? :=
  (sr.block k (Nat.lt_of_lt_of_le hk st.size) h3).trans (st.block k hk h2)
end
end Go.Proofs.YtmafiagakoglkaaGreatDoor
