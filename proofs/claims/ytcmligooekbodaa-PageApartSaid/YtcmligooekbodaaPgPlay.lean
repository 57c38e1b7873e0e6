/- PagePlays: what the walk keeps. Plain theorems on worlds. -/
import Derived.Test.YtcmligooekbodaaPgOps
namespace Go.Proofs.Ytcmligooekbodaa
open Go.RowKit

/-- A page beside its second form, what was handed out, and blocks X of the walk. -/
structure PpI (w0 : World) (X : List Nat) (g n : Nat) (v : Value) (l : List R) (rg A c : Nat) (F : Nat → Bool) (vg : Value) (got : List R) (w : World) : Prop where
  P : PgI w0 (rg :: A :: (X ++ fpv vg)) w g n l v
  r : RfA w rg A c n F
  o : OwnR w vg got
  ok : Okn n l
  say : SayF n l F
  f1 : w0.heap.size ≤ rg
  f2 : w0.heap.size ≤ A
  f3 : ∀ k ∈ fpv vg, w0.heap.size ≤ k
  fx : ∀ k ∈ X, w0.heap.size ≤ k
section
variable {w0 w w' : World} {X : List Nat} {g n : Nat} {v : Value} {l : List R} {rg A c : Nat} {F : Nat → Bool} {vg : Value} {got : List R}
theorem PpI.chg0 (h : PpI w0 X g n v l rg A c F vg got w) (k : Chg [] w w') : PpI w0 X g n v l rg A c F vg got w' := ⟨h.P.chg0 k, h.r.chg0 k, h.o.chg0 k, h.ok, h.say, h.f1, h.f2, h.f3, h.fx⟩
/-- Behind a call of the page. -/
theorem PpI.page {l' : List R} {v' : Value} (h : PpI w0 X g n v l rg A c F vg got w) (_ : PgI w0 (rg :: A :: (X ++ fpv vg)) w' g n l' v') (K : Keep (rg :: A :: (X ++ fpv vg)) w w') : RfA w' rg A c n F ∧ OwnR w' vg got :=
  ⟨⟨K.blk h.r.b1 (by simp), K.blk h.r.b2 (by simp)⟩, h.o.keep K fun j hj => by simp [hj]⟩
/-- Behind a call of both. -/
theorem PpI.both {w'' : World} {l' : List R} {v' : Value} {F' : Nat → Bool} (h : PpI w0 X g n v l rg A c F vg got w) (P' : PgI w0 (rg :: A :: (X ++ fpv vg)) w' g n l' v') (O' : OwnR w' vg got) (r1 : RfA w' rg A c n F) (r' : RfA w'' rg A c n F') (k : Chg [A] w' w'') (ok' : Okn n l') (say' : SayF n l' F') : PpI w0 X g n v' l' rg A c F' vg got w'' := by
  have only : ∀ j, j ∈ [A] → j = A := fun j hj => by simpa using hj
  refine ⟨P'.chgS k (fun j hj => by rw [only j hj]; simp) (fun j hj => by rw [only j hj]; exact h.f2), r', O'.chg k (fun j hj hm => ?_), ok', say', h.f1, h.f2, h.f3, h.fx⟩
  rw [only j hm] at hj
  exact O'.ne_blk r1.b2 (by decide) hj
/-- One more handed out. -/
theorem PpI.push {vg' : Value} {got' : List R} (h : PpI w0 X g n v l rg A c F vg got w) (O' : OwnR w' vg' got') (S : Stp (fpv vg) (fpv vg') w w') (hX : ∀ k ∈ X, k < w.heap.size ∧ k ∉ fpv vg) : PpI w0 X g n v l rg A c F vg' got' w' := by
  have hS : ∀ k ∈ fpv vg, k ∈ rg :: A :: (X ++ fpv vg) := fun k hk => by simp [hk]
  have P1 := h.P.chgS S.c hS h.f3
  have hrg : rg ∉ fpv vg := h.o.ne_blk h.r.b1 (by decide)
  have hA : A ∉ fpv vg := h.o.ne_blk h.r.b2 (by decide)
  have hlt := h.P.lt
  have hn : ∀ k ∈ rg :: A :: (X ++ fpv vg'), k ∉ g :: fpv v := fun k hk hm => by
    have hold : k ∉ rg :: A :: (X ++ fpv vg) := (h.P.n k hm).2
    simp only [List.mem_cons, List.mem_append, not_or] at hold hk
    rcases hk with h1 | h1 | h1 | h1
    · exact hold.1 h1
    · exact hold.2.1 h1
    · exact hold.2.2.1 h1
    · rcases S.f k h1 with h2 | h2
      · exact hold.2.2.2 h2
      · have := hlt k hm; omega
  refine ⟨P1.swap hn (fun k hk => ?_), h.r.chg S.c hrg hA, O', h.ok, h.say, h.f1, h.f2, fun k hk => ?_, h.fx⟩
  · simp only [List.mem_cons, List.mem_append] at hk
    rcases hk with h1 | h1 | h1 | h1
    · rw [h1]; exact Nat.lt_of_lt_of_le h.r.b1.lt S.c.size
    · rw [h1]; exact Nat.lt_of_lt_of_le h.r.b2.lt S.c.size
    · exact Nat.lt_of_lt_of_le (hX k h1).1 S.c.size
    · exact O'.lt h1
  · rcases S.f k hk with h1 | h1
    · exact h.f3 k h1
    · exact Nat.le_trans h.P.c.size h1
/-- The walk's box of a round. -/
theorem PpI.box (h : PpI w0 [] g n v l rg A c F vg got w) (o : Obj) : PpI w0 [w.heap.size] g n v l rg A c F vg got (w.alloc o) := by
  have k := (Chg.refl [] w).alloc o
  refine ⟨(h.P.alloc o).forget fun j hj => ?_, h.r.chg0 k, h.o.chg0 k, h.ok, h.say, h.f1, h.f2, h.f3, fun j hj => ?_⟩
  · simp only [List.mem_cons, List.mem_append, List.nil_append, List.not_mem_nil, or_false] at hj ⊢
    rcases hj with h1 | h1 | h1 | h1
    · exact .inr (.inl h1)
    · exact .inr (.inr (.inl h1))
    · exact .inl h1
    · exact .inr (.inr (.inr h1))
  · have e : j = w.heap.size := by simpa using hj
    rw [e]; exact h.P.c.size
theorem PpI.unbox (h : PpI w0 X g n v l rg A c F vg got w) : PpI w0 [] g n v l rg A c F vg got w :=
  ⟨h.P.forget fun j hj => by
    simp only [List.mem_cons, List.mem_append, List.nil_append] at hj ⊢
    rcases hj with h1 | h1 | h1
    · exact .inl h1
    · exact .inr (.inl h1)
    · exact .inr (.inr (.inr h1)), h.r, h.o, h.ok, h.say, h.f1, h.f2, h.f3, by simp⟩
end
theorem sayF_new (N : Nat) : SayF N (newL N) (RnF N) := fun x => by
  unfold RnF newL
  rw [decide_eq_true_iff]
  split
  · next h => rw [fr_cons]
              simp only [fr_nil, or_false]
              constructor
              · rintro ⟨a, b⟩; exact ⟨by omega, a, by omega⟩
              · rintro ⟨a, b, _⟩; exact ⟨b, by omega⟩
  · constructor
    · intro h; exact absurd h fr_nil
    · rintro ⟨a, b, c⟩; omega
theorem PpI.start {w w1 w2 : World} {g n : Nat} {v : Value} {rg A c : Nat} (hn : 1 ≤ n) (I : IsPg w1 g n v (newL n)) (c1 : Chg [] w w1) (f1 : ∀ k ∈ g :: fpv v, w.heap.size ≤ k) (b1 : Blk w2 rg 58 #[.slice (some ⟨A, 0, none⟩) n c]) (b2 : Blk w2 A 4 ((List.range n).map fun i => Value.bool (RnF n i)).toArray) (fA : w1.heap.size ≤ A) (c2 : Chg [] w1 w2) (fg : w1.heap.size ≤ rg) :
    PpI w [] g n v (newL n) rg A c (RnF n) (.slice none 0 0) [] w2 := by
  have hlt : ∀ k ∈ g :: fpv v, k < w1.heap.size := fun k hk => by
    rcases List.mem_cons.1 hk with rfl | h
    · exact I.b.lt
    · exact own_lt I.o (mem_fpv.1 h)
  have h1 := c1.size
  refine ⟨⟨I.chg0 c2, c1.trans c2, fun k hk => ⟨f1 k hk, fun hm => ?_⟩, fun k hk => ?_⟩, ⟨b1, b2⟩, OwnR.nil _, newL_ok n hn, sayF_new n, by omega, by omega, by simp [fpv, Value.ownBlock], by simp⟩
  · have := hlt k hk
    have e : k = rg ∨ k = A := by simpa [fpv, Value.ownBlock] using hm
    omega
  · have e : k = rg ∨ k = A := by simpa [fpv, Value.ownBlock] using hk
    rcases e with rfl | rfl
    · exact b1.lt
    · exact b2.lt
end Go.Proofs.Ytcmligooekbodaa
