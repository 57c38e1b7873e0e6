/- Both forms of pages are given pages back, in any order of the two. Plain theorems on worlds; two contracts. -/
import Derived.Test.YtcmligooekbodaaPgPlay
namespace Go.Proofs.Ytcmligooekbodaa
open Go.RowKit

theorem FreeSays.ex (n : Nat) (l : List R) (f k : Int) : ∃ c l', FreeSays n l f k c l' := by
  unfold FreeSays
  by_cases h : k < 1 ∨ f < 1 ∨ (n : Int) - 1 < f ∨ (n : Int) - f < k
  · exact ⟨1, l, .inl ⟨h, rfl, rfl⟩⟩
  · by_cases h2 : someR l f.toNat k.toNat
    · exact ⟨5, l, .inr ⟨h, .inl ⟨h2, rfl, rfl⟩⟩⟩
    · exact ⟨0, _, .inr ⟨h, .inr ⟨h2, rfl, rfl⟩⟩⟩
theorem FreeSays.okn {n : Nat} {l l' : List R} {f k c : Int} (h : FreeSays n l f k c l') (ok : Okn n l) : Okn n l' := by
  rcases h with ⟨_, _, rfl⟩ | ⟨h1, ⟨_, _, rfl⟩ | ⟨h2, _, rfl⟩⟩
  · exact ok
  · exact ok
  · exact (backR_ok ok (by omega) (by omega) (by omega) fun q => h2 ((someR_iff ok (by omega)).2 q)).1
theorem AllocSays.okn {n : Nat} {l l' : List R} {k a c : Int} (h : AllocSays l k a c l') (ok : Okn n l) : Okn n l' := by
  rcases h with ⟨_, _, _, rfl⟩ | ⟨_, _, _, _, rfl⟩ | ⟨h1, r, hr, _, _, rfl⟩
  · exact ok
  · exact ok
  · exact cutR_ok ok hr.1 hr.2.1
/-- a: the page was given them; b: its second form was. The walk's box is Q. -/
structure FbI (w0 : World) (X : List Nat) (g n : Nat) (l l' : List R) (rg A c : Nat) (vg : Value) (got : List R) (q : Nat) (t : TypeId) (cs : Array Value) (a b : Bool) (w : World) : Prop where
  P : ∃ v, PgI w0 (rg :: A :: (X ++ fpv vg)) w g n (if a then l' else l) v
  r : ∃ F, RfA w rg A c n F ∧ SayF n (if b then l' else l) F
  o : OwnR w vg got
  B : Blk w q t cs
  hq : q ∈ X
  ht : 4 ≠ t
  ok : Okn n l
  ok' : Okn n l'
  f1 : w0.heap.size ≤ rg
  f2 : w0.heap.size ≤ A
  f3 : ∀ k ∈ fpv vg, w0.heap.size ≤ k
  fx : ∀ k ∈ X, w0.heap.size ≤ k
section
variable {w0 w w' : World} {X : List Nat} {g n : Nat} {l l' : List R} {rg A c : Nat} {vg : Value} {got : List R} {q : Nat} {t : TypeId} {cs : Array Value}
theorem PpI.half {v : Value} {F : Nat → Bool} {first k cc : Int} (h : PpI w0 X g n v l rg A c F vg got w) (hs : FreeSays n l first k cc l') (B : Blk w q t cs) (hq : q ∈ X) (ht : 4 ≠ t) : FbI w0 X g n l l' rg A c vg got q t cs false false w :=
  ⟨⟨v, h.P⟩, ⟨F, h.r, h.say⟩, h.o, B, hq, ht, h.ok, hs.okn h.ok, h.f1, h.f2, h.f3, h.fx⟩
theorem FbI.full (h : FbI w0 X g n l l' rg A c vg got q t cs true true w) : ∃ v F, PpI w0 X g n v l' rg A c F vg got w := by
  obtain ⟨v, P⟩ := h.P
  obtain ⟨F, r, s⟩ := h.r
  exact ⟨v, F, P, r, h.o, h.ok', s, h.f1, h.f2, h.f3, h.fx⟩
theorem FbI.drew {a b : Bool} (h : FbI w0 X g n l l' rg A c vg got q t cs a b w) : FbI w0 X g n l l' rg A c vg got q t cs a b w.drew := by
  obtain ⟨v, P⟩ := h.P
  obtain ⟨F, r, s⟩ := h.r
  have C := (Chg.refl [] w).drew
  exact ⟨⟨v, P.chg0 C⟩, ⟨F, r.chg0 C, s⟩, h.o.chg0 C, h.B.drew, h.hq, h.ht, h.ok, h.ok', h.f1, h.f2, h.f3, h.fx⟩
def FbPost (w0 : World) (X : List Nat) (g n : Nat) (l l' : List R) (rg A c : Nat) (vg : Value) (got : List R) (q : Nat) (t : TypeId) (cs : Array Value) (a b : Bool) (cc : Int) (e : Ending) (w' : World) : Prop := e = .returned (.int .i64 cc) ∧ FbI w0 X g n l l' rg A c vg got q t cs a b w'
theorem free_h {b : Bool} {first k cc : Int} (hs : FreeSays n l first k cc l') (hn : n ≤ 200) (h : FbI w0 X g n l l' rg A c vg got q t cs false b w) :
    Calls Try.prog 11 #[.pointer (some ⟨g, 0, none⟩), .int .i64 first, .int .i64 k] w (FbPost w0 X g n l l' rg A c vg got q t cs true b cc) := by
  obtain ⟨v, P⟩ := h.P
  refine (free_i P h.ok (by omega) first k).mono ?_
  rintro e w' ⟨c2, l2, v2, rfl, hs2, P2, K⟩
  obtain ⟨rfl, rfl⟩ := FreeSays.uniq hs hs2
  obtain ⟨F, r, s⟩ := h.r
  exact ⟨rfl, ⟨v2, P2⟩, ⟨F, ⟨K.blk r.b1 (by simp), K.blk r.b2 (by simp)⟩, s⟩, h.o.keep K (fun j hj => by simp [hj]), K.blk h.B (by simp [h.hq]), h.hq, h.ht, h.ok, h.ok', h.f1, h.f2, h.f3, h.fx⟩
theorem back_h {a : Bool} {first k cc : Int} (hs : FreeSays n l first k cc l') (hn : n ≤ 200) (h : FbI w0 X g n l l' rg A c vg got q t cs a false w) :
    Calls Try.prog 17 #[.pointer (some ⟨rg, 0, none⟩), .int .i64 first, .int .i64 k] w (FbPost w0 X g n l l' rg A c vg got q t cs a true cc) := by
  obtain ⟨F, r, s⟩ := h.r
  refine (rback_ok w rg A c n F l r h.ok s (by omega) first k).mono ?_
  rintro e w' ⟨c2, l2, F2, rfl, hs2, s2, r2, K⟩
  obtain ⟨rfl, rfl⟩ := FreeSays.uniq hs hs2
  obtain ⟨v, P⟩ := h.P
  have only : ∀ j, j ∈ [A] → j = A := fun j hj => by simpa using hj
  refine ⟨rfl, ⟨v, P.chgS K (fun j hj => by rw [only j hj]; simp) (fun j hj => by rw [only j hj]; exact h.f2)⟩, ⟨F2, r2, s2⟩, h.o.chg K (fun j hj hm => ?_), K.blk h.B (fun hm => ?_), h.hq, h.ht, h.ok, h.ok', h.f1, h.f2, h.f3, h.fx⟩
  · rw [only j hm] at hj
    exact h.o.ne_blk r.b2 (by decide) hj
  · exact Blk.ne_ r.b2 h.B h.ht (only q hm).symm
end
theorem mod_at (x : Int) (m : Nat) (hm : 1 ≤ m) (hm2 : m ≤ 1000000) : ∃ n : Nat, n < m ∧ wrap64 ((IntKind.u64.wrap x).tmod m) = n := by
  have h0 : 0 ≤ IntKind.u64.wrap x := by rw [IntKind.wrap_u64]; omega
  rw [Int.tmod_eq_emod_of_nonneg h0]
  have h1 := Int.emod_nonneg (IntKind.u64.wrap x) (b := (m : Int)) (by omega)
  have h2 := Int.emod_lt_of_pos (IntKind.u64.wrap x) (b := (m : Int)) (by omega)
  obtain ⟨n, hn⟩ : ∃ n : Nat, (n : Int) = (IntKind.u64.wrap x) % (m : Int) := ⟨((IntKind.u64.wrap x) % (m : Int)).toNat, by omega⟩
  exact ⟨n, by omega, by unfold wrap64; omega⟩
/-- One more box of the walk. -/
theorem PpI.box1 {w0 w : World} {X : List Nat} {g n : Nat} {v : Value} {l : List R} {rg A c : Nat} {F : Nat → Bool} {vg : Value} {got : List R} (h : PpI w0 X g n v l rg A c F vg got w) (o : Obj) : PpI w0 (w.heap.size :: X) g n v l rg A c F vg got (w.alloc o) := by
  have k := (Chg.refl [] w).alloc o
  refine ⟨(h.P.alloc o).forget fun j hj => ?_, h.r.chg0 k, h.o.chg0 k, h.ok, h.say, h.f1, h.f2, h.f3, fun j hj => ?_⟩
  · simp only [List.mem_cons, List.mem_append] at hj ⊢
    rcases hj with h1 | h1 | (h1 | h1) | h1
    · exact .inr (.inl h1)
    · exact .inr (.inr (.inl h1))
    · exact .inl h1
    · exact .inr (.inr (.inr (.inl h1)))
    · exact .inr (.inr (.inr (.inr h1)))
  · rcases List.mem_cons.1 hj with rfl | h1
    · exact h.P.c.size
    · exact h.fx j h1
theorem PpI.less {w0 w : World} {X Y : List Nat} {g n : Nat} {v : Value} {l : List R} {rg A c : Nat} {F : Nat → Bool} {vg : Value} {got : List R} (h : PpI w0 X g n v l rg A c F vg got w) (hY : ∀ k ∈ Y, k ∈ X) : PpI w0 Y g n v l rg A c F vg got w :=
  ⟨h.P.forget fun j hj => by
    simp only [List.mem_cons, List.mem_append] at hj ⊢
    rcases hj with h1 | h1 | h1 | h1
    · exact .inl h1
    · exact .inr (.inl h1)
    · exact .inr (.inr (.inl (hY j h1)))
    · exact .inr (.inr (.inr h1)), h.r, h.o, h.ok, h.say, h.f1, h.f2, h.f3, fun k hk => h.fx k (hY k hk)⟩
end Go.Proofs.Ytcmligooekbodaa
