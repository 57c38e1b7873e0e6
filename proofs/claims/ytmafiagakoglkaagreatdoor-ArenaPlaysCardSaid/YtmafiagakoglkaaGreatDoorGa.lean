/- The arena's ops, with any arguments, as to a state that a law carries along. -/
import Derived.Test.YtmafiagakoglkaaGreatDoorDr
import Derived.Test.YtmafiagakoglkaaGreatDoorAq
namespace Go.Proofs.YtmafiagakoglkaaGreatDoor
open Go.RowKit

theorem spI_some {a : Ar} {x : Int} {s : Sp} (h : spI a x = some s) : ∃ j : Nat, x = ((j : Nat) : Int) ∧ a.sp j = some s := by
  unfold spI at h
  split at h
  · exact ⟨x.toNat, by omega, h⟩
  · cases h
section
variable {w0 w : World} {g N b : Nat} {h : ArH} {a : Ar} (S : ArS w0 w g h a N b)
include S
theorem g_span (hb : b ≤ 1000000) (hN : N ≤ 1000000) (k : Int) : Calls Tryz.prog 75 #[.pointer (some ⟨g, 0, none⟩), .int .i64 k] w fun e w' =>
    (¬ isK k ∧ e = .returned (.tuple #[.int .i64 0, .int .i64 1]) ∧ Chg [] w w') ∨ ∃ q : Nat, k = q ∧ q < 16 ∧ SpPost w0 w g h a N b q e w' := by
  by_cases hk : isK k
  · obtain ⟨q, rfl⟩ : ∃ q : Nat, k = q := ⟨k.toNat, by have := hk.1; omega⟩
    have hq : q < 16 := by have := hk.2; omega
    exact (s_span S hb hN q hq).mono fun e w' h => .inr ⟨q, rfl, hq, h⟩
  · have hm := S.m
    have ok := S.I.ok
    have h1 := aspan_ok w h a S.M ok.ok ok.n (by omega) N hN (fun id hid => by
      cases e : a.sp id with
      | none => rfl
      | some s => have := ok.top id s e; omega) k
    rw [S.ga] at h1
    refine h1.mono ?_
    rintro e w' (h | ⟨q, rfl, hq, -⟩)
    · exact .inl h
    · exact absurd ⟨by omega, by omega⟩ hk
set_option maxHeartbeats 1600000 in
set_option maxRecDepth 100000 in
theorem g_drop_none (id : Int) (hid : Wf64 id) (hs : spI a id = none) : Calls Tryz.prog 58 #[.pointer (some ⟨g, 0, none⟩), .int .i64 id] w (NwPost (.int .i64 4) w) := by
  obtain rfl : h.ga = g := S.ga
  have b1 : w.cell? ⟨h.ga, 1, none⟩ = some (.map (some h.bs)) := S.M.b.cellv 1 rfl
  have hl := sp_look S id hid
  rw [spV_I, hs] at hl
  have hl' : (Instr.lookup 85 (.map (some h.bs)) (.int .i64 id) false).run Tryz.prog w = .ok (.pointer none) w := hl
  clear hl S hs
  go_enter Tryz.func58, Tryz.ntmps58
  go_wp2_with fail
  go_ret
  exact ⟨rfl, Chg.refl _ _⟩
theorem g_drop (hN : N ≤ 1000000) (id : Int) (hid : Wf64 id) : Calls Tryz.prog 58 #[.pointer (some ⟨g, 0, none⟩), .int .i64 id] w fun e w' =>
    (spI a id = none ∧ e = .returned (.int .i64 4) ∧ Chg [] w w') ∨ ∃ j s, id = ((j : Nat) : Int) ∧ a.sp j = some s ∧ ((0 < cntF s.F (slK s.k) ∧ e = .returned (.int .i64 5) ∧ Chg [] w w') ∨
      (cntF s.F (slK s.k) = 0 ∧ ∃ h' l', e = .returned (.int .i64 0) ∧ FreeSays a.n a.l (s.first : Nat) (pgK s.k : Nat) 0 l' ∧ ArS w0 w' g h' (dropA a j s l') N b ∧ StA h a h' (dropA a j s l') w w')) := by
  cases hs : spI a id with
  | none => exact (g_drop_none S id hid hs).mono fun e w' h => .inl ⟨rfl, h⟩
  | some s =>
    obtain ⟨j, rfl, hj⟩ := spI_some hs
    rcases Nat.eq_zero_or_pos (cntF s.F (slK s.k)) with h0 | h0
    · exact (s_drop_yes S hj hN h0).mono fun e w' h => .inr ⟨j, s, rfl, hj, .inr ⟨h0, h⟩⟩
    · exact (s_drop_no S hj hN h0).mono fun e w' h => .inr ⟨j, s, rfl, hj, .inl ⟨h0, h⟩⟩
theorem g_mark (hN : N ≤ 1000000) (x : Int) (hx : Wf64 x) : Calls Tryz.prog 14 #[.pointer (some ⟨g, 0, none⟩), .int .i64 x] w fun e w' =>
    (obI a x = none ∧ e = .returned (.bool false) ∧ Chg [] w w') ∨ ∃ id i s, a.sp id = some s ∧ i < slK s.k ∧ s.F i = true ∧ x = ((s.addr i : Nat) : Int) ∧ e = .returned (.bool (!(s.M i))) ∧ ArS w0 w' g h { a with sp := updF a.sp id (some (markS s i)) } N b ∧ StA h a h { a with sp := updF a.sp id (some (markS s i)) } w w' := by
  have h1 := amark_ok w { h with N := N } a (S.M.nn N) S.I.ok hN x hx
  obtain rfl : h.ga = g := S.ga
  refine h1.mono ?_
  rintro e w' (h2 | ⟨id, i, s, -, hs, hi, hF, hx, he, M, c⟩)
  · exact .inl h2
  · have st := StA.turn (h := h) (a := a) (id := id) (s := s) (s' := markS s i) (b := h.B id) hs c (fun k hk => hk)
    rw [turnH_self] at st
    have M2 : ArM w' h { a with sp := updF a.sp id (some (markS s i)) } := M.nn h.N
    exact .inr ⟨id, i, s, hs, hi, hF, hx, he, S.step M2 st (S.I.mark hs hF) rfl S.m, st⟩
theorem g_marked (hN : N ≤ 1000000) (x : Int) (hx : Wf64 x) : Calls Tryz.prog 78 #[.pointer (some ⟨g, 0, none⟩), .int .i64 x] w (MdPost a x w) := by
  have h1 := amarked_ok w { h with N := N } a (S.M.nn N) S.I.ok hN x hx
  have e : ({ h with N := N } : ArH).ga = g := S.ga
  rwa [e] at h1
theorem g_sweep (T0 : Tab w0) (hN : N ≤ 6000) (id : Int) (hid : Wf64 id) : Calls Tryz.prog 62 #[.pointer (some ⟨g, 0, none⟩), .int .i64 id] w fun e w' =>
    (spI a id = none ∧ e = .returned (.tuple #[.slice none 0 0, .int .i64 4]) ∧ Chg [] w w') ∨
    ∃ j s, id = ((j : Nat) : Int) ∧ a.sp j = some s ∧ ∃ v h', e = .returned (.tuple #[v, .int .i64 0]) ∧ OwnI 3 w' v (intsN ((sweptL s).map s.addr)) ∧ (∀ k ∈ fpv v, w.heap.size ≤ k) ∧ (∀ k ∈ fpv v, ¬ ArF h' (sweepA a j s (sweptL s).length) k) ∧ ArS w0 w' g h' (sweepA a j s (sweptL s).length) N b ∧ StA h a h' (sweepA a j s (sweptL s).length) w w' := by
  cases hs : spI a id with
  | some s =>
    obtain ⟨j, rfl, hj⟩ := spI_some hs
    exact (s_sweep S T0 hN hj).mono fun e w' h => .inr ⟨j, s, rfl, hj, h⟩
  | none =>
    have h1 := asweep_ok w h a S.M (T0.chg S.c (by simp)) id hid (S.I.small hN) (fun t ht => by rw [hs] at ht; cases ht)
    rw [S.ga] at h1
    refine h1.mono ?_
    rintro e w' (⟨_, h2⟩ | ⟨t, v, h0, ht, -⟩)
    · exact .inl ⟨rfl, h2⟩
    · unfold spI at hs; rw [if_pos h0, ht] at hs; cases hs
end
end Go.Proofs.YtmafiagakoglkaaGreatDoor
