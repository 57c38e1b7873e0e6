/- The walk of package bits: All. -/
import Derived.Test.YtkocikpoagfonaaDoorBtNext
import Derived.Test.YtkocikpoagfonaaDoorOwnZ
namespace Go.Proofs.YtkocikpoagfonaaDoor
open Go.RowKit

def allN (F : Nat → Bool) (n : Nat) : List Nat := (List.range n).filter F
theorem allN_len (F : Nat → Bool) : ∀ n, (allN F n).length = cntF F n
  | 0 => rfl
  | n + 1 => by
    have ih := allN_len F n
    unfold allN at ih ⊢
    rw [List.range_succ, List.filter_append, List.length_append, ih, cntF]
    cases h : F n <;> simp [h]
theorem allN_succ (F : Nat → Bool) (n : Nat) : allN F (n + 1) = if F n = true then allN F n ++ [n] else allN F n := by
  unfold allN
  rw [List.range_succ, List.filter_append]
  cases h : F n <;> simp [h]
theorem allN_skip {F : Nat → Bool} {m : Nat} : ∀ {y : Nat}, m ≤ y → (∀ x, m ≤ x → x < y → F x = false) → allN F y = allN F m
  | 0, h, _ => by rw [show m = 0 by omega]
  | y + 1, h, hx => by
    rcases Nat.lt_or_ge y m with h1 | h1
    · rw [show m = y + 1 by omega]
    · rw [allN_succ, if_neg (by rw [hx y h1 (by omega)]; decide)]
      exact allN_skip h1 fun x a b => hx x a (by omega)
theorem allN_more {F : Nat → Bool} {m n : Nat} (h : m ≤ n) (hc : (allN F m).length < (allN F n).length) : ∃ x, m ≤ x ∧ x < n ∧ F x = true := by
  refine Classical.byContradiction fun hno => ?_
  have := allN_skip (F := F) h fun x a b => by
    cases hF : F x
    · rfl
    · exact absurd ⟨x, a, b, hF⟩ hno
  rw [this] at hc
  omega
theorem allN_whole {F : Nat → Bool} {m n : Nat} (h : m ≤ n) (hc : (allN F m).length = (allN F n).length) : allN F m = allN F n := by
  refine (allN_skip h fun x a b => ?_).symm
  cases hF : F x
  · rfl
  · exfalso
    have h1 := allN_skip (F := F) (m := m) (y := m) (Nat.le_refl _) (fun _ _ _ => by omega)
    have mono : ∀ a b : Nat, a ≤ b → (allN F a).length ≤ (allN F b).length := fun a b hab => by
      induction hab with
      | refl => exact Nat.le_refl _
      | step _ ih => rw [allN_succ]; split
                     · rw [List.length_append]; omega
                     · exact ih
    have h2 := mono m x a
    have h3 := mono (x + 1) n b
    rw [allN_succ, if_pos hF] at h3
    simp at h3
    omega
def intsN (l : List Nat) : List Int := l.map fun (x : Nat) => (x : Int)
def BaPost (xs : List Nat) (w : World) (e : Ending) (w' : World) : Prop := ∃ v, e = .returned v ∧ OwnI 3 w' v (intsN xs) ∧ Chg [] w w' ∧ ∀ k ∈ fpv v, w.heap.size ≤ k
def BaRel (w0 : World) (n : Nat) (F : Nat → Bool) (gk : Nat) (v idx : Value) (w : World) : Prop :=
  ∃ j m, gk + j = cntF F n + 1 ∧ j ≤ cntF F n ∧ idx = .int .i64 (j : Nat) ∧ m ≤ n ∧ (allN F m).length = j ∧ (m = 0 ∨ F (m - 1) = true) ∧ OwnI 3 w v (intsN (allN F m)) ∧ Chg [] w0 w ∧ ∀ k ∈ fpv v, w0.heap.size ≤ k
theorem Chg.newS {T : List Nat} {a w w' : World} (h : Chg [] a w) (c : Chg T w w') (hT : ∀ k ∈ T, a.heap.size ≤ k) : Chg [] a w' :=
  ⟨c.os.trans h.os, c.tape.trans h.tape, c.output.trans h.output, Nat.le_trans h.size c.size, fun k hk _ =>
    (c.block k (Nat.lt_of_lt_of_le hk h.size) (fun hm => by have := hT k hm; omega)).trans (h.block k hk (by simp))⟩
theorem slZ : SlTy Tryd.prog 32 3 := ⟨Tryd.underlying32, by kernel_rfl⟩
set_option maxHeartbeats 1600000 in
set_option maxRecDepth 100000 in
theorem ball_ok (w : World) (g A n : Nat) (F : Nat → Bool) (I : IsSet w g A n F) (T : Tab w) : Calls Tryd.prog 61 #[.pointer (some ⟨g, 0, none⟩)] w (BaPost (allN F n) w) := by
  have hn := I.n64
  have hc := cntF_le F n
  have HI := Lib.hid (And.intro I T); clear I T
  go_enter Tryd.func61, Tryd.ntmps61
  go_wp2_with fail
  refine (bcount_ok w g A n F HI.out.1).mono ?_
  rintro e w1 ⟨rfl, rfl⟩
  go_wp2_with fail
  obtain ⟨w0, rfl⟩ : ∃ w0 : World, w0 = w1 := ⟨_, rfl⟩
  go_loopg [3, 7] (cntF F n + 1) (fun gk v idx wr => BaRel w0 n F gk v idx wr)
  case atStart => exact ⟨0, 0, by omega, by omega, rfl, by omega, rfl, .inl rfl, OwnI.nil _ _, Chg.refl _ _, by simp [fpv, Value.ownBlock]⟩
  case round =>
    obtain ⟨j, m, hgk, hjc, rfl, hmn, hlen, hlast, O, C, Fv⟩ := hrel
    by_cases e : j < cntF F n
    · have hj' : (j : Int) < (cntF F n : Int) := by omega
      obtain ⟨Ao, co, rfl⟩ := O.slice
      have hli : (intsN (allN F m)).length = j := by unfold intsN; rw [List.length_map, hlen]
      have O2 := O
      rw [hli] at O ⊢
      have hcells : ∀ x, 1 ≤ j → F (m - 1) = true → 1 ≤ m → x = m - 1 → ∃ g, Ao = some ⟨g, 0, none⟩ ∧ wr.cell? ⟨g, j - 1, none⟩ = some (.int .i64 (x : Nat)) := fun x h1 h2 h3 h4 => by
        have e9 : allN F m = allN F (m - 1) ++ [m - 1] := by rw [show m = m - 1 + 1 by omega, allN_succ, Nat.add_sub_cancel, if_pos h2]
        have hx : (intsN (allN F m))[j - 1]? = some (x : Int) := by
          have hl2 : (allN F (m - 1)).length = j - 1 := by rw [e9, List.length_append] at hlen; simp at hlen; omega
          unfold intsN
          rw [List.getElem?_map, e9, List.getElem?_append_right (by omega), hl2, h4]; simp
        obtain ⟨g', e1, h5, _, _⟩ := O2.cell hx
        exact ⟨g', e1, h5⟩
      have hj0 : j = 0 → m = 0 ∨ F (m - 1) = true → m = 0 := fun h1 h2 => by
        rcases h2 with h2 | h2
        · exact h2
        · rcases Nat.eq_zero_or_pos m with h3 | h3
          · exact h3
          · exfalso
            have e9 : allN F m = allN F (m - 1) ++ [m - 1] := by rw [show m = m - 1 + 1 by omega, allN_succ, Nat.add_sub_cancel, if_pos h2]
            rw [e9, List.length_append] at hlen
            simp at hlen; omega
      have HC := Lib.hid (And.intro C (And.intro Fv (And.intro hlen (And.intro O2 (And.intro hlast (And.intro hcells hj0)))))); clear C Fv hlen O O2 hli hcells hj0 hlast
      go_upto_if 11 with fail
      go_cut [4] from 9 to 18 (fun v wd => v = .int .i64 (m : Nat) ∧ wd = wr)
      case first =>
        by_cases hj1 : j = 0
        · have hm0 := HC.out.2.2.2.2.2.2 hj1 HC.out.2.2.2.2.1
          subst hj1 hm0
          go_wp2_with fail
          go_meet
          exact ⟨rfl, rfl⟩
        · have hjp : (0 : Int) < (j : Int) := by omega
          have hm1 : 1 ≤ m := by
            rcases Nat.eq_zero_or_pos m with h | h
            · subst h; exact absurd HC.out.2.2.1.symm hj1
            · exact h
          have hF := HC.out.2.2.2.2.1.resolve_left (by omega)
          obtain ⟨x, hx⟩ : ∃ x, x = m - 1 := ⟨_, rfl⟩
          obtain ⟨g', rfl, q0⟩ := HC.out.2.2.2.2.2.1 x (by omega) hF hm1 hx
          obtain ⟨j', rfl⟩ : ∃ j', j = j' + 1 := ⟨j - 1, by omega⟩
          have hmx : m = x + 1 := by omega
          subst hmx
          rw [Nat.add_sub_cancel] at q0
          have hj'' : (j' : Int) < (j' : Int) + 1 := by omega
          clear hj1 hF hx hm1
          go_wp2_with fail
          go_meet
          exact ⟨by go_num, rfl⟩
      case rest =>
        obtain ⟨rfl, rfl⟩ := hcut
        obtain ⟨wr, rfl⟩ : ∃ wr : World, wr = wc := ⟨_, rfl⟩
        go_wp2_with fail
        refine (bnext_true wr g A n F (HI.out.1.chg0 HC.out.1) (HI.out.2.chg HC.out.1 (by simp)) m (by omega)).mono ?_
        rintro e w1 ⟨r, rfl, hr, rfl⟩
        obtain ⟨y, rfl, hy1, hy2, hy3, hy4⟩ : ∃ y : Nat, r = y ∧ m ≤ y ∧ y < n ∧ F y = true ∧ ∀ x, m ≤ x → x < y → F x = false := by
          rcases hr with ⟨_, h1⟩ | h1
          · exfalso
            obtain ⟨x, a, b, c⟩ := allN_more (F := F) (m := m) (n := n) (by omega) (by rw [HC.out.2.2.1, allN_len]; exact e)
            rw [h1 x a b] at c; cases c
          · exact h1
        have hll : (intsN (allN F m)).length + 1 ≤ 1000000000000 := by unfold intsN; rw [List.length_map, HC.out.2.2.1]; omega
        have HY := Lib.hid (And.intro hy3 hy4); clear hy3 hy4 hr
        go_wp2_with (at_builtin; refine wpList_push_int rfl _ _ rfl slZ (by rw [← HC.out.2.2.1, show (allN F m).length = (intsN (allN F m)).length by unfold intsN; rw [List.length_map]]; rfl) HC.out.2.2.2.1 rfl hll ?_)
        intro A' c' w5 O5 S5
        have H5 := Lib.hid (And.intro O5 (And.intro (HC.out.1.newS S5.c HC.out.2.1) (fun k hk => by
          rcases S5.f k hk with h | h
          · exact HC.out.2.1 k h
          · exact Nat.le_trans HC.out.1.size h : ∀ k ∈ fpv _, w0.heap.size ≤ k))); clear O5 S5
        go_wp2_with fail
        go_roundg (cntF F n - j)
        case measure => omega
        case rel =>
          have e9 : allN F (y + 1) = allN F m ++ [y] := by rw [allN_succ, if_pos HY.out.1, allN_skip hy1 HY.out.2]
          refine ⟨j + 1, y + 1, by omega, by omega, by go_num, by omega, by rw [e9, List.length_append, HC.out.2.2.1]; rfl, .inr (by simpa using HY.out.1), ?_, H5.out.2.1, H5.out.2.2⟩
          rw [e9]; unfold intsN; rw [List.map_append]; exact H5.out.1
    · have ej : j = cntF F n := by omega
      have hj' : ¬ (j : Int) < (cntF F n : Int) := by omega
      have HC := Lib.hid (And.intro C (And.intro Fv (And.intro O (allN_whole (F := F) hmn (by rw [hlen, allN_len]; exact ej))))); clear C Fv O hlen hlast e hgk
      go_wp2_with fail
      go_ret
      exact ⟨_, rfl, by rw [← HC.out.2.2.2]; exact HC.out.2.2.1, HC.out.1, HC.out.2.1⟩
end Go.Proofs.YtkocikpoagfonaaDoor
