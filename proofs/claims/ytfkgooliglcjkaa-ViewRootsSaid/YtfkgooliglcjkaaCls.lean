/- Package class: table, Count, Size, Of. -/
import Derived.Test.YtfkgooliglcjkaaMem
import Derived.Deep.LoopGhost
import Derived.Outline
namespace Go.Proofs.Ytfkgooliglcjkaa
open Go.RowKit

def clsL : List Nat := [1, 2, 3, 4, 6, 8, 12, 16, 24, 32, 48, 64, 96, 128, 192, 256]
def clsA : Value := .agg #[.int .i64 1, .int .i64 2, .int .i64 3, .int .i64 4, .int .i64 6, .int .i64 8, .int .i64 12, .int .i64 16, .int .i64 24, .int .i64 32, .int .i64 48, .int .i64 64, .int .i64 96, .int .i64 128, .int .i64 192, .int .i64 256]
/-- The least class that a size fits in (16: none). -/
def clsN (n : Nat) : Nat := (clsL.takeWhile fun s => decide (s < n)).length
def clsOf (n : Int) : Int := if 1 ≤ n ∧ n ≤ 256 then (clsN n.toNat : Int) else -1
def clsSz (k : Int) : Int := if 0 ≤ k ∧ k < 16 then (clsL.getD k.toNat 0 : Nat) else 0
theorem cls_i0 : ∀ w : World, (Instr.index 78 clsA (.int .i64 (0 : Nat))).run Try.prog w = .ok (.int .i64 (clsL.getD 0 0 : Nat)) w := fun _ => by kernel_rfl
theorem cls_i1 : ∀ w : World, (Instr.index 78 clsA (.int .i64 (1 : Nat))).run Try.prog w = .ok (.int .i64 (clsL.getD 1 0 : Nat)) w := fun _ => by kernel_rfl
theorem cls_i2 : ∀ w : World, (Instr.index 78 clsA (.int .i64 (2 : Nat))).run Try.prog w = .ok (.int .i64 (clsL.getD 2 0 : Nat)) w := fun _ => by kernel_rfl
theorem cls_i3 : ∀ w : World, (Instr.index 78 clsA (.int .i64 (3 : Nat))).run Try.prog w = .ok (.int .i64 (clsL.getD 3 0 : Nat)) w := fun _ => by kernel_rfl
theorem cls_i4 : ∀ w : World, (Instr.index 78 clsA (.int .i64 (4 : Nat))).run Try.prog w = .ok (.int .i64 (clsL.getD 4 0 : Nat)) w := fun _ => by kernel_rfl
theorem cls_i5 : ∀ w : World, (Instr.index 78 clsA (.int .i64 (5 : Nat))).run Try.prog w = .ok (.int .i64 (clsL.getD 5 0 : Nat)) w := fun _ => by kernel_rfl
theorem cls_i6 : ∀ w : World, (Instr.index 78 clsA (.int .i64 (6 : Nat))).run Try.prog w = .ok (.int .i64 (clsL.getD 6 0 : Nat)) w := fun _ => by kernel_rfl
theorem cls_i7 : ∀ w : World, (Instr.index 78 clsA (.int .i64 (7 : Nat))).run Try.prog w = .ok (.int .i64 (clsL.getD 7 0 : Nat)) w := fun _ => by kernel_rfl
theorem cls_i8 : ∀ w : World, (Instr.index 78 clsA (.int .i64 (8 : Nat))).run Try.prog w = .ok (.int .i64 (clsL.getD 8 0 : Nat)) w := fun _ => by kernel_rfl
theorem cls_i9 : ∀ w : World, (Instr.index 78 clsA (.int .i64 (9 : Nat))).run Try.prog w = .ok (.int .i64 (clsL.getD 9 0 : Nat)) w := fun _ => by kernel_rfl
theorem cls_i10 : ∀ w : World, (Instr.index 78 clsA (.int .i64 (10 : Nat))).run Try.prog w = .ok (.int .i64 (clsL.getD 10 0 : Nat)) w := fun _ => by kernel_rfl
theorem cls_i11 : ∀ w : World, (Instr.index 78 clsA (.int .i64 (11 : Nat))).run Try.prog w = .ok (.int .i64 (clsL.getD 11 0 : Nat)) w := fun _ => by kernel_rfl
theorem cls_i12 : ∀ w : World, (Instr.index 78 clsA (.int .i64 (12 : Nat))).run Try.prog w = .ok (.int .i64 (clsL.getD 12 0 : Nat)) w := fun _ => by kernel_rfl
theorem cls_i13 : ∀ w : World, (Instr.index 78 clsA (.int .i64 (13 : Nat))).run Try.prog w = .ok (.int .i64 (clsL.getD 13 0 : Nat)) w := fun _ => by kernel_rfl
theorem cls_i14 : ∀ w : World, (Instr.index 78 clsA (.int .i64 (14 : Nat))).run Try.prog w = .ok (.int .i64 (clsL.getD 14 0 : Nat)) w := fun _ => by kernel_rfl
theorem cls_i15 : ∀ w : World, (Instr.index 78 clsA (.int .i64 (15 : Nat))).run Try.prog w = .ok (.int .i64 (clsL.getD 15 0 : Nat)) w := fun _ => by kernel_rfl
theorem cls_index (k : Nat) (hk : k < 16) (w : World) : (Instr.index 78 clsA (.int .i64 (k : Nat))).run Try.prog w = .ok (.int .i64 (clsL.getD k 0 : Nat)) w :=
  match k, hk with
  | 0, _ => cls_i0 w
  | 1, _ => cls_i1 w
  | 2, _ => cls_i2 w
  | 3, _ => cls_i3 w
  | 4, _ => cls_i4 w
  | 5, _ => cls_i5 w
  | 6, _ => cls_i6 w
  | 7, _ => cls_i7 w
  | 8, _ => cls_i8 w
  | 9, _ => cls_i9 w
  | 10, _ => cls_i10 w
  | 11, _ => cls_i11 w
  | 12, _ => cls_i12 w
  | 13, _ => cls_i13 w
  | 14, _ => cls_i14 w
  | 15, _ => cls_i15 w
  | n + 16, h => absurd h (by omega)
theorem cls_top : ∀ k : Fin 16, 1 ≤ clsL.getD k.val 0 ∧ clsL.getD k.val 0 ≤ 256 := by decide
theorem cls_topN {k : Nat} (hk : k < 16) : 1 ≤ clsL.getD k 0 ∧ clsL.getD k 0 ≤ 256 := cls_top ⟨k, hk⟩
theorem takeWhile_len {p : Nat → Bool} : ∀ {l : List Nat} {k : Nat}, (∀ j, j < k → p (l.getD j 0) = true) → k < l.length → p (l.getD k 0) = false → (l.takeWhile p).length = k
  | [], _, _, h, _ => by simp at h
  | x :: l, 0, _, _, h => by simp at h; simp [h]
  | x :: l, k + 1, h1, h2, h3 => by
    have h0 : p x = true := by simpa using h1 0 (by omega)
    have ih := takeWhile_len (p := p) (l := l) (k := k) (fun j hj => by simpa using h1 (j + 1) (by omega)) (by simpa using h2) (by simpa using h3)
    simp [h0, ih]
theorem clsN_eq {n k : Nat} (hk : k < 16) (h1 : ∀ j, j < k → clsL.getD j 0 < n) (h2 : n ≤ clsL.getD k 0) : clsN n = k :=
  takeWhile_len (fun j hj => decide_eq_true (h1 j hj)) hk (decide_eq_false (by omega))
def TbPost (w : World) (e : Ending) (w' : World) : Prop := e = .returned clsA ∧ Chg [] w w'
set_option maxHeartbeats 800000 in
theorem table_ok (w : World) : Calls Try.prog 71 #[] w (TbPost w) := by
  have C := (Chg.refl [] w).alloc (.cells #[.int .i64 1, .int .i64 2, .int .i64 3, .int .i64 4, .int .i64 6, .int .i64 8, .int .i64 12, .int .i64 16, .int .i64 24, .int .i64 32, .int .i64 48, .int .i64 64, .int .i64 96, .int .i64 128, .int .i64 192, .int .i64 256] 78)
  have HC := Lib.hid C; clear C
  go_enter Try.func71, Try.ntmps71
  go_wp2_with fail
  refine bodyPost_ret (v := clsA) (by simp [results, Try.results71, go_sem, clsA]) rfl ⟨rfl, ?_⟩
  exact HC.out
def CtPost (x : Int) (w : World) (e : Ending) (w' : World) : Prop := e = .returned (.int .i64 x) ∧ Chg [] w w'
set_option maxHeartbeats 800000 in
theorem count_ok (w : World) : Calls Try.prog 72 #[] w (CtPost 16 w) := by
  go_enter Try.func72, Try.ntmps72
  go_wp2_with fail
  refine (table_ok w).mono ?_
  rintro e w1 ⟨rfl, c1⟩
  have HC := Lib.hid c1; clear c1
  go_wp2_with fail
  go_ret
  exact ⟨rfl, HC.out⟩
theorem clsSz_in {k : Nat} (h : k < 16) : clsSz k = (clsL.getD k 0 : Nat) := by unfold clsSz; rw [if_pos ⟨by omega, by omega⟩]; simp
theorem clsSz_out {k : Int} (h : k < 0 ∨ 16 ≤ k) : clsSz k = 0 := by unfold clsSz; rw [if_neg (by omega)]
set_option maxHeartbeats 800000 in
theorem size_ok (w : World) (k : Int) : Calls Try.prog 51 #[.int .i64 k] w (CtPost (clsSz k) w) := by
  rcases Int.lt_or_le k 0 with h1 | h1
  · have HS := Lib.hid (clsSz_out (.inl h1))
    go_enter Try.func51, Try.ntmps51
    go_wp2_with fail
    go_ret
    exact ⟨by rw [HS.out]; rfl, Chg.refl _ _⟩
  · rcases Int.lt_or_le k 16 with h2 | h2
    · obtain ⟨n, rfl⟩ := Int.eq_ofNat_of_zero_le h1
      have hn : n < 16 := by omega
      have HS := Lib.hid (clsSz_in hn)
      have h3 : ¬ (n : Int) < 0 := by omega
      have h4 : ¬ (16 : Int) ≤ (n : Int) := by omega
      have h5 : ¬ 16 ≤ n := by omega
      go_enter Try.func51, Try.ntmps51
      go_wp2_with fail
      refine (count_ok w).mono ?_
      rintro e w1 ⟨rfl, c1⟩
      have HC := Lib.hid c1; clear c1
      go_wp2_with fail
      refine (table_ok w1).mono ?_
      rintro e w2 ⟨rfl, c2⟩
      have HD := Lib.hid (HC.out.trans c2); clear c2
      have hix := cls_index n hn w2
      go_wp2_with fail
      go_ret
      exact ⟨by rw [HS.out]; rfl, HD.out⟩
    · have HS := Lib.hid (clsSz_out (.inr h2))
      have h3 : ¬ k < 0 := by omega
      go_enter Try.func51, Try.ntmps51
      go_wp2_with fail
      refine (count_ok w).mono ?_
      rintro e w1 ⟨rfl, c1⟩
      have HC := Lib.hid c1; clear c1
      go_wp2_with fail
      go_ret
      exact ⟨by rw [HS.out]; rfl, HC.out⟩
def OfRel (w0 : World) (n : Int) (gk : Nat) (idx : Value) (w : World) : Prop := ∃ k, gk + k = 17 ∧ k ≤ 16 ∧ idx = .int .i64 (k : Nat) ∧ (1 ≤ n → ∀ j, j < k → (clsL.getD j 0 : Int) < n) ∧ Chg [] w0 w
theorem clsOf_found {n : Int} {k : Nat} (h0 : 1 ≤ n) (hk : k < 16) (h1 : ∀ j, j < k → (clsL.getD j 0 : Int) < n) (h2 : n ≤ (clsL.getD k 0 : Nat)) : clsOf n = k := by
  have h3 := cls_topN hk
  unfold clsOf
  rw [if_pos ⟨h0, by omega⟩, clsN_eq hk (fun j hj => by have := h1 j hj; omega) (by omega)]
theorem clsOf_none {n : Int} (h : 1 ≤ n → ∀ j, j < 16 → (clsL.getD j 0 : Int) < n) : clsOf n = -1 := by
  unfold clsOf
  rw [if_neg]
  rintro ⟨h0, h1⟩
  have h2 := h h0 15 (by omega)
  have e : clsL.getD 15 0 = 256 := rfl
  rw [e] at h2; omega
set_option maxHeartbeats 1600000 in
set_option maxRecDepth 100000 in
theorem of_ok (w : World) (n : Int) : Calls Try.prog 50 #[.int .i64 n] w (CtPost (clsOf n) w) := by
  go_enter Try.func50, Try.ntmps50
  go_wp2_with fail
  refine (table_ok w).mono ?_
  rintro e w1 ⟨rfl, c1⟩
  have HC := Lib.hid c1; clear c1
  go_wp2_with fail
  go_loopg [6] 17 (fun gk idx wr => OfRel w n gk idx wr)
  case atStart => exact ⟨0, by omega, by omega, rfl, fun _ j hj => by omega, HC.out⟩
  case round =>
    obtain ⟨k, hgk, hk, rfl, hp, c⟩ := hrel
    by_cases e : k < 16
    · have hix := cls_index k e wr
      have hi' : (k : Int) < 16 := by omega
      have HT := Lib.hid (cls_topN e)
      obtain ⟨s, hs⟩ : ∃ s, s = clsL.getD k 0 := ⟨_, rfl⟩
      rw [← hs] at hix
      by_cases h0 : 1 ≤ n
      · by_cases h1 : n ≤ (s : Int)
        · have HF := Lib.hid (clsOf_found h0 e (hp h0) (by rw [← hs]; exact h1))
          have HP := Lib.hid c; clear hp c hs
          go_wp2_with fail
          go_ret
          exact ⟨by rw [HF.out]; rfl, HP.out⟩
        · have hp' : 1 ≤ n → ∀ j, j < k + 1 → (clsL.getD j 0 : Int) < n := fun h0 j hj => by
            rcases Nat.lt_or_ge j k with g | g
            · exact hp h0 j g
            · have e2 : j = k := by omega
              rw [e2, ← hs]; omega
          have HP := Lib.hid (And.intro hp' c); clear hp hp' c hs
          go_wp2_with fail
          go_roundg (16 - k)
          case measure => omega
          case rel => exact ⟨k + 1, by omega, by omega, by go_num, HP.out.1, HP.out.2⟩
      · have hp' : 1 ≤ n → ∀ j, j < k + 1 → (clsL.getD j 0 : Int) < n := fun h => absurd h h0
        have HP := Lib.hid (And.intro hp' c); clear hp hp' c hs
        go_wp2_with fail
        go_roundg (16 - k)
        case measure => omega
        case rel => exact ⟨k + 1, by omega, by omega, by go_num, HP.out.1, HP.out.2⟩
    · obtain rfl : k = 16 := by omega
      have HF := Lib.hid (clsOf_none hp)
      have HP := Lib.hid c; clear hp c
      go_wp2_with fail
      go_ret
      exact ⟨by rw [HF.out]; rfl, HP.out⟩
end Go.Proofs.Ytfkgooliglcjkaa
