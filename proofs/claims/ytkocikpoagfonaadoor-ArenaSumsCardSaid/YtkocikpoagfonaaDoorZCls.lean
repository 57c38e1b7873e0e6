/- The walks of the document's Sizes, Size, Of (layer 4). -/
import Derived.Test.YtkocikpoagfonaaDoorCl2
namespace Go.Proofs.YtkocikpoagfonaaDoor
open Go.RowKit

def SzsPost (w : World) (e : Ending) (w' : World) : Prop := e = .returned (.slice (some ⟨w.heap.size, 0, none⟩) 16 16) ∧ Blk w' w.heap.size 3 szA ∧ Chg [] w w'
set_option maxHeartbeats 800000 in
theorem rsizes_ok (w : World) : Calls Tryd.prog 42 #[] w (SzsPost w) := by
  have C := (Chg.refl [] w).alloc (.cells szA 3)
  have B := Blk.new w 3 szA
  have HC := Lib.hid (And.intro C B); clear C B
  have e1 : szA = #[.int .i64 1, .int .i64 2, .int .i64 3, .int .i64 4, .int .i64 6, .int .i64 8, .int .i64 12, .int .i64 16, .int .i64 24, .int .i64 32, .int .i64 48, .int .i64 64, .int .i64 96, .int .i64 128, .int .i64 192, .int .i64 256] := rfl
  rw [e1] at HC
  go_enter Tryd.func42, Tryd.ntmps42
  go_wp2_with fail
  go_ret
  exact ⟨rfl, by rw [e1]; exact HC.out.2, HC.out.1⟩
set_option maxHeartbeats 800000 in
theorem rsize_ok (w : World) (k : Int) : Calls Tryd.prog 20 #[.int .i64 k] w (NwPost (.int .i64 (szI k)) w) := by
  by_cases h : isK k
  · obtain ⟨n, rfl⟩ : ∃ n : Nat, k = n := ⟨k.toNat, by have := h.1; omega⟩
    have hn : n < 16 := by have := h.2; omega
    have HS := Lib.hid (szI_nat hn)
    have h3 : ¬ (n : Int) < 0 := by omega
    have h4 : ¬ (15 : Int) < (n : Int) := by omega
    have h5 : ¬ 15 < n := by omega
    have h6 : (n : Int) < 16 := by omega
    clear h
    go_enter Tryd.func20, Tryd.ntmps20
    go_wp2_with fail
    refine (rsizes_ok w).mono ?_
    rintro e w1 ⟨rfl, B1, c1⟩
    have z := B1.cellv n (szA_get n hn)
    have HC := Lib.hid c1; clear c1 B1
    go_wp2_with fail
    go_ret
    exact ⟨by rw [HS.out]; rfl, HC.out⟩
  · have HS := Lib.hid (szI_no h)
    unfold isK at h
    by_cases h1 : k < 0
    · have HH := Lib.hid h; clear h
      go_enter Tryd.func20, Tryd.ntmps20
      go_wp2_with fail
      go_ret
      exact ⟨by rw [HS.out]; rfl, Chg.refl _ _⟩
    · have h3 : ¬ k < 0 := by omega
      have h4 : (15 : Int) < k := by omega
      clear h
      go_enter Tryd.func20, Tryd.ntmps20
      go_wp2_with fail
      go_ret
      exact ⟨by rw [HS.out]; rfl, Chg.refl _ _⟩
/-- The class of a size: the least that bears it. -/
def OfSays (n q : Nat) : Prop := q < 16 ∧ n ≤ szK q ∧ ∀ j, j < q → szK j < n
def OfPost (n : Nat) (w : World) (e : Ending) (w' : World) : Prop := ∃ q, OfSays n q ∧ NwPost (.int .i64 (q : Nat)) w e w'
theorem OfSays.uniq {n q q' : Nat} (h : OfSays n q) (h' : OfSays n q') : q = q' := by
  rcases Nat.lt_trichotomy q q' with g | g | g
  · have := h'.2.2 q g; have := h.2.1; omega
  · exact g
  · have := h.2.2 q' g; have := h'.2.1; omega
def RoRel (w0 : World) (n : Int) (gk : Nat) (idx : Value) (w : World) : Prop := ∃ k, gk + k = 17 ∧ k ≤ 15 ∧ idx = .int .i64 (k : Nat) ∧ (∀ j, j < k → (szK j : Int) < n) ∧ Chg [] w0 w
set_option maxHeartbeats 1600000 in
theorem rof_ok (w : World) (n : Nat) (h0 : 1 ≤ n) (h1 : n ≤ 256) : Calls Tryd.prog 10 #[.int .i64 (n : Nat)] w (OfPost n w) := by
  have h2 : ¬ (n : Int) < 1 := by omega
  have h3 : ¬ 256 < (n : Int) := by omega
  have h22 : ¬ n < 1 := by omega
  have h33 : ¬ 256 < n := by omega
  go_enter Tryd.func10, Tryd.ntmps10
  go_wp2_with fail
  go_loopg [3] 17 (fun gk idx wr => RoRel w (n : Nat) gk idx wr)
  case atStart => exact ⟨0, by omega, by omega, rfl, fun j hj => by omega, Chg.refl _ _⟩
  case round =>
    obtain ⟨k, hgk, hk, rfl, hp, c⟩ := hrel
    have hk0 : (0 : Int) ≤ (k : Int) := by omega
    have HP := Lib.hid (And.intro hp c); clear hp c
    go_wp2_with fail
    refine (rsize_ok _ _).mono ?_
    rintro e w1 ⟨rfl, c1⟩
    rw [szI_nat (by omega : k < 16)]
    obtain ⟨s, hs⟩ : ∃ s, s = szK k := ⟨_, rfl⟩
    rw [← hs]
    have HS := Lib.hid (And.intro hs (HP.out.2.trans c1)); clear hs c1
    by_cases h4 : (s : Int) < (n : Int)
    · have hk15 : k < 15 := by
        rcases Nat.lt_or_ge k 15 with h5 | h5
        · exact h5
        · have e : k = 15 := by omega
          have := HS.out.1
          rw [e] at this
          have e2 : szK 15 = 256 := rfl
          omega
      have h44 : s < n := by omega
      go_wp2_with fail
      go_roundg (16 - k)
      case measure => omega
      case rel => exact ⟨k + 1, by omega, by omega, by go_num, fun j hj => by
        rcases Nat.lt_or_ge j k with g | g
        · exact HP.out.1 j g
        · have e2 : j = k := by omega
          rw [e2, ← HS.out.1]; exact h4, HS.out.2⟩
    · have h44 : ¬ s < n := by omega
      go_wp2_with fail
      go_ret
      exact ⟨k, ⟨by omega, by rw [← HS.out.1]; omega, fun j hj => by have := HP.out.1 j hj; omega⟩, rfl, HS.out.2⟩
end Go.Proofs.YtkocikpoagfonaaDoor
