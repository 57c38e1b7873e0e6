/- The walks of the document's Size, Of, size, Words. -/
import Derived.Test.YtfkgooliglcjkaaVwWords
namespace Go.Proofs.Ytfkgooliglcjkaa
open Go.RowKit Go.Maps

def szCells : Array Value := #[.int .i64 1, .int .i64 2, .int .i64 3, .int .i64 4, .int .i64 6, .int .i64 8, .int .i64 12, .int .i64 16, .int .i64 24, .int .i64 32, .int .i64 48, .int .i64 64, .int .i64 96, .int .i64 128, .int .i64 192, .int .i64 256]
def SzsPost (w : World) (e : Ending) (w' : World) : Prop := e = .returned (.slice (some ⟨w.heap.size, 0, none⟩) 16 16) ∧ Blk w' w.heap.size 3 szCells ∧ Chg [] w w'
set_option maxHeartbeats 800000 in
theorem rsizes_ok (w : World) : Calls Try.prog 86 #[] w (SzsPost w) := by
  have C := (Chg.refl [] w).alloc (.cells szCells 3)
  have B := Blk.new w 3 szCells
  have HC := Lib.hid (And.intro C B); clear C B
  unfold szCells at HC
  go_enter Try.func86, Try.ntmps86
  go_wp2_with fail
  go_ret
  exact ⟨rfl, HC.out.2, HC.out.1⟩
theorem szCells_get (k : Nat) (hk : k < 16) : szCells[k]? = some (.int .i64 (clsL.getD k 0 : Nat)) :=
  match k, hk with
  | 0, _ => rfl | 1, _ => rfl | 2, _ => rfl | 3, _ => rfl | 4, _ => rfl | 5, _ => rfl | 6, _ => rfl | 7, _ => rfl
  | 8, _ => rfl | 9, _ => rfl | 10, _ => rfl | 11, _ => rfl | 12, _ => rfl | 13, _ => rfl | 14, _ => rfl | 15, _ => rfl
  | n + 16, h => absurd h (by omega)
set_option maxHeartbeats 800000 in
theorem rsize1_ok (w : World) (k : Int) : Calls Try.prog 73 #[.int .i64 k] w (CtPost (clsSz k) w) := by
  rcases Int.lt_or_le k 0 with h1 | h1
  · have HS := Lib.hid (clsSz_out (.inl h1))
    go_enter Try.func73, Try.ntmps73
    go_wp2_with fail
    go_ret
    exact ⟨by rw [HS.out]; rfl, Chg.refl _ _⟩
  · rcases Int.lt_or_le k 16 with h2 | h2
    · obtain ⟨n, rfl⟩ := Int.eq_ofNat_of_zero_le h1
      have hn : n < 16 := by omega
      have HS := Lib.hid (clsSz_in hn)
      have h3 : ¬ (n : Int) < 0 := by omega
      have h4 : ¬ (15 : Int) < (n : Int) := by omega
      have h5 : ¬ 15 < n := by omega
      have h6 : (n : Int) < 16 := by omega
      go_enter Try.func73, Try.ntmps73
      go_wp2_with fail
      refine (rsizes_ok w).mono ?_
      rintro e w1 ⟨rfl, B1, c1⟩
      have z := B1.cellv n (szCells_get n hn)
      have HC := Lib.hid c1; clear c1 B1
      go_wp2_with fail
      go_ret
      exact ⟨by rw [HS.out]; rfl, HC.out⟩
    · have HS := Lib.hid (clsSz_out (.inr h2))
      have h3 : ¬ k < 0 := by omega
      have h4 : (15 : Int) < k := by omega
      go_enter Try.func73, Try.ntmps73
      go_wp2_with fail
      go_ret
      exact ⟨by rw [HS.out]; rfl, Chg.refl _ _⟩
def RoRel (w0 : World) (n : Int) (gk : Nat) (idx : Value) (w : World) : Prop := ∃ k, gk + k = 17 ∧ k ≤ 15 ∧ idx = .int .i64 (k : Nat) ∧ (∀ j, j < k → (clsL.getD j 0 : Int) < n) ∧ Chg [] w0 w
set_option maxHeartbeats 1600000 in
theorem rof_ok (w : World) (n : Int) : Calls Try.prog 74 #[.int .i64 n] w (CtPost (clsOf n) w) := by
  by_cases h0 : 1 ≤ n
  · by_cases h1 : n ≤ 256
    · have h2 : ¬ n < 1 := by omega
      have h3 : ¬ 256 < n := by omega
      go_enter Try.func74, Try.ntmps74
      go_wp2_with fail
      go_loopg [3] 17 (fun gk idx wr => RoRel w n gk idx wr)
      case atStart => exact ⟨0, by omega, by omega, rfl, fun j hj => by omega, Chg.refl _ _⟩
      case round =>
        obtain ⟨k, hgk, hk, rfl, hp, c⟩ := hrel
        have hk0 : (0 : Int) ≤ (k : Int) := by omega
        have HP := Lib.hid (And.intro hp c); clear hp c
        go_wp2_with fail
        refine (rsize1_ok _ _).mono ?_
        rintro e w1 ⟨rfl, c1⟩
        rw [clsSz_in (by omega : k < 16)]
        obtain ⟨s, hs⟩ : ∃ s, s = clsL.getD k 0 := ⟨_, rfl⟩
        rw [← hs]
        have HS := Lib.hid (And.intro hs (HP.out.2.trans c1)); clear hs c1
        by_cases h4 : (s : Int) < n
        · have hk15 : k < 15 := by
            rcases Nat.lt_or_ge k 15 with h5 | h5
            · exact h5
            · have e : k = 15 := by omega
              have := HS.out.1
              rw [e] at this
              have e2 : clsL.getD 15 0 = 256 := rfl
              omega
          go_wp2_with fail
          go_roundg (16 - k)
          case measure => omega
          case rel => exact ⟨k + 1, by omega, by omega, by go_num, fun j hj => by
            rcases Nat.lt_or_ge j k with g | g
            · exact HP.out.1 j g
            · have e2 : j = k := by omega
              rw [e2, ← HS.out.1]; exact h4, HS.out.2⟩
        · have HF := Lib.hid (clsOf_found h0 (by omega : k < 16) HP.out.1 (by rw [← HS.out.1]; omega))
          go_wp2_with fail
          go_ret
          exact ⟨by rw [HF.out]; rfl, HS.out.2⟩
    · have h3 : (256 : Int) < n := by omega
      have h2 : ¬ n < 1 := by omega
      have HS := Lib.hid (show clsOf n = -1 by unfold clsOf; rw [if_neg (by omega)])
      go_enter Try.func74, Try.ntmps74
      go_wp2_with fail
      go_ret
      exact ⟨by rw [HS.out]; rfl, Chg.refl _ _⟩
  · have h2 : n < 1 := by omega
    have HS := Lib.hid (show clsOf n = -1 by unfold clsOf; rw [if_neg (by omega)])
    go_enter Try.func74, Try.ntmps74
    go_wp2_with fail
    go_ret
    exact ⟨by rw [HS.out]; rfl, Chg.refl _ _⟩
theorem clsSz_of (n : Nat) : clsSz (clsOf (n : Int)) = (owN n : Int) := by
  by_cases h : 1 ≤ n ∧ n ≤ 256
  · obtain ⟨k, _, h1, h2⟩ := clsOf_yes h
    rw [h1, h2]
  · obtain ⟨h1, h2⟩ := clsOf_no h
    rw [h1, h2, clsSz_out (.inl (by omega))]; rfl
set_option maxHeartbeats 800000 in
theorem rsz_ok (w : World) (a : Int) (A : Option Addr) (n c : Nat) (m : Bool) (_ : n ≤ 9223372036854775807) : Calls Try.prog 55 #[.agg #[.int .i64 a, .slice A n c, .bool m]] w (CtPost (owN n : Nat) w) := by
  have C1 := Lib.hid ((Chg.refl [] w).alloc (.cells #[.int .i64 a, .slice A n c, .bool m] 30))
  go_enter Try.func55, Try.ntmps55
  go_wp2_with fail
  refine (rof_ok _ _).mono ?_
  rintro e w1 ⟨rfl, c1⟩
  have C2 := Lib.hid (C1.out.trans c1); clear c1
  go_wp2_with fail
  refine (rsize1_ok _ _).mono ?_
  rintro e w2 ⟨rfl, c2⟩
  have C3 := Lib.hid (C2.out.trans c2); clear c2
  rw [clsSz_of]
  go_wp2_with fail
  go_ret
  exact ⟨rfl, C3.out⟩
set_option maxHeartbeats 1600000 in
set_option maxRecDepth 100000 in
theorem rwords_ok (w : World) (v : Value) (V : Vw) (h : VwAt w w.heap.size v V) (hS : Small V) : Calls Try.prog 31 #[v] w (IntPost (wordsN V.objects : Nat) w) := by
  obtain ⟨g, A1, c1, A2, c2, rfl, h1, h2, h3, h4, h5⟩ := h.ex
  obtain ⟨A0, c0, rfl⟩ := h1.ex
  have C1 := (Chg.refl [] w).alloc (.cells (vwBox V A0 c0 A1 c1 A2 c2) 26)
  have B1 := Blk.new w 26 (vwBox V A0 c0 A1 c1 A2 c2)
  unfold vwBox at C1 B1
  have HB := Lib.hid (And.intro C1 (And.intro h3 B1)); clear C1 B1 h h1 h2 h3 h4 h5
  have hn := hS.o
  go_enter Try.func31, Try.ntmps31
  go_wp2_with fail
  generalize (w.alloc (.cells #[.int .i64 V.phase, .int .i64 V.cycle, .int .i64 V.clock, .slice A0 V.globals.length c0, .slice A1 V.gs.length c1, .slice A2 V.objects.length c2, .int .i64 V.grey, .int .i64 V.notes, .int .i64 V.roots] 26)) = W0 at HB ⊢
  go_loopg [3, 4] (V.objects.length + 1) (fun gk s idx wr => WdRel W0 V.objects gk s idx wr)
  case atStart => exact ⟨0, by omega, by omega, rfl, rfl, Chg.refl _ _⟩
  case round =>
    obtain ⟨i, hgk, hin, rfl, rfl, C⟩ := hrel
    have hle := words_le (V.objects.take i)
    have hle2 : (V.objects.take i).length ≤ V.objects.length := by rw [List.length_take]; omega
    have b5 : wr.cell? ⟨w.heap.size, 5, none⟩ = some (.slice A2 V.objects.length c2) := (C.blk HB.out.2.2 (by simp)).cellv 5 rfl
    by_cases e : i < V.objects.length
    · obtain ⟨o, ho⟩ : ∃ o, V.objects[i]? = some o := ⟨_, List.getElem?_eq_getElem e⟩
      obtain ⟨b, off, s, rfl, hbb, i0, i1, i2, hsl, -⟩ := (HB.out.2.1.chg (HB.out.1.trans C) (Nat.le_refl _) (by simp)).at_ i o ho
      obtain ⟨As, cs, rfl⟩ := hsl.ex
      have hol := hsl.len
      unfold maxLen at hol
      have hi' : (i : Int) < (V.objects.length : Int) := by omega
      have hts := words_take ho
      have how := owN_le o.slots.length
      have HX := Lib.hid (And.intro C hts); clear C hts ho hbb hsl hle2
      obtain ⟨q, hq⟩ : ∃ q, q = wordsN (V.objects.take i) := ⟨_, rfl⟩
      have hql : q ≤ 256000000 := by rw [hq]; have : (V.objects.take i).length ≤ 1000000 := by rw [List.length_take]; omega
                                     omega
      rw [← hq]
      have HQ := Lib.hid hq; clear hq hle
      go_wp2_with fail
      refine (rsz_ok _ _ _ _ _ _ hol).mono ?_
      rintro e w2 ⟨rfl, C2⟩
      have HC := Lib.hid (HX.out.1.trans C2); clear C2 i0 i1 i2 b5
      have hw : IntKind.i64.wrap ((q : Int) + (owN o.slots.length : Int)) = ((q + owN o.slots.length : Nat) : Int) := by rw [IntKind.wrap_i64]; omega
      go_wp2_with fail
      go_roundg (V.objects.length - i)
      case measure => omega
      case rel => exact ⟨i + 1, by omega, by omega, by rw [HX.out.2, ← HQ.out]; go_num, by go_num, HC.out⟩
    · obtain rfl : i = V.objects.length := by omega
      rw [List.take_length]
      have HX := Lib.hid C; clear C e hgk hin hle hle2
      go_wp2_with fail
      go_ret
      exact ⟨rfl, HB.out.1.trans HX.out⟩
end Go.Proofs.Ytfkgooliglcjkaa
