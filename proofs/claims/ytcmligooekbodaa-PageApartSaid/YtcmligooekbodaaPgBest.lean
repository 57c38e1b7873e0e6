/- The walk of PageBest. -/
import Derived.Test.YtcmligooekbodaaPgBestLaw
namespace Go.Proofs.Ytcmligooekbodaa
open Go.RowKit

/-- The integers xs lie behind A, below B. -/
def IntsAt (w : World) (B : Nat) (A : Option Addr) (xs : List Int) : Prop := ∀ i x, xs[i]? = some x → ∃ b off, A = some ⟨b, off, none⟩ ∧ b < B ∧ w.cell? ⟨b, off + i, none⟩ = some (.int .i64 x)
theorem IntsAt.chg {w w' : World} {A : Option Addr} {xs : List Int} (h : IntsAt w w.heap.size A xs) (c : Chg [] w w') : IntsAt w' w.heap.size A xs := fun i x hx => by
  obtain ⟨b, off, e, hb, hc⟩ := h i x hx
  exact ⟨b, off, e, hb, c.cellv hb (by simp) hc⟩
theorem mod_n (x : Int) (m : Nat) (hm : 1 ≤ m) (hm2 : m ≤ 1000000) : ∃ n : Nat, n < m ∧ wrap64 ((IntKind.u64.wrap x).tmod m) = n := by
  have h0 : 0 ≤ IntKind.u64.wrap x := by rw [IntKind.wrap_u64]; omega
  rw [Int.tmod_eq_emod_of_nonneg h0]
  have h1 := Int.emod_nonneg (IntKind.u64.wrap x) (b := (m : Int)) (by omega)
  have h2 := Int.emod_lt_of_pos (IntKind.u64.wrap x) (b := (m : Int)) (by omega)
  obtain ⟨n, hn⟩ := Int.eq_ofNat_of_zero_le h1
  refine ⟨n, by omega, ?_⟩
  rw [wrap64_small (by omega) (by omega), hn]

structure BtI (w0 w : World) (g h k i : Nat) (at_ : Nat) (b : R) (l : List R) (v : Value) : Prop where
  P : PgI w0 [h] w g 120 l v
  B : Blk w h 34 #[.int .i64 b.f, .int .i64 b.p]
  ok : OkF 1 l
  nx : nxt1 1 l ≤ at_
  hat : 2 ≤ at_ ∧ at_ ≤ 2 + 10 * i
  bst : Bst k l b
  bnd : b.f ≤ 1000 ∧ b.p ≤ 1000
def BtRel (w0 : World) (g h k m : Nat) (gk : Nat) (vat idx : Value) (w : World) : Prop :=
  ∃ i at_ b l v, gk + i = m + 1 ∧ i ≤ m ∧ vat = .int .i64 (at_ : Nat) ∧ idx = .int .i64 (i : Nat) ∧ BtI w0 w g h k i at_ b l v

theorem says_all {a c : Int} {l' : List R} (h : AllocSays [⟨1, 119⟩] 119 a c l') : a = 1 ∧ c = 0 ∧ l' = [] := by
  rcases h with ⟨h, _⟩ | ⟨_, h, _⟩ | ⟨_, r, hr, ha, hc, hl⟩
  · omega
  · have := h ⟨1, 119⟩ (by simp); simp at this
  · have e : r = ⟨1, 119⟩ := by have := hr.1; simpa using this
    subst e
    exact ⟨ha, hc, by rw [hl]; decide⟩

set_option maxHeartbeats 3200000 in
set_option maxRecDepth 100000 in
theorem best_any (A : Option Addr) (c : Nat) (xs : List Int) (K : Int) (w : World) (hA : IntsAt w w.heap.size A xs) (hl : xs.length ≤ maxLen) :
    Calls Try.prog 6 #[.slice A xs.length c, .int .i64 K] w (TdPost w) := by
  unfold maxLen at hl
  have HA := Lib.hid hA; clear hA
  by_cases h0 : xs.length = 0
  · go_enter Try.func6, Try.ntmps6
    go_wp2_with fail
    refine (told_ok w).mono ?_
    rintro e w1 ⟨rfl, c1⟩
    go_wp2_with fail
    go_ret
    exact ⟨rfl, c1⟩
  by_cases h10 : 10 < xs.length
  · have h10' : (10 : Int) < (xs.length : Int) := by omega
    go_enter Try.func6, Try.ntmps6
    go_wp2_with fail
    refine (told_ok w).mono ?_
    rintro e w1 ⟨rfl, c1⟩
    go_wp2_with fail
    go_ret
    exact ⟨rfl, c1⟩
  have h10' : ¬ (10 : Int) < (xs.length : Int) := by omega
  obtain ⟨k0, hk0, ek0⟩ := mod_n K 9 (by omega) (by omega)
  have ek : wrap64 ((IntKind.u64.wrap K).tmod 9) = (k0 : Int) := ek0
  have ek2 : wrap64 (1 + (k0 : Int)) = ((k0 + 1 : Nat) : Int) := by rw [wrap64_small (by omega) (by omega)]; omega
  have EK := Lib.hid (And.intro ek ek2); clear ek0 ek ek2
  go_enter Try.func6, Try.ntmps6
  go_wp2_with fail
  refine (new_ok w 120).mono ?_
  rintro e w1 ⟨g, v, rfl, I, cc, hn⟩
  have e6 : newN 120 = 120 := by decide
  have el : newL 120 = [⟨1, 119⟩] := by decide
  rw [e6, el] at I
  have P1 := Lib.hid (PgI.mk I cc (fun k hk => ⟨hn k hk, by simp⟩) (fun k hk => by cases hk) : PgI w [] w1 g 120 [⟨1, 119⟩] v)
  clear I cc hn e6 el
  go_wp2_with fail
  refine (alloc_i P1.out (by refine ⟨⟨by decide, by decide, trivial⟩, by decide⟩) (by decide) 119).mono ?_
  rintro e w2 ⟨a, c2, l', v2, rfl, hs, P, _⟩
  obtain ⟨rfl, rfl, rfl⟩ := says_all hs
  have P2 := Lib.hid P; clear P hs
  go_wp2_with fail
  rw [EK.out.1, EK.out.2]
  have P3 := (P2.out.alloc (.cells #[.int .i64 0, .int .i64 0] 34))
  have B3 := Blk.new w2 34 #[Value.int .i64 0, Value.int .i64 0]
  have h2 : w.heap.size ≤ w2.heap.size := P2.out.c.size
  generalize w2.alloc (.cells #[.int .i64 0, .int .i64 0] 34) = W at P3 B3 ⊢
  generalize w2.heap.size = h at P3 B3 h2 ⊢
  obtain ⟨k, hk⟩ : ∃ k, k = k0 + 1 := ⟨_, rfl⟩
  rw [← hk]
  have hkb : 1 ≤ k ∧ k ≤ 9 := by omega
  clear hk hk0
  have I0 := Lib.hid (BtI.mk (b := ⟨0, 0⟩) P3 B3 trivial (by decide) ⟨by omega, by omega⟩ (Bst.nil k) ⟨by decide, by decide⟩ : BtI w W g h k 0 2 ⟨0, 0⟩ [] v2)
  clear P3 B3 P1 P2 EK
  go_loopg [8, 11] (xs.length + 1) (fun gk vat idx wr => BtRel w g h k xs.length gk vat idx wr)
  case atStart => exact ⟨0, 2, _, _, _, by omega, by omega, rfl, rfl, I0.out⟩
  case round =>
    obtain ⟨i, at_, b, l, v3, hgk, hin, rfl, rfl, T⟩ := hrel
    have x1 := T.B.cellv 1 rfl
    have x0 := T.B.cellv 0 rfl
    have hbnd := T.bnd
    have hat := T.hat
    have HT := Lib.hid T; clear T
    by_cases e : i < xs.length
    · obtain ⟨z, hz⟩ : ∃ z, xs[i]? = some z := ⟨xs[i], List.getElem?_eq_getElem e⟩
      obtain ⟨ba, off, rfl, hb0, hb1⟩ := (HA.out.chg HT.out.P.c) i z hz
      have hi' : (i : Int) < (xs.length : Int) := by omega
      obtain ⟨n0, hn0, en0⟩ := mod_n z 9 (by omega) (by omega)
      have en : wrap64 ((IntKind.u64.wrap z).tmod 9) = (n0 : Int) := en0
      have en2 : wrap64 (1 + (n0 : Int)) = ((n0 + 1 : Nat) : Int) := by rw [wrap64_small (by omega) (by omega)]; omega
      have EN := Lib.hid (And.intro en en2); clear en en2 en0 hz hb0
      go_wp2_with fail
      rw [EN.out.1, EN.out.2]
      obtain ⟨n, hn⟩ : ∃ n, n = n0 + 1 := ⟨_, rfl⟩
      rw [← hn]
      have hnb : 1 ≤ n ∧ n ≤ 9 := by omega
      clear EN hn hn0
      refine (free_i HT.out.P ⟨HT.out.ok, by have := HT.out.nx; omega⟩ (by decide) (at_ : Int) (n : Int)).mono ?_
      rintro e w4 ⟨cc, l', v4, rfl, hs, P', hkp⟩
      obtain ⟨rfl, rfl, ok', nx'⟩ := free_behind HT.out.ok HT.out.nx (by omega) (by omega) hs
      have B' := hkp.blk HT.out.B (List.mem_cons_self ..)
      have hst := HT.out.bst.snoc (at_ := at_) (n := n) (fun r hr => by have h1 := (HT.out.ok.bd r hr).2.2; have h2 := HT.out.nx; omega) (by omega)
      have y0 := B'.cellv 0 rfl
      have y1 := B'.cellv 1 rfl
      have f0 := B'.frozen 0
      have f1 := B'.frozen 1
      have hw1 : IntKind.i64.wrap ((at_ : Int) + (n : Int)) = (at_ : Int) + (n : Int) := by rw [IntKind.wrap_i64]; omega
      have hw2 : IntKind.i64.wrap ((at_ : Int) + (n : Int) + 1) = (at_ : Int) + (n : Int) + 1 := by rw [IntKind.wrap_i64]; omega
      clear x0 x1 hs
      by_cases q1 : k ≤ n
      · have q1' : (k : Int) ≤ (n : Int) := by omega
        by_cases q2 : b.p = 0 ∨ n < b.p
        · rw [if_pos ⟨q1, q2⟩] at hst
          have B2 := (B'.set_ 0 (.int .i64 at_)).setv 1 (.int .i64 n) (cs' := #[.int .i64 at_, .int .i64 n]) rfl
          have P2 := (P'.set (p := ⟨h, 0, none⟩) (List.mem_cons_self ..) h2 (.int .i64 at_)).set (p := ⟨h, 1, none⟩) (List.mem_cons_self ..) h2 (.int .i64 n)
          have T2 : BtI w _ g h k (i + 1) (at_ + n + 1) ⟨at_, n⟩ _ v4 := ⟨P2, B2, ok', by rw [nx']; omega, ⟨by omega, by omega⟩, hst, ⟨by show at_ ≤ 1000; omega, by show n ≤ 1000; omega⟩⟩
          have HT2 := Lib.hid T2; clear T2 P2 B2 hst P' B' ok' nx' hkp
          by_cases q3 : b.p = 0
          · have q3' : ((b.p : Int) == 0) = true := by rw [beq_iff_eq]; omega
            have q3'' : (b.p == 0) = true := by rw [beq_iff_eq]; omega
            clear q2
            go_wp2_with fail
            go_roundg (xs.length - i)
            case measure => omega
            case rel => exact ⟨i + 1, at_ + n + 1, _, _, v4, by omega, by omega, by go_num, by go_num, HT2.out⟩
          · have q3' : ((b.p : Int) == 0) = false := by rw [beq_eq_false_iff_ne]; omega
            have q3'' : (b.p == 0) = false := by rw [beq_eq_false_iff_ne]; omega
            have q4 : (n : Int) < (b.p : Int) := by omega
            clear q2
            go_wp2_with fail
            go_roundg (xs.length - i)
            case measure => omega
            case rel => exact ⟨i + 1, at_ + n + 1, _, _, v4, by omega, by omega, by go_num, by go_num, HT2.out⟩
        · rw [if_neg (fun q => q2 q.2)] at hst
          have T2 : BtI w w4 g h k (i + 1) (at_ + n + 1) b _ v4 := ⟨P', B', ok', by rw [nx']; omega, ⟨by omega, by omega⟩, hst, hbnd⟩
          have HT2 := Lib.hid T2; clear T2 hst P' B' ok' nx' hkp
          have q3' : ((b.p : Int) == 0) = false := by rw [beq_eq_false_iff_ne]; omega
          have q3'' : (b.p == 0) = false := by rw [beq_eq_false_iff_ne]; omega
          have q4 : ¬ (n : Int) < (b.p : Int) := by omega
          clear q2
          go_wp2_with fail
          go_roundg (xs.length - i)
          case measure => omega
          case rel => exact ⟨i + 1, at_ + n + 1, _, _, v4, by omega, by omega, by go_num, by go_num, HT2.out⟩
      · have q1' : ¬ (k : Int) ≤ (n : Int) := by omega
        rw [if_neg (fun q => q1 q.1)] at hst
        have T2 : BtI w w4 g h k (i + 1) (at_ + n + 1) b _ v4 := ⟨P', B', ok', by rw [nx']; omega, ⟨by omega, by omega⟩, hst, hbnd⟩
        have HT2 := Lib.hid T2; clear T2 hst P' B' ok' nx' hkp
        go_wp2_with fail
        go_roundg (xs.length - i)
        case measure => omega
        case rel => exact ⟨i + 1, at_ + n + 1, _, _, v4, by omega, by omega, by go_num, by go_num, HT2.out⟩
    · obtain rfl : i = xs.length := by omega
      clear e hgk hin
      have hi' : ¬ (xs.length : Int) < (xs.length : Int) := by omega
      go_wp2_with fail
      have hok : Okn 120 l := ⟨HT.out.ok, by have := HT.out.nx; omega⟩
      have hsum := okn_sum hok (by decide)
      refine (left_ok wr g 120 v3 l HT.out.P.I (okn_len6 hok (by decide)) hsum).mono ?_
      rintro e w5 ⟨rfl, c5⟩
      have P5 := HT.out.P.chg0 c5
      have B5 := c5.blk HT.out.B (by simp)
      have H5 := Lib.hid (And.intro P5 B5); clear P5 B5 c5
      have HO := Lib.hid hok; clear hok
      go_wp2_with fail
      refine (alloc_i H5.out.1 HO.out (by decide) (k : Int)).mono ?_
      rintro e w6 ⟨a, ca, l', v6, rfl, hs, P6, hk6⟩
      have B6 := hk6.blk H5.out.2 (List.mem_cons_self ..)
      have hok' : Okn 120 l' := by
        rcases hs with ⟨_, _, _, rfl⟩ | ⟨_, _, _, _, rfl⟩ | ⟨_, r, hr, _, _, rfl⟩
        · exact HO.out
        · exact HO.out
        · exact cutR_ok HO.out hr.1 hr.2.1
      have y0 := B6.cellv 0 rfl
      have y1 := B6.cellv 1 rfl
      clear x0 x1
      by_cases hz : b.p = 0
      · have hno := (HT.out.bst.none hz).1
        obtain ⟨rfl, rfl, rfl⟩ : a = 0 ∧ ca = 3 ∧ l' = l := by
          rcases hs with ⟨h1, _⟩ | ⟨_, _, ha, hc, hl⟩ | ⟨_, r, hr, _⟩
          · omega
          · exact ⟨ha, hc, hl⟩
          · have h1 := hno r hr.1
            have h3 := hr.2.1
            simp only [Int.toNat_natCast] at h3
            omega
        have q3' : ((b.p : Int) == 0) = true := by rw [beq_iff_eq]; omega
        have q3'' : (b.p == 0) = true := by rw [beq_iff_eq]; omega
        have H6 := Lib.hid P6; clear P6 B6 hs hk6 hok' hno
        go_wp2_with fail
        refine (told_ok w6).mono ?_
        rintro e w7 ⟨rfl, c7⟩
        have H7 := Lib.hid (H6.out.chg0 c7); clear c7
        go_wp2_with fail
        refine (left_ok w7 g 120 v6 l' H7.out.I (okn_len6 HO.out (by decide)) hsum).mono ?_
        rintro e w8 ⟨rfl, c8⟩
        have H8 := Lib.hid (H7.out.chg0 c8); clear c8
        go_wp2_with fail
        go_ret
        exact ⟨rfl, H8.out.c⟩
      · have hbe := HT.out.bst.some hz
        obtain ⟨rfl, rfl, rfl⟩ : a = (b.f : Int) ∧ ca = 0 ∧ l' = cutR l b k := by
          rcases hs with ⟨h1, _⟩ | ⟨_, h1, _⟩ | ⟨_, r, hr, ha, hc, hl⟩
          · omega
          · have h3 := h1 b hbe.1
            have h4 := hbe.2.1
            omega
          · simp only [Int.toNat_natCast] at hr hl
            have e := hr.uniq hbe
            subst e
            exact ⟨ha, hc, hl⟩
        have hcs := cut_sum HO.out hbe.1 hbe.2.1
        have q3' : ((b.p : Int) == 0) = false := by rw [beq_eq_false_iff_ne]; omega
        have q3'' : (b.p == 0) = false := by rw [beq_eq_false_iff_ne]; omega
        have H6 := Lib.hid (And.intro P6 (And.intro hok' B6)); clear P6 B6 hs hk6 hok' hbe
        generalize hcl : cutR l b k = lc at H6 hcs ⊢
        clear hcl
        go_wp2_with fail
        refine (told_ok w6).mono ?_
        rintro e w7 ⟨rfl, c7⟩
        have B7 := c7.blk H6.out.2.2 (by simp)
        have z0 := B7.cellv 0 rfl
        have H7 := Lib.hid (H6.out.1.chg0 c7); clear c7 B7 y0 y1
        go_wp2_with fail
        refine (left_ok w7 g 120 v6 lc H7.out.I (okn_len6 H6.out.2.1 (by decide)) (okn_sum H6.out.2.1 (by decide))).mono ?_
        rintro e w8 ⟨rfl, c8⟩
        have H8 := Lib.hid (H7.out.chg0 c8); clear c8
        have r1 : IntKind.i64.wrap ((sumR l : Int) - (k : Int)) = (sumR lc : Int) := by rw [IntKind.wrap_i64]; omega
        go_wp2_with fail
        go_ret
        exact ⟨rfl, H8.out.c⟩
end Go.Proofs.Ytcmligooekbodaa
