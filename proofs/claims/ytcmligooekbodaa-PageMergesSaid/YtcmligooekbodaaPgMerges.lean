/- The walk of PageMerges. -/
import Derived.Test.YtcmligooekbodaaPgLefts
import Derived.Deep.RegionLaw
namespace Go.Proofs.Ytcmligooekbodaa
open Go.RowKit

def GcdRel (a b : Nat) (w0 : World) (gk : Nat) (u v : Value) (w : World) : Prop := ∃ x y : Nat, gk = y + 1 ∧ u = .int .i64 x ∧ v = .int .i64 y ∧ Nat.gcd x y = Nat.gcd a b ∧ x ≤ 1000 ∧ y ≤ 1000 ∧ Chg [] w0 w
def GcPost (d : Nat) (w : World) (e : Ending) (w' : World) : Prop := e = .returned (.int .i64 d) ∧ Chg [] w w'
set_option maxHeartbeats 1600000 in
set_option maxRecDepth 100000 in
theorem gcd_ok (w : World) (a b : Nat) (ha : a ≤ 1000) (hb : b ≤ 1000) :
    Calls Try.prog 10 #[.int .i64 a, .int .i64 b] w (GcPost (Nat.gcd a b) w) := by
  go_enter Try.func10, Try.ntmps10
  go_wp2_with fail
  go_loopg [0, 1] (b + 1) (fun gk u v wr => GcdRel a b w gk u v wr)
  case atStart => exact ⟨a, b, rfl, rfl, rfl, rfl, ha, hb, Chg.refl _ _⟩
  case round =>
    obtain ⟨x, y, rfl, rfl, rfl, hg, hx, hy, hc⟩ := hrel
    have HG := Lib.hid (And.intro hg hc); clear hg hc
    by_cases h : y = 0
    · subst h
      have e0 := HG.out.1
      rw [Nat.gcd_zero_right] at e0
      have HE := Lib.hid e0; clear e0
      go_wp2_with fail
      go_ret
      exact ⟨by rw [← HE.out]; rfl, HG.out.2⟩
    · have h1 : ((y : Int) != 0) = true := by simpa using h
      have h2 : ((y : Int) == 0) = false := by simpa using h
      have h6 : x % y < y := Nat.mod_lt _ (by omega)
      have h7 : Nat.gcd y (x % y) = Nat.gcd a b := by rw [← HG.out.1, Nat.gcd_comm x y, Nat.gcd_rec y x, Nat.gcd_comm]
      have H6 := Lib.hid (And.intro h6 h7); clear h6 h7
      have h8 : (0 : Int) < (y : Int) := by omega
      go_wp2_with fail
      go_quiet (fail)
      go_wp2_with fail
      go_roundg (x % y + 1)
      case measure => have := H6.out.1; omega
      case rel => exact ⟨y, x % y, rfl, rfl, rfl, H6.out.2, hy, by have := H6.out.1; omega, HG.out.2.drewN _⟩

def mgL (m i : Nat) : List R := if i ≤ m then [⟨i, m + 1 - i⟩] else []
theorem mgL_ok {m i : Nat} (h : 1 ≤ i) (hm : i ≤ m + 1) : Okn (m + 1) (mgL m i) := by
  unfold mgL; split
  · refine ⟨⟨h, by show 1 ≤ m + 1 - i; omega, trivial⟩, ?_⟩
    show i + (m + 1 - i) + 1 ≤ m + 1 + 1; omega
  · exact ⟨trivial, by show 1 ≤ m + 1 + 1; omega⟩
theorem mg_says {m i : Nat} {a c : Int} {l' : List R} (hi : i ≤ m) (h : AllocSays (mgL m i) 1 a c l') : a = i ∧ c = 0 ∧ l' = mgL m (i + 1) := by
  have e : mgL m i = [⟨i, m + 1 - i⟩] := by unfold mgL; rw [if_pos hi]
  rw [e] at h
  rcases h with ⟨h, _⟩ | ⟨_, h, _⟩ | ⟨_, r, hr, ha, hc, hl⟩
  · omega
  · have := h _ (List.mem_singleton_self _)
    simp only at this
    omega
  · have e2 : r = ⟨i, m + 1 - i⟩ := by have := hr.1; simpa using this
    subst e2
    refine ⟨ha, hc, ?_⟩
    rw [hl]
    unfold cutR mgL
    by_cases h1 : i = m
    · subst h1
      rw [if_pos (by show i + 1 - i = (1 : Int).toNat; simp), if_neg (by omega)]; simp
    · rw [if_neg (by show ¬ (m + 1 - i = (1 : Int).toNat); simp; omega), if_pos (by omega)]
      simp; omega
theorem mg_new {m : Nat} (h : 1 ≤ m) : newL (m + 1) = mgL m 1 := by unfold newL mgL; rw [if_pos (by omega), if_pos h]
def mgFl (m d i : Nat) : List Bool := (List.range (m + 2)).map (mrgF m d i)
theorem mgFl_len (m d i : Nat) : (mgFl m d i).length = m + 2 := by simp [mgFl]
theorem mgFl_zero (m d : Nat) : ((mgFl m d 0).map Value.bool).toArray = zcells (.bool false) (m + 2) := by
  rw [zcells_list]
  congr 1
  unfold mgFl
  apply List.ext_getElem
  · simp
  · intro i h1 h2
    simp [mrgF]
theorem mgFl_get {m d i x : Nat} (h : x < m + 2) : ((mgFl m d i).map Value.bool).toArray[x]? = some (.bool (mrgF m d i x)) := by simp [mgFl, h]
theorem mgFl_set {m d i : Nat} : ((mgFl m d i).map Value.bool).toArray.setIfInBounds (i * d % m + 1) (.bool true) = ((mgFl m d (i + 1)).map Value.bool).toArray := by
  apply Array.ext_getElem?
  intro x
  rw [Array.getElem?_setIfInBounds]
  by_cases hx : x < m + 2
  · rw [mgFl_get hx, mgFl_get hx, mrgF_succ]
    by_cases e : i * d % m + 1 = x
    · subst e
      rw [if_pos rfl, if_pos (by simp [mgFl]; omega)]; simp
    · rw [if_neg e]
      have : (i * d % m + 1 == x) = false := by simpa using e
      rw [this, Bool.or_false]
  · have h1 : ((mgFl m d i).map Value.bool).toArray[x]? = none := by simp [mgFl]; omega
    have h2 : ((mgFl m d (i + 1)).map Value.bool).toArray[x]? = none := by simp [mgFl]; omega
    rw [h1, h2]
    split
    · next e => rw [if_neg (by subst e; simp [mgFl]; omega)]
    · rfl
structure MgI (w0 w : World) (g m h d i : Nat) (l : List R) (v : Value) : Prop where
  P : PgI w0 [h] w g (m + 1) l v
  B : Blk w h 4 ((mgFl m d i).map Value.bool).toArray
  ok : Okn (m + 1) l
  sum : sumR l = i
  fr : ∀ x, Fr l x ↔ mrgF m d i x = true
theorem mgL_nil (m : Nat) : Okn (m + 1) [] := ⟨trivial, by show 1 ≤ m + 1 + 1; omega⟩
def Mg3Rel (w0 : World) (g m h d gk : Nat) (va idx : Value) (w : World) : Prop := ∃ i l v, gk + i = m + 1 ∧ i ≤ m ∧ va = .int .i64 ((i * d % m : Nat)) ∧ idx = .int .i64 (i : Nat) ∧ MgI w0 w g m h d i l v
def Mg4Rel (w0 : World) (F : Nat → Bool) (m tot gk : Nat) (vr idx : Value) (w : World) : Prop := ∃ j r, gk + j = m + 1 ∧ j ≤ m ∧ vr = .int .i64 (r : Nat) ∧ idx = .int .i64 ((j + 1 : Nat)) ∧ r + stc F (j + 1) (m - j) (F j) = tot ∧ w = w0
theorem mg_tot {m d i : Nat} {l : List R} (h : Okn (m + 1) l) (hf : ∀ x, Fr l x ↔ mrgF m d i x = true) : stc (mrgF m d i) 1 m false = l.length := by
  rw [← scan_len, ← eq_scan h (fun x _ _ => hf x)]
def Mg1Rel (w0 : World) (g m gk : Nat) (idx : Value) (w : World) : Prop := ∃ i v, gk + i = m + 2 ∧ 1 ≤ i ∧ i ≤ m + 1 ∧ idx = .int .i64 (i : Nat) ∧ PgI w0 [] w g (m + 1) (mgL m i) v
def Mg2Rel (w0 : World) (g m d0 gk : Nat) (vd : Value) (w : World) : Prop := ∃ d v, gk + d = m + 2 ∧ d ≤ m + 1 ∧ 1 ≤ d ∧ vd = .int .i64 (d : Nat) ∧ PgI w0 [] w g (m + 1) [] v

set_option maxHeartbeats 6400000 in
set_option maxRecDepth 100000 in
theorem merges_any (K S : Int) (w : World) : Calls Try.prog 3 #[.int .i64 K, .int .i64 S] w (TdPost w) := by
  obtain ⟨k0, hk0, ek0⟩ := mod_n K 60 (by omega) (by omega)
  have ek : wrap64 ((IntKind.u64.wrap K).tmod 60) = (k0 : Int) := ek0
  obtain ⟨m, hm⟩ : ∃ m, m = k0 + 1 := ⟨_, rfl⟩
  have ek2 : wrap64 (2 + (k0 : Int)) = (m : Int) + 1 := by rw [wrap64_small (by omega) (by omega)]; omega
  have hmb : 1 ≤ m ∧ m ≤ 60 := by omega
  have EK := Lib.hid (And.intro ek ek2); clear ek0 ek ek2 hm hk0
  go_enter Try.func3, Try.ntmps3
  go_wp2_with fail
  rw [EK.out.1, EK.out.2]
  clear EK
  refine (new_ok w ((m : Int) + 1)).mono ?_
  rintro e w1 ⟨g, v, rfl, I, cc, hn⟩
  have e6 : newN ((m : Int) + 1) = m + 1 := by unfold newN; omega
  rw [e6, mg_new hmb.1] at I
  have P1 : PgI w [] w1 g (m + 1) (mgL m 1) v := PgI.mk I cc (fun k hk => ⟨hn k hk, by simp⟩) (fun k hk => by cases hk)
  have HP := Lib.hid P1; clear I cc hn e6 P1
  go_wp2_with fail
  go_loopg [7] (m + 1) (fun gk idx wr => Mg1Rel w g m gk idx wr)
  case atStart => exact ⟨1, v, by omega, by omega, by omega, rfl, HP.out⟩
  case round =>
    obtain ⟨i, v3, hgk, h1i, him, rfl, P⟩ := hrel
    have HQ := Lib.hid P; clear P
    by_cases e : i ≤ m
    · have hi' : (i : Int) < (m : Int) + 1 := by omega
      go_wp2_with fail
      refine (alloc_i HQ.out (mgL_ok h1i him) (by omega) 1).mono ?_
      rintro e w2 ⟨a, c, l', v2, rfl, hs, P2, _⟩
      obtain ⟨rfl, rfl, rfl⟩ := mg_says e hs
      have HR := Lib.hid P2; clear P2 hs
      go_wp2_with fail
      go_roundg (m + 1 - i)
      case measure => omega
      case rel => exact ⟨i + 1, v2, by omega, by omega, by omega, by go_num, HR.out⟩
    · obtain rfl : i = m + 1 := by omega
      have e0 : mgL m (m + 1) = [] := by unfold mgL; rw [if_neg (by omega)]
      have P0 := HQ.out
      rw [e0] at P0
      have HZ := Lib.hid P0; clear P0 HQ e0 e hgk h1i him
      go_wp2_with fail
      obtain ⟨d0, hd0, ed0⟩ := mod_n S m hmb.1 (by omega)
      have ed2 : wrap64 (1 + (d0 : Int)) = ((d0 + 1 : Nat) : Int) := by rw [wrap64_small (by omega) (by omega)]; omega
      rw [ed0, ed2]
      clear ed0 ed2
      obtain ⟨wq, rfl⟩ : ∃ wq : World, wq = wr := ⟨_, rfl⟩
      go_loopg [10] (m + 1 - d0) (fun gk vd wr => Mg2Rel w g m d0 gk vd wr)
      case atStart => exact ⟨d0 + 1, v3, by omega, by omega, by omega, rfl, HZ.out⟩
      case round =>
        obtain ⟨d, v5, hgk, hdm, hd1, rfl, P⟩ := hrel
        have HQ := Lib.hid P; clear P
        go_wp2_with fail
        refine (gcd_ok wr d m (by omega) (by omega)).mono ?_
        rintro e w5 ⟨rfl, c5⟩
        have HR := Lib.hid (HQ.out.chg0 c5); clear c5
        by_cases hg : Nat.gcd d m = 1
        · rw [hg]
          have HG := Lib.hid hg; clear hg
          have hmk := fun W => run_make_z (P := Try.prog) 28 4 (.bool false) 1 Try.underlying28 (by kernel_rfl) rfl .i64 .i64 (m + 2) (by omega) (by omega) W
          have e2 : ((m + 2 : Nat) : Int) = (m : Int) + 1 + 1 := by omega
          simp only [e2] at hmk
          clear e2
          have P6 := HR.out.alloc (.cells (zcells (.bool false) (m + 2)) 4)
          have B6 := Blk.new w5 4 (zcells (.bool false) (m + 2))
          have h6 : w.heap.size ≤ w5.heap.size := HR.out.c.size
          rw [← mgFl_zero m d] at B6
          rw [← mgFl_zero m d] at P6
          have M6 : MgI w _ g m w5.heap.size d 0 [] v5 := ⟨P6, B6, mgL_nil m, rfl, fun x => by simp [mrgF, Fr]⟩
          rw [mgFl_zero m d] at M6
          have HM := Lib.hid M6; clear P6 B6 M6
          go_wp2_with fail
          generalize w5.heap.size = h at HM h6 ⊢
          clear hmk
          obtain ⟨wq2, rfl⟩ : ∃ wq2 : World, wq2 = wr := ⟨_, rfl⟩
          go_loopg [12, 13] (m + 1) (fun gk va idx wr => Mg3Rel w g m h d gk va idx wr)
          case atStart => exact ⟨0, [], v5, by omega, by omega, by simp, rfl, HM.out⟩
          case round =>
            obtain ⟨i, l, v7, hgk3, him, hva, rfl, M⟩ := hrel
            obtain ⟨a, ha⟩ : ∃ a, a = i * d % m := ⟨_, rfl⟩
            rw [← ha] at hva
            subst hva
            have ham : a < m := by rw [ha]; exact Nat.mod_lt _ (by omega)
            have HA := Lib.hid ha; clear ha
            have hMl := okn_len6 M.ok (by omega)
            have hMs := M.sum
            have HM3 := Lib.hid M; clear M
            by_cases e : i < m
            · have hi' : (i : Int) < (m : Int) := by omega
              go_wp2_with fail
              refine (free_i HM3.out.P HM3.out.ok (by omega) ((a : Int) + 1) 1).mono ?_
              rintro e w7 ⟨c, l', v8, rfl, hs, P8, K8⟩
              have hs' : FreeSays (m + 1) l ((a + 1 : Nat) : Int) ((1 : Nat) : Int) c l' := hs
              have hnew := mrgF_new (d := d) HG.out e
              rw [← HA.out] at hnew
              obtain ⟨rfl, ok8, sum8, fr8⟩ := free_serves HM3.out.ok (Nat.le_refl 1) (by omega) (by omega) (fun x h1 h2 => by
                have : x = a + 1 := by omega
                subst this
                rw [HM3.out.fr, hnew]; simp) hs'
              have B8 := K8.blk HM3.out.B (List.mem_cons_self ..)
              have fr8' : ∀ x, Fr l' x ↔ mrgF m d (i + 1) x = true := fun x => by
                rw [fr8, HM3.out.fr, mrgF_succ, ← HA.out]
                simp; constructor
                · rintro (g | g)
                  · exact .inl g
                  · exact .inr (by omega)
                · rintro (g | g)
                  · exact .inl g
                  · exact .inr (by omega)
              have ca := B8.cellv (a + 1) (mgFl_get (by omega))
              have fa := B8.frozen (a + 1)
              have hset : ((mgFl m d i).map Value.bool).toArray.setIfInBounds (a + 1) (.bool true) = ((mgFl m d (i + 1)).map Value.bool).toArray := by rw [HA.out]; exact mgFl_set
              have B9 := B8.setv (a + 1) (.bool true) hset
              have P9 := P8.set (p := ⟨h, a + 1, none⟩) (List.mem_cons_self ..) h6 (.bool true)
              have M9 : MgI w _ g m h d (i + 1) l' v8 := ⟨P9, B9, ok8, by omega, fr8'⟩
              have HN := Lib.hid M9; clear M9 B8 B9 P9 P8 K8 ok8 sum8 fr8 fr8' hs hs' hnew hset
              have htot := Lib.hid (mg_tot HN.out.ok HN.out.fr)
              go_wp2_with fail
              obtain ⟨W9, hW9⟩ : ∃ W9, W9 = w7.setCell ⟨h, a + 1, none⟩ (.bool true) := ⟨_, rfl⟩
              rw [← hW9] at HN ⊢
              clear hW9 ca fa
              go_loopg [14, 15] (m + 1) (fun gk vr idx wr => Mg4Rel W9 (mrgF m d (i + 1)) m l'.length gk vr idx wr)
              case atStart => exact ⟨0, 0, by omega, by omega, rfl, rfl, by rw [Nat.zero_add, Nat.sub_zero, mrgF_zero]; exact htot.out, rfl⟩
              case round =>
                obtain ⟨j, r, hgk4, hjm, rfl, rfl, htj, rfl⟩ := hrel
                have hl8 := okn_len6 HN.out.ok (by omega)
                by_cases ej : j < m
                · have c0 := HN.out.B.cellv (j + 1) (mgFl_get (by omega))
                  have c1 := HN.out.B.cellv j (mgFl_get (by omega))
                  have hj' : (j : Int) + 1 < (m : Int) + 1 := by omega
                  have hstep : stc (mrgF m d (i + 1)) (j + 1) (m - j) (mrgF m d (i + 1) j) = (if mrgF m d (i + 1) (j + 1) = true ∧ mrgF m d (i + 1) j = false then 1 else 0) + stc (mrgF m d (i + 1)) (j + 1 + 1) (m - (j + 1)) (mrgF m d (i + 1) (j + 1)) := by
                    rw [show m - j = (m - (j + 1)) + 1 by omega, stc_succ]
                  have HS := Lib.hid (And.intro htj hstep); clear htj hstep
                  cases hF1 : mrgF m d (i + 1) (j + 1) with
                  | false =>
                    rw [hF1] at c0
                    have HF := Lib.hid hF1; clear hF1
                    go_wp2_with fail
                    go_roundg (m - j)
                    case measure => omega
                    case rel => exact ⟨j + 1, r, by omega, by omega, rfl, by go_num, by have h1 := HS.out.1; rw [HS.out.2, if_neg (by rw [HF.out]; simp)] at h1; omega, rfl⟩
                  | true =>
                    rw [hF1] at c0
                    have HF := Lib.hid hF1; clear hF1
                    cases hF0 : mrgF m d (i + 1) j with
                    | false =>
                      rw [hF0] at c1
                      have HF0 := Lib.hid hF0; clear hF0
                      have hrb : (r : Int) ≤ 1000001 := by
                        have h1 := HS.out.1; omega
                      go_wp2_with fail
                      go_roundg (m - j)
                      case measure => omega
                      case rel => exact ⟨j + 1, r + 1, by omega, by omega, by go_num, by go_num, by have h1 := HS.out.1; rw [HS.out.2, if_pos ⟨HF.out, HF0.out⟩] at h1; omega, rfl⟩
                    | true =>
                      rw [hF0] at c1
                      have HF0 := Lib.hid hF0; clear hF0
                      go_wp2_with fail
                      go_roundg (m - j)
                      case measure => omega
                      case rel => exact ⟨j + 1, r, by omega, by omega, rfl, by go_num, by have h1 := HS.out.1; rw [HS.out.2, if_neg (by rw [HF0.out]; simp)] at h1; omega, rfl⟩
                · obtain rfl : j = m := by omega
                  have hr : r = l'.length := by rw [Nat.sub_self] at htj; exact htj
                  subst hr
                  clear htj ej hjm hgk4
                  have hb1 : ((l'.length : Int) != (l'.length : Int)) = false := by simp
                  go_wp2_with fail
                  refine (runs_ok _ g (j + 1) v8 l' HN.out.P.I hl8).mono ?_
                  rintro e w10 ⟨v10, rfl, ho, c10, _⟩
                  obtain ⟨A10, k10, rfl⟩ := own_slice ho
                  have P10 := HN.out.P.chg0 c10
                  have B10 := c10.blk HN.out.B (by simp)
                  have H10 := Lib.hid (And.intro P10 B10); clear P10 B10 ho c10
                  go_wp2_with fail
                  have hsum := HN.out.sum
                  refine (left_ok _ g (j + 1) v8 l' H10.out.1.I hl8 (by omega)).mono ?_
                  rintro e w11 ⟨rfl, c11⟩
                  rw [hsum]
                  clear hsum
                  have H11 := Lib.hid (MgI.mk (H10.out.1.chg0 c11) (c11.blk H10.out.2 (by simp)) HN.out.ok HN.out.sum HN.out.fr : MgI w w11 g j h d (i + 1) l' v8); clear c11
                  have hmod : (a + d) % j = (i + 1) * d % j := by rw [HA.out, step_mod]
                  have HMd := Lib.hid hmod; clear hmod
                  have hd8 : (d : Int) ≤ 61 := by omega
                  have ha8 : (a : Int) < (j : Int) := by omega
                  go_wp2_with fail

                  go_roundg (j - i)
                  case measure => omega
                  case rel => exact ⟨i + 1, l', v8, by omega, by omega, by rw [← HMd.out]; rfl, by go_num, H11.out⟩
            · obtain rfl : i = m := by omega
              have h1 := one_run HM3.out.ok hmb.1 HM3.out.sum
              subst h1
              have hi' : ¬ (i : Int) < (i : Int) := by omega
              clear e hgk3 him hMs
              go_wp2_with fail
              refine (runs_ok _ g (i + 1) v7 _ HM3.out.P.I hMl).mono ?_
              rintro e w10 ⟨v10, rfl, ho, c10, _⟩
              obtain ⟨g', cap, rest, rfl, hbb, -, -, -, -⟩ := own_open ho (by simp)
              have P10 := HM3.out.P.chg0 c10
              have H10 := Lib.hid (And.intro P10 hbb); clear P10 hbb ho c10
              go_wp2_with fail
              refine (told_ok w10).mono ?_
              rintro e w11 ⟨rfl, c11⟩
              have B11 := c11.blk H10.out.2 (by simp)
              have i0 : w11.cell? ⟨g', 0, none⟩ = some (.int .i64 1) := B11.cellv 0 rfl
              have i1 : w11.cell? ⟨g', 1, none⟩ = some (.int .i64 i) := B11.cellv 1 rfl
              have H11 := Lib.hid (H10.out.1.chg0 c11); clear c11 B11
              go_wp2_with fail
              go_ret
              exact ⟨rfl, H11.out.c⟩
        · have hq : ((Nat.gcd d m : Int) != 1) = true := by rw [bne_iff_ne]; omega
          have hdm2 : d ≠ m + 1 := by
            rintro rfl
            apply hg
            have h1 := Nat.dvd_sub (Nat.gcd_dvd_left (m + 1) m) (Nat.gcd_dvd_right (m + 1) m)
            rw [Nat.add_sub_cancel_left] at h1
            exact Nat.dvd_one.1 h1
          have hq2 : (Nat.gcd d m != 1) = true := by rw [bne_iff_ne]; exact hg
          have HG := Lib.hid hg; clear hg
          go_wp2_with fail
          go_roundg (m + 1 - d)
          case measure => omega
          case rel => exact ⟨d + 1, v5, by omega, by omega, by omega, by go_num, HR.out⟩
end Go.Proofs.Ytcmligooekbodaa
