/- The second form of pages: Alloc. -/
import Derived.Test.YtcmligooekbodaaPgRef2
namespace Go.Proofs.Ytcmligooekbodaa
open Go.RowKit

def RaPost (g A c n : Nat) (l : List R) (k : Int) (w : World) (e : Ending) (w' : World) : Prop := ∃ a cc l' F', e = .returned (.tuple #[.int .i64 a, .int .i64 cc]) ∧ AllocSays l k a cc l' ∧ SayF n l' F' ∧ RfA w' g A c n F' ∧ Chg [A] w w'
def optI (b : Option Nat) : Int := match b with | none => -1 | some j => (j : Int)
def Ra1Rel (w0 : World) (l : List R) (K : Nat) (gk : Nat) (v7 idx : Value) (w : World) : Prop := ∃ i b, gk + i = l.length + 1 ∧ i ≤ l.length ∧ idx = .int .i64 (i : Nat) ∧ v7 = .int .i64 (optI b) ∧ BestTo l K i b ∧ Chg [] w0 w
def Ra2Rel (w0 : World) (g A c n K : Nat) (F : Nat → Bool) (f : Nat) (v6 : Value) (l : List R) (gk : Nat) (idx : Value) (w : World) : Prop := ∃ i, gk + i = K + 1 ∧ i ≤ K ∧ idx = .int .i64 (i : Nat) ∧ RfA w g A c n (takeF F f i) ∧ OwnR w v6 l ∧ Chg [A] w0 w
theorem takeF_zero (F : Nat → Bool) (f x : Nat) : takeF F f 0 x = F x := by unfold takeF; rw [decide_eq_false (by omega)]; simp
theorem takeF_succ (F : Nat → Bool) (f i x : Nat) : (if x = f + i then false else takeF F f i x) = takeF F f (i + 1) x := by
  unfold takeF
  by_cases e : x = f + i
  · rw [if_pos e, decide_eq_true (show f ≤ x ∧ x < f + (i + 1) by omega)]; simp
  · rw [if_neg e]; congr 2; apply decide_eq_decide.2; omega
set_option maxHeartbeats 6400000 in
set_option maxRecDepth 100000 in
theorem ralloc_ok (w : World) (g A c n : Nat) (F : Nat → Bool) (l : List R) (I : RfA w g A c n F) (hok : Okn n l) (hs : SayF n l F) (hn : n ≤ 200) (k : Int) : Calls Try.prog 16 #[.pointer (some ⟨g, 0, none⟩), .int .i64 k] w (RaPost g A c n l k w) := by
  have HI := Lib.hid (And.intro I (And.intro hok hs))
  have el := runs_eq hok hs
  have hll := (runsTo_ok F n).ln
  rw [el] at hll
  have KR := rruns_ok w g A c n F I hn
  rw [el] at KR
  clear I hok hs el
  go_enter Try.func16, Try.ntmps16
  by_cases h1 : k < 1
  · go_wp2_with fail
    go_ret2
    exact ⟨0, 1, l, F, rfl, .inl ⟨h1, rfl, rfl, rfl⟩, HI.out.2.2, HI.out.1, Chg.refl _ _⟩
  have d1 : decide (k < 1) = false := decide_eq_false h1
  obtain ⟨K, rfl⟩ : ∃ K : Nat, k = K := ⟨k.toNat, by omega⟩
  have hK1 : 1 ≤ K := by omega
  go_wp2_with fail
  clear d1
  refine KR.mono ?_
  rintro e w1 ⟨v6, rfl, O, C, Fv⟩
  obtain ⟨A6, c6, rfl⟩ := O.slice
  have HO := Lib.hid (And.intro O (And.intro C Fv)); clear O C Fv KR
  go_wp2_with fail
  go_loopg [7, 8] (l.length + 1) (fun gk v7 idx wr => Ra1Rel w1 l K gk v7 idx wr)
  case atStart => exact ⟨0, none, by omega, by omega, rfl, rfl, BestTo.start _ _, Chg.refl _ _⟩
  case round =>
    obtain ⟨i, b, hgk, hin, rfl, rfl, hB, C⟩ := hrel
    by_cases e : i < l.length
    · obtain ⟨r, hr⟩ : ∃ r, l[i]? = some r := ⟨_, List.getElem?_eq_getElem e⟩
      obtain ⟨g6, rfl, q0, q1, -, -, hg6, -⟩ := (HO.out.1.chg0 C).cell hr
      have hi' : (i : Int) < (l.length : Int) := by omega
      have hi0 : (0 : Int) ≤ (i : Int) := by omega
      have HX := Lib.hid (And.intro hB (And.intro C hr)); clear hB C hr
      by_cases hp : r.p < K
      · have hd : decide ((K : Int) ≤ (r.p : Int)) = false := decide_eq_false (by omega)
        have hd' : decide (K ≤ r.p) = false := decide_eq_false (by omega)
        have HP := Lib.hid hp; clear hp
        go_upto_region 8 with fail
        go_quiet (fail)
        go_wp2_with fail
        go_roundg (l.length - i)
        case measure => omega
        case rel => exact ⟨i + 1, b, by omega, by omega, by go_num, rfl, HX.out.1.skip HX.out.2.2 HP.out, HX.out.2.1.drewN _⟩
      · have hd : decide ((K : Int) ≤ (r.p : Int)) = true := decide_eq_true (by omega)
        have hd' : decide (K ≤ r.p) = true := decide_eq_true (by omega)
        have HP := Lib.hid hp; clear hp
        cases b with
        | none =>
          have hb : optI none = -1 := rfl
          rw [hb]
          go_upto_region 8 with fail
          go_quiet (fail)
          go_wp2_with fail
          go_roundg (l.length - i)
          case measure => omega
          case rel => exact ⟨i + 1, some i, by omega, by omega, by go_num, rfl, HX.out.1.first HX.out.2.2 (by have := HP.out; omega), HX.out.2.1.drewN _⟩
        | some j =>
          have hb : optI (some j) = (j : Int) := rfl
          rw [hb]
          obtain ⟨hji, s, hs, -, -⟩ := HX.out.1
          obtain ⟨g6', e6, p0, p1, -⟩ := (HO.out.1.chg0 HX.out.2.1).cell hs
          injection e6 with e6
          injection e6 with e6
          subst e6
          have hj0 : decide ((j : Int) < 0) = false := decide_eq_false (by omega)
          have hj1 : (0 : Int) ≤ (j : Int) := by omega
          have hj2 : (j : Int) < (l.length : Int) := by omega
          have HS := Lib.hid hs; clear hs p0
          by_cases hrs : r.p < s.p
          · have hd2 : decide ((r.p : Int) < (s.p : Int)) = true := decide_eq_true (by omega)
            have hd3 : decide (r.p < s.p) = true := decide_eq_true hrs
            have HR := Lib.hid hrs; clear hrs
            go_upto_region 8 with fail
            go_quiet (fail)
            go_wp2_with fail
            go_roundg (l.length - i)
            case measure => omega
            case rel => exact ⟨i + 1, some i, by omega, by omega, by go_num, rfl, HX.out.1.turn HX.out.2.2 HS.out (by have := HP.out; omega) HR.out, HX.out.2.1.drewN _⟩
          · have hd2 : decide ((r.p : Int) < (s.p : Int)) = false := decide_eq_false (by omega)
            have hd3 : decide (r.p < s.p) = false := decide_eq_false hrs
            have HR := Lib.hid hrs; clear hrs
            go_upto_region 8 with fail
            go_quiet (fail)
            go_wp2_with fail
            go_roundg (l.length - i)
            case measure => omega
            case rel => exact ⟨i + 1, some j, by omega, by omega, by go_num, rfl, HX.out.1.keep HX.out.2.2 HS.out (by have := HR.out; omega), HX.out.2.1.drewN _⟩
    · have e2 : i = l.length := by omega
      rw [e2] at hB
      have hi' : ¬ (i : Int) < (l.length : Int) := by omega
      have J := (HI.out.1.chg0 HO.out.2.1).chg0 C
      have O6 := HO.out.1.chg0 C
      have CC := HO.out.2.1.trans C
      cases b with
      | none =>
        have hb : optI none = -1 := rfl
        rw [hb]
        have HX := Lib.hid (And.intro hB.nobody (And.intro J CC)); clear hB J O6 CC C e2 hgk hin e
        go_wp2_with fail
        go_ret2
        exact ⟨0, 3, l, F, rfl, .inr (.inl ⟨by omega, fun r hr => by have := HX.out.1 r hr; omega, rfl, rfl, rfl⟩), HI.out.2.2, HX.out.2.1, HX.out.2.2.mono (by simp)⟩
      | some j =>
        have hb : optI (some j) = (j : Int) := rfl
        rw [hb]
        obtain ⟨r, hr, hbest⟩ := hB.best HI.out.2.1
        have hbd := HI.out.2.1.bd r hbest.1
        have hjl := (List.getElem?_eq_some_iff.1 hr).1
        have hj0 : decide ((j : Int) < 0) = false := decide_eq_false (by omega)
        have hj1 : (0 : Int) ≤ (j : Int) := by omega
        have hj2 : (j : Int) < (l.length : Int) := by omega
        have hkp := hbest.2.1
        have HX := Lib.hid (And.intro hr (And.intro hbest (And.intro J (And.intro O6 CC)))); clear hB J O6 CC C e2 hgk hin e hr hbest
        go_wp2_with fail
        obtain ⟨wq, rfl⟩ : ∃ wq : World, wq = wr := ⟨_, rfl⟩
        go_loopg [9] (K + 1) (fun gk idx wr => Ra2Rel wq g A c n K F r.f (.slice A6 l.length c6) l gk idx wr)
        case atStart => exact ⟨0, by omega, by omega, rfl, by rw [show takeF F r.f 0 = F from funext (takeF_zero F r.f)]; exact HX.out.2.2.1, HX.out.2.2.2.1, Chg.refl _ _⟩
        case round =>
          obtain ⟨i, hgk, hin, rfl, J, O, C⟩ := hrel
          obtain ⟨g6, rfl, q0, q1, -, -, hg6, -⟩ := O.cell HX.out.1
          by_cases e : i < K
          · have hi' : (i : Int) < (K : Int) := by omega
            have b0 : wr.cell? ⟨g, 0, none⟩ = some (.slice (some ⟨A, 0, none⟩) n c) := J.b1.cellv 0 rfl
            have i0 := bools_at (i := r.f + i) J.b2 (by omega)
            have f0 := J.b2.frozen (r.f + i)
            have ew : Value.int .i64 (wrap64 ((r.f : Int) + (i : Int))) = Value.int .i64 ((r.f + i : Nat) : Int) := congrArg _ (wr_add r.f i (by omega)).1
            have ew2 : Value.int .i64 (IntKind.i64.wrap ((r.f : Int) + (i : Int))) = Value.int .i64 ((r.f + i : Nat) : Int) := congrArg _ (wr_add r.f i (by omega)).2
            have hb1 : (r.f : Int) + (i : Int) < (n : Int) := by omega
            have hb2 : (0 : Int) ≤ (r.f : Int) + (i : Int) := by omega
            have hb3 : ((r.f + i : Nat) : Int) < (n : Int) := by omega
            have ht : ((r.f : Int) + (i : Int)).toNat = r.f + i := by omega
            have HY := Lib.hid (And.intro (J.set_ (i := r.f + i) (by omega) false (takeF_succ F r.f i)) (And.intro (O.chg ((Chg.refl [A] wr).setCell (p := ⟨A, r.f + i, none⟩) (.inl (by simp)) (.bool false)) (fun k hk hm => O.ne_blk J.b2 (by decide) ((show k = A by simpa using hm) ▸ hk))) (C.setCell (p := ⟨A, r.f + i, none⟩) (.inl (by simp)) (.bool false)))); clear J C O
            go_upto_region 15 with fail
            go_region
            go_wp2_with fail
            clear ew ew2
            go_roundg (K - i)
            case measure => omega
            case rel => exact ⟨i + 1, by omega, by omega, by go_num, HY.out.1.chg0 ((Chg.refl _ _).drew), HY.out.2.1.chg0 ((Chg.refl _ _).drew), HY.out.2.2.drew⟩
          · have e2 : i = K := by omega
            subst e2
            have hi' : ¬ (i : Int) < (i : Int) := by omega
            have HY := Lib.hid (And.intro J (And.intro O C)); clear J O C
            go_wp2_with fail
            go_ret2
            exact ⟨r.f, 0, cutR l r i, takeF F r.f i, rfl, .inr (.inr ⟨by omega, r, by simpa using HX.out.2.1, rfl, rfl, by simp⟩), sayF_cut HI.out.2.1 HI.out.2.2 HX.out.2.1.1 HX.out.2.1.2.1, HY.out.1, (HX.out.2.2.2.2.mono (by simp)).trans HY.out.2.2⟩
end Go.Proofs.Ytcmligooekbodaa
