/- The walk of PageApart. -/
import Derived.Test.YtcmligooekbodaaPgApM
import Derived.Test.YtcmligooekbodaaPgApLaw
import Derived.Test.YtcmligooekbodaaPgHalf
import Derived.Test.YtcmligooekbodaaPgInts
import Derived.Test.YtcmligooekbodaaPgRef3
import Derived.Test.YtcmligooekbodaaPgRef4
import Derived.Deep.RegionHeld3
import Derived.Deep.RegionLaw
import Derived.Deep.CutBlock
namespace Go.Proofs.Ytcmligooekbodaa
open Go.RowKit

def ApRel (w0 : World) (g A n : Nat) (gk : Nat) (vg idx : Value) (w : World) : Prop :=
  ∃ i v l H got, gk + i = n + 1 ∧ i ≤ n ∧ idx = .int .i64 (i : Nat) ∧ ApM w0 [] g v l A vg got H w ∧ ApH i l got H ∧ got.length + i / 5 = i
def ApIn1 (w0 : World) (g : Nat) (v : Value) (l : List R) (A : Nat) (vg : Value) (got : List R) (H : Nat → Bool) (a k : Nat) (gk : Nat) (idx : Value) (w : World) : Prop :=
  ∃ j, gk + j = k + 1 ∧ j ≤ k ∧ idx = .int .i64 (j : Nat) ∧ ApM w0 [] g v l A vg got (giveF H a j) w
def ApIn2 (w0 : World) (g : Nat) (v : Value) (l : List R) (A : Nat) (vg : Value) (got : List R) (H : Nat → Bool) (gr : Nat) (r : R) (gk : Nat) (idx : Value) (w : World) : Prop :=
  ∃ j, gk + j = r.p + 1 ∧ j ≤ r.p ∧ idx = .int .i64 (j : Nat) ∧ ApM w0 [gr] g v l A vg got (takeF H r.f j) w ∧ Blk w gr 34 #[.int .i64 r.f, .int .i64 r.p]
def ApRel2 (w0 : World) (g A : Nat) (gk : Nat) (vg : Value) (w : World) : Prop := ∃ v l H got, gk = got.length + 1 ∧ ApM w0 [] g v l A vg got H w ∧ Ap l got ∧ got.length ≤ 40
set_option maxHeartbeats 6400000 in
set_option maxRecDepth 100000 in
theorem apart_any (A0 : Option Addr) (c0 : Nat) (xs : List Int) (S : Int) (w : World) (hA : IntsAt w w.heap.size A0 xs) (hl : xs.length ≤ maxLen) :
    Calls Try.prog 5 #[.slice A0 xs.length c0, .int .i64 S] w (TdPost w) := by
  unfold maxLen at hl
  have HA := Lib.hid hA; clear hA
  by_cases h40 : 40 < xs.length
  · have h40' : (40 : Int) < (xs.length : Int) := by omega
    go_enter Try.func5, Try.ntmps5
    go_wp2_with fail
    refine (told_ok w).mono ?_
    rintro e w1 ⟨rfl, c1⟩
    go_wp2_with fail
    go_ret
    exact ⟨rfl, c1⟩
  have h40' : ¬ (40 : Int) < (xs.length : Int) := by omega
  have hmk : ∀ W : World, (Instr.makeSlice 28 (.int .i64 400) (.int .i64 400)).run Try.prog W = .ok (.slice (some ⟨W.heap.size, 0, none⟩) 400 400) (W.alloc (.cells (zcells (.bool false) 400) 4)) := fun W => run_make_z (P := Try.prog) 28 4 (.bool false) 1 Try.underlying28 (by kernel_rfl) rfl .i64 .i64 400 (by omega) (by omega) W
  go_enter Try.func5, Try.ntmps5
  go_wp2_with fail
  refine (new_ok w 400).mono ?_
  rintro e w1 ⟨g, v, rfl, I, c1, f1⟩
  rw [show newN 400 = 400 by decide] at I
  have M0 := Lib.hid (ApM.start I c1 f1); clear I c1 f1
  go_wp2_with fail
  obtain ⟨A, hAe⟩ : ∃ A, A = w1.heap.size := ⟨_, rfl⟩
  rw [← hAe] at M0 ⊢
  clear hAe hmk
  go_loopg [7, 8] (xs.length + 1) (fun gk vg idx wr => ApRel w g A xs.length gk vg idx wr)
  case atStart => exact ⟨0, _, _, _, [], by omega, by omega, rfl, M0.out, ApH.start _ (fun _ => rfl), by simp⟩
  case round =>
    clear M0
    obtain ⟨i, v, l, H, got, hgk, hin, rfl, M, L, hgl⟩ := hrel
    obtain ⟨Ag, cg, rfl⟩ := M.o.slice
    by_cases e : i < xs.length
    · obtain ⟨z, hz⟩ : ∃ z, xs[i]? = some z := ⟨xs[i], List.getElem?_eq_getElem e⟩
      obtain ⟨ba, off, rfl, hb0, hb1⟩ := (HA.out.chg M.P.c) i z hz
      have hi' : (i : Int) < (xs.length : Int) := by omega
      have hi40 : i < 40 := by omega
      obtain ⟨n0, hn0, en0⟩ := mod_at z 9 (by omega) (by omega)
      have en : wrap64 ((IntKind.u64.wrap z).tmod 9) = (n0 : Int) := en0
      have en2 : wrap64 (1 + (n0 : Int)) = ((n0 + 1 : Nat) : Int) := by rw [wrap64_small (by omega) (by omega)]; omega
      have EN := Lib.hid (And.intro en en2); clear en en2 en0 hz hb0
      have HM := Lib.hid (And.intro M L); clear M L
      go_wp2_with fail
      rw [EN.out.1, EN.out.2]
      obtain ⟨k, hk⟩ : ∃ k, k = n0 + 1 := ⟨_, rfl⟩
      rw [← hk]
      have hk1 : 1 ≤ k := by omega
      have hk9 : k ≤ 9 := by omega
      clear EN hk hn0 hb1
      refine (alloc_i HM.out.1.P HM.out.2.a.ok (by omega) (k : Int)).mono ?_
      rintro e w4 ⟨a, ca, l4, v4, rfl, hs, P4, K4⟩
      obtain ⟨r, rfl, rfl, hr1, hr2, hH, L4⟩ := HM.out.2.serves hi40 hk1 hk9 hs
      have M4 := HM.out.1.page P4 K4
      have H4 := Lib.hid (And.intro M4 (And.intro L4 hH)); clear hs P4 K4 L4 M4 hH
      have ew0 : Value.int .i64 (wrap64 ((r.f : Int) + (k : Int))) = Value.int .i64 ((r.f + k : Nat) : Int) := congrArg _ (wr_add r.f k (by omega)).1
      go_wp2_with fail
      clear ew0
      go_loopg [12] (k + 1) (fun gk idx wr => ApIn1 w g v4 l4 A (.slice Ag got.length cg) got H r.f k gk idx wr)
      case atStart => exact ⟨0, by omega, by omega, rfl, by rw [show giveF H r.f 0 = H from funext (giveF_zero H r.f)]; exact H4.out.1⟩
      case round =>
        obtain ⟨j, hgk2, hj, rfl, J⟩ := hrel
        by_cases ej : j < k
        · have hj' : (j : Int) < (k : Int) := by omega
          have i0 := bools_at (i := r.f + j) J.b (by omega)
          have f0 := J.b.frozen (r.f + j)
          have eH : giveF H r.f j (r.f + j) = false := by
            unfold giveF
            rw [H4.out.2.2 (r.f + j) (by omega) (by omega), decide_eq_false (by omega)]; rfl
          rw [eH] at i0
          have ew : Value.int .i64 (wrap64 ((r.f : Int) + (j : Int))) = Value.int .i64 ((r.f + j : Nat) : Int) := congrArg _ (wr_add r.f j (by omega)).1
          have hb1 : (r.f : Int) + (j : Int) < 400 := by omega
          have hb2 : (0 : Int) ≤ (r.f : Int) + (j : Int) := by omega
          have hb3 : ((r.f + j : Nat) : Int) < 400 := by omega
          have ht : ((r.f : Int) + (j : Int)).toNat = r.f + j := by omega
          have HY := Lib.hid (J.set_ (i := r.f + j) (by omega) true (giveF_succ H r.f j)); clear J eH
          go_wp2_with fail
          clear ew
          go_roundg (k - j)
          case measure => omega
          case rel => exact ⟨j + 1, by omega, by omega, by go_num, HY.out⟩
        · have e2 : j = k := by omega
          subst e2
          have hj' : ¬ (j : Int) < (j : Int) := by omega
          have hlen : got.length ≤ 1000000 := by omega
          have HJ := Lib.hid J; clear J
          go_wp2_with (at_builtin; refine wpList_push_t rfl _ _ rfl Try.underlying29 rfl HJ.out.o ⟨r.f, j⟩ rfl hlen ?_)
          intro A' c' w5 O5 S5
          have H5 := Lib.hid (HJ.out.turn O5 S5 (by simp)); clear O5 S5
          by_cases h5 : i % 5 = 4
          · have h3' : ((i : Int) % 5 == 4) = true := by rw [beq_iff_eq]; omega
            have h3'' : (i % 5 == 4) = true := by rw [beq_iff_eq]; omega
            have hg4 : 4 ≤ got.length := by omega
            have hg5 : (got.length + 1) + (i + 1) / 5 = i + 2 := by omega
            clear h5
            obtain ⟨r0, got1, hg⟩ : ∃ r0 got1, got ++ [⟨r.f, j⟩] = r0 :: got1 := by
              cases got with
              | nil => exact ⟨_, _, rfl⟩
              | cons x t => exact ⟨_, _, rfl⟩
            have hgn : got1.length = got.length := by
              have := congrArg List.length hg
              simpa using this.symm
            have M5 := H5.out
            have L5 := H4.out.2.1
            rw [hg] at M5 L5
            rcases M5.o with ⟨_, e9⟩ | ⟨gg, og, cap, pre, rest, ev, TS⟩
            · cases e9
            injection ev with e1 e2 e3
            subst e1 e3
            obtain ⟨q0, q1⟩ := TS.cell (i := 0) rfl
            rw [Nat.zero_mul, Nat.add_zero] at q0 q1
            have hle := TS.le
            have hbd := L5.a.bd r0 (by simp)
            simp only [List.length_cons] at hle
            have hc1 : ¬ c' = 1 := by omega
            have hc2 : 1 ≤ c' := by omega
            have HT := Lib.hid (And.intro M5 (And.intro L5 (And.intro TS hgn))); clear M5 L5 TS hgn hg hle e2
            go_upto_region 26 with fail
            have MB := HT.out.1.box (.cells #[.int .i64 r0.f, .int .i64 r0.p] 34)
            have BB := Blk.new w5 34 #[.int .i64 r0.f, .int .i64 r0.p]
            have TB := (HT.out.2.2.1.chg0 ((Chg.refl [] w5).alloc (.cells #[.int .i64 r0.f, .int .i64 r0.p] 34))).tail
            have M6 := MB.turn TB ⟨Chg.refl _ _, fun k hk => .inl (by simpa [fpv, Value.ownBlock] using hk)⟩ (fun k hk => by
              have e : k = w5.heap.size := by simpa using hk
              rw [e]; exact ⟨BB.lt, fun hm => Nat.lt_irrefl _ (HT.out.1.o.lt hm)⟩)
            rw [HT.out.2.2.2] at M6
            clear q0 q1 MB TB
            generalize (w5.alloc (.cells #[.int .i64 r0.f, .int .i64 r0.p] 34)) = W2 at M6 BB ⊢
            generalize w5.heap.size = gr at M6 BB ⊢
            have j0 : W2.cell? ⟨gr, 0, none⟩ = some (.int .i64 r0.f) := BB.cellv 0 rfl
            have j1 : W2.cell? ⟨gr, 1, none⟩ = some (.int .i64 r0.p) := BB.cellv 1 rfl
            have HQ := Lib.hid (And.intro M6 BB); clear M6 BB
            go_wp2_with fail
            refine (free_i HQ.out.1.P HT.out.2.1.a.ok (by omega) (r0.f : Int) (r0.p : Int)).mono ?_
            rintro e w7 ⟨c7, l7, v7, rfl, hs7, P7, K7⟩
            obtain ⟨rfl, L7⟩ := HT.out.2.1.back hs7
            have M7 := HQ.out.1.page P7 K7
            have B7 := K7.blk HQ.out.2 (by simp)
            have H7 := Lib.hid (And.intro M7 (And.intro L7 B7)); clear M7 L7 B7 hs7 P7 K7 j0 j1
            go_wp2_with fail
            go_loopg [14] (r0.p + 1) (fun gk idx wr => ApIn2 w g v7 l7 A (.slice (some ⟨gg, og + 2, none⟩) got.length (c' - 1)) got1 (giveF H r.f j) gr r0 gk idx wr)
            case atStart => exact ⟨0, by omega, by omega, rfl, by rw [show takeF (giveF H r.f j) r0.f 0 = giveF H r.f j from funext (takeF_zero _ r0.f)]; exact H7.out.1, H7.out.2.2⟩
            case round =>
              obtain ⟨m, hgk3, hm, rfl, J, B⟩ := hrel
              have j0 : wr.cell? ⟨gr, 0, none⟩ = some (.int .i64 r0.f) := B.cellv 0 rfl
              have j1 : wr.cell? ⟨gr, 1, none⟩ = some (.int .i64 r0.p) := B.cellv 1 rfl
              by_cases em : m < r0.p
              · have hj' : (m : Int) < (r0.p : Int) := by omega
                have f0 := J.b.frozen (r0.f + m)
                have i0 := bools_at (i := r0.f + m) J.b (by omega)
                have ew : Value.int .i64 (wrap64 ((r0.f : Int) + (m : Int))) = Value.int .i64 ((r0.f + m : Nat) : Int) := congrArg _ (wr_add r0.f m (by omega)).1
                have hb1 : (r0.f : Int) + (m : Int) < 400 := by omega
                have hb2 : (0 : Int) ≤ (r0.f : Int) + (m : Int) := by omega
                have hb3 : ((r0.f + m : Nat) : Int) < 400 := by omega
                have ht : ((r0.f : Int) + (m : Int)).toNat = r0.f + m := by omega
                have HY := Lib.hid (And.intro (J.set_ (i := r0.f + m) (by omega) false (takeF_succ _ r0.f m)) (B.far (p := ⟨A, r0.f + m, none⟩) (Blk.ne_ B J.b (by decide)) (.bool false))); clear J B
                go_wp2_with fail
                clear ew
                go_roundg (r0.p - m)
                case measure => omega
                case rel => exact ⟨m + 1, by omega, by omega, by go_num, HY.out.1, HY.out.2⟩
              · have e2 : m = r0.p := by omega
                subst e2
                have hj' : ¬ (r0.p : Int) < (r0.p : Int) := by omega
                have HJ := Lib.hid (J.less (Y := []) (by simp)); clear J B
                have hn7 := HT.out.2.2.2
                go_wp2_with fail
                go_roundg (xs.length - i)
                case measure => omega
                case rel => exact ⟨i + 1, _, _, _, _, by omega, by omega, by go_num, HJ.out, H7.out.2.1, by omega⟩
          · have h3' : ((i : Int) % 5 == 4) = false := by rw [beq_eq_false_iff_ne]; omega
            have h3'' : (i % 5 == 4) = false := by rw [beq_eq_false_iff_ne]; omega
            have hg5 : (got.length + 1) + (i + 1) / 5 = i + 1 := by omega
            clear h5
            go_wp2_with fail
            go_roundg (xs.length - i)
            case measure => omega
            case rel => exact ⟨i + 1, _, _, _, _, by omega, by omega, by go_num, H5.out, H4.out.2.1, by simpa using hg5⟩
    · have hi' : ¬ (i : Int) < (xs.length : Int) := by omega
      have hg40 : got.length ≤ 40 := by omega
      have HM := Lib.hid (And.intro M L.a); clear M L hgl hgk hin e
      go_wp2_with fail
      go_loopg [7] (got.length + 1) (fun gk vg wr => ApRel2 w g A gk vg wr)
      case atStart => exact ⟨_, _, _, _, rfl, HM.out.1, HM.out.2, hg40⟩
      case round =>
        clear HM hg40
        obtain ⟨v, l, H, got, hgk, M, L, hle⟩ := hrel
        obtain ⟨Ag, cg, rfl⟩ := M.o.slice
        by_cases h0 : got = []
        · subst h0
          have hl := L.whole
          subst hl
          have HM := Lib.hid M; clear M L
          go_wp2_with fail
          refine (runs_ok wr g 400 v [⟨1, 399⟩] HM.out.P.I (by decide)).mono ?_
          rintro e w6 ⟨vr, rfl, ho6, c6, f6⟩
          obtain ⟨gq, cap, rest, rfl, hb6, _⟩ := own_open ho6 (by decide)
          have H6 := Lib.hid (And.intro (HM.out.P.c.trans c6) hb6); clear ho6 c6 f6 hb6
          go_wp2_with fail
          refine (told_ok _).mono ?_
          rintro e w7 ⟨rfl, c7⟩
          have hb7 := c7.blk H6.out.2 (by simp)
          have q0 : w7.cell? ⟨gq, 0, none⟩ = some (.int .i64 1) := hb7.cellv 0 rfl
          have q1 : w7.cell? ⟨gq, 1, none⟩ = some (.int .i64 399) := hb7.cellv 1 rfl
          have H7 := Lib.hid (H6.out.1.trans c7); clear hb7 c7
          go_wp2_with fail
          go_ret
          exact ⟨rfl, H7.out⟩
        · have hpos : 1 ≤ got.length := List.length_pos_iff.2 h0
          rcases M.o with ⟨_, e9⟩ | ⟨gg, og, cap, pre, rest, ev, TS⟩
          · exact absurd e9 h0
          injection ev with e1 e2 e3
          subst e1 e3
          have hlc := TS.le
          have HM := Lib.hid (And.intro M (And.intro L TS)); clear M L TS
          have h0' : (0 : Int) < (got.length : Int) := by omega
          go_upto_region 34 with fail
          go_cut [15] from 105 to 114 (fun v wd => ∃ k : Nat, v = .int .i64 k ∧ k < got.length ∧ wd = wr)
          case first =>
            obtain ⟨k, hk, ek⟩ := mod_at S got.length hpos (by omega)
            have hu : IntKind.u64.wrap (got.length : Int) = (got.length : Int) := by rw [IntKind.wrap_u64]; omega
            have hz : ¬ got.length = 0 := by omega
            have EK := Lib.hid ek; clear ek
            go_wp2_with fail
            go_meet
            exact ⟨k, by rw [EK.out], hk, rfl⟩
          case rest =>
            obtain ⟨k, rfl, hk, rfl⟩ := hcut
            obtain ⟨W, rfl⟩ : ∃ W : World, W = wc := ⟨_, rfl⟩
            clear h0'
            obtain ⟨r, hr⟩ : ∃ r, got[k]? = some r := ⟨_, List.getElem?_eq_getElem hk⟩
            have esp := split_at hr
            obtain ⟨q0, q1⟩ := HM.out.2.2.cell hr
            have L2 : Ap l (got.take k ++ r :: got.drop (k + 1)) := by rw [← esp]; exact HM.out.2.1
            have HL := Lib.hid L2; clear L2 esp hr
            have hk' : (k : Int) < (got.length : Int) := by omega
            have hk0 : (0 : Int) ≤ (k : Int) := by omega
            go_upto_region 36 with fail
            have MB := HM.out.1.box (.cells #[.int .i64 r.f, .int .i64 r.p] 34)
            have BB := Blk.new W 34 #[.int .i64 r.f, .int .i64 r.p]
            have TB := HM.out.2.2.chg0 ((Chg.refl [] W).alloc (.cells #[.int .i64 r.f, .int .i64 r.p] 34))
            have hX : ∀ j ∈ [W.heap.size], j < (W.alloc (.cells #[.int .i64 r.f, .int .i64 r.p] 34)).heap.size ∧ j ∉ fpv (.slice (some ⟨gg, og, none⟩) got.length cg) := fun j hj => by
              have e : j = W.heap.size := by simpa using hj
              rw [e]; exact ⟨BB.lt, fun hm => Nat.lt_irrefl _ (HM.out.1.o.lt hm)⟩
            clear q0 q1
            generalize (W.alloc (.cells #[.int .i64 r.f, .int .i64 r.p] 34)) = W2 at MB BB TB hX ⊢
            generalize W.heap.size = gr at MB BB hX ⊢
            have HQ := Lib.hid (And.intro MB (And.intro BB TB)); clear MB BB TB
            have HX := Lib.hid hX; clear hX
            go_cut [7] from 119 to 128 (fun v wd => ∃ Aq cq, v = .slice Aq (got.length - 1) cq ∧ OwnR wd v (got.take k ++ got.drop (k + 1)) ∧ Chg [] W2 wd ∧ ∀ j ∈ fpv v, W2.heap.size ≤ j)
            case first =>
              have hic : (k : Int) ≤ (cg : Int) := by omega
              have hnc : (got.length : Int) ≤ (cg : Int) := by omega
              have hk1 : (k : Int) + 1 ≤ (got.length : Int) := by omega
              have hk2 : (0 : Int) ≤ (k : Int) + 1 := by omega
              have hcz : ¬ cg = 0 := by omega
              have ht : ((k : Int) + 1).toNat = k + 1 := by omega
              have ew : IntKind.i64.wrap ((k : Int) + 1) = (k : Int) + 1 := by rw [show (k : Int) + 1 = (k : Int) + ((1 : Nat) : Int) from rfl]; exact (wr_add k 1 (by omega)).2
              by_cases hck : cg = k + 1
              · have hgk1 : got.length ≤ k + 1 := by omega
                subst hck
                have hic2 : (k : Int) ≤ (k : Int) + 1 := by omega
                have hnc2 : (got.length : Int) ≤ (k : Int) + 1 := by omega
                have hcz2 : ¬ k + 1 = 0 := by omega
                go_region_held3 (fun w' => Chg [] W2 w') (first | (go_keep; done) | assumption | exact Chg.refl [] W2 | exact (Chg.refl [] W2).drew | exact Chg.alloc (by assumption) _ | exact (Chg.alloc (by assumption) _).drew | exact Chg.drew (by assumption))
                  (first
                  | (refine step_cat_r (by rfl) _ _ (by rfl) Try.underlying29 (by rfl) O1 (by rfl) (SrcR.dropN (k := k + 1) (by first | rfl | omega) hgk1) ⟨_, _, _, rfl⟩ (got.length - 1) (by simp; omega) (by omega) ?_; intro A2 k2 w2 O2 S2; have D2 : Chg [] W2 w2 := Chg.newP D1 S2.c F1; have F2 : ∀ j ∈ fpv (.slice A2 (got.length - 1) k2), W2.heap.size ≤ j := (fun j hj => by (rcases S2.f j hj with h1 | h1) <;> first | exact F1 j h1 | (have := D1.size; omega)))
                  | (refine step_cat_r (by rfl) _ _ (by rfl) Try.underlying29 (by rfl) (by first | exact OwnR.emptyAt (by simp) | exact (OwnR.emptyAt (by simp)).drew) (by rfl) ((HQ.out.2.2.chg0 (by assumption : Chg [] W2 _)).take (by omega)) ⟨_, _, _, rfl⟩ k (by simp; omega) (by omega) ?_; intro A1 k1 w1' O1 S1; have D1 : Chg [] W2 w1' := Chg.newP ‹Chg [] W2 _› S1.c (by intro j hj; have := fp_one hj; omega); have F1 : ∀ j ∈ fpv (.slice A1 k k1), W2.heap.size ≤ j := (fun j hj => by (rcases S1.f j hj with h1 | h1) <;> (first | (have := fp_one h1; omega) | (simp at h1; omega)))))
                all_goals (have HF := Lib.hid (And.intro O2 (And.intro D2 F2)); clear O2 D2 F2 O1 S1 D1 F1 S2)
                all_goals go_wp2_with fail
                all_goals (go_meet; exact ⟨_, _, rfl, HF.out.1, HF.out.2.1, HF.out.2.2⟩)
              · have hck2 : ¬ cg - (k + 1) = 0 := by omega
                go_region_held3 (fun w' => Chg [] W2 w') (first | (go_keep; done) | assumption | exact Chg.refl [] W2 | exact (Chg.refl [] W2).drew | exact Chg.alloc (by assumption) _ | exact (Chg.alloc (by assumption) _).drew | exact Chg.drew (by assumption))
                  (first
                  | (refine step_cat_r (by rfl) _ _ (by rfl) Try.underlying29 (by rfl) O1 (by rfl) ((HQ.out.2.2.chg0 D1).drop (k := k + 1) (by first | rfl | omega) (by first | rfl | omega)) ⟨_, _, _, rfl⟩ (got.length - 1) (by simp; omega) (by omega) ?_; intro A2 k2 w2 O2 S2; have D2 : Chg [] W2 w2 := Chg.newP D1 S2.c F1; have F2 : ∀ j ∈ fpv (.slice A2 (got.length - 1) k2), W2.heap.size ≤ j := (fun j hj => by (rcases S2.f j hj with h1 | h1) <;> first | exact F1 j h1 | (have := D1.size; omega)))
                  | (refine step_cat_r (by rfl) _ _ (by rfl) Try.underlying29 (by rfl) (by first | exact OwnR.emptyAt (by simp) | exact (OwnR.emptyAt (by simp)).drew) (by rfl) ((HQ.out.2.2.chg0 (by assumption : Chg [] W2 _)).take (by omega)) ⟨_, _, _, rfl⟩ k (by simp; omega) (by omega) ?_; intro A1 k1 w1' O1 S1; have D1 : Chg [] W2 w1' := Chg.newP ‹Chg [] W2 _› S1.c (by intro j hj; have := fp_one hj; omega); have F1 : ∀ j ∈ fpv (.slice A1 k k1), W2.heap.size ≤ j := (fun j hj => by (rcases S1.f j hj with h1 | h1) <;> (first | (have := fp_one h1; omega) | (simp at h1; omega)))))
                all_goals (have HF := Lib.hid (And.intro O2 (And.intro D2 F2)); clear O2 D2 F2 O1 S1 D1 F1 S2)
                all_goals go_wp2_with fail
                all_goals (go_meet; exact ⟨_, _, rfl, HF.out.1, HF.out.2.1, HF.out.2.2⟩)
            case rest =>
              obtain ⟨Aq, cq, rfl, O3, D3, F3⟩ := hcut
              obtain ⟨W3, rfl⟩ : ∃ W : World, W = wc := ⟨_, rfl⟩
              have M3 := HQ.out.1.turn (OwnT.of O3.o) ⟨D3.mono (by simp), fun j hj => .inr (F3 j hj)⟩ HX.out
              have B3 := D3.blk HQ.out.2.1 (by simp)
              have j0 : W3.cell? ⟨gr, 0, none⟩ = some (.int .i64 r.f) := B3.cellv 0 rfl
              have j1 : W3.cell? ⟨gr, 1, none⟩ = some (.int .i64 r.p) := B3.cellv 1 rfl
              have H3 := Lib.hid (And.intro M3 B3); clear M3 B3 O3 D3 F3
              go_wp2_with fail
              refine (free_i H3.out.1.P HL.out.ok (by omega) (r.f : Int) (r.p : Int)).mono ?_
              rintro e w7 ⟨c7, l7, v7, rfl, hs7, P7, K7⟩
              obtain ⟨rfl, L7, _⟩ := HL.out.back hs7
              have M7 := H3.out.1.page P7 K7
              have B7 := K7.blk H3.out.2 (by simp)
              have j2 : w7.cell? ⟨gr, 0, none⟩ = some (.int .i64 r.f) := B7.cellv 0 rfl
              have j3 : w7.cell? ⟨gr, 1, none⟩ = some (.int .i64 r.p) := B7.cellv 1 rfl
              have H7 := Lib.hid (And.intro M7 (And.intro L7 hs7)); clear M7 L7 B7 P7 K7 j0 j1 hs7
              go_wp2_with fail
              refine (free_i H7.out.1.P H7.out.2.1.ok (by omega) (r.f : Int) (r.p : Int)).mono ?_
              rintro e w8 ⟨c8, l8, v8, rfl, hs8, P8, K8⟩
              obtain ⟨_, rfl, L8⟩ := HL.out.twice H7.out.2.2 hs8
              have M8 := (H7.out.1.page P8 K8).less (Y := []) (by simp)
              have H8 := Lib.hid (And.intro M8 L8); clear M8 L8 P8 K8 hs8 j2 j3
              go_wp2_with fail
              go_roundg got.length
              case measure => omega
              case rel => exact ⟨_, _, _, _, by simp; omega, H8.out.1, H8.out.2, by simp; omega⟩
end Go.Proofs.Ytcmligooekbodaa
