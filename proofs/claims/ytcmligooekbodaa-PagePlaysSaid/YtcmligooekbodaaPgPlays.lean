/- The walk of PagePlays. -/
import Derived.Test.YtcmligooekbodaaPgHalf
import Derived.Deep.RegionHeld3
import Derived.Deep.CutBlock
namespace Go.Proofs.Ytcmligooekbodaa
open Go.RowKit

def PpRel (w0 : World) (g n rg A c m : Nat) (gk : Nat) (vg idx : Value) (w : World) : Prop :=
  ∃ i v l F got, gk + i = m + 1 ∧ i ≤ m ∧ idx = .int .i64 (i : Nat) ∧ PpI w0 [] g n v l rg A c F vg got w ∧ got.length ≤ i
def PpCut (w0 : World) (g n rg A c i : Nat) (vg : Value) (w : World) : Prop := ∃ go v l F got, PpI w0 [go] g n v l rg A c F vg got w ∧ got.length ≤ i + 1
set_option maxHeartbeats 6400000 in
set_option maxRecDepth 100000 in
theorem pplays_any (N : Int) (A0 : Option Addr) (c0 : Nat) (xs : List OpP) (w : World) (hA : OppsAt w w.heap.size A0 xs) (hl : xs.length ≤ maxLen) : Calls Try.prog 4 #[.int .i64 N, .slice A0 xs.length c0] w (TdPost w) := by
  unfold maxLen at hl
  have HA := Lib.hid hA; clear hA
  go_enter Try.func4, Try.ntmps4
  go_upto_region 2 with fail
  go_cut [23] from 18 to 23 (fun v wc => ∃ b, v = .bool b ∧ (b = false → -200 ≤ N ∧ N ≤ 200) ∧ wc = w)
  case first =>
    by_cases h1 : 200 < N
    · have d1 : decide (200 < N) = true := decide_eq_true h1
      go_wp2_with fail
      go_meet
      exact ⟨true, rfl, fun h => absurd h (by decide), rfl⟩
    · have d1 : decide (200 < N) = false := decide_eq_false h1
      by_cases h2 : N < -200
      · have d2 : decide (N < -200) = true := decide_eq_true h2
        go_wp2_with fail
        go_meet
        exact ⟨_, rfl, fun h => absurd h (by simp), rfl⟩
      · have d2 : decide (N < -200) = false := decide_eq_false h2
        go_wp2_with fail
        go_meet
        exact ⟨_, rfl, fun _ => ⟨by omega, by omega⟩, rfl⟩
  case rest =>
    obtain ⟨b, rfl, hb, rfl⟩ := hcut
    have HB := Lib.hid hb; clear hb
    obtain ⟨wz, rfl⟩ : ∃ wz : World, wz = wc := ⟨_, rfl⟩
    go_upto_if 23 with fail
    go_cut [5] from 18 to 23 (fun v wc => ∃ K : Int, v = .int .i64 K ∧ (-200 ≤ K ∧ K ≤ 200) ∧ wc = wz)
    case first =>
      cases b
      · have HK := Lib.hid (HB.out rfl)
        clear HB
        go_wp2_with fail
        go_meet
        exact ⟨N, rfl, HK.out, rfl⟩
      · go_wp2_with fail
        go_meet
        exact ⟨200, rfl, by omega, rfl⟩
    case rest =>
      obtain ⟨K, rfl, hK, rfl⟩ := hcut
      obtain ⟨wb, rfl⟩ : ∃ wb : World, wb = wc := ⟨_, rfl⟩
      go_wp2_with fail
      refine (new_ok _ K).mono ?_
      rintro e w1 ⟨g, v, rfl, I, C1, F1⟩
      have KN : Calls Try.prog 15 #[.int .i64 K] w1 (RnPost (newN K) w1) := by
        by_cases h : K ≤ 1
        · rw [show newN K = 1 by unfold newN; omega]; exact rnew1_ok w1 K h
        · obtain ⟨M, rfl⟩ : ∃ M : Nat, K = M := ⟨K.toNat, by omega⟩
          rw [show newN (M : Int) = M by unfold newN; omega]; exact rnew_ok w1 M (by omega) (by omega)
      have hn : 1 ≤ newN K ∧ newN K ≤ 200 := by unfold newN; omega
      have HI := Lib.hid (And.intro I (And.intro C1 F1)); clear I C1 F1
      go_wp2_with fail
      refine KN.mono ?_
      rintro e w2 ⟨rg, rfl, ⟨A, c, b1, b2, fA⟩, C2, fg⟩
      have J := PpI.start hn.1 HI.out.1 HI.out.2.1 HI.out.2.2 b1 b2 fA C2 fg
      generalize newN K = n at J hn
      have HJ := Lib.hid J; clear J b1 b2 fA C2 fg HI KN
      obtain ⟨m, hm⟩ : ∃ m, m = min xs.length 60 := ⟨_, rfl⟩
      have hm1 : m ≤ 60 := by omega
      have hm2 : m ≤ xs.length := by omega
      have HM := Lib.hid hm; clear hm
      go_wp2_with fail
      go_loopg [8, 9] (m + 1) (fun gk vg idx wr => PpRel wb g n rg A c m gk vg idx wr)
      case atStart => exact ⟨0, _, _, _, [], by omega, by omega, rfl, HJ.out, by simp⟩
      case round =>
        clear HJ
        obtain ⟨i, v, l, F, got, hgk, hin, rfl, P, hgl⟩ := hrel
        by_cases e : i < m
        · obtain ⟨o, ho⟩ : ∃ o, xs[i]? = some o := ⟨_, List.getElem?_eq_getElem (by omega)⟩
          obtain ⟨b, off, rfl, hbb, i0, i1, i2⟩ := HA.out.chg P.P.c i o ho
          have hi1 : (i : Int) < (xs.length : Int) := by omega
          have hi2 : (i : Int) < 60 := by omega
          have hi3 : i < xs.length := by omega
          have hi4 : i < 60 := by omega
          have hi0 : (0 : Int) ≤ (i : Int) := by omega
          obtain ⟨Ag, cg, rfl⟩ := P.o.slice
          have HP := Lib.hid P; clear ho
          go_upto_region 12 with fail
          have PB := HP.out.box (.cells #[.int .i64 o.k, .int .i64 o.f, .int .i64 o.n] 40)
          have BB := Blk.new wr 40 #[.int .i64 o.k, .int .i64 o.f, .int .i64 o.n]
          clear i0 i1 i2
          generalize (wr.alloc (.cells #[.int .i64 o.k, .int .i64 o.f, .int .i64 o.n] 40)) = W at PB BB ⊢
          generalize wr.heap.size = go at PB BB ⊢
          have HQ := Lib.hid (And.intro PB BB); clear PB BB P HP hi1 hi2
          have j0 : W.cell? ⟨go, 0, none⟩ = some (.int .i64 o.k) := HQ.out.2.cellv 0 rfl
          have j1 : W.cell? ⟨go, 1, none⟩ = some (.int .i64 o.f) := HQ.out.2.cellv 1 rfl
          have j2 : W.cell? ⟨go, 2, none⟩ = some (.int .i64 o.n) := HQ.out.2.cellv 2 rfl
          go_cut [11] from 44 to 48 (fun v wd => ∃ k : Int, v = .int .i64 k ∧ wd = W)
          case first =>
            go_wp2_with fail
            go_meet
            exact ⟨_, rfl, rfl⟩
          case rest =>
            obtain ⟨k, rfl, rfl⟩ := hcut
            obtain ⟨W, rfl⟩ : ∃ W : World, W = wc := ⟨_, rfl⟩
            go_upto_block 2 with fail
            go_cut [8, 12, 13, 14, 15, 16] from 49 to 127 (fun v _ _ _ _ _ wd => ∃ v' l' F' got', PpI wb [go] g n v' l' rg A c F' v got' wd ∧ got'.length ≤ i + 1)
            case first =>
              by_cases hk : k < 3
              · have dk : decide (k < 3) = true := decide_eq_true hk
                go_wp2_with fail
                refine (alloc_i HQ.out.1.P HQ.out.1.ok (by omega) o.n).mono ?_
                rintro e w3 ⟨a3, c3, l3, v3, rfl, s3, P3, K3⟩
                obtain ⟨r3, o3⟩ := HQ.out.1.page P3 K3
                have B3 := K3.blk HQ.out.2 (by simp)
                have q2 : w3.cell? ⟨go, 2, none⟩ = some (.int .i64 o.n) := B3.cellv 2 rfl
                have H3 := Lib.hid (And.intro s3 (And.intro P3 (And.intro r3 (And.intro o3 B3))))
                clear s3 P3 r3 o3 B3 K3
                go_wp2_with fail
                refine (ralloc_ok w3 rg A c n F l H3.out.2.2.1 HQ.out.1.ok HQ.out.1.say (by omega) o.n).mono ?_
                rintro e w4 ⟨a4, c4, l4, F4, rfl, s4, say4, r4, C4⟩
                obtain ⟨rfl, rfl, rfl⟩ := AllocSays.uniq H3.out.1 s4
                have P4 := HQ.out.1.both H3.out.2.1 H3.out.2.2.2.1 H3.out.2.2.1 r4 C4 (s4.okn HQ.out.1.ok) say4
                have hgA : go ≠ A := (Blk.ne_ H3.out.2.2.1.b2 H3.out.2.2.2.2 (by decide)).symm
                have B4 := C4.blk H3.out.2.2.2.2 (by simpa using hgA)
                have e1 : (a3 != a3) = false := by simp
                have e2 : (c3 != c3) = false := by simp
                have H4 := Lib.hid (And.intro P4 B4)
                clear P4 B4 r4 C4 say4 H3 hgA j0 j1 j2 q2
                rcases s4 with ⟨h1, rfl, rfl, rfl⟩ | ⟨h1, h2, rfl, rfl, rfl⟩ | ⟨h1, r, hr, rfl, rfl, rfl⟩
                · clear h1
                  go_wp2_with fail
                  go_meet
                  exact ⟨_, _, _, _, H4.out.1, by omega⟩
                · clear h1 h2
                  go_wp2_with fail
                  go_meet
                  exact ⟨_, _, _, _, H4.out.1, by omega⟩
                · obtain ⟨K, hK⟩ : ∃ K : Nat, o.n = K := ⟨o.n.toNat, by omega⟩
                  have q2 : w4.cell? ⟨go, 2, none⟩ = some (.int .i64 (K : Int)) := by rw [← hK]; exact H4.out.2.cellv 2 rfl
                  have hlen : got.length ≤ 1000000 := by omega
                  clear h1 hr hK
                  go_wp2_with (at_builtin; refine wpList_push_run rfl _ _ rfl Try.underlying29 rfl H4.out.1.o ⟨r.f, K⟩ rfl hlen ?_)
                  intro A' c' w5 O5 S5
                  have H5 := Lib.hid (H4.out.1.push O5 S5 (fun j hj => by
                    have e : j = go := by simpa using hj
                    rw [e]; exact ⟨H4.out.2.lt, H4.out.1.o.ne_blk H4.out.2 (by decide)⟩))
                  clear O5 S5
                  go_wp2_with fail
                  go_meet
                  exact ⟨_, _, _, _, H5.out, by simp; omega⟩
              · have dk : decide (k < 3) = false := decide_eq_false hk
                go_upto_region 23 with fail
                go_cut [107] from 108 to 114 (fun v wd => ∃ b, v = .bool b ∧ (b = false → 1 ≤ got.length) ∧ wd = W)
                case first =>
                  by_cases h3 : k = 3
                  · subst h3
                    go_wp2_with fail
                    go_meet
                    exact ⟨true, rfl, fun h => absurd h (by decide), rfl⟩
                  · have e3 : (k == 3) = false := by simp [h3]
                    by_cases h0 : got = []
                    · subst h0
                      go_wp2_with fail
                      go_meet
                      exact ⟨true, rfl, fun h => absurd h (by decide), rfl⟩
                    · have h1 : 1 ≤ got.length := List.length_pos_iff.2 h0
                      have HL := Lib.hid h1
                      go_wp2_with fail
                      go_meet
                      exact ⟨_, rfl, fun _ => HL.out, rfl⟩
                case rest =>
                  obtain ⟨b3, rfl, hb3, rfl⟩ := hcut
                  obtain ⟨W, rfl⟩ : ∃ W : World, W = wc := ⟨_, rfl⟩
                  cases b3
                  · have h0 := hb3 rfl
                    clear hb3 dk hk
                    obtain ⟨q, hq, eq0⟩ := mod_at o.f got.length h0 (by omega)
                    have eq1 : wrap64 ((IntKind.u64.wrap o.f).tmod (got.length : Int)) = (q : Int) := eq0
                    have hu : IntKind.u64.wrap (got.length : Int) = (got.length : Int) := by rw [IntKind.wrap_u64]; omega
                    have hz : ¬ got.length = 0 := by omega
                    have hz2 : ¬ got = [] := by intro e; rw [e] at h0; simp at h0
                    have hq' : (q : Int) < (got.length : Int) := by omega
                    obtain ⟨r, hr⟩ : ∃ x, got[q]? = some x := ⟨_, List.getElem?_eq_getElem hq⟩
                    obtain ⟨ga, rfl, q0, q1, -⟩ := HQ.out.1.o.cell hr
                    clear eq0 hr
                    go_upto_region 14 with fail
                    have PB := HQ.out.1.box1 (.cells #[.int .i64 r.f, .int .i64 r.p] 34)
                    have BB := Blk.new W 34 #[.int .i64 r.f, .int .i64 r.p]
                    clear q0 q1 eq1 hu hz hz2 hq hq' h0 j0 j1 j2
                    generalize (W.alloc (.cells #[.int .i64 r.f, .int .i64 r.p] 34)) = W2 at PB BB ⊢
                    generalize W.heap.size = gr at PB BB ⊢
                    have j0 : W2.cell? ⟨gr, 0, none⟩ = some (.int .i64 r.f) := BB.cellv 0 rfl
                    have j1 : W2.cell? ⟨gr, 1, none⟩ = some (.int .i64 r.p) := BB.cellv 1 rfl
                    obtain ⟨cc, lf, hs⟩ := FreeSays.ex n l r.f r.p
                    have HH := Lib.hid ((PB.half hs BB (by simp) (by decide)).drew)
                    have KF := Lib.hid (fun (b : Bool) (w' : World) (h : FbI wb [gr, go] g n l lf rg A c (.slice (some ⟨ga, 0, none⟩) got.length cg) got gr 34 #[.int .i64 r.f, .int .i64 r.p] false b w') => free_h hs (by omega) h)
                    have KB := Lib.hid (fun (b : Bool) (w' : World) (h : FbI wb [gr, go] g n l lf rg A c (.slice (some ⟨ga, 0, none⟩) got.length cg) got gr 34 #[.int .i64 r.f, .int .i64 r.p] b false w') => back_h hs (by omega) h)
                    clear PB BB
                    have k1 := HH.out
                    have e1 : (cc != cc) = false := by simp
                    go_region_held3 (fun w' => w'.cell? ⟨gr, 0, none⟩ = some (.int .i64 r.f) ∧ w'.cell? ⟨gr, 1, none⟩ = some (.int .i64 r.p)) (go_keep)
                      (first | (go_at_call 11; refine (KF.out _ _ (by assumption)).mono ?_; rintro e w' ⟨rfl, H5⟩; have z1 : w'.cell? ⟨gr, 0, none⟩ = some (.int .i64 r.f) := H5.B.cellv 0 rfl; have z2 : w'.cell? ⟨gr, 1, none⟩ = some (.int .i64 r.p) := H5.B.cellv 1 rfl) | (go_at_call 17; refine (KB.out _ _ (by assumption)).mono ?_; rintro e w' ⟨rfl, H5⟩; have z1 : w'.cell? ⟨gr, 0, none⟩ = some (.int .i64 r.f) := H5.B.cellv 0 rfl; have z2 : w'.cell? ⟨gr, 1, none⟩ = some (.int .i64 r.p) := H5.B.cellv 1 rfl))
                    all_goals (have HE := Lib.hid (FbI.full (by assumption)))
                    all_goals go_wp2_with fail
                    all_goals (go_meet; obtain ⟨v6, F6, P6⟩ := HE.out; exact ⟨_, _, _, _, P6.less (by simp), by omega⟩)
                  · clear hb3 dk hk
                    obtain ⟨cc, lf, hs⟩ := FreeSays.ex n l o.f o.n
                    have HH := Lib.hid ((HQ.out.1.half hs HQ.out.2 (by simp) (by decide)).drew)
                    have KF := Lib.hid (fun (b : Bool) (w' : World) (h : FbI wb [go] g n l lf rg A c (.slice Ag got.length cg) got go 40 #[.int .i64 o.k, .int .i64 o.f, .int .i64 o.n] false b w') => free_h hs (by omega) h)
                    have KB := Lib.hid (fun (b : Bool) (w' : World) (h : FbI wb [go] g n l lf rg A c (.slice Ag got.length cg) got go 40 #[.int .i64 o.k, .int .i64 o.f, .int .i64 o.n] b false w') => back_h hs (by omega) h)
                    go_upto_region 24 with fail
                    have k1 := HH.out
                    have e1 : (cc != cc) = false := by simp
                    go_region_held3 (fun w' => w'.cell? ⟨go, 1, none⟩ = some (.int .i64 o.f) ∧ w'.cell? ⟨go, 2, none⟩ = some (.int .i64 o.n)) (go_keep)
                      (first | (go_at_call 11; refine (KF.out _ _ (by assumption)).mono ?_; rintro e w' ⟨rfl, H5⟩; have z1 : w'.cell? ⟨go, 1, none⟩ = some (.int .i64 o.f) := H5.B.cellv 1 rfl; have z2 : w'.cell? ⟨go, 2, none⟩ = some (.int .i64 o.n) := H5.B.cellv 2 rfl) | (go_at_call 17; refine (KB.out _ _ (by assumption)).mono ?_; rintro e w' ⟨rfl, H5⟩; have z1 : w'.cell? ⟨go, 1, none⟩ = some (.int .i64 o.f) := H5.B.cellv 1 rfl; have z2 : w'.cell? ⟨go, 2, none⟩ = some (.int .i64 o.n) := H5.B.cellv 2 rfl))
                    all_goals (have HE := Lib.hid (FbI.full (by assumption)))
                    all_goals go_wp2_with fail
                    all_goals (go_meet; obtain ⟨v6, F6, P6⟩ := HE.out; exact ⟨_, _, _, _, P6, by omega⟩)
            case rest =>
              obtain ⟨v', l', F', got', P', hgl'⟩ := hcut
              obtain ⟨W5, rfl⟩ : ∃ W : World, W = wc := ⟨_, rfl⟩
              clear j0 j1 j2 HQ
              have HP := Lib.hid P'; clear P'
              go_wp2_with fail
              refine (runs_ok W5 g n v' l' HP.out.P.I (okn_len6 HP.out.ok (by omega))).mono ?_
              rintro e w6 ⟨vr, rfl, ho6, c6, f6⟩
              have H6 := Lib.hid (And.intro (HP.out.chg0 c6) (OwnR.mk ho6)); clear ho6 c6 f6
              go_wp2_with fail
              refine (rruns_ok w6 rg A c n F' H6.out.1.r (by omega)).mono ?_
              rintro e w7 ⟨vq, rfl, o7, c7, f7⟩
              rw [runs_eq H6.out.1.ok H6.out.1.say] at o7
              have H7 := Lib.hid (And.intro (H6.out.1.chg0 c7) (And.intro (H6.out.2.chg0 c7) o7)); clear o7 c7 f7
              go_wp2_with fail
              refine (cmp_ok w7 vr vq l' H7.out.2.1 H7.out.2.2 (okn_len6 H7.out.1.ok (by omega))).mono ?_
              rintro e w8 ⟨rfl, m8, rfl⟩
              have H8 := Lib.hid (H7.out.1.chg0 ((Chg.refl [] w7).drewN m8))
              go_wp2_with fail
              refine (left_ok _ g n v' l' H8.out.P.I (okn_len6 H8.out.ok (by omega)) (okn_sum H8.out.ok (by omega))).mono ?_
              rintro e w9 ⟨rfl, c9⟩
              have H9 := Lib.hid (H8.out.chg0 c9); clear c9
              go_wp2_with fail
              refine (rleft_ok w9 rg n F' ⟨A, c, H9.out.r.b1, H9.out.r.b2⟩ (by omega)).mono ?_
              rintro e w10 ⟨rfl, c10⟩
              have H10 := Lib.hid (H9.out.chg0 c10).unbox; clear c10
              have es : ((List.range n).filter F').length = sumR l' := by rw [← runs_sum, runs_eq H9.out.ok H9.out.say]
              rw [es]
              have e1 : ((sumR l' : Int) != (sumR l' : Int)) = false := by simp
              clear es
              go_wp2_with fail
              go_roundg (m - i)
              case measure => omega
              case rel => exact ⟨i + 1, _, _, _, _, by omega, by omega, by go_num, H10.out, by omega⟩
        · have hd : decide ((i : Int) < (xs.length : Int) ∧ (i : Int) < 60) = false := decide_eq_false (by have := HM.out; omega)
          have HP := Lib.hid P.P.c; clear P
          by_cases h60 : i < xs.length
          · have d1 : decide ((i : Int) < (xs.length : Int)) = true := decide_eq_true (by omega)
            have d2 : decide ((i : Int) < 60) = false := decide_eq_false (by have := HM.out; omega)
            have d1' : decide (i < xs.length) = true := decide_eq_true h60
            have d2' : decide (i < 60) = false := decide_eq_false (by have := HM.out; omega)
            go_wp2_with fail
            refine (told_ok _).mono ?_
            rintro e w5 ⟨rfl, C5⟩
            go_wp2_with fail
            go_ret
            exact ⟨rfl, HP.out.trans C5⟩
          · have d1 : decide ((i : Int) < (xs.length : Int)) = false := decide_eq_false (by omega)
            have d1' : decide (i < xs.length) = false := decide_eq_false h60
            go_wp2_with fail
            refine (told_ok _).mono ?_
            rintro e w5 ⟨rfl, C5⟩
            go_wp2_with fail
            go_ret
            exact ⟨rfl, HP.out.trans C5⟩
end Go.Proofs.Ytcmligooekbodaa
