/- The walk of ArenaDrops. -/
import Derived.Test.YtkocikpoagfonaaGreatDoorDrLaw
import Derived.Test.YtkocikpoagfonaaGreatDoorMSer
import Derived.Test.YtkocikpoagfonaaGreatDoorSps
import Derived.Test.YtkocikpoagfonaaGreatDoorAqR
import Derived.Deep.RegionHeld3
namespace Go.Proofs.YtkocikpoagfonaaGreatDoor
open Go.RowKit

section
variable {w0 w : World} {g N b : Nat} {h : ArH} {a : Ar} (S : ArS w0 w g h a N b)
include S
omit S in
theorem sp_of {id : Nat} {s : Sp} (hs : a.sp id = some s) : spI a (id : Nat) = some s := by unfold spI; rw [if_pos (by omega), Int.toNat_natCast]; exact hs
omit S in
theorem sp_none {id : Nat} (hs : a.sp id = none) : spI a (id : Nat) = none := by unfold spI; rw [if_pos (by omega), Int.toNat_natCast]; exact hs
theorem s_class_some {id : Nat} {s : Sp} (hs : a.sp id = some s) (hN : N ≤ 1000000) : Calls Tryz.prog 9 #[.pointer (some ⟨g, 0, none⟩), .int .i64 (id : Nat)] w (QuPost (.int .i64 (s.k : Nat)) w) := by
  have hlt := S.I.ok.top id s hs
  have h1 := s_class S (id : Nat) (by unfold Wf64; omega)
  rw [sp_of hs] at h1
  exact h1
theorem s_class_none {id : Nat} (hid : id ≤ 1000000) (hs : a.sp id = none) : Calls Tryz.prog 9 #[.pointer (some ⟨g, 0, none⟩), .int .i64 (id : Nat)] w (QuPost (.int .i64 (-1)) w) := by
  have h1 := s_class S (id : Nat) (by unfold Wf64; omega)
  rw [sp_none hs] at h1
  exact h1
theorem s_full_no (T0 : Tab w0) {id : Nat} {s : Sp} (hs : a.sp id = some s) (hN : N ≤ 1000000) (hf : ¬ fullS s) : Calls Tryz.prog 10 #[.pointer (some ⟨g, 0, none⟩), .int .i64 (id : Nat)] w (NwPost (.bool false) w) := by
  have hlt := S.I.ok.top id s hs
  refine (s_full S T0 (id : Nat) (by unfold Wf64; omega)).mono ?_
  rintro e w' ⟨bo, rfl, c, hbo⟩
  refine ⟨?_, c⟩
  cases bo
  · rfl
  · exact absurd (hbo.1 rfl s (sp_of hs)) hf
theorem s_full_none (T0 : Tab w0) {id : Nat} (hid : id ≤ 1000000) (hs : a.sp id = none) : Calls Tryz.prog 10 #[.pointer (some ⟨g, 0, none⟩), .int .i64 (id : Nat)] w (NwPost (.bool true) w) := by
  refine (s_full S T0 (id : Nat) (by unfold Wf64; omega)).mono ?_
  rintro e w' ⟨bo, rfl, c, hbo⟩
  have : bo = true := hbo.2 (fun s hs' => by rw [sp_none hs] at hs'; cases hs')
  exact ⟨by rw [this], c⟩
set_option maxHeartbeats 1600000 in
set_option maxRecDepth 100000 in
theorem s_drop_none {id : Nat} (hid : id ≤ 1000000) (hs : a.sp id = none) : Calls Tryz.prog 13 #[.pointer (some ⟨g, 0, none⟩), .int .i64 (id : Nat)] w (NwPost (.int .i64 4) w) := by
  obtain rfl : h.ga = g := S.ga
  have b1 : w.cell? ⟨h.ga, 1, none⟩ = some (.map (some h.bs)) := S.M.b.cellv 1 rfl
  have hl := sp_look S (id : Nat) (by unfold Wf64; omega)
  rw [spV_I, sp_none hs] at hl
  have hl' : (Instr.lookup 60 (.map (some h.bs)) (.int .i64 (id : Nat)) false).run Tryz.prog w = .ok (.pointer none) w := hl
  clear hl S hs
  go_enter Tryz.func13, Tryz.ntmps13
  go_wp2_with fail
  go_ret
  exact ⟨rfl, Chg.refl _ _⟩
end
def clD (xs : List Int) (j : Nat) : Nat := (wrap64 ((IntKind.u64.wrap (xs.getD j 0)).tmod 16)).toNat
def DpRel (W : World) (g m : Nat) (cl : Nat → Nat) (gk : Nat) (pg idx : Value) (w : World) : Prop :=
  ∃ i h a f p, gk + i = m + 1 ∧ i ≤ m ∧ pg = .int .i64 (p : Nat) ∧ idx = .int .i64 (i : Nat) ∧ ArS W w g h a i (6 * i) ∧ SerD a i f p cl
theorem ints_keep2 {W w : World} {A : Option Addr} {xs : List Int} (h : IntsAt W W.heap.size A xs) (c : Chg [] W w) {i : Nat} {x : Int} (hx : xs[i]? = some x) : ∃ b off, A = some ⟨b, off, none⟩ ∧ b < W.heap.size ∧ w.cell? ⟨b, off + i, none⟩ = some (.int .i64 x) := by
  obtain ⟨b, off, e, hb, hc⟩ := h i x hx
  exact ⟨b, off, e, hb, c.cellv hb (by simp) hc⟩
set_option maxHeartbeats 6400000 in
set_option maxRecDepth 100000 in
theorem drops_any (A : Option Addr) (c : Nat) (xs : List Int) (wh cz : Int) (W : World) (T0 : Tab W) (hA : IntsAt W W.heap.size A xs) (hm : xs.length ≤ maxLen) : Calls Tryz.prog 3 #[.slice A xs.length c, .int .i64 wh, .int .i64 cz] W (TdPost W) := by
  have HT := Lib.hid (And.intro T0 hA); clear T0 hA
  by_cases hl : xs.length = 0 ∨ 12 < xs.length
  · rcases hl with h0 | h0
    · have d1 : ((xs.length : Int) == 0) = true := by rw [beq_iff_eq]; omega
      go_enter Tryz.func3, Tryz.ntmps3
      go_wp2_with fail
      refine (told_ok W HT.out.1).mono ?_
      rintro e w1 ⟨rfl, c1⟩
      have HC := Lib.hid c1; clear c1
      go_wp2_with fail
      go_ret
      exact ⟨rfl, HC.out⟩
    · have d1 : ((xs.length : Int) == 0) = false := by rw [beq_eq_false_iff_ne]; omega
      have d2 : (12 : Int) < (xs.length : Int) := by omega
      have d3 : ¬ xs.length = 0 := by omega
      have d4 : ¬ xs = [] := fun e => d3 (by rw [e]; rfl)
      go_enter Tryz.func3, Tryz.ntmps3
      go_wp2_with fail
      refine (told_ok W HT.out.1).mono ?_
      rintro e w1 ⟨rfl, c1⟩
      have HC := Lib.hid c1; clear c1
      go_wp2_with fail
      go_ret
      exact ⟨rfl, HC.out⟩
  · have d1 : ((xs.length : Int) == 0) = false := by rw [beq_eq_false_iff_ne]; omega
    have d2 : ¬ (12 : Int) < (xs.length : Int) := by omega
    have d3 : ¬ xs.length = 0 := by omega
    have d4 : ¬ 12 < xs.length := by omega
    have d5 : ¬ xs = [] := fun e => d3 (by rw [e]; rfl)
    have hm1 : 1 ≤ xs.length := by omega
    have hm12 : xs.length ≤ 12 := by omega
    clear hl hm
    obtain ⟨k, hk, ek0⟩ := mod_n wh xs.length hm1 (by omega)
    obtain ⟨q9, hq9, eq9⟩ := mod_n cz 16 (by decide) (by decide)
    have eq9' : wrap64 ((IntKind.u64.wrap cz).tmod 16) = (q9 : Int) := eq9
    have HE := Lib.hid (And.intro ek0 eq9'); clear ek0 eq9 eq9'
    go_enter Tryz.func3, Tryz.ntmps3
    go_wp2_with fail
    refine (s_new W 256 16384 (by decide) (by decide) (by decide)).mono ?_
    rintro e w1 ⟨g, h1, rfl, S⟩
    have S1 := Lib.hid S; clear S
    clear d1 d2 d3 d4 d5
    go_wp2_with fail
    go_loopg [9, 10] (xs.length + 1) (fun gk pg idx wr => DpRel W g xs.length (clD xs) gk pg idx wr)
    case atStart => exact ⟨0, h1, newA 256, 1, 255, by omega, by omega, rfl, rfl, S1.out, SerD.new _⟩
    case round =>
      clear S1 h1
      obtain ⟨i, h, a, f, p, hgk, hi, rfl, rfl, J, R⟩ := hrel
      have hps := R.s
      have hpf := R.f
      by_cases e : i < xs.length
      · obtain ⟨z, hz⟩ : ∃ z, xs[i]? = some z := ⟨xs[i], List.getElem?_eq_getElem e⟩
        obtain ⟨ba, off, rfl, -, hb1⟩ := ints_keep2 HT.out.2 J.c hz
        have hi' : (i : Int) < (xs.length : Int) := by omega
        have hi0 : (0 : Int) ≤ (i : Int) := by omega
        obtain ⟨q, hq16, eq0⟩ := mod_n z 16 (by decide) (by decide)
        have eq1 : wrap64 ((IntKind.u64.wrap z).tmod 16) = (q : Int) := eq0
        have hcl : clD xs i = q := by
          unfold clD
          rw [List.getD_eq_getElem?_getD, hz, Option.getD_some, eq1, Int.toNat_natCast]
        have EN := Lib.hid (And.intro eq1 hcl); clear eq0 eq1 hcl hz
        have HJ := Lib.hid (And.intro J R); clear J R
        have hpg := (kF hq16).2.2.2.2.2.1
        have hsl := (kF hq16).2.2.2.2.2.2.2.1
        go_upto_region 11 with fail
        rw [EN.out.1]
        go_wp2_with fail
        refine (s_span_next HJ.out.1 (by omega) (by omega) (q := q) (f := f) (p := p) hq16 HJ.out.2.l (by omega) HJ.out.2.ne).mono ?_
        rintro e2 w3 ⟨h3, rfl, S, hnone, st3⟩
        obtain ⟨a3, ha3⟩ : ∃ a3, a3 = spanA a [⟨f + pgK q, p - pgK q⟩] i q f := ⟨_, rfl⟩
        rw [← ha3] at S
        have hs3 : a3.sp i = some (spn f q) := by rw [ha3]; show updF a.sp i (some (spn f q)) i = _; exact updF_same _ _ _
        have R3 : SerD a3 (i + 1) (f + pgK q) (p - pgK q) (clD xs) := by rw [ha3]; exact HJ.out.2.span hq16 (by omega) EN.out.2
        have hsum : sumR a3.l = p - pgK q := by rw [R3.l]; simp [sumR]
        have hll : a3.l.length = 1 := by rw [R3.l]; rfl
        obtain ⟨u, hu⟩ : ∃ u, u = pgK q := ⟨_, rfl⟩
        rw [← hu] at R3 hsum hpg
        have H3 := Lib.hid (And.intro S (And.intro R3 (And.intro hs3 (And.intro hsum (And.intro hll hu))))); clear S st3 ha3 hs3 R3 hnone hsum hll hu
        go_wp2_with fail
        refine (rpages_ok w3 q hq16).mono ?_
        rintro e3 w4 ⟨rfl, c4⟩
        rw [← H3.out.2.2.2.2.2]
        have S4 := Lib.hid (H3.out.1.chg0 c4); clear c4
        have hew : (p : Int) - (u : Int) = ((p - u : Nat) : Int) := by omega
        have hew2 : wrap64 ((p : Int) - (u : Int)) = ((p - u : Nat) : Int) := by unfold wrap64; omega
        have HW := Lib.hid (And.intro hew hew2); clear hew hew2
        go_upto_region 13 with fail
        first | rw [HW.out.2] | rw [HW.out.1]
        go_wp2_with fail
        refine (s_class_some S4.out H3.out.2.2.1 (by omega)).mono ?_
        rintro e5 w5 ⟨rfl, rfl⟩
        have hk9 : (spn f q).k = q := rfl
        rw [hk9]
        have hqq : ((q : Int) != (q : Int)) = false := by simp
        go_wp2_with fail
        refine (s_full_no S4.out HT.out.1 H3.out.2.2.1 (by omega) (fullS_spt (spn_spt f q) hq16 rfl)).mono ?_
        rintro e6 w6 ⟨rfl, c6⟩
        have S6 := Lib.hid (S4.out.chg0 c6); clear c6
        go_wp2_with fail
        refine (s_left S6.out (by rw [H3.out.2.2.2.2.1]; decide) (by rw [H3.out.2.2.2.1]; omega)).mono ?_
        rintro e7 w7 ⟨rfl, c7⟩
        rw [H3.out.2.2.2.1]
        have S7 := Lib.hid (S6.out.chg0 c7); clear c7
        have hpp : (((p - u : Nat) : Int) != ((p - u : Nat) : Int)) = false := by simp
        go_wp2_with fail
        go_roundg (xs.length - i)
        case measure => omega
        case rel => exact ⟨i + 1, h3, a3, _, _, by omega, by omega, rfl, by go_num, ⟨S7.out.M, S7.out.I, S7.out.far, S7.out.c, S7.out.ga, Nat.le_trans S7.out.m (by omega)⟩, H3.out.2.1⟩
      · obtain rfl : i = xs.length := by omega
        have hi' : ¬ (xs.length : Int) < (xs.length : Int) := by omega
        obtain ⟨s, hs, hsk, P⟩ := R.sp k hk
        have hkq : s.k < 16 := (J.I.ok.pg k s hs).1
        have hsl := (kF hkq).2.2.2.2.2.2.2.1
        have hsz := (kF hkq).2.2.1
        have hu : IntKind.u64.wrap (xs.length : Int) = (xs.length : Int) := by rw [IntKind.wrap_u64]; omega
        have hnb := (J.I.ok.pg k s hs).2.2.1
        have hnb2 := J.I.ok.n
        have HJ := Lib.hid (And.intro J (And.intro R (And.intro hs (And.intro hsk P)))); clear J R hs hsk P e hgk hi
        have hx0 : ¬ xs.length = 0 := by omega
        have hx1 : ¬ (xs.length : Int) = 0 := by omega
        have hx2 : ¬ xs = [] := fun e => hx0 (by rw [e]; rfl)
        go_upto_region 16 with fail
        rw [HE.out.1]
        clear hu hx0 hx1 hx2
        go_wp2_with fail
        refine (s_alloc_first HJ.out.1 HT.out.1 (by omega) (by omega) (id := k) (n := 1) (s := s) HJ.out.2.2.1 HJ.out.2.2.2.2.fr (by rw [HJ.out.2.2.2.2.F]; rfl) (by decide) hsz false).mono ?_
        rintro e2 w2 ⟨h2, rfl, S, -⟩
        obtain ⟨a5, ha5⟩ : ∃ a5, a5 = allocA a k s 0 1 false := ⟨_, rfl⟩
        rw [← ha5] at S
        obtain ⟨t1, ht1⟩ : ∃ t1, t1 = allocS s 0 false := ⟨_, rfl⟩
        have hs5 : a5.sp k = some t1 := by rw [ha5, ht1]; show updF a.sp k (some (allocS s 0 false)) k = _; exact updF_same _ _ _
        have hs5' : ∀ j, j ≠ k → a5.sp j = a.sp j := fun j hj => by rw [ha5]; show updF a.sp k (some (allocS s 0 false)) j = _; exact updF_other _ _ hj
        have hl5 : a5.l = a.l ∧ a5.n = a.n := by rw [ha5]; exact ⟨rfl, rfl⟩
        have P1 : Spt t1 true false := by rw [ht1]; exact HJ.out.2.2.2.2.alloc false
        have hk1 : t1.k = s.k ∧ t1.first = s.first := by rw [ht1]; exact ⟨rfl, rfl⟩
        obtain ⟨x, hx⟩ : ∃ x, x = s.addr 0 := ⟨_, rfl⟩
        have hx1 : t1.addr 0 = x := by rw [ht1, hx]; rfl
        have hxb : x < 16777216 := by
          have := Sp.addr_page hkq hsl
          omega
        rw [← hx]
        have H5 := Lib.hid (And.intro S (And.intro hs5 (And.intro hs5' (And.intro hl5 (And.intro P1 (And.intro hk1 hx1)))))); clear S hs5 hs5' hl5 P1 hk1 hx1 ht1 ha5 hx
        have hkN : xs.length ≤ 1000000 := by omega
        go_wp2_with fail
        refine (s_drop_no H5.out.1 H5.out.2.1 hkN (cnt_pos (i := 0) (by rw [H5.out.2.2.2.2.2.1.1]; exact hsl) (by rw [H5.out.2.2.2.2.1.F]; rfl))).mono ?_
        rintro e3 w3 ⟨rfl, c3⟩
        have S3 := Lib.hid (H5.out.1.chg0 c3); clear c3
        go_wp2_with fail
        refine (s_sweep S3.out HT.out.1 (by omega) H5.out.2.1).mono ?_
        rintro e4 w4 ⟨v4, h4, rfl, O, -, nf, S, -⟩
        have hsw : sweptL t1 = [0] := H5.out.2.2.2.2.1.swept (by rw [H5.out.2.2.2.2.2.1.1]; exact hkq)
        rw [hsw] at O S nf
        have O4 : OwnI 3 w4 v4 [((x : Nat) : Int)] := by
          have e1 : intsN (List.map t1.addr [0]) = [((x : Nat) : Int)] := by
            show [((t1.addr 0 : Nat) : Int)] = _
            rw [H5.out.2.2.2.2.2.2]
          rw [e1] at O; exact O
        obtain ⟨a7, ha7⟩ : ∃ a7, a7 = sweepA a5 k t1 1 := ⟨_, rfl⟩
        have S' : ArS W w4 g h4 a7 xs.length (6 * xs.length + 1) := by rw [ha7]; exact S
        obtain ⟨t2, ht2⟩ : ∃ t2, t2 = sweptS t1 := ⟨_, rfl⟩
        have hs7 : a7.sp k = some t2 := by rw [ha7, ht2]; show updF a5.sp k (some (sweptS t1)) k = _; exact updF_same _ _ _
        have hs7' : ∀ j, j ≠ k → a7.sp j = a.sp j := fun j hj => by rw [ha7]; show updF a5.sp k (some (sweptS t1)) j = _; rw [updF_other _ _ hj]; exact H5.out.2.2.1 j hj
        have hl7 : a7.l = a.l ∧ a7.n = a.n := by rw [ha7]; exact H5.out.2.2.2.1
        have P2 : Spt t2 false false := by rw [ht2]; exact H5.out.2.2.2.2.1.sweep
        have hk2 : t2.k = s.k ∧ t2.first = s.first := by rw [ht2]; exact H5.out.2.2.2.2.2.1
        obtain ⟨A4, c4, rfl⟩ : ∃ A4 c4, v4 = .slice A4 1 c4 := O4.slice
        have H7 := Lib.hid (And.intro S' (And.intro hs7 (And.intro hs7' (And.intro hl7 (And.intro P2 (And.intro hk2 O4)))))); clear S S' O O4 nf hsw hs7 hs7' hl7 P2 hk2 ht2 ha7
        obtain ⟨z, hz⟩ : ∃ z, xs[k]? = some z := ⟨xs[k], List.getElem?_eq_getElem hk⟩
        obtain ⟨ba, off, rfl, hbW, hcW⟩ := ints_keep2 HT.out.2 (Chg.refl [] W) hz
        obtain ⟨q1, hq1, eq1⟩ := mod_n z 16 (by decide) (by decide)
        have eq2 : wrap64 ((IntKind.u64.wrap z).tmod 16) = (s.k : Int) := by
          have e1 := HJ.out.2.2.2.1
          unfold clD at e1
          rw [List.getD_eq_getElem?_getD, hz, Option.getD_some] at e1
          have e2 : wrap64 ((IntKind.u64.wrap z).tmod 16) = (q1 : Int) := eq1
          rw [e2, Int.toNat_natCast] at e1
          rw [e2, e1]
        have hc0 : cntF t2.F (slK t2.k) = 0 := H7.out.2.2.2.2.1.none_ rfl _
        have hki : (k : Int) < (xs.length : Int) := by omega
        have hk0 : (0 : Int) ≤ (k : Int) := by omega
        have eq3 : IntKind.i64.wrap ((IntKind.u64.wrap z).tmod 16) = (s.k : Int) := by
          have e1 := eq2
          unfold wrap64 at e1
          rw [IntKind.wrap_i64]; omega
        have hsl7 : sumR a7.l = p := by rw [H7.out.2.2.2.1.1, HJ.out.2.1.l]; simp [sumR]
        have hsumD : ∀ l8, FreeSays a7.n a7.l (t2.first : Nat) (pgK t2.k : Nat) 0 l8 → sumR (dropA a7 k t2 l8).l = p + pgK s.k := fun l8 h8 => by
          have h9 := (H7.out.1.I.drop H7.out.2.1 hc0 h8).2.2.1
          rw [hsl7, H7.out.2.2.2.2.2.1.1] at h9
          exact h9
        have HK := Lib.hid (And.intro hc0 (And.intro eq2 eq3)); clear hz eq1 hc0 hq1 eq2 eq3 hsl7
        have HD := Lib.hid hsumD; clear hsumD
        have k4 : Chg [] W w4 := H7.out.1.c
        have c4 : w4.cell? ⟨ba, off + k, none⟩ = some (.int .i64 z) := k4.cellv hbW (by simp) hcW
        go_upto_region 20 with fail
        go_region_held3 (fun w' => w'.cell? ⟨ba, off + k, none⟩ = some (.int .i64 z) ∧ Chg [] W w')
          (first
            | (go_keep; done)
            | ((refine ⟨Chg.cellv (S := []) (a := W) ?_ hbW (by simp) hcW, ?_⟩ <;> repeat (first | assumption | refine Chg.drew ?_ | refine Chg.alloc ?_ _)); done))
          (first
            | (go_at_call 15; refine (ints_ok _ _ _ [((x : Nat) : Int)] [((x : Nat) : Int)] (OwnI.rd (OwnI.chg0 H7.out.2.2.2.2.2.2 (by repeat (first | assumption | exact Chg.refl [] w4 | refine Chg.drew ?_ | refine Chg.alloc ?_ _)))) (by first | exact RdI.blk (xs := [((x : Nat) : Int)]) (Blk.new _ _ _).drew (by simp) | exact RdI.blk (xs := [((x : Nat) : Int)]) (Blk.new _ _ _) (by simp))).mono ?_; rintro e w' hB; obtain ⟨rfl, cI⟩ := hB.chg; rw [decide_eq_true (Eq.refl [((x : Nat) : Int)])]; have SI := ArS.chg0 H7.out.1 (Chg.trans (by repeat (first | assumption | exact Chg.refl [] w4 | refine Chg.drew ?_ | refine Chg.alloc ?_ _)) cI); have kI : Chg [] W w' := SI.c)
            | (go_at_call 13; refine (s_drop_none SD (by omega) (by exact updF_same _ _ _)).mono ?_; rintro e w' ⟨rfl, cE⟩; have SE := ArS.chg0 SD cE; have kE : Chg [] W w' := SE.c)
            | (go_at_call 13; refine (s_drop_yes SI H7.out.2.1 hkN HK.out.1).mono ?_; rintro e w' ⟨h8, l8, rfl, hs8, SD, stD⟩; have kD : Chg [] W w' := SD.c)
            | (go_at_call 9; refine (s_class_none SE (by omega) (by exact updF_same _ _ _)).mono ?_; rintro e w' ⟨rfl, rfl⟩)
            | (go_at_call 10; refine (s_full_none SE HT.out.1 (by omega) (by exact updF_same _ _ _)).mono ?_; rintro e w' ⟨rfl, cF⟩; have SF := ArS.chg0 SE cF; have kF' : Chg [] W w' := SF.c)
            | (go_at_call 11; refine (s_left SF (okn_len6 SF.I.ok.ok SF.I.ok.n) (by have h1 := sum_bd SF.I.ok.ok.1; have h2 := SF.I.ok.ok.2; have h3 := SF.I.ok.n; omega)).mono ?_; rintro e w' ⟨rfl, cG⟩; rw [HD.out _ hs8]; have SG := ArS.chg0 SF cG; have kG : Chg [] W w' := SG.c)
            | (go_at_call 8; (first | rw [HK.out.2.2] | rw [HK.out.2.1]); refine (rpages_ok _ s.k hkq).mono ?_; rintro e w' ⟨rfl, cH⟩; have SH := ArS.chg0 SG cH; have kH : Chg [] W w' := SH.c))
        obtain ⟨D, hD⟩ : ∃ D, D = dropA a7 k t2 l8 := ⟨_, rfl⟩
        have hDk : D.sp k = none := by rw [hD]; show updF a7.sp k none k = none; exact updF_same _ _ _
        have hDj : ∀ j, j ≠ k → D.sp j = a.sp j := fun j hj => by rw [hD]; show updF a7.sp k none j = _; rw [updF_other _ _ hj]; exact H7.out.2.2.1 j hj
        have SD' : ArS W w' g h8 D xs.length (6 * xs.length + 1) := by rw [hD]; exact SH
        have hDs : ∀ j s, D.sp j = some s → ∃ M, Spt s false M := fun j s' hs' => by
          have hjk : j ≠ k := fun e => by rw [e, hDk] at hs'; cases hs'
          have hjm := SD'.I.ok.top j s' hs'
          rw [hDj j hjk] at hs'
          obtain ⟨s2, h2, -, h3⟩ := HJ.out.2.1.sp j hjm
          rw [hs'] at h2; injection h2 with h2; subst h2
          exact ⟨false, h3⟩
        have hDr : ∃ r ∈ D.l, p ≤ r.p := by
          refine run_of SD'.I.ok.ok (f := f) (by omega) (fun y h1 h2 => ?_)
          have hfr := (H7.out.1.I.drop H7.out.2.1 HK.out.1 hs8).2.2.2 y
          rw [hD]
          refine hfr.2 (.inl ?_)
          rw [H7.out.2.2.2.1.1, HJ.out.2.1.l]
          exact ⟨⟨f, p⟩, by simp, h1, h2⟩
        have hp4 : 200 ≤ p := by omega
        have HF := Lib.hid (And.intro SD' (And.intro hDk (And.intro hDj (And.intro hDs hDr)))); clear SD' hDk hDj hDs hDr hD SI SD SE SF SG SH kI kD kE kF' kG kH cI cE cF cG cH hs8 stD hB
        have hwr : IntKind.i64.wrap ((p : Int) + ((pgK s.k : Nat) : Int)) = (p : Int) + ((pgK s.k : Nat) : Int) := by
          have := (kF hkq).2.2.2.2.2.1
          rw [IntKind.wrap_i64]; omega
        go_wp2_with fail
        clear hwr
        have hob : obI D (x : Nat) = none := by rw [obI_nat]; exact none_at HF.out.1.I.ok HF.out.2.2.2.1 x
        refine (s_find HF.out.1 hkN (x : Nat) (by unfold Wf64; omega)).mono ?_
        rintro e8 w8 ⟨c8, ⟨-, rfl⟩ | ⟨_, _, hsm, -⟩⟩
        · have S8 := Lib.hid (HF.out.1.chg0 (c8.trans ((Chg.refl [] w8).alloc (.cells #[.int .i64 0, .int .i64 0] 38)))); clear c8
          go_wp2_with fail
          have hLn := s_len S8.out (x : Nat) (by unfold Wf64; omega)
          rw [hob] at hLn
          refine hLn.mono ?_
          clear hLn
          rintro e9 w9 ⟨rfl, rfl⟩
          have h00 : ((([] : List Int).length : Nat) : Int) = 0 := rfl
          go_wp2_with fail
          rw [HE.out.2]
          refine (s_span S8.out (by omega) (by omega) q9 hq9).mono ?_
          rintro e10 w10 ⟨x1, cc, l1, hs1, h10⟩
          have hcc : cc = 0 := by
            obtain ⟨r, hr, hrp⟩ := HF.out.2.2.2.2
            have hpg := (kF hq9).2.2.2.2
            rcases hs1 with ⟨h, -⟩ | ⟨-, h, -⟩ | ⟨-, _, -, -, h, -⟩
            · omega
            · have := h r hr; omega
            · exact h
          rcases h10 with ⟨h, -⟩ | ⟨-, f1, id, h11, -, hn1, hall, -, rfl, S, -⟩
          · exact absurd hcc h
          · have hid : id = k := by
              rcases Nat.lt_trichotomy id k with g1 | g1 | g1
              · have : D.sp id ≠ none := by rw [HF.out.2.2.1 id (by omega)]; exact HJ.out.2.1.ne id (by omega)
                exact absurd hn1 this
              · exact g1
              · exact absurd HF.out.2.1 (hall k g1)
            rw [hid] at S ⊢
            obtain ⟨E, hE⟩ : ∃ E, E = spanA D l1 k q9 f1 := ⟨_, rfl⟩
            rw [← hE] at S
            have hEk : E.sp k = some (spn f1 q9) := by rw [hE]; show updF D.sp k (some (spn f1 q9)) k = _; exact updF_same _ _ _
            have hEj : ∀ j, j ≠ k → E.sp j = D.sp j := fun j hj => by rw [hE]; show updF D.sp k (some (spn f1 q9)) j = _; exact updF_other _ _ hj
            have hEs : ∀ j s, E.sp j = some s → ∃ M, Spt s false M := fun j s' hs' => by
              by_cases e : j = k
              · rw [e, hEk] at hs'; injection hs' with hs'; rw [← hs']; exact ⟨false, spn_spt f1 q9⟩
              · rw [hEj j e] at hs'; exact HF.out.2.2.2.1 j s' hs'
            have hEm : ∀ j, E.sp j ≠ none ↔ j < xs.length := fun j => by
              constructor
              · intro hj
                by_cases e : j = k
                · omega
                · rw [hEj j e] at hj
                  cases e2 : D.sp j with
                  | none => exact absurd e2 hj
                  | some s' => exact HF.out.1.I.ok.top j s' e2
              · intro hj
                by_cases e : j = k
                · rw [e, hEk]; simp
                · rw [hEj j e, HF.out.2.2.1 j e]; exact HJ.out.2.1.ne j hj
            have H11 := Lib.hid (And.intro S (And.intro hEs hEm)); clear S hEk hEj hEs hEm hE hn1 hall hs1 hcc hob h00 hid
            have hkk : ((k : Int) == (k : Int)) = true := by simp
            go_wp2_with fail
            refine (told_ok w10 (HT.out.1.chg H11.out.1.c (by simp))).mono ?_
            rintro e12 w12 ⟨rfl, c12⟩
            have S12 := Lib.hid (H11.out.1.chg0 c12); clear c12
            go_wp2_with fail
            refine (s_spans S12.out (by omega)).mono ?_
            rintro e13 w13 ⟨vo, ks, rfl, Ok, c13, -, hr, hmem⟩
            have hks : ks = intsN (List.range xs.length) := rise_eq hr (by
                unfold Rise intsN
                exact List.Pairwise.map _ (fun a b (hab : a < b) => by show (a : Int) < (b : Int); omega) List.pairwise_lt_range) fun y => by
              rw [hmem y]
              show (spI E y).isSome = true ↔ _
              unfold spI intsN
              rw [List.mem_map]
              by_cases h0 : 0 ≤ y
              · rw [if_pos h0]
                have h1 := H11.out.2.2 y.toNat
                constructor
                · intro h2
                  refine ⟨y.toNat, List.mem_range.2 (h1.1 fun h3 => ?_), by omega⟩
                  rw [h3] at h2; cases h2
                · rintro ⟨j, hj, rfl⟩
                  rw [Int.toNat_natCast] at h1 ⊢
                  have h3 := h1.2 (List.mem_range.1 hj)
                  cases e : E.sp j with
                  | none => exact absurd e h3
                  | some _ => rfl
              · rw [if_neg h0]
                constructor
                · intro h; cases h
                · rintro ⟨j, _, rfl⟩; omega
            have hkl : ks.length = xs.length := by rw [hks]; unfold intsN; rw [List.length_map, List.length_range]
            obtain ⟨A6, c7, rfl⟩ : ∃ A6 c7, vo = .slice A6 ks.length c7 := Ok.slice
            rw [hkl]
            have S13 := Lib.hid (S12.out.chg0 c13); clear c13 hks hkl hr hmem Ok
            have hmm : ((xs.length : Int) == (xs.length : Int)) = true := by simp
            go_wp2_with fail
            have hlv : E.live = 0 := live_zero S13.out.I H11.out.2.1
            refine (s_live S13.out).mono ?_
            rintro e14 w14 ⟨rfl, rfl⟩
            rw [hlv]
            go_wp2_with fail
            go_ret
            exact ⟨rfl, S13.out.c⟩
        · rw [hob] at hsm; cases hsm
end Go.Proofs.YtkocikpoagfonaaGreatDoor
