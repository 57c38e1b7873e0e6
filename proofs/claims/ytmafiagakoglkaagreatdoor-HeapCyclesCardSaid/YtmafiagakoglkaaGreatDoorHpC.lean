/- The walk of HeapCycles. -/
import Derived.Test.YtmafiagakoglkaaGreatDoorHpC2
import Derived.Test.YtmafiagakoglkaaGreatDoorHpZ
namespace Go.Proofs.YtmafiagakoglkaaGreatDoor
open Go.RowKit Go.Maps

structure CyK (W : World) (gh i : Nat) (H : HpH) (A : HpA) (N b : Nat) (v : Value) (all : List Int) (w : World) : Prop where
  gh : H.gh = gh
  Q : HpS W w H A N b
  I : HpI A none
  P : A.P = 2
  n : A.a.n = 256
  N : N ≤ i
  b : b ≤ 7 * i
  L : LsP W (HpF H A) w v all
  len : all.length ≤ i
theorem CyK.chg0 {W w w' : World} {gh i N b : Nat} {H : HpH} {A : HpA} {v : Value} {all : List Int} (J : CyK W gh i H A N b v all w) (c : Chg [] w w') : CyK W gh i H A N b v all w' := ⟨J.gh, J.Q.chg0 c, J.I, J.P, J.n, J.N, J.b, J.L.chg0 c, J.len⟩
theorem CyK.stp {W w w' : World} {gh i N b : Nat} {H : HpH} {A : HpA} {v u u' : Value} {all l : List Int} (J : CyK W gh i H A N b v all w) (L : LsP W (HpF H A) w u l) (s : Stp (fpv u) (fpv u') w w') (d : ∀ k ∈ fpv v, k ∉ fpv u) : CyK W gh i H A N b v all w' ∧ ∀ k ∈ fpv v, k ∉ fpv u' :=
  ⟨⟨J.gh, J.Q.stp L s, J.I, J.P, J.n, J.N, J.b, (J.L.beside s d).1, J.len⟩, (J.L.beside s d).2⟩
theorem CyK.put {W w w' : World} {gh i N b : Nat} {H : HpH} {A : HpA} {v v' : Value} {all all' : List Int} (J : CyK W gh i H A N b v all w) (O : OwnI 3 w' v' all') (s : Stp (fpv v) (fpv v') w w') (hl : all'.length ≤ i) : CyK W gh i H A N b v' all' w' :=
  ⟨J.gh, J.Q.stp J.L s, J.I, J.P, J.n, J.N, J.b, J.L.push (fun k hk => J.Q.lt hk) J.Q.S.c.size O s, hl⟩
theorem LsP.grow {W w w' : World} {H : HpH} {A : HpA} {N b : Nat} {v v' : Value} {l l' : List Int} (L : LsP W (HpF H A) w v l) (Q : HpS W w H A N b) (O : OwnI 3 w' v' l') (s : Stp (fpv v) (fpv v') w w') : LsP W (HpF H A) w' v' l' := L.push (fun k hk => Q.lt hk) Q.S.c.size O s
theorem rise_get {l : List Int} (h : Rise l) {i j : Nat} {a b : Int} (hij : i < j) (ha : l[i]? = some a) (hb : l[j]? = some b) : a < b := by
  obtain ⟨h1, rfl⟩ := List.getElem?_eq_some_iff.1 ha
  obtain ⟨h2, rfl⟩ := List.getElem?_eq_some_iff.1 hb
  exact List.pairwise_iff_getElem.1 h i j h1 h2 hij
theorem rise_snoc {l : List Int} {x : Int} (h : Rise l) (hx : ∀ y ∈ l, y < x) : Rise (l ++ [x]) := by
  unfold Rise
  rw [List.pairwise_append]
  exact ⟨h, List.pairwise_singleton _ _, fun a ha b hb => by rw [List.mem_singleton] at hb; rw [hb]; exact hx a ha⟩
theorem begin_rows {A : HpA} {r1 : Nat → List Nat} (I : HpI A none) (hun : ∀ j, 2 ≤ j % 4 → A.r j = []) (hF : FaR A.a A.own A.P A.r r1) (j : Nat) (hj : j % 4 < 2) : bgR r1 32 j = [] := by
  have hz : ∀ j, 2 ≤ j % 4 → r1 j = [] := fun j hj => List.eq_nil_iff_forall_not_mem.2 fun z hz => by
    have := hF.un hj hz
    rw [hun j hj] at this; cases this
  have h64 : ∀ j, 64 ≤ j → r1 j = [] := fun j hj => List.eq_nil_iff_forall_not_mem.2 fun z hz => by
    have := ((I.flushAll (Nat.le_refl _) hF).r j z hz).1
    omega
  rw [bgR_at hz h64, if_pos hj]
def Cy1Rel (W : World) (gh n : Nat) (gk : Nat) (v8 v9 : Value) (w : World) : Prop :=
  ∃ i all H A N b cc, gk + i = n + 1 ∧ i ≤ n ∧ v9 = .int .i64 (i : Nat) ∧ CyK W gh i H A N b v8 all w ∧ CyA A cc i all
/-- What the marks' loop keeps. -/
structure Cy2K (W : World) (gh i k : Nat) (H : HpH) (A : HpA) (N b : Nat) (cc : Nat → Nat) (v8 v13 : Value) (all stay : List Int) (w : World) : Prop where
  J : CyK W gh i H A N b v8 all w
  K : CmA A cc i all stay
  L : LsP W (HpF H A) w v13 stay
  d : ∀ j ∈ fpv v8, j ∉ fpv v13
  rs : Rise stay
  s : ∀ x ∈ stay, ∃ k' : Nat, k' < k ∧ all[k']? = some x
  ln : stay.length ≤ k
theorem Cy2K.marked {W w w' w7 : World} {gh i k N b id y : Nat} {H : HpH} {A : HpA} {cc : Nat → Nat} {v8 v13 : Value} {all stay : List Int} {s : Sp} (K : Cy2K W gh i k H A N b cc v8 v13 all stay w) (hN : N ≤ 6000) (hs : A.a.sp id = some s) (hy : y < slK s.k) (hF : s.F y = true) (cw : Chg [] w w') (S7 : ArS W w7 H.ah.ga H.ah { A.a with sp := updF A.a.sp id (some (markS s y)) } N b) (st7 : StA H.ah A.a H.ah { A.a with sp := updF A.a.sp id (some (markS s y)) } w' w7) :
    CyK W gh i H (mrkA A id s y) N b v8 all w7 ∧ CmA (mrkA A id s y) cc i all (stay ++ [((s.addr y : Nat) : Int)]) ∧ LsP W (HpF H (mrkA A id s y)) w7 v13 stay :=
  ⟨⟨K.J.gh, (K.J.Q.chg0 cw).arena S7 st7, K.J.I.mark hs, K.J.P, K.J.n, K.J.N, K.J.b, (K.J.L.chg0 cw).st (st_arena st7), K.J.len⟩, K.K.mark K.J.Q.S.I hN hs hy hF, (K.L.chg0 cw).st (st_arena st7)⟩
def Cy2Rel (W : World) (gh i : Nat) (N b : Nat) (cc : Nat → Nat) (v8 : Value) (all : List Int) (gk : Nat) (v13 v14 : Value) (w : World) : Prop :=
  ∃ k H A stay, gk + k = all.length + 1 ∧ k ≤ all.length ∧ v14 = .int .i64 (k : Nat) ∧ Cy2K W gh i k H A N b cc v8 v13 all stay w
/-- What the sweeps' loop keeps. -/
structure Cy3K (W : World) (gh i : Nat) (H : HpH) (A : HpA) (N b : Nat) (v8 v13 v15 : Value) (all stay dead : List Int) (w : World) : Prop where
  J : CyK W gh i H A N b v8 all w
  L : LsP W (HpF H A) w v13 stay
  D : LsP W (HpF H A) w v15 dead
  d1 : ∀ j ∈ fpv v8, j ∉ fpv v15
  d2 : ∀ j ∈ fpv v13, j ∉ fpv v15
  rd : Rise dead
  bd : ∀ x ∈ dead, 0 ≤ x ∧ x < 16384
theorem Cy3K.chg0 {W w w' : World} {gh i N b : Nat} {H : HpH} {A : HpA} {v8 v13 v15 : Value} {all stay dead : List Int} (K : Cy3K W gh i H A N b v8 v13 v15 all stay dead w) (c : Chg [] w w') : Cy3K W gh i H A N b v8 v13 v15 all stay dead w' :=
  ⟨K.J.chg0 c, K.L.chg0 c, K.D.chg0 c, K.d1, K.d2, K.rd, K.bd⟩
def Cy3Rel (W : World) (gh i N b : Nat) (cc : Nat → Nat) (v8 v13 : Value) (all stay : List Int) (gk : Nat) (v15 : Value) (w : World) : Prop :=
  ∃ H A dead, gk = unsN A.r 16 + 1 ∧ Cy3K W gh i H A N b v8 v13 v15 all stay dead w ∧ CsA A cc i all stay dead
def Cy4Rel (W : World) (gh i N b : Nat) (v8 v13 vd : Value) (all stay d dead0 : List Int) (H : HpH) (A : HpA) (gk : Nat) (v15 v18 : Value) (w : World) : Prop :=
  ∃ k dead, gk + k = d.length + 1 ∧ k ≤ d.length ∧ v18 = .int .i64 (k : Nat) ∧ Cy3K W gh i H A N b v8 v13 v15 all stay dead w ∧ LsP W (HpF H A) w vd d ∧ (∀ j ∈ fpv vd, j ∉ fpv v15) ∧ ∀ z, z ∈ dead ↔ z ∈ dead0 ∨ z ∈ d.take k
set_option maxHeartbeats 12800000 in
set_option maxRecDepth 100000 in
theorem cycles9_any (A : Option Addr) (c : Nat) (xs : List Int) (ez : Int) (W : World) (T0 : Tab W) (hA : IntsAt W W.heap.size A xs) (hm : xs.length ≤ maxLen) : Calls Tryz.prog 6 #[.slice A xs.length c, .int .i64 ez] W (TdPost9 W) := by
  have HT := Lib.hid (And.intro T0 hA); clear T0 hA
  by_cases hl : 96 < xs.length
  · have d2 : (96 : Int) < (xs.length : Int) := by omega
    go_enter Tryz.func6, Tryz.ntmps6
    go_wp2_with fail
    refine (told9_ok W HT.out.1).mono ?_
    rintro e w1 ⟨rfl, c1⟩
    have HC := Lib.hid c1; clear c1
    go_wp2_with fail
    go_ret
    exact ⟨rfl, HC.out⟩
  · have d2 : ¬ (96 : Int) < (xs.length : Int) := by omega
    have hm96 : xs.length ≤ 96 := by omega
    obtain ⟨m0, hm0, em0⟩ := mod_n ez 3 (by decide) (by decide)
    have em : wrap64 ((IntKind.u64.wrap ez).tmod 3) = (m0 : Int) := em0
    have em2 : wrap64 (1 + (m0 : Int)) = ((m0 + 1 : Nat) : Int) := by unfold wrap64; omega
    have HE := Lib.hid (And.intro em em2); clear em em2 em0
    go_enter Tryz.func6, Tryz.ntmps6
    go_wp2_with fail
    refine (hnew_ok W 256 2 16384 (by decide) (by decide) (by decide) (by decide) (by decide)).mono ?_
    rintro e w1 ⟨H0, rfl, Q⟩
    have HQ := Lib.hid Q; clear Q
    go_wp2_with fail
    refine (harena_ok HQ.out).mono ?_
    rintro e w2 ⟨rfl, rfl⟩
    go_upto_region 7 with fail
    rw [HE.out.1, HE.out.2]
    obtain ⟨m, hm'⟩ : ∃ m, m = m0 + 1 := ⟨_, rfl⟩
    rw [← hm']
    have hm1 : 1 ≤ m := by omega
    have hm4 : m ≤ 3 := by omega
    clear HE hm0 hm' d2 hl hm
    have K0 : CyK W H0.gh 0 H0 (hp0 256 2) 0 0 (.slice none 0 0) [] w2 := ⟨rfl, HQ.out, hp0_inv 256 2 (by decide), rfl, rfl, Nat.le_refl _, Nat.le_refl _, LsP.nil _ _ _, Nat.le_refl _⟩
    have HK := Lib.hid K0; clear K0 HQ
    go_wp2_with fail
    go_loopg [8, 9] (xs.length + 1) (fun gk v8 v9 wr => Cy1Rel W H0.gh xs.length gk v8 v9 wr)
    case atStart => exact ⟨0, [], H0, _, 0, 0, fun _ => 0, by omega, by omega, rfl, HK.out, CyA.new 2⟩
    case round =>
      clear HK
      obtain ⟨i, all, H, A9, N, b, cc, hgk, hi, rfl, J, K⟩ := hrel
      obtain ⟨As, cs, rfl⟩ := J.L.o.slice
      by_cases e : i < xs.length
      · obtain ⟨z, hz⟩ : ∃ z, xs[i]? = some z := ⟨xs[i], List.getElem?_eq_getElem e⟩
        obtain ⟨ba, off, rfl, -, hb1⟩ := ints_keep9 HT.out.2 J.Q.S.c hz
        have hi' : (i : Int) < (xs.length : Int) := by omega
        have hi0 : (0 : Int) ≤ (i : Int) := by omega
        obtain ⟨n0, hn0, en0⟩ := mod_n z 64 (by decide) (by decide)
        have en : wrap64 ((IntKind.u64.wrap z).tmod 64) = (n0 : Int) := en0
        have en2 : wrap64 (1 + (n0 : Int)) = ((n0 + 1 : Nat) : Int) := by unfold wrap64; omega
        have EN := Lib.hid (And.intro en en2); clear en en2 en0
        have HJ := Lib.hid (And.intro J K); clear J K
        go_wp2_with fail
        rw [and_one_i i (by omega), EN.out.1, EN.out.2]
        obtain ⟨q, hq⟩ : ∃ q, q = i % 2 := ⟨_, rfl⟩
        obtain ⟨n, hn⟩ : ∃ n, n = n0 + 1 := ⟨_, rfl⟩
        rw [← hn, ← hq]
        have hn1 : 1 ≤ n := by omega
        have hn2 : n ≤ 64 := by omega
        have hq2 : q < 2 := by omega
        clear EN hn0 hn hb1 hz hq
        have hNi := HJ.out.1.N
        have hbi := HJ.out.1.b
        have k := halloc_ok W wr H A9 N b HJ.out.1.Q HJ.out.1.I HT.out.1 (by omega) (by omega) q n (by rw [HJ.out.1.P]; exact hq2) hn1 (by omega) false
        rw [HJ.out.1.gh] at k
        refine k.mono ?_
        clear k
        rintro e2 w4 ⟨cl, x, gone, ec, vg, A4, N4, b4, H4, hof, hal, rfl, hN4, hb4, hE4, Q4, t4, L4, ln4, I4⟩
        obtain ⟨rfl, rfl, ⟨c4, K4⟩, hP4, hn4⟩ := HJ.out.2.step HJ.out.1.I HJ.out.1.Q.S.I Q4.S.I (by omega) HJ.out.1.P hal hq2 hof hn2 (by omega)
        obtain ⟨Ag, cg, rfl⟩ : ∃ Ag cg, vg = .slice Ag 0 cg := L4.o.slice
        have J4 : CyK W H0.gh (i + 1) H4 A4 N4 b4 (.slice As all.length cs) all w4 := ⟨hE4.gh.trans HJ.out.1.gh, Q4, I4, hP4.trans HJ.out.1.P, hn4.trans HJ.out.1.n, by omega, by omega, HJ.out.1.L.st t4, by have := HJ.out.1.len; omega⟩
        have hxb : x < 16384 := by
          have := obI_bd Q4.S.I.ok J4.n ((K4.obs _).1 (mem_putL.2 (.inr rfl)))
          omega
        have H4' := Lib.hid (And.intro J4 K4); clear J4 K4 hof hal hE4 Q4 t4 L4 ln4 I4 hP4 hn4
        go_wp2_with fail
        refine (put_ok w4 _ all (x : Nat) H4'.out.1.L.o (fun y hy => by have := obI_bd HJ.out.1.Q.S.I.ok HJ.out.1.n ((HJ.out.2.obs y).1 hy); unfold WfI; omega) (by unfold WfI; omega) (by have := HJ.out.1.len; omega)).mono ?_
        rintro e6 w6 ⟨v6, rfl, O6, s6⟩
        have hlen6 : (putL all ((x : Nat) : Int)).length ≤ i + 1 := by have h1 := len_putL all ((x : Nat) : Int); have h2 := HJ.out.1.len; omega
        have J6 := H4'.out.1.put O6 s6 hlen6
        obtain ⟨A6, c6, rfl⟩ := O6.slice
        obtain ⟨al, hal6⟩ : ∃ al, al = putL all ((x : Nat) : Int) := ⟨_, rfl⟩
        have K6 := H4'.out.2
        rw [← hal6] at J6 hlen6 K6 ⊢
        have H6 := Lib.hid (And.intro J6 K6); clear J6 K6 O6 s6 hal6 H4'
        have hem : (i : Int) % 12 = ((i % 12 : Nat) : Int) := by omega
        by_cases h12 : i % 12 = 11
        · have dq : ((i : Int) % 12 != 11) = false := by rw [bne_eq_false_iff_eq, hem, h12]; rfl
          clear hem h12
          have K2 : Cy2K W H0.gh (i + 1) 0 H4 A4 N4 b4 c4 (.slice A6 al.length c6) (.slice none 0 0) al [] w6 := ⟨H6.out.1, H6.out.2.mk0, LsP.nil _ _ _, fun j _ hj => by simp [fpv, Value.ownBlock] at hj, List.Pairwise.nil, by simp, Nat.le_refl _⟩
          have HK2 := Lib.hid K2; clear K2 H6
          go_wp2_with fail
          go_loopg [13, 14] (al.length + 1) (fun gk v13 v14 wr => Cy2Rel W H0.gh (i + 1) N4 b4 c4 (.slice A6 al.length c6) al gk v13 v14 wr)
          case atStart => exact ⟨0, H4, A4, [], by omega, by omega, rfl, HK2.out⟩
          case round =>
            clear HK2
            obtain ⟨k, H, A9, stay, hgk2, hk, rfl, K2⟩ := hrel
            obtain ⟨As, cs, rfl⟩ := K2.L.o.slice
            by_cases ek : k < al.length
            · obtain ⟨x, hx⟩ : ∃ x, al[k]? = some x := ⟨_, List.getElem?_eq_getElem ek⟩
              obtain ⟨id, s, y, hs, hy, hF, rfl⟩ := K2.K.find K2.J.Q.S.I (List.mem_of_getElem? hx)
              obtain ⟨g8, rfl, c8, -, -⟩ := K2.J.L.o.cell hx
              have hxs : ∀ z ∈ stay, z < ((s.addr y : Nat) : Int) := fun z hz => by
                obtain ⟨k', h1, h2⟩ := K2.s z hz
                exact rise_get K2.K.rise h1 h2 hx
              have hM : s.M y = false := by
                cases h : s.M y with
                | false => rfl
                | true =>
                  have := hxs _ ((K2.K.mr id s y hs hy hF).1 h)
                  omega
              have hkk : (k : Int) < (al.length : Int) := by omega
              have hk0 : (0 : Int) ≤ (k : Int) := by omega
              have hx0 : ¬ m = 0 := by omega
              have hx1 : ¬ (m : Int) = 0 := by omega
              have hem : (k : Int) % (m : Int) = ((k % m : Nat) : Int) := (Int.natCast_emod k m).symm
              have hadr := addr_bd K2.J.Q.S.I.ok K2.J.n hs hy
              have hN2 := K2.J.N
              have hlast := K2.ln
              have hlal := K2.J.len
              by_cases hmod : k % m = 0
              · have dq : ((k : Int) % (m : Int) == 0) = true := by rw [beq_iff_eq, hem, hmod]; rfl
                clear hem hmod
                have kA := fun (w' : World) (cw : Chg [] wr w') => harena_ok (K2.J.Q.chg0 cw)
                rw [K2.J.gh] at kA
                have kM := fun (w' : World) (cw : Chg [] wr w') => s_mark (K2.J.Q.chg0 cw).S (by omega : N4 ≤ 1000000) hs hy hF
                rw [hM] at kM
                obtain ⟨x, hxe⟩ : ∃ x, x = s.addr y := ⟨_, rfl⟩
                rw [← hxe] at kM c8 hxs hadr
                have HX := Lib.hid (And.intro K2 (And.intro hx (And.intro hs (And.intro hy (And.intro hF (And.intro hxs hxe)))))); clear K2 hx hs hy hF hxs hM hxe
                have KA := Lib.hid (And.intro kA kM); clear kA kM
                go_upto_region 21 with fail
                go_region_held3 (fun w' => w'.cell? ⟨g8, k, none⟩ = some (.int .i64 (x : Nat))) (go_keep)
                  (first
                    | (go_at_call 12; refine (KA.out.1 _ (by repeat (first | assumption | exact Chg.refl [] wr | refine Chg.drew ?_))).mono ?_; rintro e w' ⟨rfl, rfl⟩)
                    | (go_at_call 14; refine (KA.out.2 _ (by repeat (first | assumption | exact Chg.refl [] wr | refine Chg.drew ?_))).mono ?_; rintro e w7 ⟨rfl, S7, st7⟩; have K7 := HX.out.1.marked (by omega) HX.out.2.2.1 HX.out.2.2.2.1 HX.out.2.2.2.2.1 (by repeat (first | assumption | exact Chg.refl [] wr | refine Chg.drew ?_)) S7 st7; have y0 : w7.cell? ⟨g8, k, none⟩ = some (.int .i64 (x : Nat)) := (by obtain ⟨g9, e9, c9, -, -⟩ := K7.1.L.o.cell (i := k) HX.out.2.1; injection e9 with e9; injection e9 with e9; rw [e9, HX.out.2.2.2.2.2.2]; exact c9)))
                have H7 := Lib.hid K7; clear K7 S7 st7 KA c8
                go_wp2_with (at_builtin; refine wpList_push_int (v := .slice As stay.length cs) (xs := stay) rfl _ _ rfl slty rfl H7.out.2.2.o rfl (by omega) ?_; intro A9' c9' w9 O9 s9)
                have B9 := H7.out.1.stp H7.out.2.2 s9 HX.out.1.d
                have G9 := H7.out.2.2.grow H7.out.1.Q O9 s9
                have H9 := Lib.hid (And.intro B9 (And.intro G9 H7.out.2.1)); clear B9 G9 O9 s9 y0 H7
                go_roundg (al.length - k)
                case measure => omega
                case rel =>
                  exact ⟨k + 1, H, mrkA A9 id s y, stay ++ [((x : Nat) : Int)], by omega, by omega, by go_num, H9.out.1.1, by rw [HX.out.2.2.2.2.2.2]; exact H9.out.2.2, H9.out.2.1, H9.out.1.2, rise_snoc HX.out.1.rs HX.out.2.2.2.2.2.1, fun z hz => by
                    rcases List.mem_append.1 hz with h | h
                    · obtain ⟨k', h1, h2⟩ := HX.out.1.s z h
                      exact ⟨k', by omega, h2⟩
                    · rw [List.mem_singleton] at h
                      exact ⟨k, by omega, by rw [h, HX.out.2.2.2.2.2.2]; exact HX.out.2.1⟩, by rw [List.length_append, List.length_singleton]; omega⟩
              · have dq : ((k : Int) % (m : Int) == 0) = false := by rw [beq_eq_false_iff_ne, hem]; omega
                have HX := Lib.hid K2; clear K2 hx hs hy hF hxs hM c8 hem hmod
                go_wp2_with fail
                go_roundg (al.length - k)
                case measure => omega
                case rel => exact ⟨k + 1, H, A9, stay, by omega, by omega, by go_num, HX.out.J, HX.out.K, HX.out.L, HX.out.d, HX.out.rs, fun z hz => by obtain ⟨k', h1, h2⟩ := HX.out.s z hz; exact ⟨k', by omega, h2⟩, by omega⟩
            · obtain rfl : k = al.length := by omega
              have hkk : ¬ (al.length : Int) < (al.length : Int) := by omega
              have HX := Lib.hid K2; clear K2 ek hk
              have hN2 := HX.out.J.N
              have hlal := HX.out.J.len
              have hlst := HX.out.ln
              go_wp2_with fail
              have k := hbegin_ok W wr H A9 N4 b4 HX.out.J.Q HX.out.J.I HT.out.1 (by omega)
              rw [HX.out.J.gh] at k
              refine k.mono ?_
              clear k
              rintro e5 w5 (⟨h1, -⟩ | ⟨-, rfl, r1, hF, I1, H1, hE, Q1, t1⟩)
              · have h2 : unsN A9.r 16 = 0 := unsN_zero.2 fun k _ => ⟨HX.out.K.unz _ (by omega), HX.out.K.unz _ (by omega)⟩
                omega
              obtain ⟨A1, hA1⟩ : ∃ A1 : HpA, A1 = { A9 with r := bgR r1 32, own := faO A9.own A9.P } := ⟨_, rfl⟩
              have hrows := begin_rows HX.out.J.I HX.out.K.unz hF
              rw [← hA1] at I1 Q1 t1
              have C1 : CsA A1 c4 (i + 1) al stay [] := HX.out.K.begin (fun x hx => by obtain ⟨k', -, h2⟩ := HX.out.s x hx; exact List.mem_of_getElem? h2) (by rw [hA1]) (fun id s hs => all_wait (A := A1) I1 (fun p k hp hk => by rw [hA1] at hp ⊢; exact faO_all _ hp hk) (fun j hj => by rw [hA1]; exact hrows j hj) (by rw [hA1]; exact hs))
              have K3 : Cy3K W H0.gh (i + 1) H1 A1 N4 b4 (.slice A6 al.length c6) (.slice As stay.length cs) (.slice none 0 0) al stay [] w5 :=
                ⟨⟨hE.gh.trans HX.out.J.gh, Q1, I1, by rw [hA1]; exact HX.out.J.P, by rw [hA1]; exact HX.out.J.n, HX.out.J.N, HX.out.J.b, HX.out.J.L.st t1, HX.out.J.len⟩, HX.out.L.st t1, LsP.nil _ _ _, fun j _ hj => by simp [fpv, Value.ownBlock] at hj, fun j _ hj => by simp [fpv, Value.ownBlock] at hj, List.Pairwise.nil, by simp⟩
              have HK3 := Lib.hid (And.intro K3 (And.intro C1 (And.intro HX.out.rs HX.out.K.rise))); clear K3 C1 I1 Q1 t1 hE hF hrows hA1 HX
              go_wp2_with fail
              go_loopg [15] (unsN A1.r 16 + 1) (fun gk v15 wr => Cy3Rel W H0.gh (i + 1) N4 b4 c4 (.slice A6 al.length c6) (.slice As stay.length cs) al stay gk v15 wr)
              case atStart => exact ⟨H1, A1, [], rfl, HK3.out.1, HK3.out.2.1⟩
              case round =>
                have HR := Lib.hid HK3.out.2.2
                clear HK3
                obtain ⟨H, A9, dead, hgk3, K3, C3⟩ := hrel
                obtain ⟨Ad, cd, rfl⟩ := K3.D.o.slice
                have HJ := Lib.hid (And.intro K3 C3); clear K3 C3
                go_wp2_with fail
                have k := hsweep_ok W wr H A9 N4 b4 HJ.out.1.J.Q HT.out.1 (HJ.out.1.J.I.B HJ.out.1.J.Q.S.I.ok (by omega)) (by omega) (fun j _ x hx => by obtain ⟨-, s, hs, -⟩ := HJ.out.1.J.I.r j x hx; exact ⟨s, hs⟩)
                rw [HJ.out.1.J.gh] at k
                refine k.mono ?_
                clear k
                rintro e7 w8 (⟨hno, rfl, c8⟩ | ⟨k, f, x, xs8, s, u, h8, v8, r8, hk, hf, hr, hs, hput, rfl, Q8, t8, L8, hga, hnew⟩)
                · have hun : ∀ j, 2 ≤ j % 4 → A9.r j = [] := fun j hj => HJ.out.1.J.I.unz (unsN_zero.2 fun k hk => hno k hk) hj
                  obtain ⟨C5, hlen⟩ := HJ.out.2.done HJ.out.1.J.Q.S.I hun HR.out.2 HR.out.1
                  have hsl : stay.length ≤ i + 1 := by omega
                  have hb1 : (((dead.length : Int) + (stay.length : Int)) != (al.length : Int)) = false := by rw [bne_eq_false_iff_eq]; omega
                  have hb2 : (dead.length : Int) + (stay.length : Int) ≤ 1000 := by omega
                  have H8 := Lib.hid (And.intro (HJ.out.1.chg0 c8) C5); clear c8 hno hun C5 HJ hlen
                  go_wp2_with fail
                  have k := harena_ok H8.out.1.J.Q
                  rw [H8.out.1.J.gh] at k
                  refine k.mono ?_
                  clear k
                  rintro e8 w9 ⟨rfl, rfl⟩
                  go_wp2_with fail
                  have hbb := H8.out.1.J.b
                  refine (s_objects H8.out.1.J.Q.S (by omega)).mono ?_
                  rintro e9 w10 ⟨v9, ks, rfl, O9, c9, f9, r9, m9⟩
                  obtain ⟨A0, c0, rfl⟩ := O9.slice
                  have HO := Lib.hid (And.intro O9 (H8.out.1.chg0 c9)); clear O9 c9 f9
                  have HE := Lib.hid (rise_eq r9 H8.out.2.rise (fun x => by rw [m9 x, H8.out.2.obs x]))
                  clear r9 m9
                  go_wp2_with fail
                  refine (ints_ok w10 _ _ ks stay HO.out.1.rd HO.out.2.L.o.rd).mono ?_
                  rintro e10 w11 hB
                  obtain ⟨rfl, c10⟩ := hB.chg
                  rw [decide_eq_true HE.out]
                  have HD := Lib.hid (HO.out.2.chg0 c10); clear hB c10 HO
                  go_wp2_with fail
                  go_roundg (xs.length - i)
                  case measure => omega
                  case rel =>
                    exact ⟨i + 1, stay, H, A9, N4, b4, c4, by omega, by omega, by go_num, ⟨HD.out.J.gh, HD.out.J.Q, HD.out.J.I, HD.out.J.P, HD.out.J.n, HD.out.J.N, HD.out.J.b, HD.out.L, hsl⟩, H8.out.2⟩
                · have hx := HJ.out.1.J.Q.S.I.ok.top x s hs
                  have e4 : (k * 4 + 2 + f) / 4 = k := by clear hput; omega
                  have hP4 : PutTo (sweepA A9.a x s (sweptL s).length) (updV A9.r (k * 4 + 2 + f) xs8) ((k * 4 + 2 + f) / 4) x r8 := by rw [e4]; exact hput
                  have h416 : (k * 4 + 2 + f) / 4 < 16 := by rw [e4]; exact hk
                  have hj2 : 2 ≤ (k * 4 + 2 + f) % 4 := by clear hput hP4; omega
                  have I8 := HpI.swept (j := k * 4 + 2 + f) (n := (sweptL s).length) (r' := r8) HJ.out.1.J.I hr hs h416 hP4
                  have hu := swept_uns (k := k) (f := f) HJ.out.1.J.I hk hf hr hput
                  have C8 := fun (dead' : List Int) (h1 : Rise dead') (h2 : ∀ z, z ∈ dead' ↔ z ∈ dead ∨ z ∈ swI s) => HJ.out.2.sweep (j0 := k * 4 + 2 + f) HJ.out.1.J.I HJ.out.1.J.Q.S.I (by omega) hj2 hr hs hput h1 h2
                  obtain ⟨A8, hA8⟩ : ∃ A8 : HpA, A8 = { A9 with a := sweepA A9.a x s (sweptL s).length, r := r8 } := ⟨_, rfl⟩
                  obtain ⟨H8, hH8⟩ : ∃ H8 : HpH, H8 = { H with ah := h8, v := v8 } := ⟨_, rfl⟩
                  have hbd : ∀ z ∈ swI s, 0 ≤ z ∧ z < 16384 := fun z hz => by
                    obtain ⟨j, h1, -, -, rfl⟩ := mem_swI.1 hz
                    have := addr_bd HJ.out.1.J.Q.S.I.ok HJ.out.1.J.n hs h1
                    omega
                  have hsw : intsN ((sweptL s).map s.addr) = swI s := rfl
                  have hdl64 : (swI s).length ≤ 64 := by unfold swI intsN; rw [List.length_map, List.length_map]; exact sweptL_len s (HJ.out.1.J.Q.S.I.ok.pg _ _ hs).1
                  rw [hsw] at L8
                  obtain ⟨dl, hdl⟩ : ∃ dl, dl = swI s := ⟨_, rfl⟩
                  rw [← hdl] at L8 hbd hdl64
                  rw [← hA8] at Q8 t8 L8 C8 I8
                  rw [← hH8] at Q8 t8 L8
                  have eun : unsN A8.r 16 + 1 = unsN A9.r 16 := by rw [hA8]; exact hu
                  have eP : A8.P = 2 := by rw [hA8]; exact HJ.out.1.J.P
                  have en : A8.a.n = 256 := by rw [hA8]; exact HJ.out.1.J.n
                  have egh : H8.gh = H0.gh := by rw [hH8]; exact HJ.out.1.J.gh
                  have K8 : Cy3K W H0.gh (i + 1) H8 A8 N4 b4 (.slice A6 al.length c6) (.slice As stay.length cs) (.slice Ad dead.length cd) al stay dead w8 :=
                    ⟨⟨egh, Q8, I8, eP, en, HJ.out.1.J.N, HJ.out.1.J.b, HJ.out.1.J.L.st t8, HJ.out.1.J.len⟩, HJ.out.1.L.st t8, HJ.out.1.D.st t8, HJ.out.1.d1, HJ.out.1.d2, HJ.out.1.rd, HJ.out.1.bd⟩
                  have dud : ∀ j ∈ fpv u, j ∉ fpv (.slice Ad dead.length cd) := fun j hj hj2 => by
                    have h1 := hnew j hj
                    have h2 := HJ.out.1.D.o.lt hj2
                    omega
                  obtain ⟨Au, cu, rfl⟩ : ∃ Au cu, u = .slice Au dl.length cu := L8.o.slice
                  have H9 := Lib.hid (And.intro K8 (And.intro L8 dud)); clear K8 L8 dud Q8 t8 I8 hput hP4 hr hs hnew hga hsw hA8 hH8 eP en egh hu HJ
                  have HC := Lib.hid (And.intro C8 (And.intro hbd (And.intro hdl eun))); clear C8 hbd hdl eun
                  go_wp2_with fail
                  go_loopg [15, 18] (dl.length + 1) (fun gk v15 v18 wr => Cy4Rel W H0.gh (i + 1) N4 b4 (.slice A6 al.length c6) (.slice As stay.length cs) (.slice Au dl.length cu) al stay dl dead H8 A8 gk v15 v18 wr)
                  case atStart => exact ⟨0, dead, by omega, by omega, rfl, H9.out.1, H9.out.2.1, H9.out.2.2, fun z => by simp⟩
                  case round =>
                    clear H9
                    obtain ⟨kd, dead', hgk4, hkd, rfl, K4, Ld, dd, hmem⟩ := hrel
                    obtain ⟨Ad', cd', rfl⟩ := K4.D.o.slice
                    by_cases ekd : kd < dl.length
                    · obtain ⟨zd, hzd⟩ : ∃ zd, dl[kd]? = some zd := ⟨_, List.getElem?_eq_getElem ekd⟩
                      obtain ⟨gu, rfl, cgu, -, -⟩ := Ld.o.cell hzd
                      have hzb := HC.out.2.1 zd (List.mem_of_getElem? hzd)
                      have hkd1 : (kd : Int) < (dl.length : Int) := by omega
                      have hkd0 : (0 : Int) ≤ (kd : Int) := by omega
                      have HX := Lib.hid (And.intro K4 (And.intro Ld (And.intro dd (And.intro hmem hzd)))); clear K4 Ld dd hmem hzd
                      go_wp2_with fail
                      refine (put_ok wr _ dead' zd HX.out.1.D.o (fun y hy => by have := HX.out.1.bd y hy; unfold WfI; omega) (by unfold WfI; omega) (Nat.le_trans (rise_len HX.out.1.rd (N := 16384) HX.out.1.bd) (by decide))).mono ?_
                      rintro e6 w9 ⟨v6, rfl, O6, s6⟩
                      have D9 := HX.out.1.D.grow HX.out.1.J.Q O6 s6
                      have J9 := HX.out.1.J.stp HX.out.1.D s6 HX.out.1.d1
                      have L9 := HX.out.1.L.beside s6 HX.out.1.d2
                      have U9 := HX.out.2.1.beside s6 HX.out.2.2.1
                      obtain ⟨A6', c6', rfl⟩ := O6.slice
                      have K9 : Cy3K W H0.gh (i + 1) H8 A8 N4 b4 (.slice A6 al.length c6) (.slice As stay.length cs) (.slice A6' (putL dead' zd).length c6') al stay (putL dead' zd) w9 :=
                        ⟨J9.1, L9.1, D9, J9.2, L9.2, rising_putL HX.out.1.rd, fun z hz => by
                          rcases mem_putL.1 hz with h | h
                          · exact HX.out.1.bd z h
                          · rw [h]; exact hzb⟩
                      have H9 := Lib.hid (And.intro K9 U9); clear K9 U9 J9 L9 D9 O6 s6
                      go_wp2_with fail
                      go_roundg (dl.length - kd)
                      case measure => omega
                      case rel =>
                        exact ⟨kd + 1, putL dead' zd, by omega, by omega, by go_num, H9.out.1, H9.out.2.1, H9.out.2.2, fun z => by
                          rw [mem_putL, HX.out.2.2.2.1 z, take_succ_get HX.out.2.2.2.2, List.mem_append, List.mem_singleton, or_assoc]⟩
                    · obtain rfl : kd = dl.length := by omega
                      have hkd1 : ¬ (dl.length : Int) < (dl.length : Int) := by omega
                      rw [List.take_length] at hmem
                      have HX := Lib.hid (And.intro K4 hmem); clear K4 Ld dd hmem ekd
                      go_wp2_with fail
                      go_roundg (unsN A8.r 16 + 1)
                      case measure => have := HC.out.2.2.2; omega
                      case rel => exact ⟨H8, A8, dead', rfl, HX.out.1, HC.out.1 dead' HX.out.1.rd (fun z => by rw [HX.out.2 z, HC.out.2.2.1])⟩
        · have dq : ((i : Int) % 12 != 11) = true := by rw [bne_iff_ne, hem]; omega
          clear hem h12
          go_wp2_with fail
          go_roundg (xs.length - i)
          case measure => omega
          case rel => exact ⟨i + 1, al, H4, A4, N4, b4, c4, by omega, by omega, by go_num, H6.out.1, H6.out.2⟩
      · obtain rfl : i = xs.length := by omega
        have hi' : ¬ (xs.length : Int) < (xs.length : Int) := by omega
        have HJ := Lib.hid (And.intro J K); clear J K e hi
        have hbb := HJ.out.1.b
        go_wp2_with fail
        refine (told9_ok wr (HT.out.1.chg HJ.out.1.Q.S.c (by simp))).mono ?_
        rintro e4 w8 ⟨rfl, c8⟩
        have HC := Lib.hid (HJ.out.1.chg0 c8); clear c8
        go_wp2_with fail
        have k := harena_ok HC.out.Q
        rw [HC.out.gh] at k
        refine k.mono ?_
        clear k
        rintro e7 w7 ⟨rfl, rfl⟩
        go_wp2_with fail
        refine (s_objects HC.out.Q.S (by omega)).mono ?_
        rintro e9 w9 ⟨v9, ks, rfl, O9, c9, f9, r9, m9⟩
        obtain ⟨A0, c0, rfl⟩ := O9.slice
        have HO := Lib.hid (And.intro O9 (HC.out.chg0 c9)); clear O9 c9 f9
        have HE := Lib.hid (rise_eq r9 HJ.out.2.rise (fun x => by rw [m9 x, HJ.out.2.obs x]))
        clear r9 m9
        go_wp2_with fail
        refine (ints_ok w9 _ _ ks all HO.out.1.rd HO.out.2.L.o.rd).mono ?_
        rintro e10 w10 hB
        obtain ⟨rfl, c10⟩ := hB.chg
        rw [decide_eq_true HE.out]
        have HD := Lib.hid (HO.out.2.Q.S.c.trans c10); clear hB c10
        go_wp2_with fail
        go_ret
        exact ⟨rfl, HD.out⟩
end Go.Proofs.YtmafiagakoglkaaGreatDoor
