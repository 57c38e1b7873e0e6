/- The walk of ArenaApart. -/
import Derived.Test.YtkocikpoagfonaaDoorSer2
import Derived.Test.YtkocikpoagfonaaDoorObj
namespace Go.Proofs.YtkocikpoagfonaaDoor
open Go.RowKit

theorem slZ' : SlTy Tryd.prog 32 3 := ⟨Tryd.underlying32, by kernel_rfl⟩
/-- The argument: integers below the heap's end. -/
theorem ints_keep {W w : World} {A : Option Addr} {xs : List Int} (h : IntsAt W W.heap.size A xs) (c : Chg [] W w) {i : Nat} {x : Int} (hx : xs[i]? = some x) : ∃ b off, A = some ⟨b, off, none⟩ ∧ w.cell? ⟨b, off + i, none⟩ = some (.int .i64 x) := by
  obtain ⟨b, off, e, hb, hc⟩ := h i x hx
  exact ⟨b, off, e, c.cellv hb (by simp) hc⟩
structure Ap1 (W : World) (g N b m : Nat) (h : ArH) (a : Ar) (As Ss : List Nat) (va vs : Value) (w : World) : Prop where
  S : ArS W w g h a N b
  C : Cont a As Ss (fun _ _ => 0)
  A : LsS W w h a va (intsN As)
  Z : LsS W w h a vs (intsN Ss)
  d : ∀ k ∈ fpv va, k ∉ fpv vs
  n : As.length ≤ m
  x : ∀ x ∈ As, x < 16777216
  z : ∀ n ∈ Ss, n ≤ 256
theorem Ap1.chg0 {W w w' : World} {g N b m : Nat} {h : ArH} {a : Ar} {As Ss : List Nat} {va vs : Value} (J : Ap1 W g N b m h a As Ss va vs w) (c : Chg [] w w') : Ap1 W g N b m h a As Ss va vs w' :=
  ⟨J.S.chg0 c, J.C, J.A.chg0 c, J.Z.chg0 c, J.d, J.n, J.x, J.z⟩
theorem Ap1.up {W w : World} {g N b m b' m' : Nat} {h : ArH} {a : Ar} {As Ss : List Nat} {va vs : Value} (J : Ap1 W g N b m h a As Ss va vs w) (hb : b ≤ b') (hm : m ≤ m') : Ap1 W g N b' m' h a As Ss va vs w :=
  ⟨⟨J.S.M, J.S.I, J.S.far, J.S.c, J.S.ga, Nat.le_trans J.S.m hb⟩, J.C, J.A, J.Z, J.d, Nat.le_trans J.n hm, J.x, J.z⟩
def Ap1Rel (W : World) (g m : Nat) (gk : Nat) (va vs idx : Value) (w : World) : Prop :=
  ∃ i h a f p As Ss, gk + i = m + 1 ∧ i ≤ m ∧ idx = .int .i64 (i : Nat) ∧ Ap1 W g i (8 * i) (2 * i) h a As Ss va vs w ∧ SerA a i f p
def Ap2Rel (W : World) (g i q : Nat) (gk : Nat) (va vs idx : Value) (w : World) : Prop :=
  ∃ j h a f p s As Ss, gk + j = 3 ∧ j ≤ 2 ∧ idx = .int .i64 (j : Nat) ∧ Ap1 W g (i + 1) (8 * i + 6 + j) (2 * i + j) h a As Ss va vs w ∧ SerA a (i + 1) f p ∧ a.sp i = some s ∧ s.k = q ∧ (j = 0 → s.fr = 0 ∧ s.F 0 = false)
/-- One more object, listed. -/
theorem Ap1.more {W w w' w2 w3 : World} {g N b m n id y : Nat} {h h' : ArH} {a : Ar} {s : Sp} {As Ss : List Nat} {va vs va' vs' : Value} (J : Ap1 W g N b m h a As Ss va vs w) (hs : a.sp id = some s) (hy : y < slK s.k) (hF : s.F y = false) (hn : n ≤ 256)
    (S' : ArS W w' g h' (allocA a id s y n false) N (b + 1)) (st : StA h a h' (allocA a id s y n false) w w')
    (O1 : OwnI 3 w2 va' (intsN As ++ [((s.addr y : Nat) : Int)])) (s1 : Stp (fpv va) (fpv va') w' w2) (O2 : OwnI 3 w3 vs' (intsN Ss ++ [(n : Int)])) (s2 : Stp (fpv vs) (fpv vs') w2 w3) :
    Ap1 W g N (b + 1) (m + 1) h' (allocA a id s y n false) (As ++ [s.addr y]) (Ss ++ [n]) va' vs' w3 := by
  have hfr := J.S.I.fresh hs hy hF
  have A1 := J.A.sta st
  have Z1 := J.Z.sta st
  have S2 := S'.stp A1 s1
  have A2 := A1.push S'.M S'.c.size O1 s1
  have dzs : ∀ k ∈ fpv vs, k ∉ fpv va := fun k hk hm => J.d k hm hk
  obtain ⟨Z2, d2⟩ := Z1.beside s1 dzs
  have S3 := S2.stp Z2 s2
  have Z3 := Z2.push S2.M S2.c.size O2 s2
  obtain ⟨A3, d3⟩ := A2.beside s2 (fun k hk hm => d2 k hm hk)
  have hp := Sp.addr_page (J.S.I.ok.pg id s hs).1 hy
  have hp2 := (J.S.I.ok.pg id s hs).2.2.1
  have hp3 := J.S.I.ok.n
  refine ⟨S3, J.C.add hfr rfl (fun _ _ => rfl), ?_, ?_, d3, by rw [List.length_append]; have := J.n; simp; omega, fun x hx => ?_, fun z hz => ?_⟩
  · have e : intsN (As ++ [s.addr y]) = intsN As ++ [((s.addr y : Nat) : Int)] := by unfold intsN; simp
    rw [e]; exact A3
  · have e : intsN (Ss ++ [n]) = intsN Ss ++ [(n : Int)] := by unfold intsN; simp
    rw [e]; exact Z3
  · rcases List.mem_append.1 hx with h1 | h1
    · exact J.x x h1
    · rw [List.mem_singleton] at h1; omega
  · rcases List.mem_append.1 hz with h1 | h1
    · exact J.z z h1
    · rw [List.mem_singleton] at h1; omega
def Vij (i j : Nat) : Nat → Nat → Int := fun t u => if t < i ∨ (t = i ∧ u < j) then (t : Int) + 1 else 0
theorem vij_start : (fun (_ _ : Nat) => (0 : Int)) = Vij 0 0 := by funext t u; unfold Vij; rw [if_neg (by omega)]
theorem vij_step (i j : Nat) : (fun t' j' => if t' = i ∧ j' = j then (i : Int) + 1 else Vij i j t' j') = Vij i (j + 1) := by
  funext t u
  show (if t = i ∧ u = j then (i : Int) + 1 else if t < i ∨ (t = i ∧ u < j) then (t : Int) + 1 else 0) = if t < i ∨ (t = i ∧ u < j + 1) then (t : Int) + 1 else 0
  by_cases h : t = i ∧ u = j
  · rw [if_pos h, if_pos (by omega)]; omega
  · rw [if_neg h]
    by_cases h2 : t < i ∨ (t = i ∧ u < j)
    · rw [if_pos h2, if_pos (by omega)]
    · rw [if_neg h2, if_neg (by omega)]
theorem vij_next {Ss : List Nat} {i n : Nat} (h : Ss[i]? = some n) : ∀ t m u, Ss[t]? = some m → u < m → Vij i n t u = Vij (i + 1) 0 t u := fun t m u ht hu => by
  unfold Vij
  by_cases e : t = i
  · rw [e, h] at ht; injection ht with ht
    rw [if_pos (by omega), if_pos (by omega)]
  · by_cases h2 : t < i
    · rw [if_pos (by omega), if_pos (by omega)]
    · rw [if_neg (by omega), if_neg (by omega)]
structure Ap3 (W : World) (g N b : Nat) (h : ArH) (As Ss : List Nat) (va vs : Value) (a : Ar) (V : Nat → Nat → Int) (w : World) : Prop where
  S : ArS W w g h a N b
  C : Cont a As Ss V
  A : LsS W w h a va (intsN As)
  Z : LsS W w h a vs (intsN Ss)
theorem Ap3.chg0 {W w w' : World} {g N b : Nat} {h : ArH} {As Ss : List Nat} {va vs : Value} {a : Ar} {V : Nat → Nat → Int} (J : Ap3 W g N b h As Ss va vs a V w) (c : Chg [] w w') : Ap3 W g N b h As Ss va vs a V w' := ⟨J.S.chg0 c, J.C, J.A.chg0 c, J.Z.chg0 c⟩
def Ap3Rel (W : World) (g N b : Nat) (h : ArH) (As Ss : List Nat) (va vs : Value) (m gk : Nat) (idx : Value) (w : World) : Prop :=
  ∃ i a, gk + i = m + 1 ∧ i ≤ m ∧ idx = .int .i64 (i : Nat) ∧ Ap3 W g N b h As Ss va vs a (Vij i 0) w
def Ap4Rel (W : World) (g N b : Nat) (h : ArH) (As Ss : List Nat) (va vs : Value) (i n gk : Nat) (idx : Value) (w : World) : Prop :=
  ∃ j a, gk + j = n + 1 ∧ j ≤ n ∧ idx = .int .i64 (j : Nat) ∧ Ap3 W g N b h As Ss va vs a (Vij i j) w
def Ap5Rel (W : World) (g N b : Nat) (h : ArH) (As Ss : List Nat) (va vs : Value) (a : Ar) (m n gk : Nat) (idx : Value) (w : World) : Prop :=
  ∃ i, gk + i = n + 1 ∧ i ≤ n ∧ idx = .int .i64 (i : Nat) ∧ Ap3 W g N b h As Ss va vs a (Vij m 0) w
theorem intsN_at {l : List Nat} {i x : Nat} (h : l[i]? = some x) : (intsN l)[i]? = some (x : Int) := by unfold intsN; rw [List.getElem?_map, h]; rfl
theorem intsN_len (l : List Nat) : (intsN l).length = l.length := by unfold intsN; rw [List.length_map]
set_option maxHeartbeats 6400000 in
set_option maxRecDepth 100000 in
theorem apart_any (A : Option Addr) (c : Nat) (xs : List Int) (W : World) (T0 : Tab W) (hA : IntsAt W W.heap.size A xs) (hm : xs.length ≤ maxLen) : Calls Tryd.prog 5 #[.slice A xs.length c] W (TdPost W) := by
  have HT := Lib.hid (And.intro T0 hA); clear T0 hA
  by_cases hl : xs.length = 0 ∨ 30 < xs.length
  · rcases hl with h0 | h0
    · have d1 : ((xs.length : Int) == 0) = true := by rw [beq_iff_eq]; omega
      go_enter Tryd.func5, Tryd.ntmps5
      go_wp2_with fail
      refine (told_ok W HT.out.1).mono ?_
      rintro e w1 ⟨rfl, c1⟩
      have HC := Lib.hid c1; clear c1
      go_wp2_with fail
      go_ret
      exact ⟨rfl, HC.out⟩
    · have d1 : ((xs.length : Int) == 0) = false := by rw [beq_eq_false_iff_ne]; omega
      have d2 : (30 : Int) < (xs.length : Int) := by omega
      have d3 : ¬ xs.length = 0 := by omega
      have d4 : ¬ xs = [] := fun e => d3 (by rw [e]; rfl)
      go_enter Tryd.func5, Tryd.ntmps5
      go_wp2_with fail
      refine (told_ok W HT.out.1).mono ?_
      rintro e w1 ⟨rfl, c1⟩
      have HC := Lib.hid c1; clear c1
      go_wp2_with fail
      go_ret
      exact ⟨rfl, HC.out⟩
  · have d1 : ((xs.length : Int) == 0) = false := by rw [beq_eq_false_iff_ne]; omega
    have d2 : ¬ (30 : Int) < (xs.length : Int) := by omega
    have d3 : ¬ xs.length = 0 := by omega
    have d4 : ¬ 30 < xs.length := by omega
    have d5 : ¬ xs = [] := fun e => d3 (by rw [e]; rfl)
    have hm30 : xs.length ≤ 30 := by omega
    clear hl hm
    go_enter Tryd.func5, Tryd.ntmps5
    go_wp2_with fail
    refine (s_new W 512 32768 (by decide) (by decide) (by decide)).mono ?_
    rintro e w1 ⟨g, h1, rfl, S⟩
    have S1 := Lib.hid S; clear S
    clear d1 d2 d3 d4 d5
    go_wp2_with fail
    go_loopg [5, 6, 7] (xs.length + 1) (fun gk va vs idx wr => Ap1Rel W g xs.length gk va vs idx wr)
    case atStart => exact ⟨0, h1, newA 512, 1, 511, [], [], by omega, by omega, rfl, ⟨S1.out, Cont.new 512 _, LsS.nil _ _ _ _, LsS.nil _ _ _ _, fun k hk => by simp [fpv, Value.ownBlock] at hk, by simp, by simp, by simp⟩, SerA.new⟩
    case round =>
      clear S1 h1
      obtain ⟨i, h, a, f, p, As, Ss, hgk, hi, rfl, J, R⟩ := hrel
      obtain ⟨Aa, ca, rfl⟩ := J.A.o.slice
      obtain ⟨Az, cz, rfl⟩ := J.Z.o.slice
      by_cases e : i < xs.length
      · obtain ⟨z, hz⟩ : ∃ z, xs[i]? = some z := ⟨xs[i], List.getElem?_eq_getElem e⟩
        obtain ⟨ba, off, rfl, hb1⟩ := ints_keep HT.out.2 J.S.c hz
        have hi' : (i : Int) < (xs.length : Int) := by omega
        have hi0 : (0 : Int) ≤ (i : Int) := by omega
        obtain ⟨n0, hn0, en0⟩ := mod_n z 256 (by decide) (by decide)
        have en : wrap64 ((IntKind.u64.wrap z).tmod 256) = (n0 : Int) := en0
        have en2 : wrap64 (1 + (n0 : Int)) = ((n0 + 1 : Nat) : Int) := by unfold wrap64; omega
        have EN := Lib.hid (And.intro en en2); clear en en2 en0 hz
        have HJ := Lib.hid (And.intro J R); clear J R
        go_wp2_with fail
        rw [EN.out.1, EN.out.2]
        obtain ⟨n, hn⟩ : ∃ n, n = n0 + 1 := ⟨_, rfl⟩
        rw [← hn]
        have hn1 : 1 ≤ n := by omega
        have hn2 : n ≤ 256 := by omega
        clear EN hn0 hn hb1
        refine (rof_ok wr n hn1 hn2).mono ?_
        rintro e2 w2 ⟨q, hq, rfl, c2⟩
        have HQ := Lib.hid hq
        have J2 := Lib.hid (HJ.out.1.chg0 c2); clear c2
        have hq16 : q < 16 := hq.1
        have hnq : n ≤ szK q := hq.2.1
        have hpg := (kF hq16).2.2.2.2.2.1
        have hsl := (kF hq16).2.2.2.2.2.2.2.1
        clear hq
        go_wp2_with fail
        refine (s_span_next J2.out.S (by omega) (by omega) (q := q) (f := f) (p := p) hq16 HJ.out.2.l (by have := HJ.out.2.s; have := HJ.out.2.f; omega) HJ.out.2.sp).mono ?_
        rintro e2 w3 ⟨h3, rfl, S, hnone, st⟩
        obtain ⟨a3, ha3⟩ : ∃ a3, a3 = spanA a [⟨f + pgK q, p - pgK q⟩] i q f := ⟨_, rfl⟩
        rw [← ha3] at S st
        have hs3 : a3.sp i = some (spn f q) := by rw [ha3]; show updF a.sp i (some (spn f q)) i = _; exact updF_same _ _ _
        have R3 : SerA a3 (i + 1) (f + pgK q) (p - pgK q) := by rw [ha3]; exact HJ.out.2.span hq16 (by omega)
        have J3 : Ap1 W g (i + 1) (8 * i + 6) (2 * i) h3 a3 As Ss (.slice Aa (intsN As).length ca) (.slice Az (intsN Ss).length cz) w3 :=
          ⟨S, J2.out.C.congr (by rw [ha3]; rfl), J2.out.A.sta st, J2.out.Z.sta st, J2.out.d, J2.out.n, J2.out.x, J2.out.z⟩
        have H3 := Lib.hid (And.intro J3 (And.intro R3 hs3)); clear S st ha3 hs3 R3 J3 J2 hnone
        go_wp2_with fail
        go_loopg [5, 6, 11] 3 (fun gk va vs idx wr => Ap2Rel W g i q gk va vs idx wr)
        case atStart => exact ⟨0, h3, a3, _, _, spn f q, As, Ss, rfl, by omega, rfl, H3.out.1, H3.out.2.1, H3.out.2.2, rfl, fun _ => ⟨rfl, rfl⟩⟩
        case round =>
          clear H3 HJ
          obtain ⟨j, h', a', f', p', s, As', Ss', hgj, hj, rfl, J, R, hs, hk, h0⟩ := hrel
          obtain ⟨Ab, cb, rfl⟩ := J.A.o.slice
          obtain ⟨Ay, cy, rfl⟩ := J.Z.o.slice
          have HY := Lib.hid (And.intro J (And.intro R (And.intro hs (And.intro hk h0)))); clear J R hs hk h0
          by_cases ej : j < 2
          · have hj' : (j : Int) < 2 := by omega
            go_wp2_with fail
            have e0 : spI a' (i : Nat) = some s := by unfold spI; rw [if_pos (by omega), Int.toNat_natCast]; exact HY.out.2.2.1
            refine (s_alloc HY.out.1.S HT.out.1 (by omega) (by omega) (i : Nat) (n : Nat) (by unfold Wf64; omega) false).mono ?_
            rintro e3 w4 (⟨cc, rfl, S, c1, hc⟩ | ⟨s', y, h4, hz0, hs', hn1', hn2', hy1, hy2, hF, hall, rfl, S, st⟩)
            · have hfull : cc = 3 ∧ j = 1 := by
                rw [e0] at hc
                rcases hc with ⟨hc, -⟩ | ⟨s', hs', ⟨hc, -⟩ | ⟨-, -, hful, rfl⟩⟩
                · cases hc
                · injection hs' with hs'; subst hs'
                  rw [HY.out.2.2.2.1] at hc; omega
                · injection hs' with hs'; subst hs'
                  refine ⟨rfl, ?_⟩
                  rcases Nat.eq_zero_or_pos j with g0 | g0
                  · have h0 := HY.out.2.2.2.2 g0
                    have := hful 0 (by omega) (by rw [HY.out.2.2.2.1]; omega)
                    rw [h0.2] at this; cases this
                  · omega
              clear hc
              obtain ⟨rfl, hj1⟩ := hfull
              have d1 : ((j : Int) == 1) = true := by rw [beq_iff_eq]; omega
              have J4 := Lib.hid (HY.out.1.chg0 c1); clear c1 S e0
              go_wp2_with fail
              go_roundg (xs.length - i)
              case measure => omega
              case rel => exact ⟨i + 1, h', a', f', p', As', Ss', by omega, by omega, by go_num, J4.out.up (by omega) (by omega), HY.out.2.1⟩
            · rw [Int.toNat_natCast] at hs' S st
              rw [Int.toNat_natCast] at S st
              have hss : s' = s := by rw [HY.out.2.2.1] at hs'; injection hs' with hs'; exact hs'.symm
              rw [hss] at hy1 hy2 hF S st ⊢
              clear hs' hall hss
              obtain ⟨x, hx⟩ : ∃ x, x = s.addr y := ⟨_, rfl⟩
              rw [← hx]
              have hob : obI (allocA a' i s y n false) (x : Nat) = some (List.replicate n 0) := by rw [obI_nat, hx]; show updF a'.ob (s.addr y) (some (List.replicate n 0)) (s.addr y) = _; exact updF_same _ _ _
              have hxb : x < 16777216 := by
                have hp := Sp.addr_page (HY.out.1.S.I.ok.pg i s HY.out.2.2.1).1 hy2
                have hp2 := (HY.out.1.S.I.ok.pg i s HY.out.2.2.1).2.2.1
                have hp3 := HY.out.1.S.I.ok.n
                omega
              have H4 := Lib.hid (And.intro hx (And.intro hy2 (And.intro hF (And.intro S (And.intro st hob))))); clear hx hy1 hy2 hF S st hob e0 hz0 hn1' hn2'
              go_wp2_with fail
              have hLn := s_len H4.out.2.2.2.1 (x : Nat) (by unfold Wf64; omega)
              rw [H4.out.2.2.2.2.2, Option.getD_some, List.length_replicate] at hLn
              refine hLn.mono ?_
              clear hLn
              rintro e4 w5 ⟨rfl, rfl⟩
              have hll : (intsN As').length ≤ 62 := by unfold intsN; rw [List.length_map]; have := HY.out.1.n; omega
              have hlz : (intsN Ss').length ≤ 62 := by unfold intsN; rw [List.length_map, ← HY.out.1.C.len]; have := HY.out.1.n; omega
              go_wp2_with (first
                | (at_builtin; refine wpList_push_int rfl _ _ rfl slZ' rfl (HY.out.1.A.sta H4.out.2.2.2.2.1).o rfl (by omega) ?_; intro A6 c6 w6 O6 s6)
                | (at_builtin; refine wpList_push_int rfl _ _ rfl slZ' rfl ((HY.out.1.Z.sta H4.out.2.2.2.2.1).o.chg s6.c (fun k hk hm => HY.out.1.d k hm hk)) rfl (by omega) ?_; intro A7 c7 w7 O7 s7))
              have J7 := HY.out.1.more HY.out.2.2.1 H4.out.2.1 H4.out.2.2.1 hn2 H4.out.2.2.2.1 H4.out.2.2.2.2.1 (by rw [← H4.out.1]; exact O6) s6 O7 s7
              have H7 := Lib.hid J7; clear J7 O6 s6 O7 s7
              have hs7 : (allocA a' i s y n false).sp i = some (allocS s y false) := by show updF a'.sp i _ i = _; exact updF_same _ _ _
              have R7 : SerA (allocA a' i s y n false) (i + 1) f' p' := HY.out.2.1.set
              have H8 := Lib.hid (And.intro hs7 R7); clear hs7 R7
              go_wp2_with fail
              go_roundg (2 - j)
              case measure => omega
              case rel => exact ⟨j + 1, h4, _, f', p', _, _, _, by omega, by omega, by go_num, H7.out, H8.out.2, H8.out.1, HY.out.2.2.2.1, fun h => by omega⟩
          · obtain rfl : j = 2 := by omega
            go_wp2_with fail
            go_roundg (xs.length - i)
            case measure => omega
            case rel => exact ⟨i + 1, h', a', f', p', As', Ss', by omega, by omega, by go_num, HY.out.1.up (by omega) (by omega), HY.out.2.1⟩
      · obtain rfl : i = xs.length := by omega
        have hi' : ¬ (xs.length : Int) < (xs.length : Int) := by omega
        have hmA : As.length ≤ 60 := by have := J.n; omega
        have J3 : Ap3 W g xs.length (8 * xs.length) h As Ss (.slice Aa (intsN As).length ca) (.slice Az (intsN Ss).length cz) a (Vij 0 0) wr := ⟨J.S, by have := J.C; rw [vij_start] at this; exact this, J.A, J.Z⟩
        have hlen := J.C.len
        have HB := Lib.hid (And.intro J.x J.z)
        rw [intsN_len, intsN_len, ← hlen] at J3 ⊢
        clear J R e hgk hi
        obtain ⟨m, hm⟩ : ∃ m, m = As.length := ⟨_, rfl⟩
        rw [← hm] at J3 hlen hmA ⊢
        have HL := Lib.hid (And.intro hm hlen); clear hm hlen
        have HJ := Lib.hid J3; clear J3
        go_wp2_with fail
        go_loopg [14] (m + 1) (fun gk idx wr => Ap3Rel W g xs.length (8 * xs.length) h As Ss (.slice Aa m ca) (.slice Az m cz) m gk idx wr)
        case atStart => exact ⟨0, a, by omega, by omega, rfl, HJ.out⟩
        case round =>
          clear HJ
          obtain ⟨i, b, hgk, hi, rfl, J⟩ := hrel
          by_cases e : i < m
          · have hi' : (i : Int) < (m : Int) := by omega
            have hi0 : (0 : Int) ≤ (i : Int) := by omega
            obtain ⟨x, hx⟩ : ∃ x, As[i]? = some x := ⟨_, List.getElem?_eq_getElem (by rw [← HL.out.1]; exact e)⟩
            obtain ⟨n, hn⟩ : ∃ n, Ss[i]? = some n := ⟨_, List.getElem?_eq_getElem (by rw [← HL.out.2]; exact e)⟩
            obtain ⟨ga, rfl, -⟩ := J.A.o.cell (intsN_at hx)
            obtain ⟨gz, rfl, -⟩ := J.Z.o.cell (intsN_at hn)
            have hxb := HB.out.1 x (List.mem_of_getElem? hx)
            have hnb := HB.out.2 n (List.mem_of_getElem? hn)
            have HX := Lib.hid (And.intro hx hn); clear hx hn
            have HJ := Lib.hid J; clear J
            go_wp2_with fail
            go_loopg [15] (n + 1) (fun gk idx wr => Ap4Rel W g xs.length (8 * xs.length) h As Ss (.slice (some ⟨ga, 0, none⟩) m ca) (.slice (some ⟨gz, 0, none⟩) m cz) i n gk idx wr)
            case atStart => exact ⟨0, b, by omega, by omega, rfl, HJ.out⟩
            case round =>
              clear HJ
              obtain ⟨j, b2, hgj, hj, rfl, J⟩ := hrel
              obtain ⟨ga', e1, cA, -⟩ := J.A.o.cell (intsN_at HX.out.1)
              injection e1 with e1; injection e1 with e1; subst e1
              obtain ⟨gz', e2, cZ, -⟩ := J.Z.o.cell (intsN_at HX.out.2)
              injection e2 with e2; injection e2 with e2; subst e2
              have HJ := Lib.hid J; clear J
              by_cases ej : j < n
              · have hj' : (j : Int) < (n : Int) := by omega
                go_wp2_with fail
                have hL := s_load HJ.out.S (x : Nat) (j : Nat) (by unfold Wf64; omega)
                obtain ⟨hl1, hl2⟩ := HJ.out.C.load HX.out.1 HX.out.2 ej
                have hl3 : Vij i j i j = 0 := by unfold Vij; rw [if_neg (by omega)]
                rw [hl1, hl2, hl3] at hL
                refine hL.mono ?_
                clear hL hl1 hl2 hl3 cA cZ
                rintro e3 w4 ⟨rfl, c4⟩
                have J4 := Lib.hid (HJ.out.chg0 c4); clear c4 HJ
                obtain ⟨ga', e1, cA, -⟩ := J4.out.A.o.cell (intsN_at HX.out.1)
                injection e1 with e1; injection e1 with e1; subst e1
                go_wp2_with fail
                have ew : wrap64 ((i : Int) + 1) = (i : Int) + 1 := by unfold wrap64; omega
                first | rw [ew] | skip
                have hSt := s_store J4.out.S (x : Nat) (j : Nat) ((i : Int) + 1) (by unfold Wf64; omega)
                rw [(J4.out.C.load HX.out.1 HX.out.2 ej).2] at hSt
                refine hSt.mono ?_
                clear hSt ew cA
                rintro e3 w5 ⟨rfl, S, st⟩
                have C5 := J4.out.C.put HX.out.1 HX.out.2 ej ((i : Int) + 1)
                rw [vij_step] at C5
                have J5 := Lib.hid (Ap3.mk S C5 (J4.out.A.sta st) (J4.out.Z.sta st)); clear S st C5
                go_wp2_with fail
                go_roundg (n - j)
                case measure => omega
                case rel => exact ⟨j + 1, _, by omega, by omega, by go_num, J5.out⟩
              · obtain rfl : j = n := by omega
                have hj' : ¬ (j : Int) < (j : Int) := by omega
                go_wp2_with fail
                go_roundg (m - i)
                case measure => omega
                case rel => exact ⟨i + 1, b2, by omega, by omega, by go_num, HJ.out.S, HJ.out.C.ext (vij_next HX.out.2), HJ.out.A, HJ.out.Z⟩
          · obtain rfl : i = m := by omega
            have hi' : ¬ (i : Int) < (i : Int) := by omega
            have HJ := Lib.hid J; clear J e hgk hi
            go_wp2_with fail
            go_loopg [18] (i + 1) (fun gk idx wr => Ap5Rel W g xs.length (8 * xs.length) h As Ss (.slice Aa i ca) (.slice Az i cz) b i i gk idx wr)
            case atStart => exact ⟨0, by omega, by omega, rfl, HJ.out⟩
            case round =>
              clear HJ
              obtain ⟨t, hgk, ht, rfl, J⟩ := hrel
              by_cases e : t < i
              · have hi' : (t : Int) < (i : Int) := by omega
                have hi0 : (0 : Int) ≤ (t : Int) := by omega
                obtain ⟨x, hx⟩ : ∃ x, As[t]? = some x := ⟨_, List.getElem?_eq_getElem (by rw [← HL.out.1]; exact e)⟩
                obtain ⟨n, hn⟩ : ∃ n, Ss[t]? = some n := ⟨_, List.getElem?_eq_getElem (by rw [← HL.out.2]; exact e)⟩
                obtain ⟨ga, rfl, -⟩ := J.A.o.cell (intsN_at hx)
                obtain ⟨gz, rfl, -⟩ := J.Z.o.cell (intsN_at hn)
                have hxb := HB.out.1 x (List.mem_of_getElem? hx)
                have hnb := HB.out.2 n (List.mem_of_getElem? hn)
                have HX := Lib.hid (And.intro hx hn); clear hx hn
                have HJ := Lib.hid J; clear J
                go_wp2_with fail
                go_loopg [19] (n + 1) (fun gk idx wr => Ap5Rel W g xs.length (8 * xs.length) h As Ss (.slice (some ⟨ga, 0, none⟩) i ca) (.slice (some ⟨gz, 0, none⟩) i cz) b i n gk idx wr)
                case atStart => exact ⟨0, by omega, by omega, rfl, HJ.out⟩
                case round =>
                  clear HJ
                  obtain ⟨j, hgj, hj, rfl, J⟩ := hrel
                  obtain ⟨ga', e1, cA, -⟩ := J.A.o.cell (intsN_at HX.out.1)
                  injection e1 with e1; injection e1 with e1; subst e1
                  obtain ⟨gz', e2, cZ, -⟩ := J.Z.o.cell (intsN_at HX.out.2)
                  injection e2 with e2; injection e2 with e2; subst e2
                  have HJ := Lib.hid J; clear J
                  by_cases ej : j < n
                  · have hj' : (j : Int) < (n : Int) := by omega
                    go_wp2_with fail
                    have hL := s_load HJ.out.S (x : Nat) (j : Nat) (by unfold Wf64; omega)
                    obtain ⟨hl1, hl2⟩ := HJ.out.C.load HX.out.1 HX.out.2 ej
                    have hl3 : Vij i 0 t j = (t : Int) + 1 := by unfold Vij; rw [if_pos (by omega)]
                    rw [hl1, hl2, hl3] at hL
                    refine hL.mono ?_
                    clear hL hl1 hl2 hl3 cA cZ
                    rintro e3 w4 ⟨rfl, c4⟩
                    have J4 := Lib.hid (HJ.out.chg0 c4); clear c4 HJ
                    have ew : wrap64 ((t : Int) + 1) = (t : Int) + 1 := by unfold wrap64; omega
                    have ew2 : (((t : Int) + 1) != ((t : Int) + 1)) = false := by simp
                    go_wp2_with fail
                    go_roundg (n - j)
                    case measure => omega
                    case rel => exact ⟨j + 1, by omega, by omega, by go_num, J4.out⟩
                  · obtain rfl : j = n := by omega
                    have hj' : ¬ (j : Int) < (j : Int) := by omega
                    go_wp2_with fail
                    go_roundg (i - t)
                    case measure => omega
                    case rel => exact ⟨t + 1, by omega, by omega, by go_num, HJ.out⟩
              · obtain rfl : t = i := by omega
                have hi' : ¬ (t : Int) < (t : Int) := by omega
                have HJ := Lib.hid J; clear J e hgk ht
                go_wp2_with fail
                refine (told_ok wr (HT.out.1.chg HJ.out.S.c (by simp))).mono ?_
                rintro e5 w5 ⟨rfl, c5⟩
                have J5 := Lib.hid (HJ.out.chg0 c5); clear c5
                go_wp2_with fail
                refine (s_objects J5.out.S (by omega)).mono ?_
                rintro e6 w6 ⟨vo, ks, rfl, O, c6, -, hr, hmem⟩
                have hks := J5.out.C.keys_len hr hmem
                rw [← HL.out.1] at hks
                obtain ⟨A6, c7, rfl⟩ : ∃ A6 c7, vo = .slice A6 ks.length c7 := O.slice
                rw [hks]
                have J6 := Lib.hid (J5.out.chg0 c6); clear c6 hks hr hmem O
                go_wp2_with fail
                go_ret
                exact ⟨by simp, J6.out.S.c⟩
end Go.Proofs.YtkocikpoagfonaaDoor
