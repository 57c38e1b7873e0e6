/- Objects in the first places of spans: used, marked or not (for ArenaMarks, ArenaSums). Plain. -/
/- The walk of ArenaSums. -/
import Derived.Test.YtkocikpoagfonaaDoorSer2
import Derived.Test.YtkocikpoagfonaaDoorObj
import Derived.Test.YtkocikpoagfonaaDoorZPut
namespace Go.Proofs.YtkocikpoagfonaaDoor
open Go.RowKit

structure MkA (a : Ar) (m : Nat) (c F M : Nat → Bool) (st : List Int) : Prop where
  sp : ∀ j, j < m → ∃ s, a.sp j = some s ∧ Spt s (F j) (M j)
  me : ∀ x, x ∈ st ↔ ∃ j s, j < m ∧ c j = true ∧ a.sp j = some s ∧ x = ((s.addr 0 : Nat) : Int)
  r : Rise st
  l : st.length ≤ m
  w : ∀ x ∈ st, 0 ≤ x ∧ x < 16777216
theorem MkA.new (n : Nat) (c F M : Nat → Bool) : MkA (newA n) 0 c F M [] := ⟨fun j h => by omega, fun x => ⟨fun h => by simp at h, fun ⟨_, _, h, _⟩ => by omega⟩, List.Pairwise.nil, Nat.le_refl _, by simp⟩
section
variable {a a' : Ar} {m id : Nat} {c F M F' M' : Nat → Bool} {st : List Int} {s s' : Sp} (K : MkA a m c F M st)
include K
theorem MkA.ext (hF : ∀ j, j < m → F j = F' j) (hM : ∀ j, j < m → M j = M' j) : MkA a m c F' M' st :=
  ⟨fun j hj => by obtain ⟨s, h1, h2⟩ := K.sp j hj; rw [hF j hj, hM j hj] at h2; exact ⟨s, h1, h2⟩, K.me, K.r, K.l, K.w⟩
theorem MkA.congr (e : a'.sp = a.sp) : MkA a' m c F M st := ⟨fun j hj => by rw [e]; exact K.sp j hj, fun x => by rw [e]; exact K.me x, K.r, K.l, K.w⟩
/-- One of the spans turned: it lies where it lay. -/
theorem MkA.set (hid : id < m) (hs : a.sp id = some s) (e : a'.sp = updF a.sp id (some s')) (ha : s'.addr 0 = s.addr 0) {f u : Bool} (h : Spt s' f u) :
    MkA a' m c (fun j => if j = id then f else F j) (fun j => if j = id then u else M j) st := by
  refine ⟨fun j hj => ?_, fun x => ?_, K.r, K.l, K.w⟩
  · rw [e]
    by_cases e1 : j = id
    · subst e1
      rw [updF_same, if_pos rfl, if_pos rfl]
      exact ⟨s', rfl, h⟩
    · rw [updF_other _ _ e1, if_neg e1, if_neg e1]
      exact K.sp j hj
  · rw [K.me x, e]
    constructor
    · rintro ⟨j, t, hj, hc, ht, hx⟩
      by_cases e1 : j = id
      · subst e1
        rw [hs] at ht; injection ht with ht; subst ht
        exact ⟨j, s', hj, hc, updF_same _ _ _, by rw [ha]; exact hx⟩
      · exact ⟨j, t, hj, hc, (updF_other _ _ e1).trans ht, hx⟩
    · rintro ⟨j, t, hj, hc, ht, hx⟩
      by_cases e1 : j = id
      · subst e1
        rw [updF_same] at ht; injection ht with ht; subst ht
        exact ⟨j, s, hj, hc, hs, by rw [← ha]; exact hx⟩
      · rw [updF_other _ _ e1] at ht
        exact ⟨j, t, hj, hc, ht, hx⟩
/-- One more span. -/
theorem MkA.more (e : ∀ j, j ≠ m → a'.sp j = a.sp j) (hs : a'.sp m = some s) (h : Spt s (F m) (M m)) (hx : s.addr 0 < 16777216) : MkA a' (m + 1) c F M (if c m then putL st ((s.addr 0 : Nat) : Int) else st) := by
  refine ⟨fun j hj => ?_, fun x => ?_, ?_, ?_, fun x hx' => ?_⟩
  · by_cases e1 : j = m
    · subst e1; exact ⟨s, hs, h⟩
    · rw [e j e1]; exact K.sp j (by omega)
  · have h1 : (∃ j t, j < m + 1 ∧ c j = true ∧ a'.sp j = some t ∧ x = ((t.addr 0 : Nat) : Int)) ↔ x ∈ st ∨ (c m = true ∧ x = ((s.addr 0 : Nat) : Int)) := by
      rw [K.me x]
      constructor
      · rintro ⟨j, t, hj, hc, ht, hx⟩
        by_cases e1 : j = m
        · subst e1
          rw [hs] at ht; injection ht with ht; subst ht
          exact .inr ⟨hc, hx⟩
        · rw [e j e1] at ht
          exact .inl ⟨j, t, by omega, hc, ht, hx⟩
      · rintro (⟨j, t, hj, hc, ht, hx⟩ | ⟨hc, hx⟩)
        · exact ⟨j, t, by omega, hc, by rw [e j (by omega)]; exact ht, hx⟩
        · exact ⟨m, s, by omega, hc, hs, hx⟩
    rw [h1]
    cases c m
    · simp
    · simp [mem_putL]
  · cases c m
    · exact K.r
    · exact rising_putL K.r
  · have := K.l
    cases c m
    · show st.length ≤ m + 1; omega
    · have := len_putL st ((s.addr 0 : Nat) : Int); show (putL st _).length ≤ m + 1; omega
  · have h2 : x ∈ st ∨ x = ((s.addr 0 : Nat) : Int) := by
      cases hc : c m
      · rw [hc] at hx'; exact .inl hx'
      · rw [hc] at hx'; exact mem_putL.1 hx'
    rcases h2 with h2 | h2
    · exact K.w x h2
    · omega
/-- Which addresses are objects'. -/
theorem MkA.obs {N : Nat} (ok : ArOk N a) (hN : N = m) (x : Int) : (obI a x).isSome = true ↔ ∃ j s, j < m ∧ F j = true ∧ a.sp j = some s ∧ x = ((s.addr 0 : Nat) : Int) := by
  subst hN
  have key : ∀ y : Nat, (a.ob y).isSome = true ↔ ∃ j s, j < N ∧ F j = true ∧ a.sp j = some s ∧ y = s.addr 0 := fun y => by
    rw [ok.ob y]
    constructor
    · rintro ⟨id, s, i, hs, hi, hF, hx⟩
      have hid := ok.top id s hs
      obtain ⟨t, ht, hS⟩ := K.sp id hid
      rw [hs] at ht; injection ht with ht; subst ht
      rw [hS.F i, Bool.and_eq_true, decide_eq_true_iff] at hF
      obtain ⟨rfl, hF⟩ := hF
      exact ⟨id, s, hid, hF, hs, hx⟩
    · rintro ⟨j, s, hj, hF, hs, hx⟩
      obtain ⟨t, ht, hS⟩ := K.sp j hj
      rw [hs] at ht; injection ht with ht; subst ht
      exact ⟨j, s, 0, hs, (kF (ok.pg j s hs).1).2.2.2.2.2.2.2.1, by rw [hS.F]; simp [hF], hx⟩
  unfold obI
  by_cases h0 : 0 ≤ x
  · rw [if_pos h0, key]
    constructor
    · rintro ⟨j, s, h1, h2, h3, h4⟩; exact ⟨j, s, h1, h2, h3, by omega⟩
    · rintro ⟨j, s, h1, h2, h3, h4⟩; exact ⟨j, s, h1, h2, h3, by omega⟩
  · rw [if_neg h0]
    constructor
    · intro h; cases h
    · rintro ⟨j, s, h1, h2, h3, h4⟩; omega
end
theorem MkA.live {a : Ar} {m : Nat} {c F M : Nat → Bool} {st : List Int} (K : MkA a m c F M st) (I : ArI m a) (hF : ∀ j, j < m → F j = false) : a.live = 0 := by
  rw [I.lv]
  refine livN_zero (fun j s hs => ?_) m
  have hj := I.ok.top j s hs
  obtain ⟨t, ht, hS⟩ := K.sp j hj
  rw [hs] at ht; injection ht with ht; subst ht
  exact hS.none_ (hF j hj) _
end Go.Proofs.YtkocikpoagfonaaDoor
namespace Go.Proofs.YtkocikpoagfonaaDoor
open Go.RowKit

theorem ints_keep' {W w : World} {A : Option Addr} {xs : List Int} (h : IntsAt W W.heap.size A xs) (c : Chg [] W w) {i : Nat} {x : Int} (hx : xs[i]? = some x) : ∃ b off, A = some ⟨b, off, none⟩ ∧ w.cell? ⟨b, off + i, none⟩ = some (.int .i64 x) := by
  obtain ⟨b, off, e, hb, hc⟩ := h i x hx
  exact ⟨b, off, e, c.cellv hb (by simp) hc⟩
structure Mk1 (W : World) (g N b m : Nat) (h : ArH) (a : Ar) (c F M : Nat → Bool) (st : List Int) (vs : Value) (w : World) : Prop where
  S : ArS W w g h a N b
  K : MkA a m c F M st
  L : LsS W w h a vs st
theorem Mk1.chg0 {W w w' : World} {g N b m : Nat} {h : ArH} {a : Ar} {c F M : Nat → Bool} {st : List Int} {vs : Value} (J : Mk1 W g N b m h a c F M st vs w) (k : Chg [] w w') : Mk1 W g N b m h a c F M st vs w' := ⟨J.S.chg0 k, J.K, J.L.chg0 k⟩
theorem Mk1.up {W w : World} {g N b b' m : Nat} {h : ArH} {a : Ar} {c F M : Nat → Bool} {st : List Int} {vs : Value} (J : Mk1 W g N b m h a c F M st vs w) (hb : b ≤ b') : Mk1 W g N b' m h a c F M st vs w := ⟨⟨J.S.M, J.S.I, J.S.far, J.S.c, J.S.ga, Nat.le_trans J.S.m hb⟩, J.K, J.L⟩
def evn (j : Nat) : Bool := decide (j % 2 = 0)
theorem evn_bits : ∀ i : Fin 21, (bits BinOp.and IntKind.i64 ((i.val : Nat) : Int) 1 == 0) = evn i.val := by decide +kernel
def SmRel (W : World) (g m : Nat) (gk : Nat) (sm vs idx : Value) (w : World) : Prop :=
  ∃ i h a f p st, gk + i = m + 1 ∧ i ≤ m ∧ idx = .int .i64 (i : Nat) ∧ sm = .int .i64 (a.live : Nat) ∧ a.live ≤ 256 * i ∧ Mk1 W g i (7 * i) i h a (fun _ => true) (fun _ => true) evn st vs w ∧ SerA a i f p
set_option maxHeartbeats 6400000 in
set_option maxRecDepth 100000 in
theorem sums_any (A : Option Addr) (c : Nat) (xs : List Int) (nr : Int) (W : World) (T0 : Tab W) (hA : IntsAt W W.heap.size A xs) (hm : xs.length ≤ maxLen) : Calls Tryd.prog 6 #[.slice A xs.length c, .int .i64 nr] W (TdPost W) := by
  have HT := Lib.hid (And.intro T0 hA); clear T0 hA
  by_cases hl : 20 < xs.length
  · have d2 : (20 : Int) < (xs.length : Int) := by omega
    go_enter Tryd.func6, Tryd.ntmps6
    go_wp2_with fail
    refine (told_ok W HT.out.1).mono ?_
    rintro e w1 ⟨rfl, c1⟩
    have HC := Lib.hid c1; clear c1
    go_wp2_with fail
    go_ret
    exact ⟨rfl, HC.out⟩
  · have d2 : ¬ (20 : Int) < (xs.length : Int) := by omega
    have hm20 : xs.length ≤ 20 := by omega
    obtain ⟨m0, hm0, em0⟩ := mod_n nr 200 (by decide) (by decide)
    have em : wrap64 ((IntKind.u64.wrap nr).tmod 200) = (m0 : Int) := em0
    have HE := Lib.hid em; clear em0 em
    go_enter Tryd.func6, Tryd.ntmps6
    go_wp2_with fail
    refine (s_new W 512 32768 (by decide) (by decide) (by decide)).mono ?_
    rintro e w1 ⟨g, h1, rfl, S⟩
    have S1 := Lib.hid S; clear S
    clear d2 hl hm
    go_wp2_with fail
    go_loopg [7, 8, 9] (xs.length + 1) (fun gk sm vs idx wr => SmRel W g xs.length gk sm vs idx wr)
    case atStart => exact ⟨0, h1, newA 512, 1, 511, [], by omega, by omega, rfl, rfl, by decide, ⟨S1.out, MkA.new _ _ _ _, LsS.nil _ _ _ _⟩, SerA.new⟩
    case round =>
      clear S1 h1
      obtain ⟨i, h, a, f, p, st, hgk, hi, rfl, rfl, hlv, J, R⟩ := hrel
      obtain ⟨As, cs, rfl⟩ := J.L.o.slice
      by_cases e : i < xs.length
      · obtain ⟨z, hz⟩ : ∃ z, xs[i]? = some z := ⟨xs[i], List.getElem?_eq_getElem e⟩
        obtain ⟨ba, off, rfl, hb1⟩ := ints_keep' HT.out.2 J.S.c hz
        have hi' : (i : Int) < (xs.length : Int) := by omega
        have hi0 : (0 : Int) ≤ (i : Int) := by omega
        obtain ⟨n0, hn0, en0⟩ := mod_n z 256 (by decide) (by decide)
        have en : wrap64 ((IntKind.u64.wrap z).tmod 256) = (n0 : Int) := en0
        have en2 : wrap64 (1 + (n0 : Int)) = ((n0 + 1 : Nat) : Int) := by unfold wrap64; omega
        have EN := Lib.hid (And.intro en en2); clear en en2 en0 hz
        have HJ := Lib.hid (And.intro J R); clear J R
        go_wp2_with fail
        rw [EN.out.1, EN.out.2]
        obtain ⟨n, hn⟩ : ∃ n, n = n0 + 1 := ⟨_, rfl⟩
        rw [← hn]
        have hn1 : 1 ≤ n := by omega
        have hn2 : n ≤ 256 := by omega
        clear EN hn0 hn hb1
        refine (rof_ok wr n hn1 hn2).mono ?_
        rintro e2 w2 ⟨q, hq, rfl, c2⟩
        have J2 := Lib.hid (HJ.out.1.chg0 c2); clear c2
        have hq16 : q < 16 := hq.1
        have hnq : n ≤ szK q := hq.2.1
        have hpg := (kF hq16).2.2.2.2.2.1
        have hsl := (kF hq16).2.2.2.2.2.2.2.1
        have hsz := (kF hq16).2.2.2.1
        clear hq
        go_wp2_with fail
        refine (s_span_next J2.out.S (by omega) (by omega) (q := q) (f := f) (p := p) hq16 HJ.out.2.l (by have := HJ.out.2.s; have := HJ.out.2.f; omega) HJ.out.2.sp).mono ?_
        rintro e2 w3 ⟨h3, rfl, S, hnone, st3⟩
        obtain ⟨a3, ha3⟩ : ∃ a3, a3 = spanA a [⟨f + pgK q, p - pgK q⟩] i q f := ⟨_, rfl⟩
        rw [← ha3] at S st3
        have hs3 : a3.sp i = some (spn f q) := by rw [ha3]; show updF a.sp i (some (spn f q)) i = _; exact updF_same _ _ _
        have hs3' : ∀ j, j ≠ i → a3.sp j = a.sp j := fun j hj => by rw [ha3]; show updF a.sp i (some (spn f q)) j = _; exact updF_other _ _ hj
        have R3 : SerA a3 (i + 1) (f + pgK q) (p - pgK q) := by rw [ha3]; exact HJ.out.2.span hq16 (by omega)
        have hl3 : a3.live = a.live := by rw [ha3]; rfl
        have L3 := J2.out.L.sta st3
        have hfb : f * 64 < 16777216 := by have := HJ.out.2.s; omega
        have H3 := Lib.hid (And.intro S (And.intro R3 (And.intro hs3 (And.intro hs3' (And.intro L3 hl3))))); clear S st3 ha3 hs3 hs3' R3 L3 J2 hnone hl3
        obtain ⟨bk, hbk⟩ : ∃ bk, bk = evn i := ⟨_, rfl⟩
        have hbit : (bits BinOp.and IntKind.i64 (i : Int) 1 == 0) = bk := by rw [hbk]; exact evn_bits ⟨i, by omega⟩
        have HBK := Lib.hid hbk; clear hbk
        go_wp2_with fail
        first | rw [hbit] | skip
        have hA := s_alloc_first H3.out.1 HT.out.1 (by omega) (by omega) (id := i) (n := n) (s := spn f q) H3.out.2.2.1 rfl rfl hn1 hnq bk
        refine hA.mono ?_
        clear hA
        rintro e3 w4 ⟨h4, rfl, S, st4⟩
        obtain ⟨a4, ha4⟩ : ∃ a4, a4 = allocA a3 i (spn f q) 0 n bk := ⟨_, rfl⟩
        rw [← ha4] at S st4
        obtain ⟨t1, ht1⟩ : ∃ t1, t1 = allocS (spn f q) 0 bk := ⟨_, rfl⟩
        have hs4 : a4.sp i = some t1 := by rw [ha4, ht1]; show updF a3.sp i (some (allocS (spn f q) 0 bk)) i = _; exact updF_same _ _ _
        have hs4' : ∀ j, j ≠ i → a4.sp j = a.sp j := fun j hj => by rw [ha4]; show updF a3.sp i (some (allocS (spn f q) 0 bk)) j = _; rw [updF_other _ _ hj]; exact H3.out.2.2.2.1 j hj
        have hl4 : a4.live = a.live + szK q := by rw [ha4]; show a3.live + szK q = _; rw [H3.out.2.2.2.2.2]
        have R4 : SerA a4 (i + 1) (f + pgK q) (p - pgK q) := by rw [ha4]; exact H3.out.2.1.set
        have L4 := H3.out.2.2.2.2.1.sta st4
        have P1 : Spt t1 true bk := by
          have := (spn_spt f q).alloc bk
          rw [Bool.or_false] at this
          rw [ht1]; exact this
        have hk1 : t1.k = q := by rw [ht1]; rfl
        obtain ⟨x, hx⟩ : ∃ x, x = (spn f q).addr 0 := ⟨_, rfl⟩
        have hx1 : t1.addr 0 = x := by rw [ht1, hx]; rfl
        have hx2 : x = f * 64 := by rw [hx]; exact spn_addr f q
        have ho4 : obI a4 (x : Nat) = some (List.replicate n 0) := by rw [obI_nat, hx, ha4]; show updF a3.ob ((spn f q).addr 0) (some (List.replicate n 0)) _ = _; exact updF_same _ _ _
        rw [← hx]
        have H4 := Lib.hid (And.intro S (And.intro R4 (And.intro hs4 (And.intro hs4' (And.intro L4 (And.intro P1 (And.intro hk1 (And.intro hx1 (And.intro ho4 hl4))))))))); clear S R4 hs4 hs4' L4 P1 hk1 hx1 ht1 ha4 hx st4 ho4 hl4
        have hxb : x < 16777216 := by omega
        clear hx2
        go_wp2_with fail
        refine (s_find H4.out.1 (by omega) (x : Nat) (by unfold Wf64; omega)).mono ?_
        rintro e4 w5 ⟨c5, ⟨hn0, -⟩ | ⟨id', i', -, hat, rfl⟩⟩
        · rw [H4.out.2.2.2.2.2.2.2.2.1] at hn0; cases hn0
        · obtain ⟨s', hs', hi1, hF', hx'⟩ := hat
          have hid : id' = i := by
            have e1 : t1.addr 0 = s'.addr i' := by rw [H4.out.2.2.2.2.2.2.2.1]; omega
            exact (H4.out.1.I.ok.other H4.out.2.2.1 hs' (by rw [H4.out.2.2.2.2.2.2.1]; exact hsl) hi1 e1).symm
          subst hid
          rw [H4.out.2.2.1] at hs'; injection hs' with hs'; subst hs'
          have hi0' : i' = 0 := by
            refine (Sp.addr_inj (i := 0) (j := i') (by rw [H4.out.2.2.2.2.2.2.1]; exact hq16) ?_).symm
            rw [H4.out.2.2.2.2.2.2.2.1]; omega
          subst hi0'
          clear hi1 hF' hx'
          have S5 := Lib.hid (And.intro (H4.out.1.chg0 c5) (H4.out.2.2.2.2.1.chg0 c5)); clear c5
          go_wp2_with fail
          have S6 := Lib.hid (And.intro (S5.out.1.chg0 ((Chg.refl [] w5).alloc (.cells #[.int .i64 (id' : Nat), .int .i64 0] 42))) (S5.out.2.chg0 ((Chg.refl [] w5).alloc (.cells #[.int .i64 (id' : Nat), .int .i64 0] 42))))
          have hMk := s_marked S6.out.1 (by omega) H4.out.2.2.1 (i := 0) (by rw [H4.out.2.2.2.2.2.2.1]; exact hsl) (by rw [H4.out.2.2.2.2.2.1.F]; rfl)
          have hMv : t1.M 0 = bk := by rw [H4.out.2.2.2.2.2.1.M]; simp
          rw [H4.out.2.2.2.2.2.2.2.1, hMv] at hMk
          refine hMk.mono ?_
          clear hMk hMv S5
          rintro e5 w6 ⟨rfl, c6⟩
          have S7 := Lib.hid (And.intro (S6.out.1.chg0 c6) (S6.out.2.chg0 c6)); clear c6 S6
          have hbb : (bk != bk) = false := by simp
          go_wp2_with fail
          refine (rsize_ok w6 (q : Nat)).mono ?_
          rintro e6 w7 ⟨rfl, c7⟩
          rw [szI_nat hq16]
          have S8 := Lib.hid (And.intro (S7.out.1.chg0 c7) (S7.out.2.chg0 c7)); clear c7 S7
          obtain ⟨z, hz⟩ : ∃ z, z = szK q := ⟨_, rfl⟩
          have hz2 : z ≤ 256 := by omega
          rw [← hz]
          have hlv4 : a4.live = a.live + z := by rw [hz]; exact H4.out.2.2.2.2.2.2.2.2.2
          have hew : (a.live : Int) + (z : Int) = ((a4.live : Nat) : Int) := by rw [hlv4]; omega
          have HZ := Lib.hid (And.intro hlv4 hew); clear hz hlv4 hew hbit hbb
          go_upto_region 19 with fail
          rw [HZ.out.2]
          go_wp2_with fail
          refine (put_ok w7 _ st (x : Nat) S8.out.2.o (fun y hy => by have := HJ.out.1.K.w y hy; unfold WfI; omega) (by unfold WfI; omega) (by have := HJ.out.1.K.l; omega)).mono ?_
          rintro e8 w9 ⟨v9, rfl, O9, s9⟩
          have S9 := S8.out.1.stp S8.out.2 s9
          have L9 := S8.out.2.push S8.out.1.M S8.out.1.c.size O9 s9
          have K9 := HJ.out.1.K.more H4.out.2.2.2.1 H4.out.2.2.1 (by rw [← HBK.out]; exact H4.out.2.2.2.2.2.1) (by rw [H4.out.2.2.2.2.2.2.2.1]; exact hxb)
          rw [if_pos rfl, H4.out.2.2.2.2.2.2.2.1] at K9
          have H9 := Lib.hid (And.intro (And.intro S9 L9) (And.intro K9 H4.out.2.1)); clear S9 L9 K9 O9 s9
          obtain ⟨A9, c9, rfl⟩ := H9.out.1.2.o.slice
          go_wp2_with fail
          refine (s_live H9.out.1.1).mono ?_
          rintro e9 w10 ⟨rfl, rfl⟩
          have hll : ((a4.live : Int) != (a4.live : Int)) = false := by simp
          go_wp2_with fail
          go_roundg (xs.length - id')
          case measure => omega
          case rel => exact ⟨id' + 1, h4, a4, _, _, _, by omega, by omega, by go_num, rfl, by rw [HZ.out.1]; omega, Mk1.up ⟨H9.out.1.1, H9.out.2.1, H9.out.1.2⟩ (by omega), H9.out.2.2⟩
      · obtain rfl : i = xs.length := by omega
        have hi' : ¬ (xs.length : Int) < (xs.length : Int) := by omega
        have hobs : ∀ x, (obI a x).isSome = true ↔ x ∈ st := fun x => by
          rw [J.K.me x]
          refine (J.K.obs J.S.I.ok rfl x).trans ?_
          constructor <;> (rintro ⟨j, s, h1, -, h3, h4⟩; exact ⟨j, s, h1, rfl, h3, h4⟩)
        have HO := Lib.hid hobs
        have HJ := Lib.hid J; clear hobs J R e hgk hi
        rcases Nat.eq_zero_or_pos st.length with hz | hz
        · obtain rfl : st = [] := List.eq_nil_of_length_eq_zero hz
          clear hz
          have S6 := Lib.hid (And.intro HJ.out.S HJ.out.L)
          go_wp2_with fail
          refine (told_ok _ (HT.out.1.chg S6.out.1.c (by simp))).mono ?_
          rintro e6 w6 ⟨rfl, c6⟩
          have S7 := Lib.hid (And.intro (S6.out.1.chg0 c6) (S6.out.2.chg0 c6)); clear c6 S6
          go_wp2_with fail
          refine (s_objects S7.out.1 (by omega)).mono ?_
          rintro e7 w7 ⟨vo, ks, rfl, O, c7, -, hr, hmem⟩
          have hks : ks = [] := rise_eq hr HJ.out.K.r fun x => (hmem x).trans (HO.out x)
          have J2 := Lib.hid (And.intro (And.intro (S7.out.1.chg0 c7) (S7.out.2.chg0 c7)) (And.intro O hks)); clear c7 O hks hr hmem S7
          obtain ⟨A2, c2, rfl⟩ := J2.out.2.1.slice
          go_wp2_with fail
          refine (ints_ok w7 _ _ ks [] J2.out.2.1.rd J2.out.1.2.o.rd).mono ?_
          rintro e8 w8 hB
          obtain ⟨rfl, c8⟩ := hB.chg
          rw [decide_eq_true J2.out.2.2]
          have S8 := Lib.hid (J2.out.1.1.chg0 c8); clear c8 hB
          go_wp2_with fail
          go_ret
          exact ⟨rfl, S8.out.c⟩
        · obtain ⟨y, hy⟩ : ∃ y, st[0]? = some y := ⟨_, List.getElem?_eq_getElem hz⟩
          have hz' : (0 : Int) < (st.length : Int) := by omega
          have hyw := HJ.out.K.w y (List.mem_of_getElem? hy)
          obtain ⟨gs, rfl, cy, -⟩ := HJ.out.L.o.cell hy
          clear hy hz
          go_upto_region 24 with fail
          rw [HE.out]
          obtain ⟨x, hx⟩ : ∃ x, x = y + 1 + (m0 : Int) := ⟨_, rfl⟩
          have hew : wrap64 (y + 1 + (m0 : Int)) = x := by rw [hx]; unfold wrap64; omega
          rw [hew]
          have hx1 : 0 ≤ x := by omega
          have hx2 : x ≤ 20000000 := by omega
          clear hew hx hyw hm0 HE cy
          go_wp2_with fail
          refine (s_find HJ.out.S (by omega) x (by unfold Wf64; omega)).mono ?_
          rintro e4 w5 ⟨c5, hF⟩
          obtain ⟨u1, u2, bf, hbf, rfl⟩ : ∃ u1 u2 bf, bf = decide (x ∈ st) ∧ e4 = .returned (.tuple #[.agg #[.int .i64 u1, .int .i64 u2], .bool bf]) := by
            rcases hF with ⟨hn0, he⟩ | ⟨id', i', his, -, he⟩
            · refine ⟨0, 0, false, (decide_eq_false fun hm => ?_).symm, he⟩
              have := (HO.out x).2 hm
              rw [hn0] at this; cases this
            · exact ⟨_, _, true, (decide_eq_true ((HO.out x).1 his)).symm, he⟩
          clear hF
          have HB := Lib.hid hbf; clear hbf
          have S5 := Lib.hid (And.intro (HJ.out.S.chg0 c5) (HJ.out.L.chg0 c5)); clear c5
          go_wp2_with fail
          have C5 := (Chg.refl [] w5).alloc (.cells #[.int .i64 u1, .int .i64 u2] 42)
          have S6 := Lib.hid (And.intro (S5.out.1.chg0 C5) (S5.out.2.chg0 C5)); clear S5 C5
          refine (has_ok _ _ st x S6.out.2.o.rd).mono ?_
          rintro e5 w6 ⟨rfl, rfl⟩
          rw [← HB.out]
          have hbb : (bf != bf) = false := by simp
          go_wp2_with fail
          refine (told_ok _ (HT.out.1.chg S6.out.1.c (by simp))).mono ?_
          rintro e6 w6 ⟨rfl, c6⟩
          have S7 := Lib.hid (And.intro (S6.out.1.chg0 c6) (S6.out.2.chg0 c6)); clear c6 S6
          go_wp2_with fail
          refine (s_objects S7.out.1 (by omega)).mono ?_
          rintro e7 w7 ⟨vo, ks, rfl, O, c7, -, hr, hmem⟩
          have hks : ks = st := rise_eq hr HJ.out.K.r fun x => (hmem x).trans (HO.out x)
          have J2 := Lib.hid (And.intro (And.intro (S7.out.1.chg0 c7) (S7.out.2.chg0 c7)) (And.intro O hks)); clear c7 O hks hr hmem S7
          obtain ⟨A2, c2, rfl⟩ := J2.out.2.1.slice
          go_wp2_with fail
          refine (ints_ok w7 _ _ ks st J2.out.2.1.rd J2.out.1.2.o.rd).mono ?_
          rintro e8 w8 hB
          obtain ⟨rfl, c8⟩ := hB.chg
          rw [decide_eq_true J2.out.2.2]
          have S8 := Lib.hid (J2.out.1.1.chg0 c8); clear c8 hB
          go_wp2_with fail
          go_ret
          exact ⟨rfl, S8.out.c⟩
end Go.Proofs.YtkocikpoagfonaaDoor
