/- Objects in the first places of spans: used, marked or not (for ArenaMarks, ArenaSums). Plain. -/
/- The walk of ArenaMarks. -/
import Derived.Test.YtkocikpoagfonaaDoorSer2
import Derived.Test.YtkocikpoagfonaaDoorObj
import Derived.Test.YtkocikpoagfonaaDoorZPut
namespace Go.Proofs.YtkocikpoagfonaaDoor
open Go.RowKit

structure MkA (a : Ar) (m : Nat) (c F M : Nat → Bool) (st : List Int) : Prop where
  sp : ∀ j, j < m → ∃ s, a.sp j = some s ∧ Spt s (F j) (M j)
  me : ∀ x, x ∈ st ↔ ∃ j s, j < m ∧ c j = true ∧ a.sp j = some s ∧ x = ((s.addr 0 : Nat) : Int)
  r : Rise st
  l : st.length ≤ m
  w : ∀ x ∈ st, 0 ≤ x ∧ x < 16777216
theorem MkA.new (n : Nat) (c F M : Nat → Bool) : MkA (newA n) 0 c F M [] := ⟨fun j h => by omega, fun x => ⟨fun h => by simp at h, fun ⟨_, _, h, _⟩ => by omega⟩, List.Pairwise.nil, Nat.le_refl _, by simp⟩
section
variable {a a' : Ar} {m id : Nat} {c F M F' M' : Nat → Bool} {st : List Int} {s s' : Sp} (K : MkA a m c F M st)
include K
theorem MkA.ext (hF : ∀ j, j < m → F j = F' j) (hM : ∀ j, j < m → M j = M' j) : MkA a m c F' M' st :=
  ⟨fun j hj => by obtain ⟨s, h1, h2⟩ := K.sp j hj; rw [hF j hj, hM j hj] at h2; exact ⟨s, h1, h2⟩, K.me, K.r, K.l, K.w⟩
theorem MkA.congr (e : a'.sp = a.sp) : MkA a' m c F M st := ⟨fun j hj => by rw [e]; exact K.sp j hj, fun x => by rw [e]; exact K.me x, K.r, K.l, K.w⟩
/-- One of the spans turned: it lies where it lay. -/
theorem MkA.set (hid : id < m) (hs : a.sp id = some s) (e : a'.sp = updF a.sp id (some s')) (ha : s'.addr 0 = s.addr 0) {f u : Bool} (h : Spt s' f u) :
    MkA a' m c (fun j => if j = id then f else F j) (fun j => if j = id then u else M j) st := by
  refine ⟨fun j hj => ?_, fun x => ?_, K.r, K.l, K.w⟩
  · rw [e]
    by_cases e1 : j = id
    · subst e1
      rw [updF_same, if_pos rfl, if_pos rfl]
      exact ⟨s', rfl, h⟩
    · rw [updF_other _ _ e1, if_neg e1, if_neg e1]
      exact K.sp j hj
  · rw [K.me x, e]
    constructor
    · rintro ⟨j, t, hj, hc, ht, hx⟩
      by_cases e1 : j = id
      · subst e1
        rw [hs] at ht; injection ht with ht; subst ht
        exact ⟨j, s', hj, hc, updF_same _ _ _, by rw [ha]; exact hx⟩
      · exact ⟨j, t, hj, hc, (updF_other _ _ e1).trans ht, hx⟩
    · rintro ⟨j, t, hj, hc, ht, hx⟩
      by_cases e1 : j = id
      · subst e1
        rw [updF_same] at ht; injection ht with ht; subst ht
        exact ⟨j, s, hj, hc, hs, by rw [← ha]; exact hx⟩
      · rw [updF_other _ _ e1] at ht
        exact ⟨j, t, hj, hc, ht, hx⟩
/-- One more span. -/
theorem MkA.more (e : ∀ j, j ≠ m → a'.sp j = a.sp j) (hs : a'.sp m = some s) (h : Spt s (F m) (M m)) (hx : s.addr 0 < 16777216) : MkA a' (m + 1) c F M (if c m then putL st ((s.addr 0 : Nat) : Int) else st) := by
  refine ⟨fun j hj => ?_, fun x => ?_, ?_, ?_, fun x hx' => ?_⟩
  · by_cases e1 : j = m
    · subst e1; exact ⟨s, hs, h⟩
    · rw [e j e1]; exact K.sp j (by omega)
  · have h1 : (∃ j t, j < m + 1 ∧ c j = true ∧ a'.sp j = some t ∧ x = ((t.addr 0 : Nat) : Int)) ↔ x ∈ st ∨ (c m = true ∧ x = ((s.addr 0 : Nat) : Int)) := by
      rw [K.me x]
      constructor
      · rintro ⟨j, t, hj, hc, ht, hx⟩
        by_cases e1 : j = m
        · subst e1
          rw [hs] at ht; injection ht with ht; subst ht
          exact .inr ⟨hc, hx⟩
        · rw [e j e1] at ht
          exact .inl ⟨j, t, by omega, hc, ht, hx⟩
      · rintro (⟨j, t, hj, hc, ht, hx⟩ | ⟨hc, hx⟩)
        · exact ⟨j, t, by omega, hc, by rw [e j (by omega)]; exact ht, hx⟩
        · exact ⟨m, s, by omega, hc, hs, hx⟩
    rw [h1]
    cases c m
    · simp
    · simp [mem_putL]
  · cases c m
    · exact K.r
    · exact rising_putL K.r
  · have := K.l
    cases c m
    · show st.length ≤ m + 1; omega
    · have := len_putL st ((s.addr 0 : Nat) : Int); show (putL st _).length ≤ m + 1; omega
  · have h2 : x ∈ st ∨ x = ((s.addr 0 : Nat) : Int) := by
      cases hc : c m
      · rw [hc] at hx'; exact .inl hx'
      · rw [hc] at hx'; exact mem_putL.1 hx'
    rcases h2 with h2 | h2
    · exact K.w x h2
    · omega
/-- Which addresses are objects'. -/
theorem MkA.obs {N : Nat} (ok : ArOk N a) (hN : N = m) (x : Int) : (obI a x).isSome = true ↔ ∃ j s, j < m ∧ F j = true ∧ a.sp j = some s ∧ x = ((s.addr 0 : Nat) : Int) := by
  subst hN
  have key : ∀ y : Nat, (a.ob y).isSome = true ↔ ∃ j s, j < N ∧ F j = true ∧ a.sp j = some s ∧ y = s.addr 0 := fun y => by
    rw [ok.ob y]
    constructor
    · rintro ⟨id, s, i, hs, hi, hF, hx⟩
      have hid := ok.top id s hs
      obtain ⟨t, ht, hS⟩ := K.sp id hid
      rw [hs] at ht; injection ht with ht; subst ht
      rw [hS.F i, Bool.and_eq_true, decide_eq_true_iff] at hF
      obtain ⟨rfl, hF⟩ := hF
      exact ⟨id, s, hid, hF, hs, hx⟩
    · rintro ⟨j, s, hj, hF, hs, hx⟩
      obtain ⟨t, ht, hS⟩ := K.sp j hj
      rw [hs] at ht; injection ht with ht; subst ht
      exact ⟨j, s, 0, hs, (kF (ok.pg j s hs).1).2.2.2.2.2.2.2.1, by rw [hS.F]; simp [hF], hx⟩
  unfold obI
  by_cases h0 : 0 ≤ x
  · rw [if_pos h0, key]
    constructor
    · rintro ⟨j, s, h1, h2, h3, h4⟩; exact ⟨j, s, h1, h2, h3, by omega⟩
    · rintro ⟨j, s, h1, h2, h3, h4⟩; exact ⟨j, s, h1, h2, h3, by omega⟩
  · rw [if_neg h0]
    constructor
    · intro h; cases h
    · rintro ⟨j, s, h1, h2, h3, h4⟩; omega
end
theorem MkA.live {a : Ar} {m : Nat} {c F M : Nat → Bool} {st : List Int} (K : MkA a m c F M st) (I : ArI m a) (hF : ∀ j, j < m → F j = false) : a.live = 0 := by
  rw [I.lv]
  refine livN_zero (fun j s hs => ?_) m
  have hj := I.ok.top j s hs
  obtain ⟨t, ht, hS⟩ := K.sp j hj
  rw [hs] at ht; injection ht with ht; subst ht
  exact hS.none_ (hF j hj) _
end Go.Proofs.YtkocikpoagfonaaDoor
namespace Go.Proofs.YtkocikpoagfonaaDoor
open Go.RowKit

theorem ints_keep' {W w : World} {A : Option Addr} {xs : List Int} (h : IntsAt W W.heap.size A xs) (c : Chg [] W w) {i : Nat} {x : Int} (hx : xs[i]? = some x) : ∃ b off, A = some ⟨b, off, none⟩ ∧ w.cell? ⟨b, off + i, none⟩ = some (.int .i64 x) := by
  obtain ⟨b, off, e, hb, hc⟩ := h i x hx
  exact ⟨b, off, e, c.cellv hb (by simp) hc⟩
structure Mk1 (W : World) (g N b m : Nat) (h : ArH) (a : Ar) (c F M : Nat → Bool) (st : List Int) (vs : Value) (w : World) : Prop where
  S : ArS W w g h a N b
  K : MkA a m c F M st
  L : LsS W w h a vs st
theorem Mk1.chg0 {W w w' : World} {g N b m : Nat} {h : ArH} {a : Ar} {c F M : Nat → Bool} {st : List Int} {vs : Value} (J : Mk1 W g N b m h a c F M st vs w) (k : Chg [] w w') : Mk1 W g N b m h a c F M st vs w' := ⟨J.S.chg0 k, J.K, J.L.chg0 k⟩
theorem Mk1.up {W w : World} {g N b b' m : Nat} {h : ArH} {a : Ar} {c F M : Nat → Bool} {st : List Int} {vs : Value} (J : Mk1 W g N b m h a c F M st vs w) (hb : b ≤ b') : Mk1 W g N b' m h a c F M st vs w := ⟨⟨J.S.M, J.S.I, J.S.far, J.S.c, J.S.ga, Nat.le_trans J.S.m hb⟩, J.K, J.L⟩
def cM (mm : Nat) : Nat → Bool := fun j => decide (j % mm = 0)
def Mk1Rel (W : World) (g m mm : Nat) (gk : Nat) (vs idx : Value) (w : World) : Prop :=
  ∃ i h a f p st, gk + i = m + 1 ∧ i ≤ m ∧ idx = .int .i64 (i : Nat) ∧ Mk1 W g i (7 * i) i h a (cM mm) (fun _ => true) (cM mm) st vs w ∧ SerA a i f p
def Mk2Rel (W : World) (g m b mm : Nat) (st : List Int) (vs : Value) (gk : Nat) (idx : Value) (w : World) : Prop :=
  ∃ i h a, gk + i = m + 1 ∧ i ≤ m ∧ idx = .int .i64 (i : Nat) ∧ Mk1 W g m b m h a (cM mm) (fun j => if j < i then cM mm j else true) (fun j => if j < i then false else cM mm j) st vs w
def Mk3Rel (W : World) (g m b mm : Nat) (st : List Int) (vs : Value) (gk : Nat) (idx : Value) (w : World) : Prop :=
  ∃ i h a, gk + i = m + 1 ∧ i ≤ m ∧ idx = .int .i64 (i : Nat) ∧ Mk1 W g m b m h a (cM mm) (fun j => if j < i then false else cM mm j) (fun _ => false) st vs w
set_option maxHeartbeats 6400000 in
set_option maxRecDepth 100000 in
theorem marks_any (A : Option Addr) (c : Nat) (xs : List Int) (ev : Int) (W : World) (T0 : Tab W) (hA : IntsAt W W.heap.size A xs) (hm : xs.length ≤ maxLen) : Calls Tryd.prog 7 #[.slice A xs.length c, .int .i64 ev] W (TdPost W) := by
  have HT := Lib.hid (And.intro T0 hA); clear T0 hA
  by_cases hl : xs.length = 0 ∨ 20 < xs.length
  · rcases hl with h0 | h0
    · have d1 : ((xs.length : Int) == 0) = true := by rw [beq_iff_eq]; omega
      go_enter Tryd.func7, Tryd.ntmps7
      go_wp2_with fail
      refine (told_ok W HT.out.1).mono ?_
      rintro e w1 ⟨rfl, c1⟩
      have HC := Lib.hid c1; clear c1
      go_wp2_with fail
      go_ret
      exact ⟨rfl, HC.out⟩
    · have d1 : ((xs.length : Int) == 0) = false := by rw [beq_eq_false_iff_ne]; omega
      have d2 : (20 : Int) < (xs.length : Int) := by omega
      have d3 : ¬ xs.length = 0 := by omega
      have d4 : ¬ xs = [] := fun e => d3 (by rw [e]; rfl)
      go_enter Tryd.func7, Tryd.ntmps7
      go_wp2_with fail
      refine (told_ok W HT.out.1).mono ?_
      rintro e w1 ⟨rfl, c1⟩
      have HC := Lib.hid c1; clear c1
      go_wp2_with fail
      go_ret
      exact ⟨rfl, HC.out⟩
  · have d1 : ((xs.length : Int) == 0) = false := by rw [beq_eq_false_iff_ne]; omega
    have d2 : ¬ (20 : Int) < (xs.length : Int) := by omega
    have d3 : ¬ xs.length = 0 := by omega
    have d4 : ¬ 20 < xs.length := by omega
    have d5 : ¬ xs = [] := fun e => d3 (by rw [e]; rfl)
    have hm20 : xs.length ≤ 20 := by omega
    clear hl hm
    obtain ⟨m0, hm0, em0⟩ := mod_n ev 4 (by decide) (by decide)
    have em : wrap64 ((IntKind.u64.wrap ev).tmod 4) = (m0 : Int) := em0
    have em2 : wrap64 (1 + (m0 : Int)) = ((m0 + 1 : Nat) : Int) := by unfold wrap64; omega
    have HE := Lib.hid (And.intro em em2); clear em0 em em2
    go_enter Tryd.func7, Tryd.ntmps7
    go_wp2_with fail
    refine (s_new W 512 32768 (by decide) (by decide) (by decide)).mono ?_
    rintro e w1 ⟨g, h1, rfl, S⟩
    have S1 := Lib.hid S; clear S
    clear d1 d2 d3 d4 d5
    go_upto_region 7 with fail
    rw [HE.out.1, HE.out.2]
    obtain ⟨mm, hmm⟩ : ∃ mm, mm = m0 + 1 := ⟨_, rfl⟩
    rw [← hmm]
    have hmm1 : 1 ≤ mm := by omega
    have hmm2 : mm ≤ 4 := by omega
    clear hmm hm0 HE
    go_wp2_with fail
    go_loopg [8, 9] (xs.length + 1) (fun gk vs idx wr => Mk1Rel W g xs.length mm gk vs idx wr)
    case atStart => exact ⟨0, h1, newA 512, 1, 511, [], by omega, by omega, rfl, ⟨S1.out, MkA.new _ _ _ _, LsS.nil _ _ _ _⟩, SerA.new⟩
    case round =>
      clear S1 h1
      obtain ⟨i, h, a, f, p, st, hgk, hi, rfl, J, R⟩ := hrel
      obtain ⟨As, cs, rfl⟩ := J.L.o.slice
      by_cases e : i < xs.length
      · obtain ⟨z, hz⟩ : ∃ z, xs[i]? = some z := ⟨xs[i], List.getElem?_eq_getElem e⟩
        obtain ⟨ba, off, rfl, hb1⟩ := ints_keep' HT.out.2 J.S.c hz
        have hi' : (i : Int) < (xs.length : Int) := by omega
        have hi0 : (0 : Int) ≤ (i : Int) := by omega
        obtain ⟨n0, hn0, en0⟩ := mod_n z 256 (by decide) (by decide)
        have en : wrap64 ((IntKind.u64.wrap z).tmod 256) = (n0 : Int) := en0
        have en2 : wrap64 (1 + (n0 : Int)) = ((n0 + 1 : Nat) : Int) := by unfold wrap64; omega
        have EN := Lib.hid (And.intro en en2); clear en en2 en0 hz
        have HJ := Lib.hid (And.intro J R); clear J R
        go_wp2_with fail
        rw [EN.out.1, EN.out.2]
        obtain ⟨n, hn⟩ : ∃ n, n = n0 + 1 := ⟨_, rfl⟩
        rw [← hn]
        have hn1 : 1 ≤ n := by omega
        have hn2 : n ≤ 256 := by omega
        clear EN hn0 hn hb1
        refine (rof_ok wr n hn1 hn2).mono ?_
        rintro e2 w2 ⟨q, hq, rfl, c2⟩
        have J2 := Lib.hid (HJ.out.1.chg0 c2); clear c2
        have hq16 : q < 16 := hq.1
        have hnq : n ≤ szK q := hq.2.1
        have hpg := (kF hq16).2.2.2.2.2.1
        have hsl := (kF hq16).2.2.2.2.2.2.2.1
        clear hq
        go_wp2_with fail
        refine (s_span_next J2.out.S (by omega) (by omega) (q := q) (f := f) (p := p) hq16 HJ.out.2.l (by have := HJ.out.2.s; have := HJ.out.2.f; omega) HJ.out.2.sp).mono ?_
        rintro e2 w3 ⟨h3, rfl, S, hnone, st3⟩
        obtain ⟨a3, ha3⟩ : ∃ a3, a3 = spanA a [⟨f + pgK q, p - pgK q⟩] i q f := ⟨_, rfl⟩
        rw [← ha3] at S st3
        have hs3 : a3.sp i = some (spn f q) := by rw [ha3]; show updF a.sp i (some (spn f q)) i = _; exact updF_same _ _ _
        have hs3' : ∀ j, j ≠ i → a3.sp j = a.sp j := fun j hj => by rw [ha3]; show updF a.sp i (some (spn f q)) j = _; exact updF_other _ _ hj
        have R3 : SerA a3 (i + 1) (f + pgK q) (p - pgK q) := by rw [ha3]; exact HJ.out.2.span hq16 (by omega)
        have L3 := J2.out.L.sta st3
        have hfb : f * 64 < 16777216 := by have := HJ.out.2.s; omega
        have H3 := Lib.hid (And.intro S (And.intro R3 (And.intro hs3 (And.intro hs3' L3)))); clear S st3 ha3 hs3 hs3' R3 L3 J2 hnone
        go_wp2_with fail
        have hA := s_alloc_first H3.out.1 HT.out.1 (by omega) (by omega) (id := i) (n := n) (s := spn f q) H3.out.2.2.1 rfl rfl hn1 hnq false
        refine hA.mono ?_
        clear hA
        rintro e3 w4 ⟨h4, rfl, S, st4⟩
        obtain ⟨a4, ha4⟩ : ∃ a4, a4 = allocA a3 i (spn f q) 0 n false := ⟨_, rfl⟩
        rw [← ha4] at S st4
        obtain ⟨t1, ht1⟩ : ∃ t1, t1 = allocS (spn f q) 0 false := ⟨_, rfl⟩
        have hs4 : a4.sp i = some t1 := by rw [ha4, ht1]; show updF a3.sp i (some (allocS (spn f q) 0 false)) i = _; exact updF_same _ _ _
        have hs4' : ∀ j, j ≠ i → a4.sp j = a.sp j := fun j hj => by rw [ha4]; show updF a3.sp i (some (allocS (spn f q) 0 false)) j = _; rw [updF_other _ _ hj]; exact H3.out.2.2.2.1 j hj
        have R4 : SerA a4 (i + 1) (f + pgK q) (p - pgK q) := by rw [ha4]; exact H3.out.2.1.set
        have L4 := H3.out.2.2.2.2.sta st4
        have P1 : Spt t1 true false := by rw [ht1]; exact (spn_spt f q).alloc false
        have hk1 : t1.k = q := by rw [ht1]; rfl
        obtain ⟨x, hx⟩ : ∃ x, x = (spn f q).addr 0 := ⟨_, rfl⟩
        have hx1 : t1.addr 0 = x := by rw [ht1, hx]; rfl
        have hx2 : x = f * 64 := by rw [hx]; exact spn_addr f q
        rw [← hx]
        have H4 := Lib.hid (And.intro S (And.intro R4 (And.intro hs4 (And.intro hs4' (And.intro L4 (And.intro P1 (And.intro hk1 hx1))))))); clear S R4 hs4 hs4' L4 P1 hk1 hx1 ht1 ha4 hx st4
        have hxb : x < 16777216 := by omega
        clear hx2
        go_wp2_with fail
        have hMk := s_marked H4.out.1 (by omega) H4.out.2.2.1 (i := 0) (by rw [H4.out.2.2.2.2.2.2.1]; exact hsl) (by rw [H4.out.2.2.2.2.2.1.F]; rfl)
        rw [H4.out.2.2.2.2.2.2.2, H4.out.2.2.2.2.2.1.M] at hMk
        refine hMk.mono ?_
        clear hMk
        rintro e4 w5 ⟨rfl, c5⟩
        have S5 := Lib.hid (And.intro (H4.out.1.chg0 c5) (H4.out.2.2.2.2.1.chg0 c5)); clear c5
        have hmm0 : ¬ (mm : Int) = 0 := by omega
        have hmm00 : ¬ mm = 0 := by omega
        have hem : (i : Int) % (mm : Int) = ((i % mm : Nat) : Int) := (Int.natCast_emod i mm).symm
        by_cases hc : i % mm = 0
        · have dq : ((i : Int) % (mm : Int) == 0) = true := by rw [beq_iff_eq, hem, hc]; rfl
          have hc' : cM mm i = true := decide_eq_true hc
          have HC := Lib.hid hc'; clear hc' hc hem
          go_wp2_with fail
          have hMk := s_mark S5.out.1 (by omega) H4.out.2.2.1 (i := 0) (by rw [H4.out.2.2.2.2.2.2.1]; exact hsl) (by rw [H4.out.2.2.2.2.2.1.F]; rfl)
          rw [H4.out.2.2.2.2.2.2.2, H4.out.2.2.2.2.2.1.M] at hMk
          refine hMk.mono ?_
          clear hMk dq
          rintro e5 w6 ⟨rfl, S, st6⟩
          obtain ⟨a6, ha6⟩ : ∃ a6 : Ar, a6 = { a4 with sp := updF a4.sp i (some (markS t1 0)) } := ⟨_, rfl⟩
          rw [← ha6] at S st6
          obtain ⟨t2, ht2⟩ : ∃ t2, t2 = markS t1 0 := ⟨_, rfl⟩
          have hs6 : a6.sp i = some t2 := by rw [ha6, ht2]; exact updF_same _ _ _
          have hs6' : ∀ j, j ≠ i → a6.sp j = a.sp j := fun j hj => by rw [ha6]; show updF a4.sp i (some (markS t1 0)) j = _; rw [updF_other _ _ hj]; exact H4.out.2.2.2.1 j hj
          have R6 : SerA a6 (i + 1) (f + pgK q) (p - pgK q) := by rw [ha6]; exact H4.out.2.1.set
          have L6 := S5.out.2.sta st6
          have P2 : Spt t2 true true := by rw [ht2]; exact H4.out.2.2.2.2.2.1.mark
          have hk2 : t2.k = q := by rw [ht2]; exact H4.out.2.2.2.2.2.2.1
          have hx2 : t2.addr 0 = x := by rw [ht2]; exact H4.out.2.2.2.2.2.2.2
          have H6 := Lib.hid (And.intro S (And.intro R6 (And.intro hs6 (And.intro hs6' (And.intro L6 (And.intro P2 (And.intro hk2 hx2))))))); clear S R6 hs6 hs6' L6 P2 hk2 hx2 ht2 ha6 st6
          go_wp2_with fail
          have hMk := s_mark H6.out.1 (by omega) H6.out.2.2.1 (i := 0) (by rw [H6.out.2.2.2.2.2.2.1]; exact hsl) (by rw [H6.out.2.2.2.2.2.1.F]; rfl)
          rw [H6.out.2.2.2.2.2.2.2, H6.out.2.2.2.2.2.1.M] at hMk
          refine hMk.mono ?_
          clear hMk
          rintro e6 w7 ⟨rfl, S, st7⟩
          obtain ⟨a7, ha7⟩ : ∃ a7 : Ar, a7 = { a6 with sp := updF a6.sp i (some (markS t2 0)) } := ⟨_, rfl⟩
          rw [← ha7] at S st7
          obtain ⟨t3, ht3⟩ : ∃ t3, t3 = markS t2 0 := ⟨_, rfl⟩
          have hs7 : a7.sp i = some t3 := by rw [ha7, ht3]; exact updF_same _ _ _
          have hs7' : ∀ j, j ≠ i → a7.sp j = a.sp j := fun j hj => by rw [ha7]; show updF a6.sp i (some (markS t2 0)) j = _; rw [updF_other _ _ hj]; exact H6.out.2.2.2.1 j hj
          have R7 : SerA a7 (i + 1) (f + pgK q) (p - pgK q) := by rw [ha7]; exact H6.out.2.1.set
          have L7 := H6.out.2.2.2.2.1.sta st7
          have P3 : Spt t3 true true := by rw [ht3]; exact H6.out.2.2.2.2.2.1.mark
          have hk3 : t3.k = q := by rw [ht3]; exact H6.out.2.2.2.2.2.2.1
          have hx3 : t3.addr 0 = x := by rw [ht3]; exact H6.out.2.2.2.2.2.2.2
          have H7 := Lib.hid (And.intro S (And.intro R7 (And.intro hs7 (And.intro hs7' (And.intro L7 (And.intro P3 (And.intro hk3 hx3))))))); clear S R7 hs7 hs7' L7 P3 hk3 hx3 ht3 ha7 st7
          go_wp2_with fail
          have hMk := s_marked H7.out.1 (by omega) H7.out.2.2.1 (i := 0) (by rw [H7.out.2.2.2.2.2.2.1]; exact hsl) (by rw [H7.out.2.2.2.2.2.1.F]; rfl)
          rw [H7.out.2.2.2.2.2.2.2, H7.out.2.2.2.2.2.1.M] at hMk
          refine hMk.mono ?_
          clear hMk
          rintro e7 w8 ⟨rfl, c8⟩
          have S8 := Lib.hid (And.intro (H7.out.1.chg0 c8) (H7.out.2.2.2.2.1.chg0 c8)); clear c8
          go_wp2_with fail
          refine (put_ok w8 _ st (x : Nat) S8.out.2.o (fun y hy => by have := HJ.out.1.K.w y hy; unfold WfI; omega) (by unfold WfI; omega) (by have := HJ.out.1.K.l; omega)).mono ?_
          rintro e8 w9 ⟨v9, rfl, O9, s9⟩
          have S9 := S8.out.1.stp S8.out.2 s9
          have L9 := S8.out.2.push S8.out.1.M S8.out.1.c.size O9 s9
          have K9 := HJ.out.1.K.more H7.out.2.2.2.1 H7.out.2.2.1 (by rw [HC.out]; exact H7.out.2.2.2.2.2.1) (by rw [H7.out.2.2.2.2.2.2.2]; exact hxb)
          rw [HC.out, if_pos rfl, H7.out.2.2.2.2.2.2.2] at K9
          have H9 := Lib.hid (And.intro (And.intro S9 L9) (And.intro K9 H7.out.2.1)); clear S9 L9 K9 O9 s9
          obtain ⟨A9, c9, rfl⟩ := H9.out.1.2.o.slice
          go_wp2_with fail
          go_roundg (xs.length - i)
          case measure => omega
          case rel => exact ⟨i + 1, h4, a7, _, _, _, by omega, by omega, by go_num, Mk1.up ⟨H9.out.1.1, H9.out.2.1, H9.out.1.2⟩ (by omega), H9.out.2.2⟩
        · have dq : ((i : Int) % (mm : Int) == 0) = false := by rw [beq_eq_false_iff_ne, hem]; omega
          have hc' : cM mm i = false := decide_eq_false hc
          have K9 := HJ.out.1.K.more H4.out.2.2.2.1 H4.out.2.2.1 (by rw [hc']; exact H4.out.2.2.2.2.2.1) (by rw [H4.out.2.2.2.2.2.2.2]; exact hxb)
          rw [hc', if_neg (by decide)] at K9
          have H9 := Lib.hid (And.intro (And.intro S5.out.1 S5.out.2) (And.intro K9 H4.out.2.1)); clear K9 hc' hc hem
          go_wp2_with fail
          go_roundg (xs.length - i)
          case measure => omega
          case rel => exact ⟨i + 1, h4, a4, _, _, _, by omega, by omega, by go_num, Mk1.up ⟨H9.out.1.1, H9.out.2.1, H9.out.1.2⟩ (by omega), H9.out.2.2⟩
      · obtain rfl : i = xs.length := by omega
        have hi' : ¬ (xs.length : Int) < (xs.length : Int) := by omega
        have J0 : Mk1 W g xs.length (7 * xs.length) xs.length h a (cM mm) (fun j => if j < 0 then cM mm j else true) (fun j => if j < 0 then false else cM mm j) st (.slice As st.length cs) wr :=
          ⟨J.S, J.K.ext (fun j _ => by rw [if_neg (by omega)]) (fun j _ => by rw [if_neg (by omega)]), J.L⟩
        have HJ := Lib.hid J0; clear J0 J R e hgk hi
        have hmm0 : ¬ (mm : Int) = 0 := by omega
        have hmm00 : ¬ mm = 0 := by omega
        go_wp2_with fail
        go_loopg [15] (xs.length + 1) (fun gk idx wr => Mk2Rel W g xs.length (7 * xs.length) mm st (.slice As st.length cs) gk idx wr)
        case atStart => exact ⟨0, h, a, by omega, by omega, rfl, HJ.out⟩
        case round =>
          clear HJ
          obtain ⟨i, h, a, hgk, hi, rfl, J⟩ := hrel
          by_cases e : i < xs.length
          · have hi' : (i : Int) < (xs.length : Int) := by omega
            obtain ⟨s, hs, P⟩ := J.K.sp i e
            rw [if_neg (Nat.lt_irrefl i), if_neg (Nat.lt_irrefl i)] at P
            have HJ := Lib.hid (And.intro J (And.intro hs P)); clear J hs P
            go_wp2_with fail
            refine (s_sweep HJ.out.1.S HT.out.1 (by omega) HJ.out.2.1).mono ?_
            rintro e1 w2 ⟨v2, h2, rfl, O, -, -, S, st2⟩
            have hk := (HJ.out.1.S.I.ok.pg i s HJ.out.2.1).1
            have hsw := HJ.out.2.2.swept hk
            have K2 := HJ.out.1.K.set (id := i) (a' := sweepA a i s (sweptL s).length) (s' := sweptS s) e HJ.out.2.1 rfl rfl HJ.out.2.2.sweep
            have K3 := K2.ext (F' := fun j => if j < i + 1 then cM mm j else true) (M' := fun j => if j < i + 1 then false else cM mm j) (fun j _ => by
              by_cases e2 : j = i
              · rw [if_pos e2, if_pos (by omega), e2]
              · rw [if_neg e2]
                by_cases e3 : j < i
                · rw [if_pos e3, if_pos (by omega)]
                · rw [if_neg e3, if_neg (by omega)]) (fun j _ => by
              by_cases e2 : j = i
              · rw [if_pos e2, if_pos (by omega)]
              · rw [if_neg e2]
                by_cases e3 : j < i
                · rw [if_pos e3, if_pos (by omega)]
                · rw [if_neg e3, if_neg (by omega)])
            have L2 := HJ.out.1.L.sta st2
            have H2 := Lib.hid (Mk1.mk S K3 L2); clear S K2 K3 L2 st2
            have hem : (i : Int) % (mm : Int) = ((i % mm : Nat) : Int) := (Int.natCast_emod i mm).symm
            by_cases hc : i % mm = 0
            · have dq : ((i : Int) % (mm : Int) != 0) = false := by rw [bne_eq_false_iff_eq, hem, hc]; rfl
              have dq2 : (i : Int) % (mm : Int) = 0 := by rw [hem, hc]; rfl
              have hl2 : (intsN ((sweptL s).map s.addr)).length = 0 := by
                have hc' : cM mm i = true := decide_eq_true hc
                rw [hsw, hc']; rfl
              obtain ⟨A2, c2, rfl⟩ : ∃ A2 c2, v2 = .slice A2 0 c2 := by rw [← hl2]; exact O.slice
              clear hl2 O hsw hk hc hem
              go_wp2_with fail
              go_roundg (xs.length - i)
              case measure => omega
              case rel => exact ⟨i + 1, h2, _, by omega, by omega, by go_num, H2.out⟩
            · have dq : ((i : Int) % (mm : Int) != 0) = true := by rw [bne_iff_ne, hem]; omega
              have dq2 : ¬ (i : Int) % (mm : Int) = 0 := by rw [hem]; omega
              have hl2 : (intsN ((sweptL s).map s.addr)).length = 1 := by
                have hc' : cM mm i = false := decide_eq_false hc
                rw [hsw, hc']; rfl
              obtain ⟨A2, c2, rfl⟩ : ∃ A2 c2, v2 = .slice A2 1 c2 := by rw [← hl2]; exact O.slice
              clear hl2 O hsw hk hc hem
              go_wp2_with fail
              go_roundg (xs.length - i)
              case measure => omega
              case rel => exact ⟨i + 1, h2, _, by omega, by omega, by go_num, H2.out⟩
          · obtain rfl : i = xs.length := by omega
            have hi' : ¬ (xs.length : Int) < (xs.length : Int) := by omega
            have J1 : Mk1 W g xs.length (7 * xs.length) xs.length h a (cM mm) (fun j => if j < 0 then false else cM mm j) (fun _ => false) st (.slice As st.length cs) wr :=
              ⟨J.S, J.K.ext (fun j hj => by rw [if_pos hj, if_neg (by omega)]) (fun j hj => by rw [if_pos hj]), J.L⟩
            have HJ := Lib.hid J1; clear J1 J e hgk hi
            go_wp2_with fail
            refine (s_objects HJ.out.S (by omega)).mono ?_
            rintro e1 w2 ⟨vo, ks, rfl, O, c2, -, hr, hmem⟩
            have hks : ks = st := rise_eq hr HJ.out.K.r fun x => by
              rw [hmem x, HJ.out.K.me x]
              refine (HJ.out.K.obs HJ.out.S.I.ok rfl x).trans ?_
              constructor
              · rintro ⟨j, s, h1, h2, h3, h4⟩
                rw [if_neg (by omega)] at h2
                exact ⟨j, s, h1, h2, h3, h4⟩
              · rintro ⟨j, s, h1, h2, h3, h4⟩
                exact ⟨j, s, h1, by rw [if_neg (by omega)]; exact h2, h3, h4⟩
            have J2 := Lib.hid (And.intro (HJ.out.chg0 c2) (And.intro O hks)); clear c2 O hks hr hmem
            obtain ⟨A2, c2, rfl⟩ := J2.out.2.1.slice
            go_wp2_with fail
            refine (ints_ok w2 _ _ ks st J2.out.2.1.rd J2.out.1.L.o.rd).mono ?_
            rintro e2 w3 hB
            obtain ⟨rfl, c3⟩ := hB.chg
            rw [decide_eq_true J2.out.2.2]
            have J3 := Lib.hid (J2.out.1.chg0 c3); clear c3 hB
            go_wp2_with fail
            go_loopg [18] (xs.length + 1) (fun gk idx wr => Mk3Rel W g xs.length (7 * xs.length) mm st (.slice As st.length cs) gk idx wr)
            case atStart => exact ⟨0, h, a, by omega, by omega, rfl, J3.out⟩
            case round =>
              clear J3
              obtain ⟨i, h, a, hgk, hi, rfl, J⟩ := hrel
              by_cases e : i < xs.length
              · have hi' : (i : Int) < (xs.length : Int) := by omega
                obtain ⟨s, hs, P⟩ := J.K.sp i e
                have HJ := Lib.hid (And.intro J (And.intro hs P)); clear J hs P
                go_wp2_with fail
                refine (s_sweep HJ.out.1.S HT.out.1 (by omega) HJ.out.2.1).mono ?_
                rintro e1 w2 ⟨v2, h2, rfl, -, -, -, S, st2⟩
                have K2 := HJ.out.1.K.set (id := i) (a' := sweepA a i s (sweptL s).length) (s' := sweptS s) e HJ.out.2.1 rfl rfl HJ.out.2.2.sweep
                have K3 := K2.ext (F' := fun j => if j < i + 1 then false else cM mm j) (M' := fun _ => false) (fun j _ => by
                  by_cases e2 : j = i
                  · rw [if_pos e2, if_pos (by omega)]
                  · rw [if_neg e2]
                    by_cases e3 : j < i
                    · rw [if_pos e3, if_pos (by omega)]
                    · rw [if_neg e3, if_neg (by omega)]) (fun j _ => by split <;> rfl)
                have L2 := HJ.out.1.L.sta st2
                have H2 := Lib.hid (Mk1.mk S K3 L2); clear S K2 K3 L2 st2
                go_wp2_with fail
                go_roundg (xs.length - i)
                case measure => omega
                case rel => exact ⟨i + 1, h2, _, by omega, by omega, by go_num, H2.out⟩
              · obtain rfl : i = xs.length := by omega
                have hi' : ¬ (xs.length : Int) < (xs.length : Int) := by omega
                have HJ := Lib.hid J; clear J e hgk hi
                go_wp2_with fail
                refine (told_ok wr (HT.out.1.chg HJ.out.S.c (by simp))).mono ?_
                rintro e5 w5 ⟨rfl, c5⟩
                have J5 := Lib.hid (HJ.out.chg0 c5); clear c5
                go_wp2_with fail
                refine (s_objects J5.out.S (by omega)).mono ?_
                rintro e6 w6 ⟨vo, ks, rfl, O, c6, -, hr, hmem⟩
                have hks : ks = [] := rise_eq hr List.Pairwise.nil fun x => by
                  rw [hmem x]
                  refine (J5.out.K.obs J5.out.S.I.ok rfl x).trans ?_
                  constructor
                  · rintro ⟨j, s, h1, h2, -⟩
                    rw [if_pos h1] at h2; cases h2
                  · intro h; simp at h
                rw [hks] at O
                obtain ⟨A6, c7, rfl⟩ : ∃ A6 c7, vo = .slice A6 0 c7 := O.slice
                have J6 := Lib.hid (J5.out.chg0 c6); clear c6 hks hr hmem O
                go_wp2_with fail
                have hlv : a.live = 0 := J6.out.K.live J6.out.S.I (fun j hj => by rw [if_pos hj])
                refine (s_live J6.out.S).mono ?_
                rintro e7 w7 ⟨rfl, rfl⟩
                rw [hlv]
                go_wp2_with fail
                go_ret
                exact ⟨rfl, J6.out.S.c⟩
end Go.Proofs.YtkocikpoagfonaaDoor
