/- The walks of package audit: lost, work, white, numbers, marked. -/
import Derived.Test.YtfkgooliglcjkaaVwWords
import Derived.Test.YtfkgooliglcjkaaSame2
namespace Go.Proofs.Ytfkgooliglcjkaa
open Go.RowKit Go.Maps

open Classical in
noncomputable def brkLost (V : Vw) : Bool := decide (∃ x, Rch V x ∧ (V.at_ x).isSome = false)
open Classical in
noncomputable def brkWh (V : Vw) : Bool := decide (∃ x, (Rch V x ∧ (V.at_ x).isSome = true) ∧ V.markedAt x = false)
noncomputable def brkWhite (V : Vw) : Bool := V.phase == 2 && brkWh V
def brkWork (V : Vw) : Bool := ((V.phase != 1) && ((V.grey != 0) || ((V.notes != 0) || (V.roots != 0)))) || (decide (V.grey < 0) || (decide (V.notes < 0) || decide (V.roots < 0)))
def numB (V : Vw) : Bool := decide (V.phase < 0) || (decide (3 < V.phase) || (decide (V.cycle < 0) || decide (V.clock < 0)))
def brkNum (V : Vw) : Bool := (V.gs.any fun g => g.stack.length != 16) || numB V
def brkMk (V : Vw) : Bool := V.phase == 0 && V.objects.any fun o => o.marked
theorem brkLost_of {V : Vw} {l : List Int} (h : IsLost V l) : brkLost V = decide (0 < l.length) := by
  unfold brkLost
  rw [decide_eq_decide]
  constructor
  · rintro ⟨x, hx⟩; exact List.length_pos_of_mem ((h.m x).2 hx)
  · intro hl; exact ⟨l[0], (h.m _).1 (List.getElem_mem hl)⟩
theorem brkWhite_of {V : Vw} {l : List Int} (hp : V.phase = 2) (h : IsRch V l) : brkWhite V = decide (0 < (whiteL V l).length) := by
  unfold brkWhite brkWh
  rw [show (V.phase == 2) = true by rw [beq_iff_eq]; exact hp, Bool.true_and, decide_eq_decide]
  constructor
  · rintro ⟨x, hx, hm⟩
    refine List.length_pos_of_mem (a := x) ?_
    unfold whiteL
    rw [List.mem_filter, hm]
    exact ⟨(h.m x).2 hx, rfl⟩
  · intro hl
    have hm := List.getElem_mem hl
    generalize (whiteL V l)[0] = x at hm
    unfold whiteL at hm
    obtain ⟨h1, h2⟩ := List.mem_filter.1 hm
    exact ⟨x, (h.m x).1 h1, by simpa using h2⟩
theorem brkWhite_no {V : Vw} (hp : ¬ V.phase = 2) : brkWhite V = false := by
  unfold brkWhite
  rw [show (V.phase == 2) = false by rw [beq_eq_false_iff_ne]; exact hp]; rfl
theorem tri (x : Int) : ((x != 0) = false ∧ ¬ x < 0 ∧ decide (x < 0) = false) ∨ ((x != 0) = true ∧ x < 0 ∧ decide (x < 0) = true) ∨ ((x != 0) = true ∧ ¬ x < 0 ∧ decide (x < 0) = false) := by
  rcases Int.lt_trichotomy x 0 with h | h | h
  · exact .inr (.inl ⟨by rw [bne_iff_ne]; omega, h, decide_eq_true h⟩)
  · exact .inl ⟨by rw [bne_eq_false_iff_eq]; exact h, by omega, decide_eq_false (by omega)⟩
  · exact .inr (.inr ⟨by rw [bne_iff_ne]; omega, by omega, decide_eq_false (by omega)⟩)
theorem one_ (x : Int) : (x != 1) = false ∨ (x != 1) = true := by cases (x != 1) <;> simp
def AnyRel {α : Type} (w0 : World) (p : α → Bool) (xs : List α) (gk : Nat) (idx : Value) (w : World) : Prop :=
  ∃ i, gk + i = xs.length + 1 ∧ i ≤ xs.length ∧ idx = .int .i64 (i : Nat) ∧ (xs.take i).any p = false ∧ Chg [] w0 w
theorem any_no {α : Type} {p : α → Bool} {xs : List α} {i : Nat} {x : α} (h : (xs.take i).any p = false) (hx : xs[i]? = some x) (hp : p x = false) : (xs.take (i + 1)).any p = false := by
  rw [take_sn hx, List.any_append, h]; simp [hp]
theorem any_yes {α : Type} {p : α → Bool} {xs : List α} {i : Nat} {x : α} (hx : xs[i]? = some x) (hp : p x = true) : xs.any p = true := List.any_eq_true.2 ⟨x, List.mem_of_getElem? hx, hp⟩
set_option maxHeartbeats 3200000 in
set_option maxRecDepth 100000 in
theorem alost_ok (w : World) (v : Value) (V : Vw) (ps : Int) (h : VwAt w w.heap.size v V) (hS : Small V) : Calls Try.prog 75 #[v, .int .i64 ps] w (FdPost (brkLost V) w) := by
  have HV := Lib.hid h
  obtain ⟨g, A1, c1, A2, c2, rfl, h1, h2, h3, h4, h5⟩ := h.ex
  obtain ⟨A0, c0, rfl⟩ := h1.ex
  have C1 := (Chg.refl [] w).alloc (.cells (vwBox V A0 c0 A1 c1 A2 c2) 26)
  have B1 := Blk.new w 26 (vwBox V A0 c0 A1 c1 A2 c2)
  have HB := Lib.hid (And.intro C1 B1)
  have HG := Lib.hid h2
  have HO := Lib.hid h3
  have hO := hS.o
  have hG := hS.g
  unfold vwBox at HB
  clear C1 B1 h h1 h2 h3 h4 h5
  go_enter Try.func75, Try.ntmps75
  go_upto_region 1 with fail
  generalize (w.alloc (.cells #[.int .i64 V.phase, .int .i64 V.cycle, .int .i64 V.clock, .slice A0 V.globals.length c0, .slice A1 V.gs.length c1, .slice A2 V.objects.length c2, .int .i64 V.grey, .int .i64 V.notes, .int .i64 V.roots] 26)) = X at HB ⊢
  obtain ⟨b0, b1, b2, b3, b4, b5, b6, b7, b8⟩ := boxC HB.out.2
  go_wp2_with fail
  refine (lost_ok _ _ V ((HV.out.chg HB.out.1 (Nat.le_refl _) (by simp)).mono HB.out.1.size) hS).mono ?_
  rintro e w1 ⟨l, hl, v1, rfl, O1, C1, F1⟩
  obtain ⟨Al, kl, rfl⟩ := O1.slice
  have HE := Lib.hid (And.intro (brkLost_of hl) (HB.out.1.trans C1)); clear hl O1 C1 F1 b0 b1 b2 b3 b4 b5 b6 b7 b8
  by_cases h0 : 0 < l.length
  · have h1 : (0 : Int) < (l.length : Int) := by omega
    have h2 : decide (0 < l.length) = true := decide_eq_true h0
    have HQ := Lib.hid (HE.out.1.trans h2); clear h0
    go_wp2_with fail
    go_ret
    exact ⟨by rw [HQ.out]; rfl, HE.out.2⟩
  · have h1 : ¬ (0 : Int) < (l.length : Int) := by omega
    have h2 : decide (0 < l.length) = false := decide_eq_false h0
    have HQ := Lib.hid (HE.out.1.trans h2); clear h0
    go_wp2_with fail
    go_ret
    exact ⟨by rw [HQ.out]; rfl, HE.out.2⟩
set_option maxHeartbeats 3200000 in
set_option maxRecDepth 100000 in
theorem awhite_ok (w : World) (v : Value) (V : Vw) (ps : Int) (h : VwAt w w.heap.size v V) (hS : Small V) : Calls Try.prog 80 #[v, .int .i64 ps] w (FdPost (brkWhite V) w) := by
  have HV := Lib.hid h
  obtain ⟨g, A1, c1, A2, c2, rfl, h1, h2, h3, h4, h5⟩ := h.ex
  obtain ⟨A0, c0, rfl⟩ := h1.ex
  have C1 := (Chg.refl [] w).alloc (.cells (vwBox V A0 c0 A1 c1 A2 c2) 26)
  have B1 := Blk.new w 26 (vwBox V A0 c0 A1 c1 A2 c2)
  have HB := Lib.hid (And.intro C1 B1)
  have HG := Lib.hid h2
  have HO := Lib.hid h3
  have hO := hS.o
  have hG := hS.g
  unfold vwBox at HB
  clear C1 B1 h h1 h2 h3 h4 h5
  go_enter Try.func80, Try.ntmps80
  go_upto_region 1 with fail
  generalize (w.alloc (.cells #[.int .i64 V.phase, .int .i64 V.cycle, .int .i64 V.clock, .slice A0 V.globals.length c0, .slice A1 V.gs.length c1, .slice A2 V.objects.length c2, .int .i64 V.grey, .int .i64 V.notes, .int .i64 V.roots] 26)) = X at HB ⊢
  obtain ⟨b0, b1, b2, b3, b4, b5, b6, b7, b8⟩ := boxC HB.out.2
  by_cases hp : V.phase = 2
  · have q : (V.phase == 2) = true := by rw [beq_iff_eq]; exact hp
    have HP := Lib.hid hp; clear hp
    go_wp2_with fail
    refine (white_ok _ _ V ((HV.out.chg HB.out.1 (Nat.le_refl _) (by simp)).mono HB.out.1.size) hS).mono ?_
    rintro e w1 ⟨l, hl, v1, rfl, O1, C1, F1⟩
    obtain ⟨Al, kl, rfl⟩ := O1.slice
    have HE := Lib.hid (And.intro (brkWhite_of HP.out hl) (HB.out.1.trans C1)); clear hl O1 C1 F1 b0 b1 b2 b3 b4 b5 b6 b7 b8
    by_cases h0 : 0 < (whiteL V l).length
    · have h1 : (0 : Int) < ((whiteL V l).length : Int) := by omega
      have h2 : decide (0 < (whiteL V l).length) = true := decide_eq_true h0
      have HQ := Lib.hid (HE.out.1.trans h2); clear h0
      go_wp2_with fail
      go_ret
      exact ⟨by rw [HQ.out]; rfl, HE.out.2⟩
    · have h1 : ¬ (0 : Int) < ((whiteL V l).length : Int) := by omega
      have h2 : decide (0 < (whiteL V l).length) = false := decide_eq_false h0
      have HQ := Lib.hid (HE.out.1.trans h2); clear h0
      go_wp2_with fail
      go_ret
      exact ⟨by rw [HQ.out]; rfl, HE.out.2⟩
  · have q : (V.phase == 2) = false := by rw [beq_eq_false_iff_ne]; exact hp
    have HP := Lib.hid (brkWhite_no hp); clear hp
    go_wp2_with fail
    go_ret
    exact ⟨by rw [HP.out]; rfl, HB.out.1⟩
set_option maxHeartbeats 12800000 in
set_option maxRecDepth 100000 in
theorem awork_ok (w : World) (v : Value) (V : Vw) (ps : Int) (h : VwAt w w.heap.size v V) (hS : Small V) : Calls Try.prog 79 #[v, .int .i64 ps] w (FdPost (brkWork V) w) := by
  have HV := Lib.hid h
  obtain ⟨g, A1, c1, A2, c2, rfl, h1, h2, h3, h4, h5⟩ := h.ex
  obtain ⟨A0, c0, rfl⟩ := h1.ex
  have C1 := (Chg.refl [] w).alloc (.cells (vwBox V A0 c0 A1 c1 A2 c2) 26)
  have B1 := Blk.new w 26 (vwBox V A0 c0 A1 c1 A2 c2)
  have HB := Lib.hid (And.intro C1 B1)
  have HG := Lib.hid h2
  have HO := Lib.hid h3
  have hO := hS.o
  have hG := hS.g
  unfold vwBox at HB
  clear C1 B1 h h1 h2 h3 h4 h5
  go_enter Try.func79, Try.ntmps79
  go_upto_region 1 with fail
  generalize (w.alloc (.cells #[.int .i64 V.phase, .int .i64 V.cycle, .int .i64 V.clock, .slice A0 V.globals.length c0, .slice A1 V.gs.length c1, .slice A2 V.objects.length c2, .int .i64 V.grey, .int .i64 V.notes, .int .i64 V.roots] 26)) = X at HB ⊢
  obtain ⟨b0, b1, b2, b3, b4, b5, b6, b7, b8⟩ := boxC HB.out.2
  rcases tri V.grey with ⟨g1, g2, g3⟩ | ⟨g1, g2, g3⟩ | ⟨g1, g2, g3⟩ <;> rcases tri V.notes with ⟨n1, n2, n3⟩ | ⟨n1, n2, n3⟩ | ⟨n1, n2, n3⟩ <;> rcases tri V.roots with ⟨r1, r2, r3⟩ | ⟨r1, r2, r3⟩ | ⟨r1, r2, r3⟩ <;> rcases one_ V.phase with p1 | p1
  all_goals
    first
      | have HE := Lib.hid (show brkWork V = true by simp only [brkWork, g1, g3, n1, n3, r1, r3, p1]; rfl)
      | have HE := Lib.hid (show brkWork V = false by simp only [brkWork, g1, g3, n1, n3, r1, r3, p1]; rfl)
    clear g3 n3 r3
    go_wp2_with fail
    go_ret
    exact ⟨by rw [HE.out]; rfl, HB.out.1⟩
set_option maxHeartbeats 3200000 in
set_option maxRecDepth 100000 in
theorem anumbers_ok (w : World) (v : Value) (V : Vw) (ps : Int) (h : VwAt w w.heap.size v V) (hS : Small V) : Calls Try.prog 81 #[v, .int .i64 ps] w (FdPost (brkNum V) w) := by
  have HV := Lib.hid h
  obtain ⟨g, A1, c1, A2, c2, rfl, h1, h2, h3, h4, h5⟩ := h.ex
  obtain ⟨A0, c0, rfl⟩ := h1.ex
  have C1 := (Chg.refl [] w).alloc (.cells (vwBox V A0 c0 A1 c1 A2 c2) 26)
  have B1 := Blk.new w 26 (vwBox V A0 c0 A1 c1 A2 c2)
  have HB := Lib.hid (And.intro C1 B1)
  have HG := Lib.hid h2
  have HO := Lib.hid h3
  have hO := hS.o
  have hG := hS.g
  unfold vwBox at HB
  clear C1 B1 h h1 h2 h3 h4 h5
  go_enter Try.func81, Try.ntmps81
  go_upto_region 1 with fail
  generalize (w.alloc (.cells #[.int .i64 V.phase, .int .i64 V.cycle, .int .i64 V.clock, .slice A0 V.globals.length c0, .slice A1 V.gs.length c1, .slice A2 V.objects.length c2, .int .i64 V.grey, .int .i64 V.notes, .int .i64 V.roots] 26)) = X at HB ⊢
  obtain ⟨b0, b1, b2, b3, b4, b5, b6, b7, b8⟩ := boxC HB.out.2
  clear b0 b1 b2 b3 b5 b6 b7 b8
  go_wp2_with fail
  go_loopg [10] (V.gs.length + 1) (fun gk idx wr => AnyRel X (fun g : Gr => g.stack.length != 16) V.gs gk idx wr)
  case atStart => exact ⟨0, by omega, by omega, rfl, rfl, Chg.refl _ _⟩
  case round =>
    obtain ⟨i, hgk, hin, rfl, ht, C⟩ := hrel
    have CC := HB.out.1.trans C
    by_cases e : i < V.gs.length
    · obtain ⟨x, hx⟩ : ∃ x, V.gs[i]? = some x := ⟨_, List.getElem?_eq_getElem e⟩
      obtain ⟨b1, o1, s1, rfl, hb1, i0, i1, i2, hs1, -⟩ := (HG.out.chg CC (Nat.le_refl _) (by simp)).at_ i x hx
      obtain ⟨As, cs, rfl⟩ := hs1.ex
      have hi' : (i : Int) < (V.gs.length : Int) := by omega
      have CN := C.alloc (.cells #[.int .i64 x.state, .int .i64 x.p, .slice As x.stack.length cs] 41)
      have HX := Lib.hid (And.intro ht (And.intro CN hx)); clear ht C CN hx hs1 hb1 CC
      by_cases hq : x.stack.length = 16
      · have q1 : ((x.stack.length : Int) != 16) = false := by simp [hq]
        have q2 : (x.stack.length != 16) = false := by simp [hq]
        have HQ := Lib.hid (any_no HX.out.1 HX.out.2.2 q2); clear hq
        go_wp2_with fail
        go_roundg (V.gs.length - i)
        case measure => omega
        case rel => exact ⟨i + 1, by omega, by omega, by go_num, HQ.out, HX.out.2.1⟩
      · have q1 : ((x.stack.length : Int) != 16) = true := by rw [bne_iff_ne]; omega
        have q2 : (x.stack.length != 16) = true := by rw [bne_iff_ne]; exact hq
        have HQ := Lib.hid (show brkNum V = true by unfold brkNum; rw [any_yes HX.out.2.2 q2]; rfl); clear hq
        go_wp2_with fail
        try rw [Exit.noGoto_ret]
        go_ret
        exact ⟨by rw [HQ.out]; rfl, HB.out.1.trans HX.out.2.1⟩
    · have e2 : V.gs.length = i := by omega
      have hi' : ¬ (i : Int) < (V.gs.length : Int) := by omega
      rw [← e2, List.take_length] at ht
      obtain ⟨b0, b1, b2, b3, b4, b5, b6, b7, b8⟩ := boxC (C.blk HB.out.2 (by simp))
      have HX := Lib.hid (And.intro ht CC); clear ht C CC e2 hgk hin e
      by_cases p1 : V.phase < 0
      · have HE := Lib.hid (show brkNum V = true by unfold brkNum numB; simp [p1])
        go_wp2_with fail
        go_ret
        exact ⟨by rw [HE.out]; rfl, HX.out.2⟩
      · by_cases p2 : 3 < V.phase
        · have HE := Lib.hid (show brkNum V = true by unfold brkNum numB; simp [p2])
          go_wp2_with fail
          go_ret
          exact ⟨by rw [HE.out]; rfl, HX.out.2⟩
        · by_cases p3 : V.cycle < 0
          · have HE := Lib.hid (show brkNum V = true by unfold brkNum numB; simp [p3])
            go_wp2_with fail
            go_ret
            exact ⟨by rw [HE.out]; rfl, HX.out.2⟩
          · have HE := Lib.hid (show brkNum V = decide (V.clock < 0) by unfold brkNum numB; rw [HX.out.1]; simp [p1, p2, p3])
            go_wp2_with fail
            go_ret
            exact ⟨by rw [HE.out]; rfl, HX.out.2⟩
set_option maxHeartbeats 800000 in
theorem mark1_ok (w : World) (a : Int) (A : Option Addr) (n c : Nat) (m : Bool) :
    Calls Try.prog 89 #[.agg #[.int .i64 a, .slice A n c, .bool m]] w (FdPost m w) := by
  have HC := Lib.hid ((Chg.refl [] w).alloc (.cells #[.int .i64 a, .slice A n c, .bool m] 30))
  go_enter Try.func89, Try.ntmps89
  go_wp2_with fail
  go_ret
  exact ⟨rfl, HC.out⟩
def mkIx (os : List Ob) : Int := match os.findIdx? (fun o => o.marked) with | some k => (k : Int) | none => -1
def MkRel (w0 : World) (os : List Ob) (gk : Nat) (idx : Value) (w : World) : Prop :=
  ∃ i, gk + i = os.length + 1 ∧ i ≤ os.length ∧ idx = .int .i64 (i : Nat) ∧ (os.take i).findIdx? (fun o => o.marked) = none ∧ Chg [] w0 w
set_option maxHeartbeats 1600000 in
set_option maxRecDepth 100000 in
theorem markIx_ok (w : World) (B : Nat) (A : Option Addr) (c : Nat) (os : List Ob) (h : ObsAt w B A os) (hB : B ≤ w.heap.size) (hl : os.length ≤ 1000000) :
    Calls Try.prog 48 #[.slice A os.length c, .func (.func 89) #[] #[]] w (IntPost (mkIx os) w) := by
  have H := Lib.hid h; clear h
  go_enter Try.func48, Try.ntmps48
  go_wp2_with fail
  go_loopg [8] (os.length + 1) (fun gk idx wr => MkRel w os gk idx wr)
  case atStart => exact ⟨0, by omega, by omega, rfl, by simp, Chg.refl _ _⟩
  case round =>
    obtain ⟨i, hgk, hin, rfl, hno, C⟩ := hrel
    by_cases e : i < os.length
    · obtain ⟨o, ho⟩ : ∃ o, os[i]? = some o := ⟨_, List.getElem?_eq_getElem e⟩
      obtain ⟨b, off, s, rfl, hbb, i0, i1, i2, hsl, -⟩ := (H.out.chg C hB (by simp)).at_ i o ho
      obtain ⟨As, cs, rfl⟩ := hsl.ex
      clear hsl
      have hi' : (i : Int) < (os.length : Int) := by omega
      have hts : os.take (i + 1) = os.take i ++ [o] := by
        obtain ⟨hi, rfl⟩ := List.getElem?_eq_some_iff.1 ho
        exact List.take_succ_eq_append_getElem hi
      have hyes : o.marked = true → os.findIdx? (fun o => o.marked) = some i := fun hq => by
        have h1 : (os.take (i + 1)).findIdx? (fun o => o.marked) = some i := by
          rw [hts, List.findIdx?_append, hno]
          simp [List.findIdx?_singleton, hq]; omega
        have h2 : os = os.take (i + 1) ++ os.drop (i + 1) := (List.take_append_drop _ _).symm
        rw [h2, List.findIdx?_append, h1]; rfl
      have hnot : o.marked = false → (os.take (i + 1)).findIdx? (fun o => o.marked) = none := fun hq => by
        rw [hts, List.findIdx?_append, hno]; simp [List.findIdx?_singleton, hq]
      have HX := Lib.hid (And.intro hyes (And.intro hnot C)); clear hyes hnot C hts hno ho hbb
      go_wp2_with fail
      refine (mark1_ok wr o.addr As o.slots.length cs o.marked).mono ?_
      rintro e w2 ⟨rfl, C2⟩
      have HC := Lib.hid C2; clear C2
      cases hq : o.marked with
      | true =>
        have HE := Lib.hid (HX.out.1 hq); clear hq
        go_wp2_with fail
        go_ret
        exact ⟨by unfold mkIx; rw [HE.out]; rfl, HX.out.2.2.trans HC.out⟩
      | false =>
        have HE := Lib.hid (HX.out.2.1 hq); clear hq
        go_wp2_with fail
        go_roundg (os.length - i)
        case measure => omega
        case rel => exact ⟨i + 1, by omega, by omega, by go_num, HE.out, HX.out.2.2.trans HC.out⟩
    · obtain rfl : i = os.length := by omega
      rw [List.take_length] at hno
      have HX := Lib.hid (And.intro hno C); clear hno C e hgk hin
      go_wp2_with fail
      go_ret
      exact ⟨by unfold mkIx; rw [HX.out.1]; rfl, HX.out.2⟩
theorem mkIx_any (os : List Ob) : (decide (0 ≤ mkIx os)) = os.any (fun o => o.marked) := by
  unfold mkIx
  cases h : os.findIdx? (fun o => o.marked) with
  | none =>
    have h1 : os.any (fun o => o.marked) = false := by
      rw [List.any_eq_false]
      intro o ho
      have := List.findIdx?_eq_none_iff.1 h o ho
      simp [this]
    rw [h1]; rfl
  | some k =>
    have h1 : os.any (fun o => o.marked) = true := by
      obtain ⟨hk, hp, _⟩ := List.findIdx?_eq_some_iff_getElem.1 h
      exact List.any_eq_true.2 ⟨_, List.getElem_mem hk, hp⟩
    rw [h1]; exact decide_eq_true (by simp)
set_option maxHeartbeats 800000 in
theorem cont_ok (w : World) (B : Nat) (A : Option Addr) (c : Nat) (os : List Ob) (h : ObsAt w B A os) (hB : B ≤ w.heap.size) (hl : os.length ≤ 1000000) :
    Calls Try.prog 88 #[.slice A os.length c, .func (.func 89) #[] #[]] w (FdPost (os.any fun o => o.marked) w) := by
  have H := Lib.hid h; clear h
  go_enter Try.func88, Try.ntmps88
  go_wp2_with fail
  refine (markIx_ok _ B A c os H.out hB hl).mono ?_
  rintro e w1 ⟨rfl, C1⟩
  have HC := Lib.hid C1; clear C1
  have HM := Lib.hid (mkIx_any os)
  generalize mkIx os = m at HM ⊢
  go_wp2_with fail
  go_ret
  exact ⟨by rw [← HM.out]; rfl, HC.out⟩
set_option maxHeartbeats 3200000 in
set_option maxRecDepth 100000 in
theorem amarked_ok (w : World) (v : Value) (V : Vw) (ps : Int) (h : VwAt w w.heap.size v V) (hS : Small V) : Calls Try.prog 82 #[v, .int .i64 ps] w (FdPost (brkMk V) w) := by
  have HV := Lib.hid h
  obtain ⟨g, A1, c1, A2, c2, rfl, h1, h2, h3, h4, h5⟩ := h.ex
  obtain ⟨A0, c0, rfl⟩ := h1.ex
  have C1 := (Chg.refl [] w).alloc (.cells (vwBox V A0 c0 A1 c1 A2 c2) 26)
  have B1 := Blk.new w 26 (vwBox V A0 c0 A1 c1 A2 c2)
  have HB := Lib.hid (And.intro C1 B1)
  have HG := Lib.hid h2
  have HO := Lib.hid h3
  have hO := hS.o
  have hG := hS.g
  unfold vwBox at HB
  clear C1 B1 h h1 h2 h3 h4 h5
  go_enter Try.func82, Try.ntmps82
  go_upto_region 1 with fail
  generalize (w.alloc (.cells #[.int .i64 V.phase, .int .i64 V.cycle, .int .i64 V.clock, .slice A0 V.globals.length c0, .slice A1 V.gs.length c1, .slice A2 V.objects.length c2, .int .i64 V.grey, .int .i64 V.notes, .int .i64 V.roots] 26)) = X at HB ⊢
  obtain ⟨b0, b1, b2, b3, b4, b5, b6, b7, b8⟩ := boxC HB.out.2
  by_cases hp : V.phase = 0
  · have q : (V.phase == 0) = true := by rw [beq_iff_eq]; exact hp
    have HP := Lib.hid (show brkMk V = V.objects.any (fun o => o.marked) by unfold brkMk; rw [q]; rfl); clear hp
    go_wp2_with fail
    refine (cont_ok _ _ _ _ V.objects (HO.out.chg HB.out.1 (Nat.le_refl _) (by simp)) HB.out.1.size hO).mono ?_
    rintro e w1 ⟨rfl, C1⟩
    have HC := Lib.hid (HB.out.1.trans C1); clear C1 b0 b1 b2 b3 b4 b5 b6 b7 b8
    go_wp2_with fail
    go_ret
    exact ⟨by rw [HP.out]; rfl, HC.out⟩
  · have q : (V.phase == 0) = false := by rw [beq_eq_false_iff_ne]; exact hp
    have HP := Lib.hid (show brkMk V = false by unfold brkMk; rw [q]; rfl); clear hp
    go_wp2_with fail
    go_ret
    exact ⟨by rw [HP.out]; rfl, HB.out.1⟩
end Go.Proofs.Ytfkgooliglcjkaa
