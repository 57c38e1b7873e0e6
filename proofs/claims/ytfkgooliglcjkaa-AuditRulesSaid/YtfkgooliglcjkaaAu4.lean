/- The walks of package audit: rules, All, Check, Text. -/
import Derived.Test.YtfkgooliglcjkaaAu3
import Derived.Laws.EntriesVeiled
namespace Go.Proofs.Ytfkgooliglcjkaa
open Go.RowKit Go.Maps

def nmL : List (Array UInt8) := [#[108, 111, 115, 116], #[111, 98, 106, 101, 99, 116, 115], #[116, 119, 105, 99, 101], #[112, 108, 97, 99, 101, 115], #[119, 111, 114, 107], #[119, 104, 105, 116, 101], #[110, 117, 109, 98, 101, 114, 115], #[109, 97, 114, 107, 101, 100]]
def nmAt (j : Nat) : Value := .string ⟨nmL.getD j #[]⟩
def fnAt (j : Nat) : Value := .func (.func (75 + j)) #[] #[]
def rlCells : Array Value := #[.string ⟨#[108, 111, 115, 116]⟩, .func (.func 75) #[] #[], .string ⟨#[111, 98, 106, 101, 99, 116, 115]⟩, .func (.func 76) #[] #[], .string ⟨#[116, 119, 105, 99, 101]⟩, .func (.func 77) #[] #[], .string ⟨#[112, 108, 97, 99, 101, 115]⟩, .func (.func 78) #[] #[],
  .string ⟨#[119, 111, 114, 107]⟩, .func (.func 79) #[] #[], .string ⟨#[119, 104, 105, 116, 101]⟩, .func (.func 80) #[] #[], .string ⟨#[110, 117, 109, 98, 101, 114, 115]⟩, .func (.func 81) #[] #[], .string ⟨#[109, 97, 114, 107, 101, 100]⟩, .func (.func 82) #[] #[]]
theorem rl_name (j : Nat) (hj : j < 8) : rlCells[j * 2]? = some (nmAt j) :=
  match j, hj with
  | 0, _ => rfl | 1, _ => rfl | 2, _ => rfl | 3, _ => rfl | 4, _ => rfl | 5, _ => rfl | 6, _ => rfl | 7, _ => rfl
  | n + 8, h => absurd h (by omega)
theorem rl_fn (j : Nat) (hj : j < 8) : rlCells[j * 2 + 1]? = some (fnAt j) :=
  match j, hj with
  | 0, _ => rfl | 1, _ => rfl | 2, _ => rfl | 3, _ => rfl | 4, _ => rfl | 5, _ => rfl | 6, _ => rfl | 7, _ => rfl
  | n + 8, h => absurd h (by omega)
def RlPost (w : World) (e : Ending) (w' : World) : Prop := e = .returned (.slice (some ⟨w.heap.size, 0, none⟩) 8 8) ∧ Blk w' w.heap.size 76 rlCells ∧ Chg [] w w'
set_option maxHeartbeats 800000 in
set_option maxRecDepth 100000 in
theorem rules_ok (w : World) : Calls Try.prog 66 #[] w (RlPost w) := by
  have C := (Chg.refl [] w).alloc (.cells rlCells 76)
  have B := Blk.new w 76 rlCells
  have HC := Lib.hid (And.intro C B); clear C B
  unfold rlCells at HC
  go_enter Try.func66, Try.ntmps66
  go_wp2_with fail
  go_ret
  exact ⟨rfl, HC.out.2, HC.out.1⟩
noncomputable def brks (V : Vw) (ps : Int) : List Bool := [brkLost V, brkOb V, brkTw V, brkPl V ps, brkWork V, brkWhite V, brkNum V, brkMk V]
def outN (bs : List Bool) (i : Nat) : List Int := ((List.range i).filter fun j => bs.getD j false).map fun (j : Nat) => (j : Int) + 1
theorem outN_yes {bs : List Bool} {i : Nat} (h : bs.getD i false = true) : outN bs (i + 1) = outN bs i ++ [(i : Int) + 1] := by
  unfold outN; rw [List.range_succ, List.filter_append, List.map_append]; simp only [List.filter_cons, h, if_true, List.filter_nil, List.map_cons, List.map_nil]
theorem outN_no {bs : List Bool} {i : Nat} (h : bs.getD i false = false) : outN bs (i + 1) = outN bs i := by
  unfold outN; rw [List.range_succ, List.filter_append, List.map_append]; simp only [List.filter_cons, h, List.filter_nil, List.map_nil, List.append_nil, Bool.false_eq_true, if_false]
theorem outN_len (bs : List Bool) (i : Nat) : (outN bs i).length ≤ i := by
  unfold outN
  rw [List.length_map]
  exact Nat.le_trans (List.length_filter_le _ _) (by simp)
theorem rule_ok (j : Nat) (hj : j < 8) (w : World) (v : Value) (V : Vw) (ps : Int) (h : VwAt w w.heap.size v V) (hS : Small V) : Calls Try.prog (75 + j) #[v, .int .i64 ps] w (FdPost ((brks V ps).getD j false) w) :=
  match j, hj with
  | 0, _ => alost_ok w v V ps h hS
  | 1, _ => aobjects_ok w v V ps h hS
  | 2, _ => atwice_ok w v V ps h hS
  | 3, _ => aplaces_ok w v V ps h hS
  | 4, _ => awork_ok w v V ps h hS
  | 5, _ => awhite_ok w v V ps h hS
  | 6, _ => anumbers_ok w v V ps h hS
  | 7, _ => amarked_ok w v V ps h hS
  | n + 8, hh => absurd hh (by omega)
def AllPost (V : Vw) (ps : Int) (w : World) (e : Ending) (w' : World) : Prop := NewI (outN (brks V ps) 8) w e w'
def AlRel (w0 : World) (bs : List Bool) (gk : Nat) (v idx : Value) (w : World) : Prop :=
  ∃ i, gk + i = 9 ∧ i ≤ 8 ∧ idx = .int .i64 (i : Nat) ∧ OwnI 3 w v (outN bs i) ∧ Chg [] w0 w ∧ ∀ k ∈ fpv v, w0.heap.size ≤ k
theorem vw_to {w X : World} {v : Value} {V : Vw} (h : VwAt w w.heap.size v V) (c : Chg [] w X) : VwAt X X.heap.size v V := (h.chg c (Nat.le_refl _) (by simp)).mono c.size
set_option maxHeartbeats 3200000 in
set_option maxRecDepth 100000 in
theorem aall_ok (w : World) (v : Value) (V : Vw) (ps : Int) (h : VwAt w w.heap.size v V) (hS : Small V) : Calls Try.prog 36 #[v, .int .i64 ps] w (AllPost V ps w) := by
  have HV := Lib.hid h
  obtain ⟨g, A1, c1, A2, c2, rfl, h1, h2, h3, h4, h5⟩ := h.ex
  obtain ⟨A0, c0, rfl⟩ := h1.ex
  have C1 := (Chg.refl [] w).alloc (.cells (vwBox V A0 c0 A1 c1 A2 c2) 26)
  have B1 := Blk.new w 26 (vwBox V A0 c0 A1 c1 A2 c2)
  have HB := Lib.hid (And.intro C1 B1)
  have HS := Lib.hid hS
  unfold vwBox at HB
  clear C1 B1 h h1 h2 h3 h4 h5 hS
  go_enter Try.func36, Try.ntmps36
  go_upto_region 2 with fail
  generalize (w.alloc (.cells #[.int .i64 V.phase, .int .i64 V.cycle, .int .i64 V.clock, .slice A0 V.globals.length c0, .slice A1 V.gs.length c1, .slice A2 V.objects.length c2, .int .i64 V.grey, .int .i64 V.notes, .int .i64 V.roots] 26)) = X at HB ⊢
  go_wp2_with fail
  refine (rules_ok _).mono ?_
  rintro e w1 ⟨rfl, K, C1⟩
  have HC := Lib.hid (And.intro (HB.out.1.trans C1) (And.intro (C1.blk HB.out.2 (by simp)) K)); clear K C1 HB
  generalize X.heap.size = gr at HC ⊢
  go_wp2_with fail
  go_loopg [5, 10] 9 (fun gk v idx wr => AlRel w1 (brks V ps) gk v idx wr)
  case atStart => exact ⟨0, by omega, by omega, rfl, OwnI.nil _ _, Chg.refl _ _, by simp [fpv, Value.ownBlock]⟩
  case round =>
    obtain ⟨i, hgk, hin, rfl, O, C, F⟩ := hrel
    have hol := outN_len (brks V ps) i
    obtain ⟨Ao, ko, rfl⟩ := O.slice
    by_cases e : i < 8
    · have hi' : (i : Int) < 8 := by omega
      have z0 := (C.blk HC.out.2.2 (by simp)).cellv (i * 2) (rl_name i e)
      have z1 := (C.blk HC.out.2.2 (by simp)).cellv (i * 2 + 1) (rl_fn i e)
      unfold nmAt at z0
      unfold fnAt at z1
      obtain ⟨nm, hnm⟩ : ∃ nm, nm = nmL.getD i #[] := ⟨_, rfl⟩
      rw [← hnm] at z0
      clear hnm
      obtain ⟨F0, hF0⟩ : ∃ F0, F0 = 75 + i := ⟨_, rfl⟩
      rw [← hF0] at z1
      have HF0 := Lib.hid hF0; clear hF0
      obtain ⟨b0, b1, b2, b3, b4, b5, b6, b7, b8⟩ := boxC (C.blk HC.out.2.1 (by simp))
      have l1 := lt_of_cell' z0
      have l2 := lt_of_cell' b0
      have CN := C.alloc (.cells #[.string ⟨nm⟩, .func (.func F0) #[] #[]] 76)
      have ON := O.alloc (.cells #[.string ⟨nm⟩, .func (.func F0) #[] #[]] 76)
      have KN := Blk.new wr 76 #[.string ⟨nm⟩, .func (.func F0) #[] #[]]
      have HX := Lib.hid (And.intro ON (And.intro CN (And.intro F KN))); clear O C F CN ON KN
      go_upto_region 5 with fail
      generalize (wr.alloc (.cells #[.string ⟨nm⟩, .func (.func F0) #[] #[]] 76)) = W1 at HX ⊢
      generalize wr.heap.size = gg at HX ⊢
      clear z0 z1 l1 l2 b0 b1 b2 b3 b4 b5 b6 b7 b8
      have y1 := HX.out.2.2.2.cellv 1 rfl
      obtain ⟨b0, b1, b2, b3, b4, b5, b6, b7, b8⟩ := boxC (HX.out.2.1.blk HC.out.2.1 (by simp))
      have HR := Lib.hid (show Calls Try.prog F0 #[.agg #[.int .i64 V.phase, .int .i64 V.cycle, .int .i64 V.clock, .slice A0 V.globals.length c0, .slice A1 V.gs.length c1, .slice A2 V.objects.length c2, .int .i64 V.grey, .int .i64 V.notes, .int .i64 V.roots], .int .i64 ps] W1 (FdPost ((brks V ps).getD i false) W1) by
        rw [HF0.out]; exact rule_ok i e _ _ V ps (vw_to HV.out (HC.out.1.trans HX.out.2.1)) HS.out)
      have hF8 : F0 = 75 ∨ F0 = 76 ∨ F0 = 77 ∨ F0 = 78 ∨ F0 = 79 ∨ F0 = 80 ∨ F0 = 81 ∨ F0 = 82 := by have := HF0.out; omega
      clear HF0
      rcases hF8 with rfl | rfl | rfl | rfl | rfl | rfl | rfl | rfl
      all_goals
        go_wp2_with fail
        refine HR.out.mono ?_
        rintro e3 w3 ⟨rfl, C3⟩
        have HD := Lib.hid (And.intro (HX.out.1.chg0 C3) (HX.out.2.1.trans C3)); clear C3 y1 b0 b1 b2 b3 b4 b5 b6 b7 b8 HR
        cases hb : (brks V ps).getD i false with
        | true =>
          have HQ := Lib.hid (outN_yes hb); clear hb
          go_wp2_with (at_builtin; refine wpList_push_int rfl _ _ rfl slty rfl HD.out.1 rfl (by omega) ?_)
          intro A' c' w4 O4 S4
          have HN := Lib.hid (And.intro O4 (stp_new HD.out.2 HX.out.2.2.1 S4)); clear O4 S4
          go_wp2_with fail
          go_roundg (8 - i)
          case measure => omega
          case rel => exact ⟨i + 1, by omega, by omega, by go_num, by rw [HQ.out]; exact HN.out.1, HN.out.2.1, HN.out.2.2⟩
        | false =>
          have HQ := Lib.hid (outN_no hb); clear hb
          go_wp2_with fail
          go_roundg (8 - i)
          case measure => omega
          case rel => exact ⟨i + 1, by omega, by omega, by go_num, by rw [HQ.out]; exact HD.out.1, HD.out.2, HX.out.2.2.1⟩
    · have e2 : i = 8 := by omega
      subst e2
      have HX := Lib.hid (And.intro O (And.intro C F)); clear O C F hgk hin e
      go_wp2_with fail
      go_ret
      exact ⟨_, rfl, HX.out.1, HC.out.1.trans HX.out.2.1, fun k hk => Nat.le_trans HC.out.1.size (HX.out.2.2 k hk)⟩
noncomputable def chkN (V : Vw) (ps : Int) : Int := (outN (brks V ps) 8).headD 0
set_option maxHeartbeats 1600000 in
set_option maxRecDepth 100000 in
theorem acheck_ok (w : World) (v : Value) (V : Vw) (ps : Int) (h : VwAt w w.heap.size v V) (hS : Small V) : Calls Try.prog 37 #[v, .int .i64 ps] w (IntPost (chkN V ps) w) := by
  have HV := Lib.hid h
  obtain ⟨g, A1, c1, A2, c2, rfl, h1, h2, h3, h4, h5⟩ := h.ex
  obtain ⟨A0, c0, rfl⟩ := h1.ex
  have C1 := (Chg.refl [] w).alloc (.cells (vwBox V A0 c0 A1 c1 A2 c2) 26)
  have B1 := Blk.new w 26 (vwBox V A0 c0 A1 c1 A2 c2)
  have HB := Lib.hid (And.intro C1 B1)
  have HS := Lib.hid hS
  unfold vwBox at HB
  clear C1 B1 h h1 h2 h3 h4 h5 hS
  go_enter Try.func37, Try.ntmps37
  go_upto_region 1 with fail
  generalize (w.alloc (.cells #[.int .i64 V.phase, .int .i64 V.cycle, .int .i64 V.clock, .slice A0 V.globals.length c0, .slice A1 V.gs.length c1, .slice A2 V.objects.length c2, .int .i64 V.grey, .int .i64 V.notes, .int .i64 V.roots] 26)) = X at HB ⊢
  obtain ⟨b0, b1, b2, b3, b4, b5, b6, b7, b8⟩ := boxC HB.out.2
  go_wp2_with fail
  refine (aall_ok _ _ V ps (vw_to HV.out HB.out.1) HS.out).mono ?_
  rintro e w1 ⟨v1, rfl, O1, C1, F1⟩
  obtain ⟨Ao, ko, rfl⟩ := O1.slice
  have HC := Lib.hid (HB.out.1.trans C1)
  have HE := Lib.hid (show chkN V ps = (outN (brks V ps) 8).headD 0 from rfl)
  generalize outN (brks V ps) 8 = l at O1 HE ⊢
  clear C1 F1 HB b0 b1 b2 b3 b4 b5 b6 b7 b8
  cases l with
  | nil =>
    clear O1
    go_wp2_with fail
    go_ret
    exact ⟨by rw [HE.out]; rfl, HC.out⟩
  | cons x t =>
    obtain ⟨gp, rfl, q0, -, -⟩ := O1.cell (i := 0) (x := x) rfl
    have hl : (0 : Int) < (t.length : Int) + 1 := by omega
    have hl2 : 0 < t.length + 1 := by omega
    clear O1
    go_wp2_with fail
    go_ret
    exact ⟨by rw [HE.out]; rfl, HC.out⟩
def txtN (code : Int) : Array UInt8 := if 1 ≤ code ∧ code ≤ 8 then nmL.getD (code - 1).toNat #[] else #[]
def StrPost (s : Array UInt8) (w : World) (e : Ending) (w' : World) : Prop := e = .returned (.string ⟨s⟩) ∧ Chg [] w w'
set_option maxHeartbeats 1600000 in
set_option maxRecDepth 100000 in
theorem atext_ok (w : World) (code : Int) : Calls Try.prog 38 #[.int .i64 code] w (StrPost (txtN code) w) := by
  by_cases h1 : 1 ≤ code
  · by_cases h2 : code ≤ 8
    · obtain ⟨j, hj, rfl⟩ : ∃ j : Nat, j < 8 ∧ code = (j : Int) + 1 := ⟨(code - 1).toNat, by omega, by omega⟩
      have hE := Lib.hid (show txtN ((j : Int) + 1) = nmL.getD j #[] by unfold txtN; rw [if_pos ⟨h1, h2⟩, Int.add_sub_cancel]; rfl)
      clear h1 h2
      have d1 : decide ((1 : Int) ≤ (j : Int) + 1) = true := decide_eq_true (by omega)
      have d2 : decide ((j : Int) + 1 ≤ 8) = true := decide_eq_true (by omega)
      have d3 : (j : Int) < 8 := by omega
      have d4 : (0 : Int) ≤ (j : Int) := by omega
      have d5 : (1 : Int) ≤ (j : Int) + 1 := by omega
      have d6 : (j : Int) + 1 ≤ 8 := by omega
      go_enter Try.func38, Try.ntmps38
      go_wp2_with fail
      refine (rules_ok _).mono ?_
      rintro e w1 ⟨rfl, K, C1⟩
      have z0 := K.cellv (j * 2) (rl_name j hj)
      unfold nmAt at z0
      obtain ⟨nm, hnm⟩ : ∃ nm, nm = nmL.getD j #[] := ⟨_, rfl⟩
      rw [← hnm] at z0
      have HN := Lib.hid hnm
      have HC := Lib.hid C1; clear K C1 hnm
      go_wp2_with fail
      go_ret
      exact ⟨by rw [hE.out, ← HN.out]; rfl, HC.out⟩
    · have hE := Lib.hid (show txtN code = #[] by unfold txtN; rw [if_neg (fun h => h2 h.2)])
      have d1 : ¬ code ≤ 8 := h2
      go_enter Try.func38, Try.ntmps38
      go_wp2_with fail
      refine (rules_ok _).mono ?_
      rintro e w1 ⟨rfl, K, C1⟩
      have HC := Lib.hid C1; clear K C1
      go_wp2_with fail
      go_ret
      exact ⟨by rw [hE.out]; rfl, HC.out⟩
  · have hE := Lib.hid (show txtN code = #[] by unfold txtN; rw [if_neg (fun h => h1 h.1)])
    go_enter Try.func38, Try.ntmps38
    go_wp2_with fail
    refine (rules_ok _).mono ?_
    rintro e w1 ⟨rfl, K, C1⟩
    have HC := Lib.hid C1; clear K C1
    go_wp2_with fail
    go_ret
    exact ⟨by rw [hE.out]; rfl, HC.out⟩
end Go.Proofs.Ytfkgooliglcjkaa
