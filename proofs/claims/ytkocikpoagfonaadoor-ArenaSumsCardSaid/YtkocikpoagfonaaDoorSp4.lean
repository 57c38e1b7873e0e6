/- The walk of package span: Sweep. -/
import Derived.Test.YtkocikpoagfonaaDoorSp3
namespace Go.Proofs.YtkocikpoagfonaaDoor
open Go.RowKit

def SwPost (b : SpB) (s : Sp) (w : World) (e : Ending) (w' : World) : Prop :=
  ∃ v, e = .returned v ∧ OwnI 3 w' v (intsN ((allN s.F (slK s.k)).filter fun i => !(s.M i))) ∧ IsSp w' ⟨b.g, b.m, b.ma, b.u, b.ua⟩ ⟨s.first, s.k, s.M, fun _ => false, 0⟩ ∧ Chg b.l w w' ∧ ∀ j ∈ fpv v, w.heap.size ≤ j
def outTo (M : Nat → Bool) (al : List Nat) (i : Nat) : List Int := intsN ((al.take i).filter fun i => !(M i))
def SwRel1 (w0 : World) (M : Nat → Bool) (al : List Nat) (gk : Nat) (v idx : Value) (w : World) : Prop :=
  ∃ i, gk + i = al.length + 1 ∧ i ≤ al.length ∧ idx = .int .i64 (i : Nat) ∧ OwnI 3 w v (outTo M al i) ∧ Chg [] w0 w ∧ (∀ j ∈ fpv v, w0.heap.size ≤ j)
theorem outTo_succ {M : Nat → Bool} {al : List Nat} {i x : Nat} (hx : al[i]? = some x) : outTo M al (i + 1) = if M x then outTo M al i else outTo M al i ++ [(x : Int)] := by
  unfold outTo
  rw [List.take_add_one, hx]
  unfold intsN
  cases h : M x <;> simp [h]
def clrTo (F : Nat → Bool) (al : List Nat) (i x : Nat) : Bool := F x && !((al.take i).contains x)
theorem clrTo_zero (F : Nat → Bool) (al : List Nat) : clrTo F al 0 = F := by funext x; unfold clrTo; simp
theorem clrTo_succ {F : Nat → Bool} {al : List Nat} {i y : Nat} (h : al[i]? = some y) : clrF (clrTo F al i) y = clrTo F al (i + 1) := by
  funext x
  unfold clrF clrTo
  rw [List.take_add_one, h]
  by_cases e : x = y
  · subst e; simp
  · rw [if_neg e]; simp [e]
theorem clrTo_all {F : Nat → Bool} {n : Nat} (hz : ∀ x, n ≤ x → F x = false) : clrTo F (allN F n) (allN F n).length = fun _ => false := by
  funext x
  unfold clrTo
  rw [List.take_length]
  cases hF : F x
  · rfl
  · have hx : x < n := by
      rcases Nat.lt_or_ge x n with h | h
      · exact h
      · rw [hz x h] at hF; cases hF
    have : x ∈ allN F n := by unfold allN; rw [List.mem_filter, List.mem_range]; exact ⟨hx, hF⟩
    simp [this]
def SwRel2 (w0 : World) (u ua n : Nat) (F : Nat → Bool) (al : List Nat) (gk : Nat) (idx : Value) (w : World) : Prop :=
  ∃ i, gk + i = al.length + 1 ∧ i ≤ al.length ∧ idx = .int .i64 (i : Nat) ∧ IsSet w u ua n (clrTo F al i) ∧ Chg [u, ua] w0 w
theorem allN_lt {F : Nat → Bool} {n i x : Nat} (hx : (allN F n)[i]? = some x) : x < n ∧ F x = true := by
  have := List.mem_of_getElem? hx
  unfold allN at this
  rw [List.mem_filter, List.mem_range] at this
  exact this
set_option maxHeartbeats 1600000 in
set_option maxRecDepth 100000 in
theorem stays_ok (w : World) (b : SpB) (s : Sp) (I : IsSp w b s) (gb : Nat) (hb : w.cell? ⟨gb, 0, none⟩ = some (.pointer (some ⟨b.g, 0, none⟩))) (i : Int) : Calls Tryd.prog 60 #[.int .i64 i, .pointer (some ⟨gb, 0, none⟩)] w (QuPost (.bool (hasI s.M (slK s.k) i)) w) := by
  have b3 : w.cell? ⟨b.g, 3, none⟩ = some (.pointer (some ⟨b.m, 0, none⟩)) := I.hb.cellv 3 rfl
  go_enter Tryd.func60, Tryd.ntmps60
  go_wp2_with fail
  refine (bhas_ok w _ _ _ _ I.hm i).mono ?_
  rintro e w1 ⟨rfl, rfl⟩
  go_wp2_with fail
  go_ret
  exact ⟨rfl, rfl⟩
set_option maxHeartbeats 3200000 in
set_option maxRecDepth 100000 in
theorem ssweep_ok (w : World) (b : SpB) (s : Sp) (I : IsSp w b s) (T : Tab w) : Calls Tryd.prog 37 #[.pointer (some ⟨b.g, 0, none⟩)] w (SwPost b s w) := by
  have b2 : w.cell? ⟨b.g, 2, none⟩ = some (.pointer (some ⟨b.u, 0, none⟩)) := I.hb.cellv 2 rfl
  have hlen : (allN s.F (slK s.k)).length ≤ 64 := by
    rw [allN_len]
    have := cntF_le s.F (slK s.k)
    have := (kF I.hk).2.2.2.2.2.2.2.2
    omega
  have C0 := (Chg.refl [] w).alloc (.cells #[.pointer (some ⟨b.g, 0, none⟩)] 55)
  have HB := Lib.hid (And.intro (I.chg0 C0) (And.intro (T.chg C0 (by simp)) (And.intro (Blk.new w 55 #[.pointer (some ⟨b.g, 0, none⟩)]) C0)))
  clear I T C0
  go_enter Tryd.func37, Tryd.ntmps37
  go_upto_region 5 with fail
  obtain ⟨W, hW⟩ : ∃ W, W = (w.alloc (.cells #[.pointer (some ⟨b.g, 0, none⟩)] 55)) := ⟨_, rfl⟩
  obtain ⟨gb, hgb⟩ : ∃ gb, gb = w.heap.size := ⟨_, rfl⟩
  rw [← hW, ← hgb] at HB ⊢
  have HG := Lib.hid hgb; clear hW hgb b2
  have z0 : W.cell? ⟨gb, 0, none⟩ = some (.pointer (some ⟨b.g, 0, none⟩)) := HB.out.2.2.1.cellv 0 rfl
  have z2 : W.cell? ⟨b.g, 2, none⟩ = some (.pointer (some ⟨b.u, 0, none⟩)) := HB.out.1.hb.cellv 2 rfl
  go_wp2_with fail
  refine (ball_ok W _ _ _ _ HB.out.1.hu HB.out.2.1).mono ?_
  rintro e w1 ⟨vl, rfl, Ol, C1, F1⟩
  have hmem : ∀ i x, (allN s.F (slK s.k))[i]? = some x → x < slK s.k ∧ s.F x = true := fun i x h => allN_lt h
  obtain ⟨al, hal⟩ : ∃ al, al = allN s.F (slK s.k) := ⟨_, rfl⟩
  rw [← hal] at hlen hmem Ol
  obtain ⟨Al, cl, rfl⟩ := Ol.slice
  have hli : (intsN al).length = al.length := by unfold intsN; rw [List.length_map]
  rw [hli] at Ol ⊢
  clear z0 z2 hli
  have HL := Lib.hid (And.intro Ol (And.intro C1 (And.intro F1 (And.intro hal hmem)))); clear Ol C1 F1 hal hmem
  go_wp2_with fail
  go_loopg [3, 18] (al.length + 1) (fun gk v idx wr => SwRel1 w1 s.M al gk v idx wr)
  case atStart => exact ⟨0, by omega, by omega, rfl, OwnI.nil _ _, Chg.refl _ _, by simp [fpv, Value.ownBlock]⟩
  case round =>
    obtain ⟨i, hgk, hin, rfl, O, C, Fv⟩ := hrel
    by_cases e : i < al.length
    · obtain ⟨x, hx⟩ : ∃ x, al[i]? = some x := ⟨_, List.getElem?_eq_getElem e⟩
      have hxi : (intsN al)[i]? = some (x : Int) := by unfold intsN; rw [List.getElem?_map, hx]; rfl
      have hi' : (i : Int) < (al.length : Int) := by omega
      obtain ⟨ga, rfl, q0, -, -⟩ := (HL.out.1.chg0 C).cell hxi
      have hxl := HL.out.2.2.2.2 i x hx
      have I2 := (HB.out.1.chg0 HL.out.2.1).chg0 C
      have z0 : wr.cell? ⟨gb, 0, none⟩ = some (.pointer (some ⟨b.g, 0, none⟩)) := (C.blk (HL.out.2.1.blk HB.out.2.2.1 (by simp)) (by simp)).cellv 0 rfl
      have hs := outTo_succ (M := s.M) hx
      obtain ⟨Ao, co, rfl⟩ := O.slice
      have hol : (outTo s.M al i).length ≤ 64 := by
        have h1 : (outTo s.M al i).length ≤ (al.take i).length := by unfold outTo intsN; rw [List.length_map]; exact List.length_filter_le _ _
        rw [List.length_take] at h1; omega
      have HX := Lib.hid (And.intro O (And.intro C (And.intro Fv (And.intro I2 (And.intro hs hxl))))); clear O C Fv I2 hs hx hxi hxl
      go_wp2_with fail
      refine (stays_ok wr b s HX.out.2.2.2.1 gb z0 x).mono ?_
      rintro e w2 ⟨rfl, rfl⟩
      rw [hasI_nat HX.out.2.2.2.2.2.1]
      cases hM : s.M x with
      | true =>
        have HM := Lib.hid (HX.out.2.2.2.2.1.trans (if_pos hM)); clear hM
        go_wp2_with fail
        go_roundg (al.length - i)
        case measure => omega
        case rel => exact ⟨i + 1, by omega, by omega, by go_num, by rw [HM.out]; exact HX.out.1, HX.out.2.1, HX.out.2.2.1⟩
      | false =>
        have HM := Lib.hid (HX.out.2.2.2.2.1.trans (if_neg (by rw [hM]; decide))); clear hM
        have hll : (outTo s.M al i).length + 1 ≤ 1000000000000 := by omega
        go_wp2_with (at_builtin; refine wpList_push_int rfl _ _ rfl slZ rfl HX.out.1 rfl hll ?_)
        intro A' c' w5 O5 S5
        have H5 := Lib.hid (And.intro O5 (And.intro (HX.out.2.1.newS S5.c HX.out.2.2.1) (fun k hk => by
          rcases S5.f k hk with h | h
          · exact HX.out.2.2.1 k h
          · exact Nat.le_trans HX.out.2.1.size h : ∀ k ∈ fpv _, w1.heap.size ≤ k))); clear O5 S5
        go_wp2_with fail
        go_roundg (al.length - i)
        case measure => omega
        case rel => exact ⟨i + 1, by omega, by omega, by go_num, by rw [HM.out]; exact H5.out.1, H5.out.2.1, H5.out.2.2⟩
    · have e2 : i = al.length := by omega
      subst e2
      have hi' : ¬ (al.length : Int) < (al.length : Int) := by omega
      have HX := Lib.hid (And.intro O (And.intro C Fv)); clear O C Fv e hgk hin
      have I2 := (HB.out.1.chg0 HL.out.2.1).chg0 HX.out.2.1
      have z0 : wr.cell? ⟨gb, 0, none⟩ = some (.pointer (some ⟨b.g, 0, none⟩)) := (HX.out.2.1.blk (HL.out.2.1.blk HB.out.2.2.1 (by simp)) (by simp)).cellv 0 rfl
      have y2 : wr.cell? ⟨b.g, 2, none⟩ = some (.pointer (some ⟨b.u, 0, none⟩)) := I2.hb.cellv 2 rfl
      have y3 : wr.cell? ⟨b.g, 3, none⟩ = some (.pointer (some ⟨b.m, 0, none⟩)) := I2.hb.cellv 3 rfl
      have y4 : wr.cell? ⟨b.g, 4, none⟩ = some (.int .i64 s.fr) := I2.hb.cellv 4 rfl
      have f2 := I2.hb.frozen 2
      have f3 := I2.hb.frozen 3
      have f4 := I2.hb.frozen 4
      have hgg : gb ≠ b.g := (HB.out.2.2.1.ne_ HB.out.1.hb (by decide))
      have HI2 := Lib.hid I2; clear I2
      go_upto_region 11 with fail
      go_cut [31] from 32 to 47 (fun _ wd => Blk wd b.g 85 #[.int .i64 s.first, .int .i64 s.k, .pointer (some ⟨b.m, 0, none⟩), .pointer (some ⟨b.u, 0, none⟩), .int .i64 0] ∧ Chg [b.g] wr wd)
      case first =>
          clear HX HL HB HG hlen
          go_region
          go_wp2_with fail
          go_meet
          have B4 := ((HI2.out.hb.setv 2 (.pointer (some ⟨b.m, 0, none⟩)) rfl).setv 3 (.pointer (some ⟨b.u, 0, none⟩)) rfl).setv 4 (.int .i64 0) rfl
          exact ⟨B4.drew, ((((Chg.refl [b.g] wr).setCell (p := ⟨b.g, 2, none⟩) (.inl (by simp)) (.pointer (some ⟨b.m, 0, none⟩))).setCell (p := ⟨b.g, 3, none⟩) (.inl (by simp)) (.pointer (some ⟨b.u, 0, none⟩))).setCell (p := ⟨b.g, 4, none⟩) (.inl (by simp)) (.int .i64 0)).drew⟩
      case rest =>
      obtain ⟨B5, cc⟩ := hcut
      obtain ⟨W5, rfl⟩ : ∃ W : World, W = wc := ⟨_, rfl⟩
      have J := HI2.out
      have hg1 : b.g ≠ b.u := J.hb.ne_ J.hu.b (by decide)
      have hg2 : b.g ≠ b.ua := J.hb.ne_ J.hu.d (by decide)
      have hg3 : b.g ≠ b.m := J.hb.ne_ J.hm.b (by decide)
      have hg4 : b.g ≠ b.ma := J.hb.ne_ J.hm.d (by decide)
      have U5 := J.hu.chg cc (by simp [Ne.symm hg1]) (by simp [Ne.symm hg2])
      have M5 := J.hm.chg cc (by simp [Ne.symm hg3]) (by simp [Ne.symm hg4])
      have Z5 := cc.blk (HX.out.2.1.blk (HL.out.2.1.blk HB.out.2.2.1 (by simp)) (by simp)) (by simp [hgg])
      have T5 := ((HB.out.2.1.chg HL.out.2.1 (by simp)).chg HX.out.2.1 (by simp)).chg cc (by
        intro hm
        have e : 0 = b.g := by simpa using hm
        have h1 := HB.out.1.hb.cell 0
        rw [← e] at h1
        have h2 := HB.out.2.1 0 (by decide)
        rw [h1] at h2
        simp at h2)
      have O5 : OwnI 3 _ _ (outTo s.M al al.length) := HX.out.1.chg cc (fun k hk hm => by
        have e : k = b.g := by simpa using hm
        have h1 := HX.out.2.2 k hk
        have h2 := HI2.out.hb.lt
        have h3 := (HB.out.1.chg0 HL.out.2.1).hb.lt
        omega)
      have HY := Lib.hid (And.intro B5 (And.intro cc (And.intro U5 (And.intro M5 (And.intro Z5 (And.intro T5 O5)))))); clear B5 cc U5 M5 Z5 T5 O5 J z0 y2 y3 y4 f2 f3 f4
      have z0 : W5.cell? ⟨gb, 0, none⟩ = some (.pointer (some ⟨b.g, 0, none⟩)) := HY.out.2.2.2.2.1.cellv 0 rfl
      have z3 : W5.cell? ⟨b.g, 3, none⟩ = some (.pointer (some ⟨b.u, 0, none⟩)) := HY.out.1.cellv 3 rfl
      go_wp2_with fail
      refine (ball_ok W5 _ _ _ _ HY.out.2.2.1 HY.out.2.2.2.2.2.1).mono ?_
      rintro e w6 ⟨v2, rfl, O6, C6, F6⟩
      rw [← HL.out.2.2.2.1] at O6
      obtain ⟨A6, k6, rfl⟩ := O6.slice
      have hli : (intsN al).length = al.length := by unfold intsN; rw [List.length_map]
      rw [hli] at O6 F6 ⊢
      clear hli z0 z3 hg3 hg4 hgg
      have hu6 : b.u < W5.heap.size := HY.out.2.2.1.b.lt
      have hua6 : b.ua < W5.heap.size := HY.out.2.2.1.d.lt
      have HZ := Lib.hid (And.intro (HY.out.2.2.1.chg0 C6) (And.intro O6 (And.intro C6 F6))); clear O6 C6 F6
      go_wp2_with fail
      obtain ⟨W6, rfl⟩ : ∃ W : World, W = w6 := ⟨_, rfl⟩
      go_loopg [54] (al.length + 1) (fun gk idx wr => SwRel2 W6 b.u b.ua (slK s.k) s.F al gk idx wr)
      case atStart => exact ⟨0, by omega, by omega, rfl, by rw [clrTo_zero]; exact HZ.out.1, Chg.refl _ _⟩
      case round =>
        obtain ⟨i, hgk, hin, rfl, U, C⟩ := hrel
        have hne_u : ∀ k ∈ fpv (.slice A6 al.length k6), k ∉ [b.u, b.ua] := fun k hk hm => by
          have := HZ.out.2.2.2 k hk
          simp only [List.mem_cons, List.not_mem_nil, or_false] at hm
          omega
        have hgbu : gb ∉ [b.u, b.ua] := by
          have h1 : gb ≠ b.u := HB.out.2.2.1.ne_ HB.out.1.hu.b (by decide)
          have h2 : gb ≠ b.ua := HB.out.2.2.1.ne_ HB.out.1.hu.d (by decide)
          simp [h1, h2]
        have hgu : b.g ∉ [b.u, b.ua] := by simp [hg1, hg2]
        have Bg := C.blk (HZ.out.2.2.1.blk HY.out.1 (by simp)) hgu
        have Bz := C.blk (HZ.out.2.2.1.blk HY.out.2.2.2.2.1 (by simp)) hgbu
        by_cases e : i < al.length
        · obtain ⟨x, hx⟩ : ∃ x, al[i]? = some x := ⟨_, List.getElem?_eq_getElem e⟩
          have hxi : (intsN al)[i]? = some (x : Int) := by unfold intsN; rw [List.getElem?_map, hx]; rfl
          have hi' : (i : Int) < (al.length : Int) := by omega
          obtain ⟨ga, rfl, q0, -, -⟩ := (HZ.out.2.1.chg C hne_u).cell hxi
          have hxl := (HL.out.2.2.2.2 i x hx).1
          have z0 : wr.cell? ⟨gb, 0, none⟩ = some (.pointer (some ⟨b.g, 0, none⟩)) := Bz.cellv 0 rfl
          have z3 : wr.cell? ⟨b.g, 3, none⟩ = some (.pointer (some ⟨b.u, 0, none⟩)) := Bg.cellv 3 rfl
          have HQ := Lib.hid (And.intro U (And.intro C hx)); clear U C hx hxi hne_u Bg Bz hgbu hgu
          go_wp2_with fail
          refine (bclear_ok wr _ _ _ _ HQ.out.1 x hxl).mono ?_
          rintro e w8 ⟨rfl, U8, C8⟩
          rw [clrTo_succ HQ.out.2.2] at U8
          have H8 := Lib.hid (And.intro U8 (HQ.out.2.1.trans C8)); clear U8 C8
          go_wp2_with fail
          go_roundg (al.length - i)
          case measure => omega
          case rel => exact ⟨i + 1, by omega, by omega, by go_num, H8.out.1, H8.out.2⟩
        · have e2 : i = al.length := by omega
          subst e2
          have hi' : ¬ (al.length : Int) < (al.length : Int) := by omega
          have hmb : b.m ∉ [b.u, b.ua] := by
            have h1 : b.m ≠ b.u := Ne.symm HB.out.1.ne
            have h2 : b.m ≠ b.ua := HB.out.1.hm.b.ne_ HB.out.1.hu.d (by decide)
            simp [h1, h2]
          have hmab : b.ma ∉ [b.u, b.ua] := by
            have h1 : b.ma ≠ b.u := (HB.out.1.hu.b.ne_ HB.out.1.hm.d (by decide)).symm
            have h2 : b.ma ≠ b.ua := Ne.symm HB.out.1.ne2
            simp [h1, h2]
          have Mk := (HY.out.2.2.2.1.chg0 HZ.out.2.2.1).chg C hmb hmab
          have Ov := (HY.out.2.2.2.2.2.2.chg0 HZ.out.2.2.1).chg C (fun k hk hm => by
            have h1 := HX.out.2.2 k hk
            have h2 := (HB.out.1.chg0 HL.out.2.1).hu.b.lt
            have h3 := (HB.out.1.chg0 HL.out.2.1).hu.d.lt
            simp only [List.mem_cons, List.not_mem_nil, or_false] at hm
            omega)
          have hal := HL.out.2.2.2.1
          rw [hal, clrTo_all HB.out.1.hu.z] at U
          have Call : Chg b.l w wr := by
            have c1 := (HB.out.2.2.2.trans HL.out.2.1).trans HX.out.2.1
            have c2 := c1.mono (T := b.l) (by simp)
            have c3 := HY.out.2.1.mono (T := b.l) (by intro k hk; have e : k = b.g := (by simpa using hk); left; rw [e]; simp [SpB.l])
            have c4 := HZ.out.2.2.1.mono (T := b.l) (by simp)
            have c5 := C.mono (T := b.l) (by intro k hk; simp only [SpB.l, List.mem_cons, List.not_mem_nil, or_false] at hk ⊢; rcases hk with h | h <;> simp [h])
            exact ((c2.trans c3).trans c4).trans c5
          have HQ := Lib.hid (And.intro Bg (And.intro Mk (And.intro U (And.intro Ov Call)))); clear Bg Mk U Ov Call C Bz hne_u hgbu hgu hmb hmab hal e hgk hin
          go_wp2_with fail
          go_ret
          refine ⟨_, rfl, ?_, IsSp.mk HQ.out.1 HQ.out.2.1 HQ.out.2.2.1 HB.out.1.hk HB.out.1.f1 HB.out.1.f2 (Nat.zero_le _) (Ne.symm HB.out.1.ne) (Ne.symm HB.out.1.ne2), HQ.out.2.2.2.2, fun k hk => ?_⟩
          · have := HQ.out.2.2.2.1
            unfold outTo at this
            rw [List.take_length, HL.out.2.2.2.1] at this
            exact this
          · have h1 := HX.out.2.2 k hk
            have h2 := HB.out.2.2.2.size
            have h3 := HL.out.2.1.size
            omega
end Go.Proofs.YtkocikpoagfonaaDoor
