/- The walks of the document's Reach, White, Lost. -/
import Derived.Test.YtfkgooliglcjkaaRfWalk2
namespace Go.Proofs.Ytfkgooliglcjkaa
open Go.RowKit Go.Maps

def putsL (xs : List Int) : List Int := xs.foldl putL []
theorem putsL_snoc (xs : List Int) (x : Int) : putsL (xs ++ [x]) = putL (putsL xs) x := by simp [putsL]
theorem foldPut : ∀ (xs l : List Int), Rising l → Rising (xs.foldl putL l) ∧ (∀ y, y ∈ xs.foldl putL l ↔ y ∈ l ∨ y ∈ xs) ∧ (xs.foldl putL l).length ≤ l.length + xs.length
  | [], l, h => ⟨h, by simp, by simp⟩
  | x :: xs, l, h => by
    obtain ⟨h1, h2, h3⟩ := foldPut xs (putL l x) (rising_putL h)
    refine ⟨h1, fun y => ?_, ?_⟩
    · rw [List.foldl_cons, h2, mem_putL, List.mem_cons, or_assoc]
    · have := len_putL l x; simp only [List.foldl_cons, List.length_cons]; omega
theorem putsL_rising (xs : List Int) : Rising (putsL xs) := (foldPut xs [] List.Pairwise.nil).1
theorem mem_putsL {xs : List Int} {y : Int} : y ∈ putsL xs ↔ y ∈ xs := by unfold putsL; rw [(foldPut xs [] List.Pairwise.nil).2.1]; simp
theorem putsL_len (xs : List Int) : (putsL xs).length ≤ xs.length := by have := (foldPut xs [] List.Pairwise.nil).2.2; simpa [putsL] using this
def rcX (V : Vw) (l : List Nat) (i : Nat) : List Int := ((List.range i).filter fun p => decide (p ∈ l)).map (addrAt V)
theorem rcX_yes {V : Vw} {l : List Nat} {i : Nat} {o : Ob} (h : i ∈ l) (ho : V.objects[i]? = some o) : rcX V l (i + 1) = rcX V l i ++ [o.addr] := by
  unfold rcX
  rw [List.range_succ, List.filter_append, List.map_append]
  simp [h, addrAt_of ho]
theorem rcX_no {V : Vw} {l : List Nat} {i : Nat} (h : i ∉ l) : rcX V l (i + 1) = rcX V l i := by
  unfold rcX
  rw [List.range_succ, List.filter_append, List.map_append]
  simp [h]
theorem rcX_len (V : Vw) (l : List Nat) (i : Nat) : (rcX V l i).length ≤ i := by
  unfold rcX
  rw [List.length_map]
  exact Nat.le_trans (List.length_filter_le _ _) (by simp)
theorem mem_rcX {V : Vw} {l : List Nat} {i : Nat} {x : Int} : x ∈ rcX V l i ↔ ∃ p, p < i ∧ p ∈ l ∧ addrAt V p = x := by
  unfold rcX
  simp [List.mem_map, List.mem_filter, and_assoc]
theorem rcX_rch {V : Vw} {l : List Nat} (h : IsPls V l) : IsRch V (putsL (rcX V l V.objects.length)) :=
  isRch_of_pls h (putsL_rising _) fun x => by
    rw [mem_putsL, mem_rcX]
    constructor
    · rintro ⟨p, _, h1, h2⟩; exact ⟨p, h1, h2⟩
    · rintro ⟨p, h1, h2⟩
      obtain ⟨o, ho, _⟩ := h.lt h1
      exact ⟨p, (List.getElem?_eq_some_iff.1 ho).1, h1, h2⟩
def mkP (V : Vw) (p : Nat) : Bool := match V.objects[p]? with | some o => o.marked | none => false
theorem mkP_of {V : Vw} {p : Nat} {o : Ob} (h : V.objects[p]? = some o) : mkP V p = o.marked := by unfold mkP; rw [h]
def whX (V : Vw) (l : List Nat) : List Int := (l.filter fun p => !mkP V p).map (addrAt V)
theorem whX_yes {V : Vw} {l : List Nat} {p : Nat} {o : Ob} (h : o.marked = false) (ho : V.objects[p]? = some o) : whX V (l ++ [p]) = whX V l ++ [o.addr] := by
  unfold whX; rw [List.filter_append, List.map_append]; simp [mkP_of ho, h, addrAt_of ho]
theorem whX_no {V : Vw} {l : List Nat} {p : Nat} {o : Ob} (h : o.marked = true) (ho : V.objects[p]? = some o) : whX V (l ++ [p]) = whX V l := by
  unfold whX; rw [List.filter_append, List.map_append]; simp [mkP_of ho, h]
theorem whX_len (V : Vw) (l : List Nat) : (whX V l).length ≤ l.length := by
  unfold whX
  rw [List.length_map]
  exact List.length_filter_le _ _
theorem whX_white {V : Vw} {l : List Nat} (h : IsPls V l) : putsL (whX V l) = whiteL V (putsL (rcX V l V.objects.length)) := by
  have hr := rcX_rch h
  refine rising_uniq (putsL_rising _) (List.Pairwise.filter _ (putsL_rising _)) fun x => ?_
  unfold whiteL
  rw [mem_putsL, List.mem_filter, mem_putsL, mem_rcX]
  unfold whX
  rw [List.mem_map]
  constructor
  · rintro ⟨p, hp, rfl⟩
    obtain ⟨h1, h2⟩ := List.mem_filter.1 hp
    obtain ⟨o, ho, ha, _⟩ := h.lt h1
    refine ⟨⟨p, (List.getElem?_eq_some_iff.1 ho).1, h1, rfl⟩, ?_⟩
    rw [addrAt_of ho, markedAt_of ha ho]
    rw [mkP_of ho] at h2; exact h2
  · rintro ⟨⟨p, _, h1, rfl⟩, h2⟩
    obtain ⟨o, ho, ha, _⟩ := h.lt h1
    rw [addrAt_of ho, markedAt_of ha ho] at h2
    exact ⟨p, List.mem_filter.2 ⟨h1, by rw [mkP_of ho]; exact h2⟩, rfl⟩
theorem take_succ_nat {L : List Nat} {i a : Nat} (h : L[i]? = some a) : L.take (i + 1) = L.take i ++ [a] := by
  obtain ⟨hi, rfl⟩ := List.getElem?_eq_some_iff.1 h
  exact List.take_succ_eq_append_getElem hi
theorem plI_at {l : List Nat} {i : Nat} {x : Int} (h : (plI l)[i]? = some x) : ∃ p, l[i]? = some p ∧ x = (p : Int) := by
  unfold plI at h
  rw [List.getElem?_map] at h
  cases e : l[i]? with
  | none => rw [e] at h; cases h
  | some p => rw [e] at h; exact ⟨p, rfl, by simpa using h.symm⟩
theorem IsPls.len {V : Vw} {l : List Nat} (h : IsPls V l) : l.length ≤ V.objects.length := nodup_lt h.nd fun p hp => by
  obtain ⟨o, ho, _⟩ := h.lt hp
  exact (List.getElem?_eq_some_iff.1 ho).1
def Ra1Rel (w0 : World) (n : Nat) (bI : Nat) (l : List Nat) (gk : Nat) (idx : Value) (w : World) : Prop :=
  ∃ i, gk + i = l.length + 1 ∧ i ≤ l.length ∧ idx = .int .i64 (i : Nat) ∧ Blk w bI 4 (insA n (l.take i)) ∧ Chg [bI] w0 w
def Ra2Rel (w0 : World) (V : Vw) (l : List Nat) (gk : Nat) (v idx : Value) (w : World) : Prop :=
  ∃ i, gk + i = V.objects.length + 1 ∧ i ≤ V.objects.length ∧ idx = .int .i64 (i : Nat) ∧ OwnI 3 w v (putsL (rcX V l i)) ∧ Chg [] w0 w ∧ ∀ k ∈ fpv v, w0.heap.size ≤ k
def Ra3Rel (w0 : World) (V : Vw) (l : List Nat) (gk : Nat) (v idx : Value) (w : World) : Prop :=
  ∃ i, gk + i = l.length + 1 ∧ i ≤ l.length ∧ idx = .int .i64 (i : Nat) ∧ OwnI 3 w v (putsL (whX V (l.take i))) ∧ Chg [] w0 w ∧ ∀ k ∈ fpv v, w0.heap.size ≤ k
theorem addr_wf {V : Vw} {w : World} {B : Nat} {v : Value} (h : VwAt w B v V) : ∀ (p : Nat) (o : Ob), V.objects[p]? = some o → WfI o.addr := fun p o ho => by
  obtain ⟨g, A1, c1, A2, c2, _, _, _, h3, _, _⟩ := h.ex
  obtain ⟨b, off, s, _, _, _, _, _, _, hwa⟩ := h3.at_ p o ho
  exact hwa
set_option maxHeartbeats 3200000 in
set_option maxRecDepth 100000 in
theorem rlost_ok (w : World) (v : Value) (V : Vw) (h : VwAt w w.heap.size v V) (hS : Small V) : Calls Try.prog 30 #[v] w (LostPost V w) := by
  have HV := Lib.hid h
  obtain ⟨g, A1, c1, A2, c2, rfl, h1, h2, h3, h4, h5⟩ := h.ex
  obtain ⟨A0, c0, rfl⟩ := h1.ex
  have C1 := (Chg.refl [] w).alloc (.cells (vwBox V A0 c0 A1 c1 A2 c2) 26)
  have B1 := Blk.new w 26 (vwBox V A0 c0 A1 c1 A2 c2)
  have HB := Lib.hid (And.intro C1 B1); clear C1 B1 h h1 h2 h3 h4 h5
  go_enter Try.func30, Try.ntmps30
  obtain ⟨b0, b1, b2, b3, b4, b5, b6, b7, b8⟩ := VwAt.boxR HB.out.2
  go_wp2_with fail
  refine (rwalk_ok _ _ V ((HV.out.chg HB.out.1 (Nat.le_refl _) (by simp)).mono HB.out.1.size) hS).mono ?_
  rintro e w1 ⟨v7, v8, l, lost, rfl, q1, q2, O7, O8, C2, F7, F8⟩
  have HC := Lib.hid (And.intro q2 (And.intro O8 (And.intro (HB.out.1.trans C2) (fun k hk => Nat.le_trans HB.out.1.size (F8 k hk))))); clear q1 q2 O7 O8 C2 F7 F8 b0 b1 b2 b3 b4 b5 b6 b7 b8
  go_wp2_with fail
  go_ret
  exact ⟨lost, HC.out.1, _, rfl, HC.out.2⟩
set_option maxHeartbeats 3200000 in
set_option maxRecDepth 100000 in
theorem rreach_ok (w : World) (v : Value) (V : Vw) (h : VwAt w w.heap.size v V) (hS : Small V) : Calls Try.prog 28 #[v] w (ReachPost V w) := by
  have HV := Lib.hid h
  obtain ⟨g, A1, c1, A2, c2, rfl, h1, h2, h3, h4, h5⟩ := h.ex
  obtain ⟨A0, c0, rfl⟩ := h1.ex
  have hb5 : V.objects.length ≤ 1000000 := hS.o
  have hmk := fun W => run_make_z (P := Try.prog) 65 4 (.bool false) 1 Try.underlying65 (by kernel_rfl) rfl .i64 .i64 V.objects.length (by omega) (by omega) W
  have C1 := (Chg.refl [] w).alloc (.cells (vwBox V A0 c0 A1 c1 A2 c2) 26)
  have B1 := Blk.new w 26 (vwBox V A0 c0 A1 c1 A2 c2)
  have HB := Lib.hid (And.intro C1 B1)
  have HO := Lib.hid h3; clear C1 B1 h h1 h2 h3 h4 h5
  go_enter Try.func28, Try.ntmps28
  obtain ⟨b0, b1, b2, b3, b4, b5, b6, b7, b8⟩ := VwAt.boxR HB.out.2
  go_wp2_with fail
  refine (rwalk_ok _ _ V ((HV.out.chg HB.out.1 (Nat.le_refl _) (by simp)).mono HB.out.1.size) hS).mono ?_
  rintro e w1 ⟨v7, v8, l, lost, rfl, q1, q2, O7, O8, C2, F7, F8⟩
  obtain ⟨A7, c7, rfl⟩ := O7.slice
  obtain ⟨A8, c8, rfl⟩ := O8.slice
  have HC := Lib.hid (And.intro q1 (And.intro O7 (And.intro (HB.out.1.trans C2) (C2.blk HB.out.2 (by simp))))); clear q1 q2 O7 O8 C2 F7 F8 b0 b1 b2 b3 b4 b5 b6 b7 b8 HB
  have b5 : w1.cell? ⟨w.heap.size, 5, none⟩ = some (.slice A2 V.objects.length c2) := HC.out.2.2.2.cellv 5 rfl
  go_upto_region 3 with fail
  have HY := Lib.hid (And.intro (HC.out.2.1.alloc (.cells (zcells (.bool false) V.objects.length) 4)) (And.intro (HC.out.2.2.1.alloc (.cells (zcells (.bool false) V.objects.length) 4)) (And.intro (HC.out.2.2.2.alloc (.cells (zcells (.bool false) V.objects.length) 4)) (And.intro (Blk.new w1 4 (zcells (.bool false) V.objects.length)) HC.out.2.2.1.size))))
  have HP := Lib.hid HC.out.1
  clear HC b5
  generalize (w1.alloc (.cells (zcells (.bool false) V.objects.length) 4)) = W1 at HY ⊢
  generalize w1.heap.size = bI at HY ⊢
  rw [insA_nil] at HY
  have hpl := plI_len l
  have hll := HP.out.len
  have HPL := Lib.hid hpl; clear hpl
  go_wp2_with fail
  go_loopg [6] (l.length + 1) (fun gk idx wr => Ra1Rel W1 V.objects.length bI l gk idx wr)
  case atStart => exact ⟨0, by omega, by omega, rfl, by simpa using HY.out.2.2.2.1, Chg.refl _ _⟩
  case round =>
    obtain ⟨i, hgk, hin, rfl, K, C⟩ := hrel
    have O7 := HY.out.1.chg C (fun k hk hm => by have := only1 hm; subst this; exact HY.out.1.ne_blk HY.out.2.2.2.1 (by decide) hk)
    by_cases e : i < l.length
    · obtain ⟨p, hp⟩ : ∃ p, l[i]? = some p := ⟨_, List.getElem?_eq_getElem e⟩
      obtain ⟨g7, rfl, y0, -, -⟩ := O7.cell (plI_get hp)
      obtain ⟨o, ho, -⟩ := HP.out.lt (List.mem_of_getElem? hp)
      have hpn := (List.getElem?_eq_some_iff.1 ho).1
      have hpn' : (p : Int) < (V.objects.length : Int) := by omega
      have hp0 : (0 : Int) ≤ (p : Int) := by omega
      have hi' : (i : Int) < ((plI l).length : Int) := by rw [plI_len]; omega
      have z0 := K.cellv p (insA_get hpn)
      have z1 := K.frozen p
      have K2 := K.setv p (.bool true) (insA_put hpn)
      rw [← take_succ_nat hp] at K2
      have HX := Lib.hid (And.intro K2 (C.setCell (p := ⟨bI, p, none⟩) (.inl (by simp)) (.bool true))); clear K K2 C O7 hp ho
      go_wp2_with fail
      go_roundg (l.length - i)
      case measure => omega
      case rel => exact ⟨i + 1, by omega, by omega, by go_num, HX.out.1, HX.out.2⟩
    · have e2 : l.length = i := by omega
      have e3 : l.take i = l := by rw [← e2, List.take_length]
      rw [e3] at K
      have hi' : ¬ (i : Int) < ((plI l).length : Int) := by rw [plI_len]; omega
      have hbv : w.heap.size ∉ [bI] := fun hm => (HY.out.2.2.1.ne_ HY.out.2.2.2.1 (by decide)) (only1 hm)
      have HX := Lib.hid (And.intro K (And.intro (HY.out.2.1.new C (fun k hk => by rw [only1 hk]; exact HY.out.2.2.2.2)) (C.blk HY.out.2.2.1 hbv))); clear K C O7 hgk hin e e2 e3
      go_wp2_with fail
      obtain ⟨wq, rfl⟩ : ∃ wq : World, wq = wr := ⟨_, rfl⟩
      go_loopg [7, 8] (V.objects.length + 1) (fun gk v idx wr => Ra2Rel wq V l gk v idx wr)
      case atStart => exact ⟨0, by omega, by omega, rfl, OwnI.nil _ _, Chg.refl _ _, by simp [fpv, Value.ownBlock]⟩
      case round =>
        obtain ⟨i, hgk, hin, rfl, O, C, F⟩ := hrel
        have hrl := Nat.le_trans (putsL_len _) (rcX_len V l i)
        obtain ⟨Ao, co, rfl⟩ := O.slice
        by_cases e : i < V.objects.length
        · obtain ⟨o, ho⟩ : ∃ o, V.objects[i]? = some o := ⟨_, List.getElem?_eq_getElem e⟩
          have hi' : (i : Int) < (V.objects.length : Int) := by omega
          have z0 := (C.blk HX.out.1 (by simp)).cellv i (insA_get (l := l) e)
          by_cases hm : i ∈ l
          · rw [decide_eq_true hm] at z0
            have CC := HX.out.2.1.trans C
            obtain ⟨b, off, s, eA, hbb, i0, i1, i2, hsl, hwa⟩ := (HO.out.chg CC (Nat.le_refl _) (by simp)).at_ i o ho
            have b5 : wr.cell? ⟨w.heap.size, 5, none⟩ = some (.slice A2 V.objects.length c2) := (C.blk HX.out.2.2 (by simp)).cellv 5 rfl
            rw [eA] at b5
            clear eA
            have HZ := Lib.hid (And.intro O (And.intro C (And.intro F (rcX_yes hm ho)))); clear O C F CC i1 i2 hsl hbb hm
            have hwx : ∀ y ∈ putsL (rcX V l i), WfI y := fun y hy => by
              obtain ⟨p, _, hp, rfl⟩ := mem_rcX.1 (mem_putsL.1 hy)
              obtain ⟨o', ho', _⟩ := HP.out.lt hp
              rw [addrAt_of ho']; exact addr_wf HV.out p o' ho'
            have HWX := Lib.hid hwx; clear hwx ho
            go_wp2_with fail
            refine (put_ok _ _ _ o.addr HZ.out.1 HWX.out hwa (by omega)).mono ?_
            rintro e w3 ⟨v', rfl, O3, S3⟩
            have HN := stp_new HZ.out.2.1 HZ.out.2.2.1 S3
            have HQ := Lib.hid (And.intro O3 HN); clear O3 S3 HN b5 i0 z0
            go_wp2_with fail
            go_roundg (V.objects.length - i)
            case measure => omega
            case rel => exact ⟨i + 1, by omega, by omega, by go_num, by rw [HZ.out.2.2.2, putsL_snoc]; exact HQ.out.1, HQ.out.2⟩
          · rw [decide_eq_false hm] at z0
            have HZ := Lib.hid (And.intro O (And.intro C (And.intro F (rcX_no (V := V) hm)))); clear O C F hm ho
            go_wp2_with fail
            go_roundg (V.objects.length - i)
            case measure => omega
            case rel => exact ⟨i + 1, by omega, by omega, by go_num, by rw [HZ.out.2.2.2]; exact HZ.out.1, HZ.out.2.1, HZ.out.2.2.1⟩
        · have e2 : i = V.objects.length := by omega
          have hi' : ¬ (i : Int) < (V.objects.length : Int) := by omega
          have HE := Lib.hid e2
          have HZ := Lib.hid (And.intro O (And.intro C F)); clear O C F e2 hgk e hrl hin
          go_wp2_with fail
          go_ret
          have hr := rcX_rch HP.out
          rw [← HE.out] at hr
          exact ⟨_, hr, _, rfl, HZ.out.1, HX.out.2.1.trans HZ.out.2.1, fun k hk => Nat.le_trans HX.out.2.1.size (HZ.out.2.2 k hk)⟩
set_option maxHeartbeats 3200000 in
set_option maxRecDepth 100000 in
theorem rwhite_ok (w : World) (v : Value) (V : Vw) (h : VwAt w w.heap.size v V) (hS : Small V) : Calls Try.prog 29 #[v] w (WhitePost V w) := by
  have HV := Lib.hid h
  obtain ⟨g, A1, c1, A2, c2, rfl, h1, h2, h3, h4, h5⟩ := h.ex
  obtain ⟨A0, c0, rfl⟩ := h1.ex
  have hb5 : V.objects.length ≤ 1000000 := hS.o
  have C1 := (Chg.refl [] w).alloc (.cells (vwBox V A0 c0 A1 c1 A2 c2) 26)
  have B1 := Blk.new w 26 (vwBox V A0 c0 A1 c1 A2 c2)
  have HB := Lib.hid (And.intro C1 B1)
  have HO := Lib.hid h3; clear C1 B1 h h1 h2 h3 h4 h5
  go_enter Try.func29, Try.ntmps29
  obtain ⟨b0, b1, b2, b3, b4, b5, b6, b7, b8⟩ := VwAt.boxR HB.out.2
  go_wp2_with fail
  refine (rwalk_ok _ _ V ((HV.out.chg HB.out.1 (Nat.le_refl _) (by simp)).mono HB.out.1.size) hS).mono ?_
  rintro e w1 ⟨v7, v8, l, lost, rfl, q1, q2, O7, O8, C2, F7, F8⟩
  obtain ⟨A7, c7, rfl⟩ := O7.slice
  obtain ⟨A8, c8, rfl⟩ := O8.slice
  have hll := q1.len
  have HC := Lib.hid (And.intro q1 (And.intro O7 (And.intro (HB.out.1.trans C2) (C2.blk HB.out.2 (by simp))))); clear q1 q2 O7 O8 C2 F7 F8 b0 b1 b2 b3 b4 b5 b6 b7 b8 HB
  have hpl := plI_len l
  have HPL := Lib.hid hpl; clear hpl
  go_wp2_with fail
  go_loopg [5, 6] (l.length + 1) (fun gk v idx wr => Ra3Rel w1 V l gk v idx wr)
  case atStart => exact ⟨0, by omega, by omega, rfl, OwnI.nil _ _, Chg.refl _ _, by simp [fpv, Value.ownBlock]⟩
  case round =>
    obtain ⟨i, hgk, hin, rfl, O, C, F⟩ := hrel
    have hrl := Nat.le_trans (putsL_len _) (whX_len V (l.take i))
    have htl : (l.take i).length ≤ l.length := by simp; omega
    obtain ⟨Ao, co, rfl⟩ := O.slice
    by_cases e : i < l.length
    · obtain ⟨p, hp⟩ : ∃ p, l[i]? = some p := ⟨_, List.getElem?_eq_getElem e⟩
      obtain ⟨g7, rfl, y0, -, -⟩ := (HC.out.2.1.chg0 C).cell (plI_get hp)
      obtain ⟨o, ho, -⟩ := HC.out.1.lt (List.mem_of_getElem? hp)
      have hpn := (List.getElem?_eq_some_iff.1 ho).1
      have hpn' : (p : Int) < (V.objects.length : Int) := by omega
      have hp0 : (0 : Int) ≤ (p : Int) := by omega
      have hi' : (i : Int) < ((plI l).length : Int) := by rw [plI_len]; omega
      have hi0 : (0 : Int) ≤ (i : Int) := by omega
      have CC := HC.out.2.2.1.trans C
      obtain ⟨b, off, s, eA, hbb, i0, i1, i2, hsl, hwa⟩ := (HO.out.chg CC (Nat.le_refl _) (by simp)).at_ p o ho
      have b5 : wr.cell? ⟨w.heap.size, 5, none⟩ = some (.slice A2 V.objects.length c2) := (C.blk HC.out.2.2.2 (by simp)).cellv 5 rfl
      rw [eA] at b5
      have htk := take_succ_nat hp
      have HZ := Lib.hid (And.intro O (And.intro C (And.intro F (And.intro ho htk)))); clear O C F CC i1 hsl hbb hp htk eA ho
      cases hm : o.marked with
      | false =>
        rw [hm] at i2
        have HM := Lib.hid hm; clear hm
        have hwx : ∀ y ∈ putsL (whX V (l.take i)), WfI y := fun y hy => by
          obtain ⟨q, hq, rfl⟩ := List.mem_map.1 (mem_putsL.1 hy)
          obtain ⟨o', ho', _⟩ := HC.out.1.lt (List.mem_of_mem_take (List.mem_filter.1 hq).1)
          rw [addrAt_of ho']; exact addr_wf HV.out q o' ho'
        have HWX := Lib.hid (And.intro hwx hwa); clear hwx hwa
        go_wp2_with fail
        go_quiet (fail)
        go_wp2_with fail
        have b5' : (wr.drewN nq).cell? ⟨w.heap.size, 5, none⟩ = some (.slice (some ⟨b, off, none⟩) V.objects.length c2) := b5
        have y0' : (wr.drewN nq).cell? ⟨g7, i, none⟩ = some (.int .i64 (p : Int)) := y0
        have i0' : (wr.drewN nq).cell? ⟨b, off + p * 3, none⟩ = some (.int .i64 o.addr) := i0
        have HD := Lib.hid (And.intro (HZ.out.1.drewN nq) (HZ.out.2.1.drewN nq))
        clear b5 y0 i0 i2
        generalize wr.drewN nq = wd at b5' y0' i0' HD ⊢
        go_upto_region 7 with fail
        go_still_tail 10, (by kernel_rfl)
        go_wp2_with fail
        refine (put_ok _ _ _ o.addr HD.out.1.drew HWX.out.1 HWX.out.2 (by omega)).mono ?_
        rintro e w3 ⟨v', rfl, O3, S3⟩
        have HN := stp_new HD.out.2.drew HZ.out.2.2.1 S3
        have HQ := Lib.hid (And.intro O3 HN); clear O3 S3 HN b5' y0' i0' HD
        go_wp2_with fail
        go_roundg (l.length - i)
        case measure => omega
        case rel => exact ⟨i + 1, by omega, by omega, by go_num, by rw [HZ.out.2.2.2.2, whX_yes HM.out HZ.out.2.2.2.1, putsL_snoc]; exact HQ.out.1, HQ.out.2⟩
      | true =>
        rw [hm] at i2
        have HM := Lib.hid hm; clear hm
        go_wp2_with fail
        go_quiet (fail)
        go_wp2_with fail
        go_roundg (l.length - i)
        case measure => omega
        case rel => exact ⟨i + 1, by omega, by omega, by go_num, by rw [HZ.out.2.2.2.2, whX_no HM.out HZ.out.2.2.2.1]; exact HZ.out.1.drewN _, HZ.out.2.1.drewN _, HZ.out.2.2.1⟩
    · have e2 : l.length = i := by omega
      have e3 : l.take i = l := by rw [← e2, List.take_length]
      have hi' : ¬ (i : Int) < ((plI l).length : Int) := by rw [plI_len]; omega
      have HE := Lib.hid e3
      have HZ := Lib.hid (And.intro O (And.intro C F)); clear O C F e2 hgk e hrl hin htl e3
      go_wp2_with fail
      go_ret
      have hr := rcX_rch HC.out.1
      have hq := whX_white HC.out.1
      exact ⟨_, hr, _, rfl, by rw [← hq]; have := HZ.out.1; rw [HE.out] at this ⊢; exact this, HC.out.2.2.1.trans HZ.out.2.1, fun k hk => Nat.le_trans HC.out.2.2.1.size (HZ.out.2.2 k hk)⟩
end Go.Proofs.Ytfkgooliglcjkaa
