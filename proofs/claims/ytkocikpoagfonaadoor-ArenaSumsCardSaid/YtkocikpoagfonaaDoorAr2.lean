/- The walks of package arena: slot, Load, Store, Len, Find, Marked, Mark. -/
import Derived.Test.YtkocikpoagfonaaDoorAr
namespace Go.Proofs.YtkocikpoagfonaaDoor
open Go.RowKit

theorem tyS : VTy Tryd.prog 50 3 55 (.pointer none) := ⟨Tryd.underlying50, Tryd.underlying3, fun _ => by kernel_rfl⟩
theorem tyO : VTy Tryd.prog 51 3 3 (.int .i64 0) := ⟨Tryd.underlying51, Tryd.underlying3, fun _ => by kernel_rfl⟩
theorem tyJ : VTy Tryd.prog 52 3 32 (.slice none 0 0) := ⟨Tryd.underlying52, Tryd.underlying3, fun _ => by kernel_rfl⟩
def obI (a : Ar) (x : Int) : Option (List Int) := if 0 ≤ x then a.ob x.toNat else none
theorem obV_I (h : ArH) (a : Ar) (x : Int) : natV (obV h a) x = (obI a x).map fun xs => .slice (some ⟨h.C x.toNat, 0, none⟩) xs.length xs.length := by
  unfold natV obI obV
  split <;> rfl
def slotV (h : ArH) (a : Ar) (x i : Int) : Value := match obI a x with
  | none => .pointer none
  | some xs => if 0 ≤ i ∧ i < xs.length then .pointer (some ⟨h.C x.toNat, i.toNat, none⟩) else .pointer none
def slotC (a : Ar) (x i : Int) : Int := match obI a x with
  | none => 4
  | some xs => if 0 ≤ i ∧ i < xs.length then 0 else 2
def loadV (a : Ar) (x i : Int) : Int := match obI a x with
  | none => 0
  | some xs => if 0 ≤ i ∧ i < xs.length then xs.getD i.toNat 0 else 0
/-- A slot told anew. -/
def putA (a : Ar) (x i v : Int) : Ar := if slotC a x i = 0 then { a with ob := updF a.ob x.toNat ((a.ob x.toNat).map fun xs => xs.set i.toNat v) } else a
section
variable (h : ArH) (a : Ar)
theorem slot_some {x i : Int} (hc : slotC a x i = 0) : ∃ xs q, 0 ≤ x ∧ a.ob x.toNat = some xs ∧ i = ((q : Nat) : Int) ∧ q < xs.length ∧ slotV h a x i = .pointer (some ⟨h.C x.toNat, q, none⟩) ∧ loadV a x i = xs.getD q 0 := by
  unfold slotC at hc
  unfold slotV loadV
  cases ho : obI a x with
  | none => rw [ho] at hc; cases hc
  | some xs =>
    rw [ho] at hc
    simp only at hc ⊢
    by_cases hi : 0 ≤ i ∧ i < xs.length
    · rw [if_pos hi, if_pos hi]
      have hx : 0 ≤ x := by
        unfold obI at ho
        by_cases hx : 0 ≤ x
        · exact hx
        · rw [if_neg hx] at ho; cases ho
      unfold obI at ho
      rw [if_pos hx] at ho
      exact ⟨xs, i.toNat, hx, ho, by omega, by omega, rfl, rfl⟩
    · rw [if_neg hi] at hc; cases hc
theorem slot_none {x i : Int} (hc : slotC a x i ≠ 0) : slotV h a x i = .pointer none ∧ loadV a x i = 0 := by
  unfold slotC at hc
  unfold slotV loadV
  cases ho : obI a x with
  | none => exact ⟨rfl, rfl⟩
  | some xs =>
    rw [ho] at hc
    simp only at hc ⊢
    by_cases hi : 0 ≤ i ∧ i < xs.length
    · rw [if_pos hi] at hc; exact absurd rfl hc
    · rw [if_neg hi, if_neg hi]; exact ⟨rfl, rfl⟩
theorem put_F {x i v : Int} (k : Nat) (hk : ArF h (putA a x i v) k) : ArF h a k := by
  unfold putA at hk
  by_cases hc : slotC a x i = 0
  · rw [if_pos hc] at hk
    rcases hk with h1 | h1 | h1 | h1 | h1 | h1 | h1 | ⟨y, hy, h1⟩
    · exact .inl h1
    · exact .inr (.inl h1)
    · exact .inr (.inr (.inl h1))
    · exact .inr (.inr (.inr (.inl h1)))
    · exact .inr (.inr (.inr (.inr (.inl h1))))
    · exact .inr (.inr (.inr (.inr (.inr (.inl h1)))))
    · exact .inr (.inr (.inr (.inr (.inr (.inr (.inl h1))))))
    · refine .inr (.inr (.inr (.inr (.inr (.inr (.inr ⟨y, ?_, h1⟩))))))
      simp only at hy
      by_cases e : y = x.toNat
      · subst e
        rw [updF_same] at hy
        cases h2 : a.ob x.toNat with
        | none => rw [h2] at hy; cases hy
        | some _ => rfl
      · rwa [updF_other _ _ e] at hy
  · rwa [if_neg hc] at hk
end
def PsPost (h : ArH) (a : Ar) (x i v : Int) (w : World) (e : Ending) (w' : World) : Prop := e = .returned (.int .i64 (slotC a x i)) ∧ ArM w' h (putA a x i v) ∧ StA h a h (putA a x i v) w w'
section
variable (w : World) (h : ArH) (a : Ar) (M : ArM w h a)
include M
set_option maxHeartbeats 1600000 in
set_option maxRecDepth 100000 in
theorem slot_ok (x i : Int) (hx : Wf64 x) : Calls Tryd.prog 36 #[.pointer (some ⟨h.ga, 0, none⟩), .int .i64 x, .int .i64 i] w (NwPost (.tuple #[slotV h a x i, .int .i64 (slotC a x i)]) w) := by
  have b3 : w.cell? ⟨h.ga, 3, none⟩ = some (.map (some h.bj)) := M.b.cellv 3 rfl
  have hl := M.j.look tyJ hx
  rw [obV_I] at hl
  cases ho : obI a x with
  | none =>
    rw [ho] at hl
    have hl' : (Instr.lookup 52 (.map (some h.bj)) (.int .i64 x) false).run Tryd.prog w = .ok (.slice none 0 0) w := hl
    have hnil := Lib.run_eql_slice_nil (P := Tryd.prog) w 32 3 none 0 0 0 0 Tryd.underlying32
    have e1 : slotV h a x i = .pointer none := by unfold slotV; rw [ho]
    have e2 : slotC a x i = 4 := by unfold slotC; rw [ho]
    have HO := Lib.hid (And.intro e1 e2); clear ho hl M e1 e2
    go_enter Tryd.func36, Tryd.ntmps36
    go_wp2_with fail
    go_ret2
    exact ⟨by rw [HO.out.1, HO.out.2]; rfl, Chg.refl _ _⟩
  | some xs =>
    rw [ho] at hl
    have hl' : (Instr.lookup 52 (.map (some h.bj)) (.int .i64 x) false).run Tryd.prog w = .ok (.slice (some ⟨h.C x.toNat, 0, none⟩) xs.length xs.length) w := hl
    have hnil := Lib.run_eql_slice_nil (P := Tryd.prog) w 32 3 (some ⟨h.C x.toNat, 0, none⟩) xs.length xs.length 0 0 Tryd.underlying32
    by_cases hi : 0 ≤ i ∧ i < xs.length
    · have e1 : slotV h a x i = .pointer (some ⟨h.C x.toNat, i.toNat, none⟩) := by unfold slotV; rw [ho]; exact if_pos hi
      have e2 : slotC a x i = 0 := by unfold slotC; rw [ho]; exact if_pos hi
      obtain ⟨cx, hcx⟩ : ∃ cx, cx = h.C x.toNat := ⟨_, rfl⟩
      rw [← hcx] at hl' hnil e1
      obtain ⟨q, rfl⟩ : ∃ q : Nat, i = q := ⟨i.toNat, by omega⟩
      have hq : (q : Int) < (xs.length : Int) := hi.2
      have hq2 : q < xs.length := by omega
      have hq0 : (0 : Int) ≤ (q : Int) := by omega
      have HO := Lib.hid (And.intro e1 e2); clear ho hl M e1 e2 hcx hi
      go_enter Tryd.func36, Tryd.ntmps36
      go_wp2_with fail
      go_ret2
      exact ⟨by rw [HO.out.1, HO.out.2]; simp, Chg.refl _ _⟩
    · have e1 : slotV h a x i = .pointer none := by unfold slotV; rw [ho]; exact if_neg hi
      have e2 : slotC a x i = 2 := by unfold slotC; rw [ho]; exact if_neg hi
      generalize h.C x.toNat = cx at hl' hnil
      have HO := Lib.hid (And.intro e1 e2); clear ho hl M e1 e2
      by_cases h0 : i < 0
      · have d0 : decide (i < 0) = true := decide_eq_true h0
        go_enter Tryd.func36, Tryd.ntmps36
        go_wp2_with fail
        go_ret2
        exact ⟨by rw [HO.out.1, HO.out.2]; rfl, Chg.refl _ _⟩
      · have d0 : decide (i < 0) = false := decide_eq_false h0
        have h1 : ¬ i < (xs.length : Int) := fun h1 => hi ⟨by omega, h1⟩
        have d1 : decide ((xs.length : Int) ≤ i) = true := decide_eq_true (by omega)
        have h2 : (xs.length : Int) ≤ i := by omega
        clear hi
        go_enter Tryd.func36, Tryd.ntmps36
        go_wp2_with fail
        go_ret2
        exact ⟨by rw [HO.out.1, HO.out.2]; rfl, Chg.refl _ _⟩
theorem ob_cell {x q : Nat} {xs : List Int} (ho : a.ob x = some xs) (hq : q < xs.length) : w.cell? ⟨h.C x, q, none⟩ = some (.int .i64 (xs.getD q 0)) := by
  refine (M.O x xs ho).cellv q ?_
  rw [List.getElem?_toArray, List.getElem?_map, List.getElem?_eq_getElem hq, List.getD_eq_getElem?_getD, List.getElem?_eq_getElem hq]; rfl
set_option maxHeartbeats 1600000 in
set_option maxRecDepth 100000 in
theorem load_ok (x i : Int) (hx : Wf64 x) : Calls Tryd.prog 15 #[.pointer (some ⟨h.ga, 0, none⟩), .int .i64 x, .int .i64 i] w (NwPost (.tuple #[.int .i64 (loadV a x i), .int .i64 (slotC a x i)]) w) := by
  have HM := Lib.hid M
  go_enter Tryd.func15, Tryd.ntmps15
  go_wp2_with fail
  refine (slot_ok w h a M x i hx).mono ?_
  rintro e w1 ⟨rfl, c1⟩
  clear M
  by_cases hc : slotC a x i = 0
  · obtain ⟨xs, q, hx0, ho, hiq, hq, e1, e2⟩ := slot_some h a hc
    have hcell : w1.cell? ⟨h.C x.toNat, q, none⟩ = some (.int .i64 (xs.getD q 0)) := ob_cell w1 h a (HM.out.chg0 c1) ho hq
    rw [e1, hc]
    generalize xs.getD q 0 = z at hcell e2
    have HC := Lib.hid (And.intro c1 (And.intro hc e2)); clear c1 hc e1 e2 ho hiq
    go_wp2_with fail
    go_ret2
    exact ⟨by rw [HC.out.2.1, HC.out.2.2]; rfl, HC.out.1⟩
  · obtain ⟨e1, e2⟩ := slot_none h a hc
    rw [e1]
    obtain ⟨z, hz⟩ : ∃ z, z = slotC a x i := ⟨_, rfl⟩
    rw [← hz] at hc ⊢
    have hc1 : (z != 0) = true := by rw [bne_iff_ne]; exact hc
    have HC := Lib.hid (And.intro c1 (And.intro hz e2)); clear c1 hc e1 e2 hz
    go_wp2_with fail
    go_ret2
    exact ⟨by rw [← HC.out.2.1, HC.out.2.2]; rfl, HC.out.1⟩
theorem ArM.put {x q : Nat} {xs : List Int} (ho : a.ob x = some xs) (hq : q < xs.length) (v : Int) :
    ArM (w.setCell ⟨h.C x, q, none⟩ (.int .i64 v)) h { a with ob := updF a.ob x (some (xs.set q v)) } := by
  have Bx := M.O x xs ho
  have c : Chg [h.C x] w (w.setCell ⟨h.C x, q, none⟩ (.int .i64 v)) := (Chg.refl _ w).setCell (.inl (by simp)) _
  have e : obV h { a with ob := updF a.ob x (some (xs.set q v)) } = obV h a := by
    funext y
    unfold obV updF
    by_cases e : y = x
    · subst e; simp [ho]
    · simp [e]
  have nb : ∀ {g : Nat} {t : TypeId} {cs : Array Value}, Blk w g t cs → 3 ≠ t → g ∉ [h.C x] := fun hb hne hm => Bx.ne_ hb hne (by simpa using hm : _ = _).symm
  refine ⟨c.blk M.b (nb M.b (by decide)), ⟨c.blk M.P.b (nb M.P.b (by decide)), own_chg M.P.o c fun k hk hm => ?_⟩, M.s.chg c (fun hm => M.s.ne_blk Bx (by simpa using hm)), M.o.chg c (fun hm => M.o.ne_blk Bx (by simpa using hm)), ?_, fun id s hs => (M.S id s hs).chg c (fun k hk hm => ?_), fun y ys hy => ?_, M.d1, fun y y' hy hy' => ?_, M.m1, M.m2, M.m3⟩
  · have e : k = h.C x := by simpa using hm
    exact own_far M.P.o Bx (by decide) (by rw [← e]; exact mem_fpv.2 hk)
  · rw [e]; exact M.j.chg c (fun hm => M.j.ne_blk Bx (by simpa using hm))
  · have e : k = h.C x := by simpa using hm
    exact (M.S id s hs).far Bx (by unfold SpT; decide) (by rw [← e]; exact hk)
  · by_cases e : y = x
    · subst e
      have h2 : some (xs.set q v) = some ys := by rw [← hy]; exact (updF_same _ _ _).symm
      injection h2 with h2
      rw [← h2]
      refine Bx.setv q _ ?_
      rw [List.setIfInBounds_toArray, List.map_set]
    · have h2 : a.ob y = some ys := by rw [← hy]; exact (updF_other _ _ e).symm
      refine c.blk (M.O y ys h2) (fun hm => M.d2 y x (by rw [h2]; rfl) (by rw [ho]; rfl) e (by simpa using hm))
  · have get : ∀ y, (updF a.ob x (some (xs.set q v)) y).isSome = true → (a.ob y).isSome = true := fun y hy => by
      by_cases e : y = x
      · rw [e, ho]; rfl
      · rwa [updF_other _ _ e] at hy
    exact M.d2 y y' (get y hy) (get y' hy')
set_option maxHeartbeats 1600000 in
set_option maxRecDepth 100000 in
theorem store_ok (x i v : Int) (hx : Wf64 x) : Calls Tryd.prog 13 #[.pointer (some ⟨h.ga, 0, none⟩), .int .i64 x, .int .i64 i, .int .i64 v] w (PsPost h a x i v w) := by
  have HM := Lib.hid M
  have hfr := fun k hk => put_F h a (x := x) (i := i) (v := v) k hk
  go_enter Tryd.func13, Tryd.ntmps13
  go_wp2_with fail
  refine (slot_ok w h a M x i hx).mono ?_
  rintro e w1 ⟨rfl, c1⟩
  clear M
  by_cases hc : slotC a x i = 0
  · obtain ⟨xs, q, hx0, ho, hiq, hq, e1, _⟩ := slot_some h a hc
    have M1 := HM.out.chg0 c1
    have hcell : w1.cell? ⟨h.C x.toNat, q, none⟩ = some (.int .i64 (xs.getD q 0)) := ob_cell w1 h a M1 ho hq
    have hf : w1.frozen? ⟨h.C x.toNat, q, none⟩ = false := (M1.O _ _ ho).frozen q
    have M2 := ArM.put w1 h a M1 ho hq v
    have cc : Chg [h.C x.toNat] w (w1.setCell ⟨h.C x.toNat, q, none⟩ (.int .i64 v)) := (c1.mono (by simp)).setCell (.inl (by simp)) _
    have hin : ArF h a (h.C x.toNat) := .inr (.inr (.inr (.inr (.inr (.inr (.inr ⟨x.toNat, by rw [ho]; rfl, rfl⟩))))))
    have ep : putA a x i v = { a with ob := updF a.ob x.toNat (some (xs.set q v)) } := by
      unfold putA; rw [if_pos hc, ho, hiq]; rfl
    rw [e1, hc]
    generalize xs.getD q 0 = z at hcell
    have HC := Lib.hid (And.intro M2 (And.intro cc (And.intro hin (And.intro ep (And.intro hc hfr))))); clear M1 M2 cc hin ep hc e1 ho hiq c1 hfr
    go_wp2_with fail
    go_ret
    refine ⟨by rw [HC.out.2.2.2.2.1]; rfl, by rw [HC.out.2.2.2.1]; exact HC.out.1, StA.of_chg HC.out.2.1 (fun k hk => .inl (by have e : k = h.C x.toNat := (by simpa using hk); rw [e]; exact HC.out.2.2.1)) fun k hk => .inl (HC.out.2.2.2.2.2 k hk)⟩
  · obtain ⟨e1, _⟩ := slot_none h a hc
    have ep : putA a x i v = a := by unfold putA; rw [if_neg hc]
    rw [e1]
    obtain ⟨z, hz⟩ : ∃ z, z = slotC a x i := ⟨_, rfl⟩
    rw [← hz] at hc ⊢
    have hc1 : (z == 0) = false := by rw [beq_eq_false_iff_ne]; exact hc
    have HC := Lib.hid (And.intro c1 (And.intro hz ep)); clear c1 hc e1 hz ep hfr
    go_wp2_with fail
    go_ret
    exact ⟨by rw [← HC.out.2.1]; rfl, by rw [HC.out.2.2]; exact HM.out.chg0 HC.out.1, by rw [HC.out.2.2]; exact StA.same HC.out.1⟩
end
end Go.Proofs.YtkocikpoagfonaaDoor
