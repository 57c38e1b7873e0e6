/- The walks of the document's answer for layer 25. -/
import Derived.Test.YtoepnbiogfcgfaaPh
import Derived.Deep.LoopGhost
namespace Go.Proofs.Ytoepnbiogfcgfaa
open Go.RowKit

/-- The document's Phases lies in block x, its list in block y. -/
structure IsRf (w : World) (x y : Nat) (s : PS) : Prop where
  x : Blk w x 36 #[.int .i64 s.said.length, .int .i64 s.ph, .int .i64 s.cyc, .int .i64 s.rs, .slice (some ⟨y, 0, none⟩) s.said.length s.said.length]
  y : Blk w y 4 (s.said.map Value.bool).toArray
theorem IsRf.ne {w : World} {x y : Nat} {s : PS} (h : IsRf w x y s) : x ≠ y := h.x.ne_ h.y (by decide)
theorem IsRf.chg {S : List Nat} {a w : World} {g b : Nat} {s : PS} (h : IsRf a g b s) (hc : Chg S a w) (hg : g ∉ S) (hb : b ∉ S) : IsRf w g b s :=
  ⟨hc.blk h.x hg, hc.blk h.y hb⟩
theorem IsRf.drewN {w : World} {g b : Nat} {s : PS} (h : IsRf w g b s) (n : Nat) : IsRf (w.drewN n) g b s := ⟨h.x.drewN n, h.y.drewN n⟩

def allB (l : List Bool) : Bool := l.all id
theorem allB_false {l : List Bool} {k : Nat} (hk : k < l.length) (h : l.getD k false = false) : allB l = false := by
  unfold allB
  rw [List.all_eq_false]
  refine ⟨l[k], List.getElem_mem hk, ?_⟩
  simp [List.getD, hk] at h
  simp [h]
theorem allB_true {l : List Bool} (h : ∀ k, k < l.length → l.getD k false = true) : allB l = true := by
  unfold allB
  rw [List.all_eq_true]
  intro b hb
  obtain ⟨k, hk, rfl⟩ := List.mem_iff_getElem.1 hb
  have := h k hk
  simpa [List.getD, hk] using this

def RqRel (n : Nat) (l : List Bool) (gk : Nat) (v : Value) : Prop := ∃ k : Nat, gk + k = n ∧ k ≤ n ∧ v = .int .i64 k ∧ ∀ j, j < k → l.getD j false = true

set_option maxHeartbeats 800000 in
theorem rquiet_ok (x y : Nat) (s : PS) (q : Bool) (w : World) (h : IsRf w x y s) (hl : s.said.length ≤ 64) (hq : (allB s.said && s.ph == 1) = q) :
    Calls Try.prog 19 #[.pointer (some ⟨x, 0, none⟩)] w fun e w' => e = .returned (.bool q) ∧ w = w' := by
  have c0 := h.x.cellv 0 rfl
  have c1 := h.x.cellv 1 rfl
  have c4 := h.x.cellv 4 rfl
  have H := Lib.hid (And.intro h hq); clear h hq
  go_enter Try.func19, Try.ntmps19
  go_wp2_with fail
  go_loopg [3] s.said.length (fun gk v wr => wr = w ∧ RqRel s.said.length s.said gk v)
  case atStart => exact ⟨rfl, 0, by omega, by omega, rfl, fun j hj => by omega⟩
  case round =>
    obtain ⟨rfl, k, hgk, hk, rfl, hj⟩ := hrel
    have HJ := Lib.hid hj; clear hj
    by_cases hlt : k < s.said.length
    · have hlt' : (k : Int) < s.said.length := by omega
      have cb : wr.cell? ⟨y, k, none⟩ = some (.bool (s.said.getD k false)) := by
        rw [H.out.1.y.cell]; simp [List.getD, hlt]
      cases hs : s.said.getD k false with
      | true =>
        rw [hs] at cb
        have HS := Lib.hid hs; clear hs
        go_wp2_with fail
        go_roundg (s.said.length - (k + 1))
        case measure => omega
        case rel => exact ⟨rfl, k + 1, by omega, by omega, by go_num, fun j hj => by
            by_cases e : j = k
            · subst e; exact HS.out
            · exact HJ.out j (by omega)⟩
      | false =>
        rw [hs] at cb
        have HS := Lib.hid hs; clear hs
        go_wp2_with fail
        go_ret
        exact ⟨by rw [← H.out.2, allB_false hlt HS.out]; rfl, rfl⟩
    · have hlt' : ¬ (k : Int) < s.said.length := by omega
      obtain rfl : k = s.said.length := by omega
      go_wp2_with fail
      go_ret
      exact ⟨by rw [← H.out.2, allB_true HJ.out]; rfl, rfl⟩

def gofrom (to : Int) : Int := if to = 0 then 3 else to - 1
theorem and33 : bits .and .i64 3 3 = 3 := by kernel_rfl
theorem and43 : bits .and .i64 4 3 = 0 := by kernel_rfl
theorem and53 : bits .and .i64 5 3 = 1 := by kernel_rfl
theorem and63 : bits .and .i64 6 3 = 2 := by kernel_rfl

set_option maxHeartbeats 800000 in
theorem rgo_no (x y : Nat) (s : PS) (to : Int) (hto : to = 0 ∨ to = 1 ∨ to = 2 ∨ to = 3) (w : World) (h : IsRf w x y s) (hn : s.ph ≠ gofrom to) :
    Calls Try.prog 15 #[.pointer (some ⟨x, 0, none⟩), .int .i64 to] w fun e w' => e = .returned (.int .i64 5) ∧ w = w' := by
  have c1 := h.x.cellv 1 rfl
  clear h
  have a3 := and33
  have a4 := and43
  have a5 := and53
  have a6 := and63
  rcases hto with rfl | rfl | rfl | rfl <;> simp only [gofrom] at hn <;> simp at hn
  all_goals
    have hn' := bne_iff_ne.2 hn
    clear hn
    go_enter Try.func15, Try.ntmps15
    go_wp2_with fail
    go_ret
    exact ⟨rfl, rfl⟩

set_option maxHeartbeats 800000 in
theorem rgo_nq (x y : Nat) (s : PS) (w : World) (h : IsRf w x y s) (hl : s.said.length ≤ 64) (hn : s.ph = 1) (hq : allB s.said = false) :
    Calls Try.prog 15 #[.pointer (some ⟨x, 0, none⟩), .int .i64 2] w fun e w' => e = .returned (.int .i64 5) ∧ w = w' := by
  obtain ⟨ph, cyc, said, cnt, rs⟩ := s
  simp only at hn
  subst hn
  have c1 := h.x.cellv 1 rfl
  have a5 := and53
  have H := Lib.hid (And.intro h hq); clear h hq
  go_enter Try.func15, Try.ntmps15
  go_wp2_with fail
  refine (rquiet_ok x y _ false _ H.out.1 hl (by simp only [show allB said = false from H.out.2]; rfl)).mono ?_
  rintro e w' ⟨rfl, rfl⟩
  go_wp2_with fail
  go_ret
  exact ⟨rfl, rfl⟩

set_option maxHeartbeats 800000 in
theorem rgo_term (x y : Nat) (s : PS) (w : World) (h : IsRf w x y s) (hl : s.said.length ≤ 64) (hn : s.ph = 1) (hq : allB s.said = true) :
    Calls Try.prog 15 #[.pointer (some ⟨x, 0, none⟩), .int .i64 2] w fun e w' => e = .returned (.int .i64 0) ∧ IsRf w' x y { s with ph := 2 } ∧ Chg [x] w w' := by
  obtain ⟨ph, cyc, said, cnt, rs⟩ := s
  simp only at hn
  subst hn
  have c1 := h.x.cellv 1 rfl
  have f1 := h.x.frozen 1
  have a5 := and53
  have H := Lib.hid (And.intro h hq); clear h hq
  go_enter Try.func15, Try.ntmps15
  go_wp2_with fail
  refine (rquiet_ok x y _ true _ H.out.1 hl (by simp only [show allB said = true from H.out.2]; rfl)).mono ?_
  rintro e w' ⟨rfl, rfl⟩
  go_wp2_with fail
  go_ret
  exact ⟨rfl, ⟨H.out.1.x.setv 1 _ rfl, H.out.1.y.far (p := ⟨x, 1, none⟩) H.out.1.ne.symm _⟩, (Chg.refl _ _).setCell (.inl (by simp)) _⟩

set_option maxHeartbeats 800000 in
theorem rgo_on (x y : Nat) (s : PS) (to : Int) (hto : to = 0 ∨ to = 3) (w : World) (h : IsRf w x y s) (hn : s.ph = gofrom to) :
    Calls Try.prog 15 #[.pointer (some ⟨x, 0, none⟩), .int .i64 to] w fun e w' => e = .returned (.int .i64 0) ∧ IsRf w' x y { s with ph := to } ∧ Chg [x] w w' := by
  obtain ⟨ph, cyc, said, cnt, rs⟩ := s
  simp only at hn
  subst hn
  have c1 := h.x.cellv 1 rfl
  have f1 := h.x.frozen 1
  have a3 := and33
  have a6 := and63
  have H := Lib.hid h; clear h
  rcases hto with rfl | rfl
  all_goals
    simp only [gofrom] at c1
    simp at c1
    go_enter Try.func15, Try.ntmps15
    go_wp2_with fail
    go_ret
    exact ⟨rfl, ⟨H.out.x.setv 1 _ rfl, H.out.y.far (p := ⟨x, 1, none⟩) H.out.ne.symm _⟩, (Chg.refl _ _).setCell (.inl (by simp)) _⟩

def GoPost (x : Nat) (s : PS) (w : World) (e : Ending) (w' : World) : Prop :=
  e = .returned (.int .i64 0) ∧ ∃ y, w.heap.size ≤ y ∧ IsRf w' x y { ph := 1, cyc := s.cyc + 1, said := none_said s.said, cnt := 0, rs := 0 } ∧ Chg [x] w w'

set_option maxHeartbeats 800000 in
theorem rgo_mark (x y : Nat) (s : PS) (w : World) (h : IsRf w x y s) (ho : s.ok) (hn : s.ph = 0) (hy : s.cyc < 9223372036854775807) :
    Calls Try.prog 15 #[.pointer (some ⟨x, 0, none⟩), .int .i64 1] w (GoPost x s w) := by
  obtain ⟨ph, cyc, said, cnt, rs⟩ := s
  simp only at hn
  subst hn
  have l1 := ho.l1
  have l2 := ho.l2
  have y0 := ho.y0
  simp only at l1 l2 y0 hy
  have hmk := fun W => run_make_z (P := Try.prog) 29 4 (.bool false) 1 Try.underlying29 (by kernel_rfl) rfl .i64 .i64 said.length (by omega) (by omega) W
  have c0 := h.x.cellv 0 rfl
  have c1 := h.x.cellv 1 rfl
  have f1 := h.x.frozen 1
  have c2 := h.x.cellv 2 rfl
  have f2 := h.x.frozen 2
  have c3 := h.x.cellv 3 rfl
  have f3 := h.x.frozen 3
  have c4 := h.x.cellv 4 rfl
  have f4 := h.x.frozen 4
  have hlt := h.x.lt
  have a4 := and43
  have H := Lib.hid h; clear h ho
  go_enter Try.func15, Try.ntmps15
  go_wp2_with fail
  go_ret
  refine ⟨rfl, w.heap.size, Nat.le_refl _, ⟨?_, ?_⟩, ?_⟩
  · have hx := ((((H.out.x.set_ 1 (.int .i64 1)).set_ 2 (.int .i64 (cyc + 1))).set_ 4 (.slice (some ⟨w.heap.size, 0, none⟩) said.length said.length)).setv 3 (.int .i64 0) rfl).alloc (.cells (zcells (.bool false) said.length) 4)
    simpa [none_said] using hx
  · have h0 := Blk.new ((((w.setCell ⟨x, 1, none⟩ (.int .i64 1)).setCell ⟨x, 2, none⟩ (.int .i64 (cyc + 1))).setCell ⟨x, 4, none⟩ (.slice (some ⟨w.heap.size, 0, none⟩) said.length said.length)).setCell ⟨x, 3, none⟩ (.int .i64 0)) 4 (zcells (.bool false) said.length)
    rw [size_setCell, size_setCell, size_setCell, size_setCell] at h0
    simpa only [none_said, zcells_list, List.map_replicate] using h0
  · exact (((((Chg.refl _ _).setCell (.inl (by simp)) _).setCell (.inl (by simp)) _).setCell (.inl (by simp)) _).setCell (.inl (by simp)) _).alloc _

def anyB (l : List Bool) : Bool := l.any id
/-- At the head of the loop of Say. -/
def RsRel (n : Nat) (l : List Bool) (w0 : World) (x y gk : Nat) (ph cyc rs : Int) (v9 v10 : Value) (w : World) : Prop :=
  ∃ k : Nat, gk + k = n ∧ k ≤ n ∧ v10 = .int .i64 k ∧ v9 = .bool (anyB (l.take k)) ∧ IsRf w x y ⟨ph, cyc, List.replicate k false ++ l.drop k, 0, rs⟩ ∧ Chg [x, y] w0 w

theorem rsl_len (l : List Bool) (k : Nat) (h : k ≤ l.length) : (List.replicate k false ++ l.drop k).length = l.length := by simp; omega
theorem rsl_get (l : List Bool) (k : Nat) (h : k < l.length) : (List.replicate k false ++ l.drop k).getD k false = l[k] := by
  simp [List.getD, List.getElem?_append_right, h]
theorem rsl_set (l : List Bool) (k : Nat) (h : k < l.length) : (List.replicate k false ++ l.drop k).set k false = List.replicate (k + 1) false ++ l.drop (k + 1) := by
  rw [List.set_append_right _ _ (by simp), List.drop_eq_getElem_cons h, List.replicate_succ', List.length_replicate, Nat.sub_self, List.set_cons_zero, List.append_assoc]
  rfl
theorem any_snoc (l : List Bool) (k : Nat) (h : k < l.length) : anyB (l.take (k + 1)) = (anyB (l.take k) || l[k]) := by
  rw [List.take_succ_eq_append_getElem h]; simp only [anyB, List.any_append, List.any_cons, List.any_nil, Bool.or_false, id]

set_option maxHeartbeats 1600000 in
theorem rsay_out (x y : Nat) (s : PS) (p : Int) (em fl : Bool) (w : World) (h : IsRf w x y s) (hp : p < 0 ∨ (s.said.length : Int) ≤ p) :
    Calls Try.prog 17 #[.pointer (some ⟨x, 0, none⟩), .int .i64 p, .bool em, .bool fl] w fun e w' => e = .returned (.int .i64 1) ∧ w = w' := by
  have c0 := h.x.cellv 0 rfl
  clear h
  by_cases hp0 : p < 0
  · go_enter Try.func17, Try.ntmps17
    go_wp2_with fail
    go_ret
    exact ⟨rfl, rfl⟩
  · have hp1 : (s.said.length : Int) ≤ p := by omega
    clear hp
    go_enter Try.func17, Try.ntmps17
    go_wp2_with fail
    go_ret
    exact ⟨rfl, rfl⟩

set_option maxHeartbeats 1600000 in
theorem rsay_state (x y : Nat) (s : PS) (p : Int) (em fl : Bool) (w : World) (h : IsRf w x y s) (hp0 : 0 ≤ p) (hp : p < (s.said.length : Int)) (hph : (s.ph != 1) = true) :
    Calls Try.prog 17 #[.pointer (some ⟨x, 0, none⟩), .int .i64 p, .bool em, .bool fl] w fun e w' => e = .returned (.int .i64 5) ∧ w = w' := by
  have c0 := h.x.cellv 0 rfl
  have c1 := h.x.cellv 1 rfl
  clear h
  have hp1 : ¬ p < 0 := by omega
  go_enter Try.func17, Try.ntmps17
  go_wp2_with fail
  go_ret
  exact ⟨rfl, rfl⟩

set_option maxHeartbeats 1600000 in
theorem rsay_yes (x y : Nat) (s : PS) (p : Nat) (w : World) (h : IsRf w x y s) (hl : s.said.length ≤ 64) (hp : p < s.said.length) (hph : s.ph = 1) :
    Calls Try.prog 17 #[.pointer (some ⟨x, 0, none⟩), .int .i64 p, .bool true, .bool false] w fun e w' => e = .returned (.int .i64 0) ∧ IsRf w' x y { s with said := s.said.set p true } ∧ Chg [x, y] w w' := by
  obtain ⟨ph, cyc, said, cnt, rs⟩ := s
  simp only at hph hp hl
  subst hph
  have c0 := h.x.cellv 0 rfl
  have c1 := h.x.cellv 1 rfl
  have c4 := h.x.cellv 4 rfl
  have cb : w.cell? ⟨y, p, none⟩ = some (.bool (said.getD p false)) := by
    rw [h.y.cell]; simp [List.getD, hp]
  have fb := h.y.frozen p
  have H := Lib.hid h; clear h
  go_enter Try.func17, Try.ntmps17
  go_wp2_with fail
  go_ret
  exact ⟨rfl, ⟨by simpa using H.out.x.far (p := ⟨y, p, none⟩) H.out.ne _, H.out.y.setv p _ (by simp)⟩, (Chg.refl _ _).setCell (.inl (by simp)) _⟩

set_option maxHeartbeats 1600000 in
theorem rsay_no (x y : Nat) (s : PS) (p : Nat) (em fl : Bool) (hef : em = false ∨ (em = true ∧ fl = true)) (w : World) (h : IsRf w x y s) (hl : s.said.length ≤ 64) (hp : p < s.said.length) (hph : s.ph = 1) (h0 : 0 ≤ s.rs) (hr : s.rs < 9223372036854775807) :
    Calls Try.prog 17 #[.pointer (some ⟨x, 0, none⟩), .int .i64 p, .bool em, .bool fl] w fun e w' => e = .returned (.int .i64 0) ∧
      IsRf w' x y { s with said := none_said s.said, rs := if anyB s.said then s.rs + 1 else s.rs } ∧ Chg [x, y] w w' := by
  obtain ⟨ph, cyc, said, cnt, rs⟩ := s
  simp only at hph hp hl h0 hr
  subst hph
  have c0 := h.x.cellv 0 rfl
  have c1 := h.x.cellv 1 rfl
  have H := Lib.hid h; clear h
  rcases hef with rfl | ⟨rfl, rfl⟩
  all_goals
    go_enter Try.func17, Try.ntmps17
    go_wp2_with fail
    clear c0 c1
    go_loopg [9, 10] said.length (fun gk v9 v10 wr => RsRel said.length said w x y gk 1 cyc rs v9 v10 wr)
    case atStart => exact ⟨0, by omega, by omega, rfl, rfl, ⟨H.out.x, H.out.y⟩, Chg.refl _ _⟩
    case round =>
      obtain ⟨k, hgk, hk, rfl, rfl, hi, hc⟩ := hrel
      have c0 := hi.x.cellv 0 rfl
      have c4 := hi.x.cellv 4 rfl
      simp only [rsl_len said k hk] at c0 c4
      have K := Lib.hid (And.intro hi hc); clear hi hc
      by_cases hlt : k < said.length
      · have hlt' : (k : Int) < said.length := by omega
        have cb : wr.cell? ⟨y, k, none⟩ = some (.bool said[k]) := by
          rw [K.out.1.y.cell, ← rsl_get said k hlt]; exact bools_get _ k (by rw [rsl_len said k hk]; exact hlt)
        have fb := K.out.1.y.frozen k
        have e := any_snoc said k hlt
        have E := Lib.hid e; clear e
        generalize said[k] = sk at cb E
        generalize anyB (said.take k) = ak at E
        cases ak
        all_goals
          go_wp2_with fail
          go_roundg (said.length - (k + 1))
          case measure => omega
          case rel =>
            refine ⟨k + 1, by omega, by omega, by go_num, by rw [E.out]; simp, ⟨?_, ?_⟩, K.out.2.setCell (.inl (by simp)) _⟩
            · have := K.out.1.x.far (p := ⟨y, k, none⟩) K.out.1.ne (.bool false)
              simpa only [rsl_len said k hk, rsl_len said (k + 1) hlt] using this
            · exact K.out.1.y.setv k _ (by rw [← rsl_set said k hlt]; simp)
      · have hlt' : ¬ (k : Int) < said.length := by omega
        obtain rfl : k = said.length := by omega
        have c3 := K.out.1.x.cellv 3 rfl
        have f3 := K.out.1.x.frozen 3
        have K2 := K.out.1
        simp only [List.drop_length, List.append_nil, List.take_length] at K2 ⊢
        cases ha : anyB said with
        | false =>
          go_wp2_with fail
          go_ret
          exact ⟨rfl, ⟨by simpa [none_said] using K2.x, K2.y⟩, K.out.2⟩
        | true =>
          go_wp2_with fail
          go_ret
          exact ⟨rfl, ⟨by simpa [none_said] using K2.x.setv 3 (.int .i64 (rs + 1)) rfl, K2.y.far (p := ⟨x, 3, none⟩) K2.ne.symm _⟩, K.out.2.setCell (.inl (by simp)) _⟩
end Go.Proofs.Ytoepnbiogfcgfaa
