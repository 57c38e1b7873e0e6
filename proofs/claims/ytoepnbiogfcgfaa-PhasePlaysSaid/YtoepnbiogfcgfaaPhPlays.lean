/- PhasePlays: the walk. -/
import Derived.Test.YtoepnbiogfcgfaaPhRef
import Derived.Test.YtoepnbiogfcgfaaPhOpD
namespace Go.Proofs.Ytoepnbiogfcgfaa
open Go.RowKit

def trues (l : List Bool) : Nat := (l.filter id).length
theorem trues_le (l : List Bool) : trues l ≤ l.length := List.length_filter_le _ _
theorem all_trues (l : List Bool) : allB l = (((trues l : Nat) : Int) == (l.length : Int)) := by
  induction l with
  | nil => rfl
  | cons b l ih =>
    have h := trues_le l
    cases b
    · have h1 : allB (false :: l) = false := rfl
      have h2 : trues (false :: l) = trues l := rfl
      rw [h1, h2]; symm; simp; omega
    · have h1 : allB (true :: l) = allB l := rfl
      have h2 : trues (true :: l) = trues l + 1 := rfl
      rw [h1, h2, ih, Bool.eq_iff_iff]; simp
theorem any_trues (l : List Bool) : anyB l = decide (0 < ((trues l : Nat) : Int)) := by
  induction l with
  | nil => rfl
  | cons b l ih =>
    cases b
    · exact ih
    · have h2 : trues (true :: l) = trues l + 1 := rfl
      rw [h2]; symm; simp [anyB]
theorem trues_set (l : List Bool) (p : Nat) (h : p < l.length) (hs : l.getD p false = false) : trues (l.set p true) = trues l + 1 := by
  induction l generalizing p with
  | nil => simp at h
  | cons b l ih =>
    cases p with
    | zero => simp at hs; subst hs; rfl
    | succ p =>
      have h3 := ih p (by simpa using h) (by simpa using hs)
      cases b
      · exact h3
      · show trues (l.set p true) + 1 = trues l + 1 + 1; omega
theorem trues_none (l : List Bool) : trues (none_said l) = 0 := by simp [trues, none_said]
theorem set_same (l : List Bool) (p : Nat) (hs : l.getD p false = true) : l.set p true = l := by
  apply List.ext_getElem?
  intro i
  rw [List.getElem?_set]
  by_cases e : p = i
  · subst e
    by_cases hl : p < l.length
    · simp [List.getD, hl] at hs; simp [hl, hs]
    · simp [hl]
  · simp [e]

/-- Where both stand: the program's in g, b, the document's in x, y. -/
structure Bo (w0 w : World) (g b x y n i : Nat) (s : PS) : Prop where
  p : PhAt w0 w g b s
  r : IsRf w x y s
  lx : w0.heap.size ≤ x
  ly : w0.heap.size ≤ y
  gx : g ≠ x
  gy : g ≠ y
  bx : b ≠ x
  by_ : b ≠ y
  cnt : s.cnt = (trues s.said : Nat)
  len : s.said.length = n
  p0 : 0 ≤ s.ph
  p3 : s.ph ≤ 3
  y0 : 0 ≤ s.cyc
  y1 : s.cyc ≤ i
  r0 : 0 ≤ s.rs
  r1 : s.rs ≤ i
theorem Bo.ok {w0 w : World} {g b x y n i : Nat} {s : PS} (h : Bo w0 w g b x y n i s) (h1 : 1 ≤ n) (h2 : n ≤ 64) : s.ok :=
  ⟨h.p0, h.p3, by rw [h.len]; exact h1, by rw [h.len]; exact h2, by rw [h.cnt]; omega, by rw [h.cnt]; have := trues_le s.said; have := h.len; omega, h.y0, h.r0⟩

theorem Bo.quiet {w0 w : World} {g b x y n i : Nat} {s : PS} (h : Bo w0 w g b x y n i s) : s.quiet = (allB s.said && s.ph == 1) := by
  rw [PS.quiet, all_trues, h.cnt, Bool.and_comm]
theorem Bo.up {w0 w : World} {g b x y n i : Nat} {s : PS} (h : Bo w0 w g b x y n i s) : Bo w0 w g b x y n (i + 1) s :=
  { h with y1 := by have := h.y1; omega, r1 := by have := h.r1; omega }
theorem Bo.drewN {w0 w : World} {g b x y n i : Nat} {s : PS} (h : Bo w0 w g b x y n i s) (m : Nat) : Bo w0 (w.drewN m) g b x y n i s :=
  { h with p := h.p.drewN m, r := h.r.drewN m }
theorem Bo.other {w0 w w' : World} {g b x y n i : Nat} {s : PS} (h : Bo w0 w g b x y n i s) (hc : Chg [] w w') : Bo w0 w' g b x y n i s :=
  { h with p := h.p.other hc, r := h.r.chg hc (by simp) (by simp) }
/-- Behind a call that turned the program's. -/
theorem Bo.pr {w0 w w' : World} {g b x y n i : Nat} {s : PS} (h : Bo w0 w g b x y n i s) (hc : Chg [g, b] w w') : IsRf w' x y s :=
  h.r.chg hc (by simp [h.gx.symm, h.bx.symm]) (by simp [h.gy.symm, h.by_.symm])
/-- Behind a call that turned the document's. -/
theorem PhAt.ref {w0 w w' : World} {g b x y : Nat} {s : PS} (h : PhAt w0 w g b s) (hc : Chg [x, y] w w') (gx : g ≠ x) (gy : g ≠ y) (bx : b ≠ x) (by_ : b ≠ y) (lx : w0.heap.size ≤ x) (ly : w0.heap.size ≤ y) : PhAt w0 w' g b s :=
  ⟨h.i.chg hc (by simp [gx, gy]) (by simp [bx, by_]), (h.c.mono (T := [x, y]) (by simp)).trans hc |>.mono (by
    intro k hk
    simp at hk
    rcases hk with rfl | rfl
    · exact .inr lx
    · exact .inr ly), h.g, h.b⟩

/-- What a pair of calls owes. -/
def Pair (f f' : FuncId) (args args' : Array Value) (w0 w : World) (g b x n i : Nat) : Prop :=
  ∃ a : Int, Calls Try.prog f args w fun e w1 => e = .returned (.int .i64 a) ∧ Chg [g, b] w w1 ∧ Calls Try.prog f' args' w1 fun e w2 => e = .returned (.int .i64 a) ∧ ∃ y s, Bo w0 w2 g b x y n (i + 1) s

section
variable {w0 w : World} {g b x y n i : Nat} {s : PS}
theorem pair_begin (B : Bo w0 w g b x y n i s) (h1 : 1 ≤ n) (h2 : n ≤ 64) (hi : i < 100) :
    Pair 7 15 #[.pointer (some ⟨g, 0, none⟩)] #[.pointer (some ⟨x, 0, none⟩), .int .i64 1] w0 w g b x n i := by
  by_cases hp : s.ph = 0
  · have hy : s.cyc < 9223372036854775807 := by have := B.y1; omega
    refine ⟨0, (begin_ok g b s w B.p.i (B.ok h1 h2) hp hy).mono fun e w1 ⟨he, hi1, hc1⟩ => ⟨he, hc1, ?_⟩⟩
    refine (rgo_mark x y s w1 (B.pr hc1) (B.ok h1 h2) hp hy).mono fun e w2 ⟨he, y', hy', hr, hc2⟩ => ⟨he, y', { ph := 1, cyc := s.cyc + 1, said := none_said s.said, cnt := 0, rs := 0 }, ?_⟩
    have P1 := B.p.step hi1 hc1
    have hlt := P1.c.size
    have hg := hi1.g.lt
    have hb := hi1.b.lt
    have P2 : PhAt w0 w2 g b _ := P1.ref (x := x) (y := y') (hc2.mono (by simp)) B.gx (by omega) B.bx (by omega) B.lx (by omega)
    exact { p := P2, r := hr, lx := B.lx, ly := by omega, gx := B.gx, gy := by omega, bx := B.bx, by_ := by omega, cnt := by simp [trues_none], len := by simp [none_said, B.len], p0 := by simp, p3 := by simp, y0 := by have := B.y0; simp only; omega, y1 := by have := B.y1; simp only; omega, r0 := by simp, r1 := by simp; omega }
  · have hp' : (s.ph != 0) = true := by simpa using hp
    refine ⟨5, (begin_no g b s w B.p.i hp').mono fun e w1 ⟨he, hw⟩ => ⟨he, hw ▸ Chg.refl _ _, ?_⟩⟩
    subst hw
    exact (rgo_no x y s 1 (by omega) w B.r (by simpa [gofrom] using hp)).mono fun e w2 ⟨he, hw⟩ => ⟨he, y, s, hw ▸ B.up⟩
theorem pair_term (B : Bo w0 w g b x y n i s) (h1 : 1 ≤ n) (h2 : n ≤ 64) :
    Pair 12 15 #[.pointer (some ⟨g, 0, none⟩)] #[.pointer (some ⟨x, 0, none⟩), .int .i64 2] w0 w g b x n i := by
  have hl : s.said.length ≤ 64 := by rw [B.len]; exact h2
  cases hq : s.quiet with
  | true =>
    have hq2 := hq
    rw [B.quiet] at hq2
    simp only [Bool.and_eq_true, beq_iff_eq] at hq2
    refine ⟨0, (term_ok g b s w B.p.i (B.ok h1 h2) hq).mono fun e w1 ⟨he, hi1, hc1⟩ => ⟨he, hc1, ?_⟩⟩
    refine (rgo_term x y s w1 (B.pr hc1) hl hq2.2 hq2.1).mono fun e w2 ⟨he, hr, hc2⟩ => ⟨he, y, { s with ph := 2 }, ?_⟩
    have P2 := (B.p.step hi1 hc1).ref (x := x) (y := y) (hc2.mono (by simp)) B.gx B.gy B.bx B.by_ B.lx B.ly
    exact { p := P2, r := hr, lx := B.lx, ly := B.ly, gx := B.gx, gy := B.gy, bx := B.bx, by_ := B.by_, cnt := B.cnt, len := B.len, p0 := by simp, p3 := by simp, y0 := B.y0, y1 := by have := B.y1; simp only; omega, r0 := B.r0, r1 := by have := B.r1; simp only; omega }
  | false =>
    have hq2 := hq
    rw [B.quiet] at hq2
    refine ⟨5, (term_no g b s w B.p.i hq).mono fun e w1 ⟨he, m, hw⟩ => ⟨he, hw ▸ (Chg.refl _ _).drewN m, ?_⟩⟩
    subst hw
    by_cases hp : s.ph = 1
    · rw [hp] at hq2
      simp only [beq_self_eq_true, Bool.and_true] at hq2
      exact (rgo_nq x y s _ (B.r.drewN m) hl hp hq2).mono fun e w2 ⟨he, hw⟩ => ⟨he, y, s, hw ▸ (B.drewN m).up⟩
    · exact (rgo_no x y s 2 (by omega) _ (B.r.drewN m) (by simpa [gofrom] using hp)).mono fun e w2 ⟨he, hw⟩ => ⟨he, y, s, hw ▸ (B.drewN m).up⟩
theorem pair_sweep (B : Bo w0 w g b x y n i s) (h1 : 1 ≤ n) (h2 : n ≤ 64) :
    Pair 16 15 #[.pointer (some ⟨g, 0, none⟩)] #[.pointer (some ⟨x, 0, none⟩), .int .i64 3] w0 w g b x n i := by
  by_cases hp : s.ph = 2
  · refine ⟨0, (sweep_ok g b s w B.p.i (B.ok h1 h2) hp).mono fun e w1 ⟨he, hi1, hc1⟩ => ⟨he, hc1, ?_⟩⟩
    refine (rgo_on x y s 3 (by omega) w1 (B.pr hc1) (by simpa [gofrom] using hp)).mono fun e w2 ⟨he, hr, hc2⟩ => ⟨he, y, { s with ph := 3 }, ?_⟩
    have P2 := (B.p.step hi1 hc1).ref (x := x) (y := y) (hc2.mono (by simp)) B.gx B.gy B.bx B.by_ B.lx B.ly
    exact { p := P2, r := hr, lx := B.lx, ly := B.ly, gx := B.gx, gy := B.gy, bx := B.bx, by_ := B.by_, cnt := B.cnt, len := B.len, p0 := by simp, p3 := by simp, y0 := B.y0, y1 := by have := B.y1; simp only; omega, r0 := B.r0, r1 := by have := B.r1; simp only; omega }
  · refine ⟨5, (sweep_no g b s w B.p.i (by simpa using hp)).mono fun e w1 ⟨he, hw⟩ => ⟨he, hw ▸ Chg.refl _ _, ?_⟩⟩
    subst hw
    exact (rgo_no x y s 3 (by omega) w B.r (by simpa [gofrom] using hp)).mono fun e w2 ⟨he, hw⟩ => ⟨he, y, s, hw ▸ B.up⟩
theorem pair_end (B : Bo w0 w g b x y n i s) (h1 : 1 ≤ n) (h2 : n ≤ 64) :
    Pair 14 15 #[.pointer (some ⟨g, 0, none⟩)] #[.pointer (some ⟨x, 0, none⟩), .int .i64 0] w0 w g b x n i := by
  by_cases hp : s.ph = 3
  · refine ⟨0, (end_ok g b s w B.p.i (B.ok h1 h2) hp).mono fun e w1 ⟨he, hi1, hc1⟩ => ⟨he, hc1, ?_⟩⟩
    refine (rgo_on x y s 0 (by omega) w1 (B.pr hc1) (by simpa [gofrom] using hp)).mono fun e w2 ⟨he, hr, hc2⟩ => ⟨he, y, { s with ph := 0 }, ?_⟩
    have P2 := (B.p.step hi1 hc1).ref (x := x) (y := y) (hc2.mono (by simp)) B.gx B.gy B.bx B.by_ B.lx B.ly
    exact { p := P2, r := hr, lx := B.lx, ly := B.ly, gx := B.gx, gy := B.gy, bx := B.bx, by_ := B.by_, cnt := B.cnt, len := B.len, p0 := by simp, p3 := by simp, y0 := B.y0, y1 := by have := B.y1; simp only; omega, r0 := B.r0, r1 := by have := B.r1; simp only; omega }
  · refine ⟨5, (end_no g b s w B.p.i (by simpa using hp)).mono fun e w1 ⟨he, hw⟩ => ⟨he, hw ▸ Chg.refl _ _, ?_⟩⟩
    subst hw
    exact (rgo_no x y s 0 (by omega) w B.r (by simpa [gofrom] using hp)).mono fun e w2 ⟨he, hw⟩ => ⟨he, y, s, hw ▸ B.up⟩
theorem pair_say (B : Bo w0 w g b x y n i s) (h1 : 1 ≤ n) (h2 : n ≤ 64) (hi : i < 100) (p : Int) (em fl : Bool) :
    Pair 9 17 #[.pointer (some ⟨g, 0, none⟩), .int .i64 p, .bool em, .bool fl] #[.pointer (some ⟨x, 0, none⟩), .int .i64 p, .bool em, .bool fl] w0 w g b x n i := by
  have hl : s.said.length ≤ 64 := by rw [B.len]; exact h2
  by_cases hp : p < 0 ∨ (s.said.length : Int) ≤ p
  · refine ⟨1, (say_out g b s p em fl w B.p.i hp).mono fun e w1 ⟨he, hw⟩ => ⟨he, hw ▸ Chg.refl _ _, ?_⟩⟩
    subst hw
    exact (rsay_out x y s p em fl w B.r hp).mono fun e w2 ⟨he, hw⟩ => ⟨he, y, s, hw ▸ B.up⟩
  have hp0 : 0 ≤ p := by omega
  have hp1 : p < (s.said.length : Int) := by omega
  by_cases hph : s.ph = 1
  · obtain ⟨k, rfl⟩ := Int.eq_ofNat_of_zero_le hp0
    have hk : k < s.said.length := by omega
    have hr : s.rs < 9223372036854775807 := by have := B.r1; omega
    refine ⟨0, (say_ok g b s k em fl w B.p.i (B.ok h1 h2) hk hph hr).mono fun e w1 ⟨he, hi1, hc1⟩ => ⟨he, hc1, ?_⟩⟩
    have P1 := B.p.step hi1 hc1
    have R1 := B.pr hc1
    have bc := B.cnt
    have br0 := B.r0
    have br1 := B.r1
    by_cases hef : (em && !fl) = true
    · obtain ⟨rfl, rfl⟩ : em = true ∧ fl = false := by simpa using hef
      refine (rsay_yes x y s k w1 R1 hl hk hph).mono fun e w2 ⟨he, hr, hc2⟩ => ⟨he, y, s.say k true false, ?_⟩
      have P2 := P1.ref hc2 B.gx B.gy B.bx B.by_ B.lx B.ly
      cases hs : s.said.getD k false with
      | true =>
        have es : s.say k true false = s := by rw [PS.say, if_pos (by decide), if_pos hs]
        rw [es] at P2 ⊢
        rw [set_same _ _ hs] at hr
        exact { B.up with p := P2, r := hr }
      | false =>
        have es : s.say k true false = { s with said := s.said.set k true, cnt := s.cnt + 1 } := by rw [PS.say, if_pos (by decide), if_neg (by rw [hs]; decide)]
        rw [es] at P2 ⊢
        exact { p := P2, r := ⟨hr.x, hr.y⟩, lx := B.lx, ly := B.ly, gx := B.gx, gy := B.gy, bx := B.bx, by_ := B.by_, cnt := by simp only [trues_set _ _ hk hs]; omega, len := by simpa using B.len, p0 := B.p0, p3 := B.p3, y0 := B.y0, y1 := by have := B.y1; simp only; omega, r0 := B.r0, r1 := by have := B.r1; simp only; omega }
    · have hef2 : em = false ∨ (em = true ∧ fl = true) := by cases em <;> cases fl <;> simp_all
      refine (rsay_no x y s k em fl hef2 w1 R1 hl hk hph B.r0 hr).mono fun e w2 ⟨he, hr, hc2⟩ => ⟨he, y, s.say k em fl, ?_⟩
      have P2 := P1.ref hc2 B.gx B.gy B.bx B.by_ B.lx B.ly
      have es : s.say k em fl = { s with said := none_said s.said, cnt := 0, rs := if 0 < s.cnt then s.rs + 1 else s.rs } := by rw [PS.say, if_neg hef]
      have er : (if anyB s.said = true then s.rs + 1 else s.rs) = (if 0 < s.cnt then s.rs + 1 else s.rs) := by rw [any_trues, ← bc]; simp
      rw [es] at P2 ⊢
      rw [er] at hr
      exact { p := P2, r := ⟨hr.x, hr.y⟩, lx := B.lx, ly := B.ly, gx := B.gx, gy := B.gy, bx := B.bx, by_ := B.by_, cnt := by simp [trues_none], len := by simpa [none_said] using B.len, p0 := B.p0, p3 := B.p3, y0 := B.y0, y1 := by have := B.y1; simp only; omega, r0 := by simp only; split <;> omega, r1 := by simp only; split <;> omega }
  · have hph' : (s.ph != 1) = true := by simpa using hph
    refine ⟨5, (say_state g b s p em fl w B.p.i hp0 hp1 hph').mono fun e w1 ⟨he, hw⟩ => ⟨he, hw ▸ Chg.refl _ _, ?_⟩⟩
    subst hw
    exact (rsay_state x y s p em fl w B.r hp0 hp1 hph').mono fun e w2 ⟨he, hw⟩ => ⟨he, y, s, hw ▸ B.up⟩
end
end Go.Proofs.Ytoepnbiogfcgfaa
