/- The walks of package phase. -/
import Derived.Test.YtoepnbiogfcgfaaMem
namespace Go.Proofs.Ytoepnbiogfcgfaa
open Go.RowKit

structure PS where
  ph : Int
  cyc : Int
  said : List Bool
  cnt : Int
  rs : Int

/-- A Phases lies in block g, its list in block b. -/
structure IsPh (w : World) (g b : Nat) (s : PS) : Prop where
  g : Blk w g 40 #[.int .i64 s.ph, .int .i64 s.cyc, .slice (some ⟨b, 0, none⟩) s.said.length s.said.length, .int .i64 s.cnt, .int .i64 s.rs]
  b : Blk w b 4 (s.said.map Value.bool).toArray

theorem IsPh.ne {w : World} {g b : Nat} {s : PS} (h : IsPh w g b s) : g ≠ b := h.g.ne_ h.b (by decide)
theorem IsPh.chg {S : List Nat} {a w : World} {g b : Nat} {s : PS} (h : IsPh a g b s) (hc : Chg S a w) (hg : g ∉ S) (hb : b ∉ S) : IsPh w g b s :=
  ⟨hc.blk h.g hg, hc.blk h.b hb⟩

/-- Where the program's Phases stand. -/
structure PS.ok (s : PS) : Prop where
  p0 : 0 ≤ s.ph
  p3 : s.ph ≤ 3
  l1 : 1 ≤ s.said.length
  l2 : s.said.length ≤ 64
  c0 : 0 ≤ s.cnt
  c1 : s.cnt ≤ 1000000
  y0 : 0 ≤ s.cyc
  r0 : 0 ≤ s.rs

def nxt (ph : Int) : Int := if ph = 3 then 0 else ph + 1

set_option maxHeartbeats 400000 in
theorem next_ok (g b : Nat) (s : PS) (w : World) (h : IsPh w g b s) (ho : s.ok) :
    Calls Try.prog 20 #[.pointer (some ⟨g, 0, none⟩), .int .i64 s.ph] w fun e w' => e = .returned (.int .i64 0) ∧ IsPh w' g b { s with ph := nxt s.ph } ∧ Chg [g] w w' := by
  obtain ⟨ph, cyc, said, cnt, rs⟩ := s
  obtain ⟨p0, p3, l1, l2, c0, c1, y0, r0⟩ := ho
  have hne := h.ne
  obtain ⟨hg, hb⟩ := h
  simp only at *
  have cc0 := hg.cellv 0 rfl
  have ff0 := hg.frozen 0
  by_cases h3 : ph = 3
  · subst h3
    have H := Lib.hid (And.intro hg (And.intro hb hne)); clear hg hb hne
    go_enter Try.func20, Try.ntmps20
    go_wp2
    go_ret
    obtain ⟨hg, hb, hne⟩ := H.out
    exact ⟨rfl, ⟨(hg.set_ 0 _).setv 0 _ rfl, (hb.far (p := ⟨g, 0, none⟩) hne.symm _).far (p := ⟨g, 0, none⟩) hne.symm _⟩, ((Chg.refl _ _).setCell (.inl (by simp)) _).setCell (.inl (by simp)) _⟩
  · have h3' : (ph == 3) = false := by simpa using h3
    have H := Lib.hid (And.intro hg (And.intro hb (And.intro hne h3))); clear hg hb hne h3
    go_enter Try.func20, Try.ntmps20
    go_wp2
    go_ret
    obtain ⟨hg, hb, hne, h3⟩ := H.out
    exact ⟨rfl, ⟨hg.setv 0 _ (by simp [nxt, h3]), hb.far (p := ⟨g, 0, none⟩) hne.symm _⟩, (Chg.refl _ _).setCell (.inl (by simp)) _⟩

set_option maxHeartbeats 400000 in
theorem next_no (g b : Nat) (s : PS) (frm : Int) (w : World) (h : IsPh w g b s) (hn : (s.ph != frm) = true) :
    Calls Try.prog 20 #[.pointer (some ⟨g, 0, none⟩), .int .i64 frm] w fun e w' => e = .returned (.int .i64 5) ∧ w = w' := by
  have cc0 := h.g.cellv 0 rfl
  clear h
  go_enter Try.func20, Try.ntmps20
  go_wp2
  go_ret
  exact ⟨rfl, rfl⟩

set_option maxHeartbeats 400000 in
theorem next_nil (frm : Int) (w : World) :
    Calls Try.prog 20 #[.pointer none, .int .i64 frm] w fun e w' => e = .returned (.int .i64 1) ∧ w = w' := by
  go_enter Try.func20, Try.ntmps20
  go_wp2
  go_ret
  exact ⟨rfl, rfl⟩

def none_said (l : List Bool) : List Bool := List.replicate l.length false

set_option maxHeartbeats 400000 in
theorem forget_ok (g b : Nat) (s : PS) (w : World) (h : IsPh w g b s) (hl : 1 ≤ s.said.length) :
    Calls Try.prog 21 #[.pointer (some ⟨g, 0, none⟩)] w fun e w' => e = .returned (.tuple #[]) ∧ IsPh w' g b { s with said := none_said s.said, cnt := 0 } ∧ Chg [g, b] w w' := by
  obtain ⟨ph, cyc, said, cnt, rs⟩ := s
  have hne := h.ne
  obtain ⟨hg, hb⟩ := h
  simp only at *
  have c2 := hg.cellv 2 rfl
  have hsz : (said.map Value.bool).toArray.size = said.length := by simp
  have hcl := Lib.run_clear_slice (P := Try.prog) w 29 4 0 (.bool false) Try.underlying29 (fun w => by kernel_rfl) rfl rfl b 0 said.length said.length hl
    (fun j hj => by rw [Nat.zero_add, hb.cell, Array.getElem?_eq_getElem (by omega)]; rfl) (fun j hj => hb.frozen _)
  have hg' := hg.setCells_far (b := b) hne (List.replicate said.length (Value.bool false)) 0
  have hb' := hb.setAll (List.replicate said.length (Value.bool false)) (by simp)
  have c3 := hg'.cellv 3 rfl
  have f3 := hg'.frozen 3
  have H := Lib.hid (And.intro hg' (And.intro hb' hne)); clear hg hb hne hg' hb' hsz
  go_enter Try.func21, Try.ntmps21
  go_wp2
  go_end0
  obtain ⟨hg', hb', hne⟩ := H.out
  exact ⟨rfl, ⟨hg'.setv 3 _ (by simp [none_said]), by simpa [none_said] using hb'.far (p := ⟨g, 3, none⟩) hne.symm _⟩, ((Chg.refl _ _).setCells (.inl (by simp)) _ _).setCell (.inl (by simp)) _⟩

def PS.zero (s : PS) : PS := { s with said := none_said s.said, cnt := 0 }
def PS.quiet (s : PS) : Bool := s.ph == 1 && s.cnt == (s.said.length : Int)

theorem PS.zero_ok {s : PS} (h : s.ok) : s.zero.ok := by
  obtain ⟨p0, p3, l1, l2, c0, c1, y0, r0⟩ := h
  exact ⟨p0, p3, by simpa [PS.zero, none_said] using l1, by simpa [PS.zero, none_said] using l2, by simp [PS.zero], by simp [PS.zero], y0, r0⟩

set_option maxHeartbeats 400000 in
theorem begin_ok (g b : Nat) (s : PS) (w : World) (h : IsPh w g b s) (ho : s.ok) (hp : s.ph = 0) (hy : s.cyc < 9223372036854775807) :
    Calls Try.prog 7 #[.pointer (some ⟨g, 0, none⟩)] w fun e w' => e = .returned (.int .i64 0) ∧ IsPh w' g b { ph := 1, cyc := s.cyc + 1, said := none_said s.said, cnt := 0, rs := 0 } ∧ Chg [g, b] w w' := by
  have N := next_ok g b s w h ho
  obtain ⟨ph, cyc, said, cnt, rs⟩ := s
  simp only at *
  subst hp
  have l1 := ho.l1
  have y0 := ho.y0
  simp only at *
  have H := Lib.hid N; have Hl := Lib.hid l1; clear N h ho l1
  go_enter Try.func7, Try.ntmps7
  go_wp2_with fail
  refine H.out.mono ?_
  rintro e w1 ⟨rfl, h1, hc1⟩
  have hne := h1.ne
  have c1 := h1.g.cellv 1 rfl
  have f1 := h1.g.frozen 1
  have c4 := h1.g.cellv 4 rfl
  have f4 := h1.g.frozen 4
  have hb := h1.b.far (p := ⟨g, 1, none⟩) hne.symm (.int .i64 (cyc + 1)) |>.far (p := ⟨g, 4, none⟩) hne.symm (.int .i64 0)
  have hg := (h1.g.set_ 1 (.int .i64 (cyc + 1))).set_ 4 (.int .i64 0)
  have hcc := (hc1.setCell (p := ⟨g, 1, none⟩) (.inl (by simp)) (.int .i64 (cyc + 1))).setCell (p := ⟨g, 4, none⟩) (.inl (by simp)) (.int .i64 0)
  have N := forget_ok g b { ph := 1, cyc := cyc + 1, said := said, cnt := cnt, rs := 0 } _ ⟨hg, hb⟩ Hl.out
  have H2 := Lib.hid (And.intro N hcc); clear N hcc hg hb h1 hc1 H
  go_wp2_with fail
  refine H2.out.1.mono ?_
  rintro e w2 ⟨rfl, h2, hc2⟩
  have H3 := Lib.hid (And.intro h2 ((H2.out.2.mono (T := [g, b]) (by simp)).trans hc2)); clear h2 hc2 H2
  go_wp2_with fail
  go_ret
  exact ⟨rfl, H3.out.1, H3.out.2⟩

set_option maxHeartbeats 400000 in
theorem begin_no (g b : Nat) (s : PS) (w : World) (h : IsPh w g b s) (hp : (s.ph != 0) = true) :
    Calls Try.prog 7 #[.pointer (some ⟨g, 0, none⟩)] w fun e w' => e = .returned (.int .i64 5) ∧ w = w' := by
  have H := Lib.hid (next_no g b s 0 w h hp); clear h hp
  go_enter Try.func7, Try.ntmps7
  go_wp2_with fail
  refine H.out.mono ?_
  rintro e w1 ⟨rfl, rfl⟩
  go_wp2_with fail
  go_ret
  exact ⟨rfl, rfl⟩

set_option maxHeartbeats 400000 in
theorem begin_nil (w : World) :
    Calls Try.prog 7 #[.pointer none] w fun e w' => e = .returned (.int .i64 1) ∧ w = w' := by
  go_enter Try.func7, Try.ntmps7
  go_wp2_with fail
  refine (next_nil _ _).mono ?_
  rintro e w1 ⟨rfl, rfl⟩
  go_wp2_with fail
  go_ret
  exact ⟨rfl, rfl⟩

set_option maxHeartbeats 400000 in
theorem phase_ok (g b : Nat) (s : PS) (w : World) (h : IsPh w g b s) :
    Calls Try.prog 13 #[.pointer (some ⟨g, 0, none⟩)] w fun e w' => e = .returned (.int .i64 s.ph) ∧ w = w' := by
  have c0 := h.g.cellv 0 rfl
  clear h
  go_enter Try.func13, Try.ntmps13
  go_wp2
  go_ret
  exact ⟨rfl, rfl⟩
set_option maxHeartbeats 400000 in
theorem phase_nil (w : World) :
    Calls Try.prog 13 #[.pointer none] w fun e w' => e = .returned (.int .i64 0) ∧ w = w' := by
  go_enter Try.func13, Try.ntmps13
  go_wp2
  go_ret
  exact ⟨rfl, rfl⟩
set_option maxHeartbeats 400000 in
theorem cycle_ok (g b : Nat) (s : PS) (w : World) (h : IsPh w g b s) :
    Calls Try.prog 18 #[.pointer (some ⟨g, 0, none⟩)] w fun e w' => e = .returned (.int .i64 s.cyc) ∧ w = w' := by
  have c0 := h.g.cellv 1 rfl
  clear h
  go_enter Try.func18, Try.ntmps18
  go_wp2
  go_ret
  exact ⟨rfl, rfl⟩
set_option maxHeartbeats 400000 in
theorem cycle_nil (w : World) :
    Calls Try.prog 18 #[.pointer none] w fun e w' => e = .returned (.int .i64 0) ∧ w = w' := by
  go_enter Try.func18, Try.ntmps18
  go_wp2
  go_ret
  exact ⟨rfl, rfl⟩
set_option maxHeartbeats 400000 in
theorem restarts_ok (g b : Nat) (s : PS) (w : World) (h : IsPh w g b s) :
    Calls Try.prog 11 #[.pointer (some ⟨g, 0, none⟩)] w fun e w' => e = .returned (.int .i64 s.rs) ∧ w = w' := by
  have c0 := h.g.cellv 4 rfl
  clear h
  go_enter Try.func11, Try.ntmps11
  go_wp2
  go_ret
  exact ⟨rfl, rfl⟩

set_option maxHeartbeats 400000 in
theorem quiet_ok (g b : Nat) (s : PS) (q : Bool) (w : World) (h : IsPh w g b s) (hq : s.quiet = q) :
    Calls Try.prog 10 #[.pointer (some ⟨g, 0, none⟩)] w fun e w' => e = .returned (.bool q) ∧ ∃ m, w' = w.drewN m := by
  have c0 := h.g.cellv 0 rfl
  have c2 := h.g.cellv 2 rfl
  have c3 := h.g.cellv 3 rfl
  have H := Lib.hid hq; clear hq
  clear h
  by_cases hp : s.ph = 1
  · have hp' : (s.ph == 1) = true := by simpa using hp
    have Hp := Lib.hid hp; clear hp
    go_enter Try.func10, Try.ntmps10
    go_wp2
    go_quiet (fail)
    go_wp2
    go_ret
    exact ⟨by rw [← H.out, PS.quiet, hp', Bool.true_and]; rfl, _, rfl⟩
  · have hp' : (s.ph == 1) = false := by simpa using hp
    have Hp := Lib.hid hp; clear hp
    go_enter Try.func10, Try.ntmps10
    go_wp2
    go_quiet (fail)
    go_wp2
    go_ret
    exact ⟨by rw [← H.out, PS.quiet, hp', Bool.false_and]; rfl, _, rfl⟩
set_option maxHeartbeats 400000 in
theorem quiet_nil (w : World) :
    Calls Try.prog 10 #[.pointer none] w fun e w' => e = .returned (.bool false) ∧ ∃ m, w' = w.drewN m := by
  go_enter Try.func10, Try.ntmps10
  go_wp2
  go_quiet (fail)
  go_wp2
  go_ret
  exact ⟨rfl, _, rfl⟩

theorem IsPh.drewN {w : World} {g b : Nat} {s : PS} (h : IsPh w g b s) (n : Nat) : IsPh (w.drewN n) g b s := ⟨h.g.drewN n, h.b.drewN n⟩

set_option maxHeartbeats 400000 in
theorem term_ok (g b : Nat) (s : PS) (w : World) (h : IsPh w g b s) (ho : s.ok) (hq : s.quiet = true) :
    Calls Try.prog 12 #[.pointer (some ⟨g, 0, none⟩)] w fun e w' => e = .returned (.int .i64 0) ∧ IsPh w' g b { s with ph := 2 } ∧ Chg [g, b] w w' := by
  have hp : s.ph = 1 := by simp [PS.quiet] at hq; exact hq.1
  obtain ⟨ph, cyc, said, cnt, rs⟩ := s
  simp only at hp
  subst hp
  have H := Lib.hid (And.intro h (And.intro ho hq)); clear h ho hq
  go_enter Try.func12, Try.ntmps12
  go_wp2_with fail
  refine (quiet_ok g b _ true _ H.out.1 H.out.2.2).mono ?_
  rintro e w1 ⟨rfl, m, rfl⟩
  go_wp2_with fail
  refine (next_ok g b _ _ (H.out.1.drewN m) H.out.2.1).mono ?_
  rintro e w1 ⟨rfl, h1⟩
  have H1 := Lib.hid h1; clear h1
  go_wp2_with fail
  go_ret
  exact ⟨rfl, H1.out.1, ((Chg.refl _ w).drewN m).trans (H1.out.2.mono (by simp))⟩

set_option maxHeartbeats 400000 in
theorem term_no (g b : Nat) (s : PS) (w : World) (h : IsPh w g b s) (hq : s.quiet = false) :
    Calls Try.prog 12 #[.pointer (some ⟨g, 0, none⟩)] w fun e w' => e = .returned (.int .i64 5) ∧ ∃ m, w' = w.drewN m := by
  have H := Lib.hid (And.intro h hq); clear h hq
  go_enter Try.func12, Try.ntmps12
  go_wp2_with fail
  refine (quiet_ok g b _ false _ H.out.1 H.out.2).mono ?_
  rintro e w1 ⟨rfl, m, rfl⟩
  go_wp2_with fail
  go_ret
  exact ⟨rfl, m, rfl⟩

set_option maxHeartbeats 400000 in
theorem sweep_ok (g b : Nat) (s : PS) (w : World) (h : IsPh w g b s) (ho : s.ok) (hp : s.ph = 2) :
    Calls Try.prog 16 #[.pointer (some ⟨g, 0, none⟩)] w fun e w' => e = .returned (.int .i64 0) ∧ IsPh w' g b { s with ph := 3 } ∧ Chg [g, b] w w' := by
  obtain ⟨ph, cyc, said, cnt, rs⟩ := s
  simp only at hp
  subst hp
  have H := Lib.hid (next_ok g b _ _ h ho); clear h ho
  go_enter Try.func16, Try.ntmps16
  go_wp2_with fail
  refine H.out.mono ?_
  rintro e w1 ⟨rfl, h1⟩
  have H1 := Lib.hid h1; clear h1
  go_wp2_with fail
  go_ret
  exact ⟨rfl, H1.out.1, H1.out.2.mono (by simp)⟩
set_option maxHeartbeats 400000 in
theorem sweep_no (g b : Nat) (s : PS) (w : World) (h : IsPh w g b s) (hp : (s.ph != 2) = true) :
    Calls Try.prog 16 #[.pointer (some ⟨g, 0, none⟩)] w fun e w' => e = .returned (.int .i64 5) ∧ w = w' := by
  have H := Lib.hid (next_no g b s 2 w h hp); clear h hp
  go_enter Try.func16, Try.ntmps16
  go_wp2_with fail
  refine H.out.mono ?_
  rintro e w1 ⟨rfl, rfl⟩
  go_wp2_with fail
  go_ret
  exact ⟨rfl, rfl⟩
set_option maxHeartbeats 400000 in
theorem end_ok (g b : Nat) (s : PS) (w : World) (h : IsPh w g b s) (ho : s.ok) (hp : s.ph = 3) :
    Calls Try.prog 14 #[.pointer (some ⟨g, 0, none⟩)] w fun e w' => e = .returned (.int .i64 0) ∧ IsPh w' g b { s with ph := 0 } ∧ Chg [g, b] w w' := by
  obtain ⟨ph, cyc, said, cnt, rs⟩ := s
  simp only at hp
  subst hp
  have H := Lib.hid (next_ok g b _ _ h ho); clear h ho
  go_enter Try.func14, Try.ntmps14
  go_wp2_with fail
  refine H.out.mono ?_
  rintro e w1 ⟨rfl, h1⟩
  have H1 := Lib.hid h1; clear h1
  go_wp2_with fail
  go_ret
  exact ⟨rfl, H1.out.1, H1.out.2.mono (by simp)⟩
set_option maxHeartbeats 400000 in
theorem end_no (g b : Nat) (s : PS) (w : World) (h : IsPh w g b s) (hp : (s.ph != 3) = true) :
    Calls Try.prog 14 #[.pointer (some ⟨g, 0, none⟩)] w fun e w' => e = .returned (.int .i64 5) ∧ w = w' := by
  have H := Lib.hid (next_no g b s 3 w h hp); clear h hp
  go_enter Try.func14, Try.ntmps14
  go_wp2_with fail
  refine H.out.mono ?_
  rintro e w1 ⟨rfl, rfl⟩
  go_wp2_with fail
  go_ret
  exact ⟨rfl, rfl⟩

def PS.say (s : PS) (p : Nat) (empty flushed : Bool) : PS :=
  if empty && !flushed then
    if s.said.getD p false then s else { s with said := s.said.set p true, cnt := s.cnt + 1 }
  else { s with said := none_said s.said, cnt := 0, rs := if 0 < s.cnt then s.rs + 1 else s.rs }

set_option maxHeartbeats 400000 in
theorem say_out (g b : Nat) (s : PS) (p : Int) (em fl : Bool) (w : World) (h : IsPh w g b s) (hp : p < 0 ∨ (s.said.length : Int) ≤ p) :
    Calls Try.prog 9 #[.pointer (some ⟨g, 0, none⟩), .int .i64 p, .bool em, .bool fl] w fun e w' => e = .returned (.int .i64 1) ∧ w = w' := by
  have c2 := h.g.cellv 2 rfl
  clear h
  rcases hp with hp | hp
  · go_enter Try.func9, Try.ntmps9
    go_wp2
    go_ret
    exact ⟨rfl, rfl⟩
  · have hp0 : ¬ p < 0 := by omega
    go_enter Try.func9, Try.ntmps9
    go_wp2
    go_ret
    exact ⟨rfl, rfl⟩

set_option maxHeartbeats 400000 in
theorem say_state (g b : Nat) (s : PS) (p : Int) (em fl : Bool) (w : World) (h : IsPh w g b s) (hp0 : 0 ≤ p) (hp : p < (s.said.length : Int)) (hph : (s.ph != 1) = true) :
    Calls Try.prog 9 #[.pointer (some ⟨g, 0, none⟩), .int .i64 p, .bool em, .bool fl] w fun e w' => e = .returned (.int .i64 5) ∧ w = w' := by
  have c2 := h.g.cellv 2 rfl
  have c0 := h.g.cellv 0 rfl
  clear h
  have hp1 : ¬ p < 0 := by omega
  go_enter Try.func9, Try.ntmps9
  go_wp2
  go_ret
  exact ⟨rfl, rfl⟩

set_option maxHeartbeats 800000 in
theorem say_ok (g b : Nat) (s : PS) (p : Nat) (em fl : Bool) (w : World) (h : IsPh w g b s) (ho : s.ok) (hp : p < s.said.length) (hph : s.ph = 1) (hr : s.rs < 9223372036854775807) :
    Calls Try.prog 9 #[.pointer (some ⟨g, 0, none⟩), .int .i64 p, .bool em, .bool fl] w fun e w' => e = .returned (.int .i64 0) ∧ IsPh w' g b (s.say p em fl) ∧ Chg [g, b] w w' := by
  obtain ⟨ph, cyc, said, cnt, rs⟩ := s
  simp only at hp hph hr
  subst hph
  have hne := h.ne
  have c2 := h.g.cellv 2 rfl
  have c0 := h.g.cellv 0 rfl
  have c3 := h.g.cellv 3 rfl
  have c4 := h.g.cellv 4 rfl
  have f4 := h.g.frozen 4
  have f3 := h.g.frozen 3
  have hc0 := ho.c0
  have hc1 := ho.c1
  have hr0 := ho.r0
  have hl2 := ho.l2
  simp only at hc0 hc1 hr0 hl2
  by_cases hef : (em && !fl) = true
  · obtain ⟨rfl, rfl⟩ : em = true ∧ fl = false := by simpa using hef
    have cb : w.cell? ⟨b, p, none⟩ = some (.bool (said.getD p false)) := by
      rw [h.b.cell]; simp [List.getD, hp]
    have fb := h.b.frozen p
    cases hs : said.getD p false with
    | true =>
      have H := Lib.hid (And.intro h hs); clear h hef ho
      rw [hs] at cb; clear hs
      go_enter Try.func9, Try.ntmps9
      go_wp2
      go_ret
      refine ⟨rfl, ?_, Chg.refl _ _⟩
      rw [PS.say, if_pos (by decide), if_pos H.out.2]; exact H.out.1
    | false =>
      have H := Lib.hid (And.intro h hs); clear h hef ho
      rw [hs] at cb; clear hs
      have c3' : (w.setCell ⟨b, p, none⟩ (.bool true)).cell? ⟨g, 3, none⟩ = some (.int .i64 cnt) := (H.out.1.g.far (p := ⟨b, p, none⟩) hne _).cellv 3 rfl
      have f3' : (w.setCell ⟨b, p, none⟩ (.bool true)).frozen? ⟨g, 3, none⟩ = false := (H.out.1.g.far (p := ⟨b, p, none⟩) hne _).frozen 3
      go_enter Try.func9, Try.ntmps9
      go_wp2
      go_ret
      refine ⟨rfl, ?_, ((Chg.refl _ _).setCell (.inl (by simp)) _).setCell (.inl (by simp)) _⟩
      obtain ⟨⟨hg, hb⟩, hs⟩ := H.out
      simp only [PS.say, hs, Bool.not_false, Bool.and_self, if_true, Bool.false_eq_true, if_false]
      exact ⟨(hg.far (p := ⟨b, p, none⟩) hne _).setv 3 _ (by simp), (hb.setv p _ (by simp)).far (p := ⟨g, 3, none⟩) hne.symm _⟩
  · have hef' : (!em || fl) = true := by cases em <;> cases fl <;> simp_all
    have hem : em = false ∨ (em = true ∧ fl = true) := by cases em <;> cases fl <;> simp_all
    have N := forget_ok g b { ph := 1, cyc := cyc, said := said, cnt := cnt, rs := rs } w h ho.l1
    have N2 := forget_ok g b { ph := 1, cyc := cyc, said := said, cnt := cnt, rs := rs + 1 } (w.setCell ⟨g, 4, none⟩ (.int .i64 (rs + 1))) ⟨h.g.setv 4 _ (by simp), h.b.far (p := ⟨g, 4, none⟩) hne.symm _⟩ ho.l1
    have H := Lib.hid (And.intro N N2); clear N N2
    have H0 := Lib.hid (And.intro h ho); clear h ho hef hef'
    by_cases hc : 0 < cnt
    · rcases hem with rfl | ⟨rfl, rfl⟩
      all_goals
        go_enter Try.func9, Try.ntmps9
        go_wp2_with fail
        refine H.out.2.mono ?_
        rintro e w1 ⟨rfl, h1, hc1⟩
        have H2 := Lib.hid (And.intro h1 hc1); clear h1 hc1
        go_wp2_with fail
        go_ret
        exact ⟨rfl, by simpa [PS.say, hc] using H2.out.1, ((Chg.refl _ _).setCell (p := ⟨g, 4, none⟩) (.inl (by simp)) _).trans H2.out.2⟩
    · rcases hem with rfl | ⟨rfl, rfl⟩
      all_goals
        go_enter Try.func9, Try.ntmps9
        go_wp2_with fail
        refine H.out.1.mono ?_
        rintro e w1 ⟨rfl, h1, hc1⟩
        have H2 := Lib.hid (And.intro h1 hc1); clear h1 hc1
        go_wp2_with fail
        go_ret
        exact ⟨rfl, by simpa [PS.say, show ¬ 0 < cnt by omega] using H2.out.1, H2.out.2⟩

def NewPost (n : Nat) (w : World) (e : Ending) (w' : World) : Prop :=
  ∃ g b, e = .returned (.tuple #[.pointer (some ⟨g, 0, none⟩), .int .i64 0]) ∧ IsPh w' g b { ph := 0, cyc := 0, said := List.replicate n false, cnt := 0, rs := 0 } ∧ Chg [] w w' ∧ w.heap.size ≤ g ∧ w.heap.size ≤ b

set_option maxHeartbeats 400000 in
theorem new_ok (n : Nat) (w : World) (h1 : 1 ≤ n) (h2 : n ≤ 64) :
    Calls Try.prog 6 #[.int .i64 n] w (NewPost n w) := by
  have n1 : ¬ ((n : Int) < 1) := by omega
  have n2 : ¬ (64 < (n : Int)) := by omega
  have hmk := fun W => run_make_z (P := Try.prog) 29 4 (.bool false) 1 Try.underlying29 (by kernel_rfl) rfl .i64 .i64 n (by omega) (by omega) W
  go_enter Try.func6, Try.ntmps6
  go_wp2
  go_ret2
  refine ⟨w.heap.size + 1, w.heap.size, rfl, ⟨?_, ?_⟩, ((Chg.refl _ w).alloc _).alloc _, ?_, ?_⟩
  · simpa using Blk.new (w.alloc _) _ _
  · simpa [zcells_list] using (Blk.new w _ _).alloc _
  · simp
  · simp

set_option maxHeartbeats 400000 in
theorem new_no (n : Int) (w : World) (h : n < 1 ∨ 64 < n) :
    Calls Try.prog 6 #[.int .i64 n] w fun e w' => e = .returned (.tuple #[.pointer none, .int .i64 1]) ∧ w = w' := by
  rcases h with h | h
  · go_enter Try.func6, Try.ntmps6
    go_wp2
    go_ret2
    exact ⟨rfl, rfl⟩
  · have h1 : ¬ n < 1 := by omega
    go_enter Try.func6, Try.ntmps6
    go_wp2
    go_ret2
    exact ⟨rfl, rfl⟩

/-- A Phases that the call itself has made. -/
structure PhAt (w0 w : World) (g b : Nat) (s : PS) : Prop where
  i : IsPh w g b s
  c : Chg [] w0 w
  g : w0.heap.size ≤ g
  b : w0.heap.size ≤ b
theorem PhAt.step {w0 w w' : World} {g b : Nat} {s s' : PS} (h : PhAt w0 w g b s) (h1 : IsPh w' g b s') (hc : Chg [g, b] w w') : PhAt w0 w' g b s' :=
  ⟨h1, (h.c.mono (T := [g, b]) (by simp)).trans hc |>.mono (by
    intro k hk
    simp at hk
    rcases hk with rfl | rfl
    · exact .inr h.g
    · exact .inr h.b), h.g, h.b⟩
theorem PhAt.drewN {w0 w : World} {g b : Nat} {s : PS} (h : PhAt w0 w g b s) (n : Nat) : PhAt w0 (w.drewN n) g b s := ⟨h.i.drewN n, h.c.drewN n, h.g, h.b⟩
theorem PhAt.other {w0 w w' : World} {g b : Nat} {s : PS} (h : PhAt w0 w g b s) (hc : Chg [] w w') : PhAt w0 w' g b s :=
  ⟨h.i.chg hc (by simp) (by simp), h.c.trans hc, h.g, h.b⟩

set_option maxHeartbeats 1000000 in
theorem told_ok (w : World) :
    Calls Try.prog 8 #[] w fun e w' => e = .returned (.bool true) ∧ Chg [] w w' := by
  go_enter Try.func8, Try.ntmps8
  go_wp2_with fail
  refine (new_ok 2 w (by omega) (by omega)).mono ?_
  rintro e w1 ⟨g, b, rfl, h1, hc1, hg, hb⟩
  have H : PhAt w w1 g b ⟨0, 0, [false, false], 0, 0⟩ := ⟨h1, hc1, hg, hb⟩
  clear h1 hc1 hg hb
  go_wp2_with fail
  refine (new_no 65 _ (.inr (by omega))).mono ?_
  rintro e w2 ⟨rfl, rfl⟩
  go_wp2_with fail
  refine (term_no g b _ _ H.i rfl).mono ?_
  rintro e w2 ⟨rfl, m, rfl⟩
  replace H := H.drewN m
  go_wp2_with fail
  refine (begin_ok g b _ _ H.i ⟨by decide, by decide, by decide, by decide, by decide, by decide, by decide, by decide⟩ rfl (by decide)).mono ?_
  rintro e w2 ⟨rfl, h1, hc1⟩
  replace H : PhAt w w2 g b ⟨1, 1, [false, false], 0, 0⟩ := H.step h1 hc1
  clear h1 hc1
  go_wp2_with fail
  refine (say_ok g b _ 0 true false _ H.i ⟨by decide, by decide, by decide, by decide, by decide, by decide, by decide, by decide⟩ (by decide) rfl (by decide)).mono ?_
  rintro e w3 ⟨rfl, h1, hc1⟩
  replace H : PhAt w w3 g b ⟨1, 1, [true, false], 1, 0⟩ := H.step h1 hc1
  clear h1 hc1
  go_wp2_with fail
  refine (say_ok g b _ 1 true true _ H.i ⟨by decide, by decide, by decide, by decide, by decide, by decide, by decide, by decide⟩ (by decide) rfl (by decide)).mono ?_
  rintro e w4 ⟨rfl, h1, hc1⟩
  replace H : PhAt w w4 g b ⟨1, 1, [false, false], 0, 1⟩ := H.step h1 hc1
  clear h1 hc1
  go_wp2_with fail
  refine (say_ok g b _ 1 true false _ H.i ⟨by decide, by decide, by decide, by decide, by decide, by decide, by decide, by decide⟩ (by decide) rfl (by decide)).mono ?_
  rintro e w5 ⟨rfl, h1, hc1⟩
  replace H : PhAt w w5 g b ⟨1, 1, [false, true], 1, 1⟩ := H.step h1 hc1
  clear h1 hc1
  go_wp2_with fail
  refine (quiet_ok g b _ false _ H.i rfl).mono ?_
  rintro e w6 ⟨rfl, m, rfl⟩
  replace H := H.drewN m
  go_wp2_with fail
  refine (say_ok g b _ 0 true false _ H.i ⟨by decide, by decide, by decide, by decide, by decide, by decide, by decide, by decide⟩ (by decide) rfl (by decide)).mono ?_
  rintro e w7 ⟨rfl, h1, hc1⟩
  replace H : PhAt w w7 g b ⟨1, 1, [true, true], 2, 1⟩ := H.step h1 hc1
  clear h1 hc1
  go_wp2_with fail
  refine (quiet_ok g b _ true _ H.i rfl).mono ?_
  rintro e w8 ⟨rfl, m, rfl⟩
  replace H := H.drewN m
  go_wp2_with fail
  refine (restarts_ok g b _ _ H.i).mono ?_
  rintro e w8 ⟨rfl, rfl⟩
  go_wp2_with fail
  refine (term_ok g b _ _ H.i ⟨by decide, by decide, by decide, by decide, by decide, by decide, by decide, by decide⟩ rfl).mono ?_
  rintro e w9 ⟨rfl, h1, hc1⟩
  replace H : PhAt w w9 g b ⟨2, 1, [true, true], 2, 1⟩ := H.step h1 hc1
  clear h1 hc1
  go_wp2_with fail
  refine (phase_ok g b _ _ H.i).mono ?_
  rintro e w10 ⟨rfl, rfl⟩
  go_wp2_with fail
  refine (cycle_ok g b _ _ H.i).mono ?_
  rintro e w10 ⟨rfl, rfl⟩
  go_wp2_with fail
  go_ret
  exact ⟨rfl, H.c⟩

section
variable {w0 w : World} {g b : Nat} {s : PS}
theorem at_same {e0 : Value} {f : FuncId} {args : Array Value} (H : PhAt w0 w g b s) (h : Calls Try.prog f args w fun e w' => e = .returned e0 ∧ w = w') :
    Calls Try.prog f args w fun e w' => e = .returned e0 ∧ PhAt w0 w' g b s := h.mono fun _ _ ⟨he, hw⟩ => ⟨he, hw ▸ H⟩
theorem at_drew {e0 : Value} {f : FuncId} {args : Array Value} (H : PhAt w0 w g b s) (h : Calls Try.prog f args w fun e w' => e = .returned e0 ∧ ∃ m, w' = w.drewN m) :
    Calls Try.prog f args w fun e w' => e = .returned e0 ∧ PhAt w0 w' g b s := h.mono fun _ _ ⟨he, m, hw⟩ => ⟨he, hw ▸ H.drewN m⟩
theorem at_step {e0 : Value} {f : FuncId} {args : Array Value} {s' : PS} (H : PhAt w0 w g b s) (h : Calls Try.prog f args w fun e w' => e = .returned e0 ∧ IsPh w' g b s' ∧ Chg [g, b] w w') :
    Calls Try.prog f args w fun e w' => e = .returned e0 ∧ PhAt w0 w' g b s' := h.mono fun _ _ ⟨he, h1, hc⟩ => ⟨he, H.step h1 hc⟩
theorem at_chg {e0 : Value} {f : FuncId} {args : Array Value} (H : PhAt w0 w g b s) (h : Calls Try.prog f args w fun e w' => e = .returned e0 ∧ Chg [] w w') :
    Calls Try.prog f args w fun e w' => e = .returned e0 ∧ PhAt w0 w' g b s := h.mono fun _ _ ⟨he, hc⟩ => ⟨he, H.other hc⟩
theorem term_at (H : PhAt w0 w g b s) (ho : s.ok) (hq : s.quiet = true) :
    Calls Try.prog 12 #[.pointer (some ⟨g, 0, none⟩)] w fun e w' => e = .returned (.int .i64 0) ∧ PhAt w0 w' g b { s with ph := 2 } := at_step H (term_ok g b s w H.i ho hq)
theorem term_at_no (H : PhAt w0 w g b s) (hq : s.quiet = false) :
    Calls Try.prog 12 #[.pointer (some ⟨g, 0, none⟩)] w fun e w' => e = .returned (.int .i64 5) ∧ PhAt w0 w' g b s := at_drew H (term_no g b s w H.i hq)
theorem quiet_at (q : Bool) (H : PhAt w0 w g b s) (hq : s.quiet = q) :
    Calls Try.prog 10 #[.pointer (some ⟨g, 0, none⟩)] w fun e w' => e = .returned (.bool q) ∧ PhAt w0 w' g b s := at_drew H (quiet_ok g b s q w H.i hq)
theorem begin_at (H : PhAt w0 w g b s) (ho : s.ok) (hp : s.ph = 0) (hy : s.cyc < 9223372036854775807) :
    Calls Try.prog 7 #[.pointer (some ⟨g, 0, none⟩)] w fun e w' => e = .returned (.int .i64 0) ∧ PhAt w0 w' g b { ph := 1, cyc := s.cyc + 1, said := none_said s.said, cnt := 0, rs := 0 } := at_step H (begin_ok g b s w H.i ho hp hy)
theorem begin_at_no (H : PhAt w0 w g b s) (hp : (s.ph != 0) = true) :
    Calls Try.prog 7 #[.pointer (some ⟨g, 0, none⟩)] w fun e w' => e = .returned (.int .i64 5) ∧ PhAt w0 w' g b s := at_same H (begin_no g b s w H.i hp)
theorem sweep_at (H : PhAt w0 w g b s) (ho : s.ok) (hp : s.ph = 2) :
    Calls Try.prog 16 #[.pointer (some ⟨g, 0, none⟩)] w fun e w' => e = .returned (.int .i64 0) ∧ PhAt w0 w' g b { s with ph := 3 } := at_step H (sweep_ok g b s w H.i ho hp)
theorem sweep_at_no (H : PhAt w0 w g b s) (hp : (s.ph != 2) = true) :
    Calls Try.prog 16 #[.pointer (some ⟨g, 0, none⟩)] w fun e w' => e = .returned (.int .i64 5) ∧ PhAt w0 w' g b s := at_same H (sweep_no g b s w H.i hp)
theorem end_at (H : PhAt w0 w g b s) (ho : s.ok) (hp : s.ph = 3) :
    Calls Try.prog 14 #[.pointer (some ⟨g, 0, none⟩)] w fun e w' => e = .returned (.int .i64 0) ∧ PhAt w0 w' g b { s with ph := 0 } := at_step H (end_ok g b s w H.i ho hp)
theorem end_at_no (H : PhAt w0 w g b s) (hp : (s.ph != 3) = true) :
    Calls Try.prog 14 #[.pointer (some ⟨g, 0, none⟩)] w fun e w' => e = .returned (.int .i64 5) ∧ PhAt w0 w' g b s := at_same H (end_no g b s w H.i hp)
theorem phase_at (H : PhAt w0 w g b s) :
    Calls Try.prog 13 #[.pointer (some ⟨g, 0, none⟩)] w fun e w' => e = .returned (.int .i64 s.ph) ∧ PhAt w0 w' g b s := at_same H (phase_ok g b s w H.i)
theorem cycle_at (H : PhAt w0 w g b s) :
    Calls Try.prog 18 #[.pointer (some ⟨g, 0, none⟩)] w fun e w' => e = .returned (.int .i64 s.cyc) ∧ PhAt w0 w' g b s := at_same H (cycle_ok g b s w H.i)
theorem restarts_at (H : PhAt w0 w g b s) :
    Calls Try.prog 11 #[.pointer (some ⟨g, 0, none⟩)] w fun e w' => e = .returned (.int .i64 s.rs) ∧ PhAt w0 w' g b s := at_same H (restarts_ok g b s w H.i)
theorem say_at (p : Nat) (em fl : Bool) (H : PhAt w0 w g b s) (ho : s.ok) (hp : p < s.said.length) (hph : s.ph = 1) (hr : s.rs < 9223372036854775807) :
    Calls Try.prog 9 #[.pointer (some ⟨g, 0, none⟩), .int .i64 p, .bool em, .bool fl] w fun e w' => e = .returned (.int .i64 0) ∧ PhAt w0 w' g b (s.say p em fl) := at_step H (say_ok g b s p em fl w H.i ho hp hph hr)
theorem say_at_out (p : Int) (em fl : Bool) (H : PhAt w0 w g b s) (hp : p < 0 ∨ (s.said.length : Int) ≤ p) :
    Calls Try.prog 9 #[.pointer (some ⟨g, 0, none⟩), .int .i64 p, .bool em, .bool fl] w fun e w' => e = .returned (.int .i64 1) ∧ PhAt w0 w' g b s := at_same H (say_out g b s p em fl w H.i hp)
theorem say_at_state (p : Int) (em fl : Bool) (H : PhAt w0 w g b s) (hp0 : 0 ≤ p) (hp : p < (s.said.length : Int)) (hph : (s.ph != 1) = true) :
    Calls Try.prog 9 #[.pointer (some ⟨g, 0, none⟩), .int .i64 p, .bool em, .bool fl] w fun e w' => e = .returned (.int .i64 5) ∧ PhAt w0 w' g b s := at_same H (say_state g b s p em fl w H.i hp0 hp hph)
end

theorem wrap64_small (n : Int) (h0 : 0 ≤ n) (h1 : n < 9223372036854775808) : wrap64 n = n := IntWalk.wrap64_in n ⟨by omega, by omega⟩

/-- 'int(uint(x) % m)' as the walk spells it. -/
theorem mod_nat (x : Int) (m : Int) (hm : 1 ≤ m) (hm2 : m ≤ 1000000) : ∃ n : Nat, (n : Int) < m ∧ wrap64 ((IntKind.u64.wrap x).tmod m) = n := by
  have h0 : 0 ≤ IntKind.u64.wrap x := by rw [IntKind.wrap_u64]; omega
  rw [Int.tmod_eq_emod_of_nonneg h0]
  have h1 := Int.emod_nonneg (IntKind.u64.wrap x) (b := m) (by omega)
  have h2 := Int.emod_lt_of_pos (IntKind.u64.wrap x) (b := m) (by omega)
  obtain ⟨n, hn⟩ := Int.eq_ofNat_of_zero_le h1
  refine ⟨n, by omega, ?_⟩
  rw [wrap64_small _ h1 (by omega), hn]
end Go.Proofs.Ytoepnbiogfcgfaa
