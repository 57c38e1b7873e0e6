/- PhaseRounds: the walk. -/
import Derived.Test.YtoepnbiogfcgfaaPh
import Derived.Test.YtoepnbiogfcgfaaPhOpD
import Derived.Deep.LoopGhost
import Derived.StillTailTactics
namespace Go.Proofs.Ytoepnbiogfcgfaa
open Go.RowKit

structure RoRel (w0 w : World) (g b n bs : Nat) (i : Nat) (s : PS) (br : Int) : Prop where
  at_ : PhAt w0 w g b s
  hbs : Blk w bs 4 (s.said.map Value.bool).toArray
  lo : w0.heap.size ≤ bs
  ne : bs ≠ b
  ph : s.ph = 1
  len : s.said.length = n
  c0 : 0 ≤ s.cnt
  c1 : s.cnt ≤ i
  y0 : 0 ≤ s.cyc
  r0 : 0 ≤ s.rs
  r1 : s.rs ≤ br
  r2 : br ≤ i

def RoOut (w0 : World) (g b n m gk : Nat) (v8 v9 v10 v11 : Value) (w : World) : Prop :=
  ∃ (i : Nat) (s : PS) (br : Int) (bs : Nat), gk + i = m + 1 ∧ i ≤ m ∧ v11 = .int .i64 i ∧ v10 = .int .i64 br ∧ v9 = .int .i64 s.cnt ∧ v8 = .slice (some ⟨bs, 0, none⟩) n n ∧ RoRel w0 w g b n bs i s br
theorem RoRel.ok {w0 w : World} {g b n bs i : Nat} {s : PS} {br : Int} (R : RoRel w0 w g b n bs i s br) (hi : i ≤ 200) (hn : 1 ≤ n) (hn2 : n ≤ 20) : s.ok :=
  ⟨by rw [R.ph]; decide, by rw [R.ph]; decide, by rw [R.len]; exact hn, by rw [R.len]; omega, R.c0, by have := R.c1; omega, R.y0, R.r0⟩

theorem PhAt.other' {w0 w : World} {g b bs : Nat} {s : PS} (h : PhAt w0 w g b s) (lo : w0.heap.size ≤ bs) (h1 : bs ≠ b) (h2 : bs ≠ g) {p : Nat} (v : Value) : PhAt w0 (w.setCell ⟨bs, p, none⟩ v) g b s :=
  ⟨⟨h.i.g.far (p := ⟨bs, p, none⟩) h2.symm v, h.i.b.far (p := ⟨bs, p, none⟩) h1.symm v⟩, h.c.setCell (p := ⟨bs, p, none⟩) (.inr lo) v, h.g, h.b⟩

theorem not_ef {e f : Bool} (h : ¬ (e && !f) = true) : e = false ∨ (e = true ∧ f = true) := by cases e <;> cases f <;> simp_all

/-- 'int(uint(x) % uint(n))' as the walk spells it. -/
theorem mod_nat2 (x : Int) (m : Nat) (hm : 1 ≤ m) (hm2 : m ≤ 1000000) : ∃ n : Nat, n < m ∧ wrap64 ((IntKind.u64.wrap x).tmod m) = n := by
  obtain ⟨n, h, e⟩ := mod_nat x m (by omega) (by omega)
  exact ⟨n, by omega, e⟩

set_option maxRecDepth 100000 in
set_option maxHeartbeats 2000000 in
theorem rounds_any (ps : Int) (A : Option Addr) (c : Nat) (xs : List OpD) (w : World) (hA : OpsAt w w.heap.size A xs) (hl : xs.length ≤ maxLen) :
    Calls Try.prog 3 #[.int .i64 ps, .slice A xs.length c] w fun e w' => e = .returned (.bool true) ∧ Chg [] w w' := by
  obtain ⟨n, hn, en⟩ := mod_nat ps 20 (by omega) (by omega)
  unfold maxLen at hl
  have HA := Lib.hid hA; clear hA
  go_enter Try.func3, Try.ntmps3
  go_wp2_with fail
  clear en
  rw [show (1 : Int) + (n : Int) = ((n + 1 : Nat) : Int) by omega]
  obtain ⟨N, hN⟩ : ∃ N, N = n + 1 := ⟨_, rfl⟩
  rw [← hN]
  have hN1 : 1 ≤ N := by omega
  have hN2 : N ≤ 20 := by omega
  clear hN hn
  have hmk := fun W => run_make_z (P := Try.prog) 29 4 (.bool false) 1 Try.underlying29 (by kernel_rfl) rfl .i64 .i64 N (by omega) (by omega) W
  refine (new_ok N _ (by omega) (by omega)).mono ?_
  rintro e w1 ⟨g, b, rfl, h1, hc1, hg, hb⟩
  have H : PhAt w w1 g b ⟨0, 0, List.replicate N false, 0, 0⟩ := ⟨h1, hc1, hg, hb⟩
  clear h1 hc1 hg hb
  by_cases hlong : 200 < xs.length
  · go_wp2_with fail
    refine (at_chg H (told_ok _)).mono ?_
    rintro e w2 ⟨rfl, H⟩
    go_wp2_with fail
    go_ret
    exact ⟨rfl, H.c⟩
  · go_wp2_with fail
    refine (begin_at H (by constructor <;> simp <;> omega) rfl (by show (0 : Int) < _; omega)).mono ?_
    rintro e w2 ⟨rfl, H⟩
    go_wp2_with fail
    go_loopg [8, 9, 10, 11] (xs.length + 1) (fun gk v8 v9 v10 v11 wr => RoOut w g b N xs.length gk v8 v9 v10 v11 wr)
    case atStart =>
      have hbs := Blk.new w2 4 (zcells (.bool false) N)
      refine ⟨0, _, 0, w2.heap.size, by omega, by omega, rfl, rfl, rfl, rfl, ⟨H.other ((Chg.refl _ _).alloc _), by simpa [zcells_list, none_said] using hbs, H.c.size, ?_, rfl, by simp [none_said], by simp, by simp, by simp, by simp, by simp, by simp⟩⟩
      have := H.i.b.lt; omega
    case round =>
      clear H
      obtain ⟨i, s, br, bs, hgk, him, rfl, rfl, rfl, rfl, R⟩ := hrel
      by_cases hi : i < xs.length
      · obtain ⟨ab, ao, rfl, hab, k0, k1, k2, k3⟩ := HA.out i xs[i] (List.getElem?_eq_getElem hi)
        generalize xs[i] = o at k0 k1 k2 k3
        have q1 := R.at_.c.cellv hab (by simp) k1
        have q2 := R.at_.c.cellv hab (by simp) k2
        have q3 := R.at_.c.cellv hab (by simp) k3
        have K := Lib.hid (And.intro k2 k3)
        clear k0 k1 k2 k3
        obtain ⟨p, hp, ep⟩ := mod_nat2 o.p N hN1 (by omega)
        go_wp2_with fail
        rw [ep]
        clear ep
        go_still_tail 12, (by kernel_rfl)
        change wpList _ _ _ _ _ wr.drew
        have hpl : p < s.said.length := by rw [R.len]; exact hp
        have Rp := R.ok (by omega) hN1 hN2
        have Rr := R.r1
        have Rr2 := R.r2
        have Rc := R.c1
        have Rc0 := R.c0
        have Rr0 := R.r0
        have Ry := R.y0
        have Rl := Lib.hid R.len
        have R0 := Lib.hid R
        have HP : PhAt w wr.drew g b s := ⟨⟨R.at_.i.g, R.at_.i.b⟩, R.at_.c.drew, R.at_.g, R.at_.b⟩
        have hbs' : Blk wr.drew bs 4 (s.said.map Value.bool).toArray := R.hbs
        clear R q1 q2 q3
        generalize wr.drew = w3 at HP hbs' ⊢
        go_wp2_with fail
        refine (say_ok g b s p o.em o.fl _ HP.i Rp hpl R0.out.ph (by omega)).mono ?_
        rintro e w4 ⟨rfl, h1, hc1⟩
        have HP4 := HP.step h1 hc1
        have hne1 := R0.out.ne
        have hne2 : bs ≠ g := fun e => (HP.i.g.ne_ hbs' (by decide)) e.symm
        have hb4 := hc1.blk hbs' (by simp [hne1, hne2])
        have lo := R0.out.lo
        have q2 := HP4.c.cellv hab (by simp) K.out.1
        have q3 := HP4.c.cellv hab (by simp) K.out.2
        clear h1 hc1 hbs' HP
        by_cases hef : (o.em && !o.fl) = true
        · obtain ⟨hem, hfl⟩ : o.em = true ∧ o.fl = false := by simpa using hef
          clear hef
          obtain ⟨ok_, op, em, fl⟩ := o
          simp only at hem hfl
          subst hem hfl
          simp only at q2 q3 HP4
          have cb : w4.cell? ⟨bs, p, none⟩ = some (.bool (s.said.getD p false)) := by
            rw [hb4.cell]; simp [List.getD, hpl]
          cases hs : s.said.getD p false with
          | true =>
            rw [hs] at cb
            have es : s.say p true false = s := by rw [PS.say, if_pos (by decide), if_pos hs]
            rw [es] at HP4
            clear hs es
            go_wp2_with fail
            refine (quiet_ok g b s (s.cnt == (N : Int)) _ HP4.i (by rw [PS.quiet, R0.out.ph, Rl.out]; rfl)).mono ?_
            rintro e w5 ⟨rfl, m, rfl⟩
            have H5 := HP4.drewN m
            have hb5 := hb4.drewN m
            clear HP4 hb4
            go_wp2_with fail
            refine (restarts_ok g b s _ H5.i).mono ?_
            rintro e w6 ⟨rfl, rfl⟩
            go_wp2_with fail
            go_roundg (xs.length - i)
            case measure => omega
            case rel => exact ⟨i + 1, s, br, bs, by omega, by omega, by go_num, rfl, rfl, rfl, ⟨H5, hb5, lo, hne1, R0.out.ph, Rl.out, Rc0, by omega, Ry, Rr0, Rr, by omega⟩⟩
          | false =>
            rw [hs] at cb
            have fb := hb4.frozen p
            have es : s.say p true false = { s with said := s.said.set p true, cnt := s.cnt + 1 } := by rw [PS.say, if_pos (by decide), if_neg (by rw [hs]; decide)]
            rw [es] at HP4
            clear hs es
            have HP5 := HP4.other' (bs := bs) lo hne1 hne2 (p := p) (.bool true)
            have hb5 := hb4.setv p (.bool true) (cs' := ((s.said.set p true).map Value.bool).toArray) (by simp)
            clear HP4
            go_wp2_with fail
            refine (quiet_ok g b _ (s.cnt + 1 == (N : Int)) _ HP5.i (by simp [PS.quiet, R0.out.ph, Rl.out])).mono ?_
            rintro e w5 ⟨rfl, m, rfl⟩
            have H5 := HP5.drewN m
            have hb6 := hb5.drewN m
            clear HP5 hb5
            go_wp2_with fail
            refine (restarts_ok g b _ _ H5.i).mono ?_
            rintro e w6 ⟨rfl, rfl⟩
            go_wp2_with fail
            go_roundg (xs.length - i)
            case measure => omega
            case rel => exact ⟨i + 1, { s with said := s.said.set p true, cnt := s.cnt + 1 }, br, bs, by omega, by omega, by go_num, rfl, rfl, rfl, ⟨H5, hb6, lo, hne1, R0.out.ph, by simp [Rl.out], by simp only; omega, by simp only; omega, Ry, Rr0, Rr, by omega⟩⟩
        · have hem : o.em = false ∨ (o.em = true ∧ o.fl = true) := not_ef hef
          obtain ⟨ok_, op, em, fl⟩ := o
          have es : s.say p em fl = { s with said := none_said s.said, cnt := 0, rs := if 0 < s.cnt then s.rs + 1 else s.rs } := by rw [PS.say, if_neg hef]
          simp only at q2 q3 HP4 hem
          rw [es] at HP4
          have hrs : ∃ r : Int, (if 0 < s.cnt then s.rs + 1 else s.rs) = r ∧ s.rs ≤ r ∧ r ≤ s.rs + 1 := ⟨_, rfl, by split <;> omega, by split <;> omega⟩
          obtain ⟨r, er, hr1, hr2⟩ := hrs
          rw [er] at HP4
          clear es er hef hb4
          have HP5 := HP4.other ((Chg.refl _ _).alloc (.cells (zcells (.bool false) N) 4))
          have hb5 : Blk (w4.alloc (.cells (zcells (.bool false) N) 4)) w4.heap.size 4 (((none_said s.said).map Value.bool).toArray) := by
            have := Blk.new w4 4 (zcells (.bool false) N)
            simpa [none_said, Rl.out, zcells_list] using this
          have lo5 := HP4.c.size
          have hlt := HP4.i.b.lt
          clear HP4
          rcases hem with rfl | ⟨rfl, rfl⟩
          all_goals
            go_wp2_with fail
            refine (quiet_ok g b _ ((0 : Int) == (N : Int)) _ HP5.i (by simp [PS.quiet, R0.out.ph, Rl.out, none_said])).mono ?_
            rintro e w5 ⟨rfl, m, rfl⟩
            have H5 := HP5.drewN m
            have hb6 := hb5.drewN m
            clear HP5 hb5
            go_wp2_with fail
            refine (restarts_ok g b _ _ H5.i).mono ?_
            rintro e w6 ⟨rfl, rfl⟩
            go_wp2_with fail
            go_roundg (xs.length - i)
            case measure => omega
            case rel => exact ⟨i + 1, { s with said := none_said s.said, cnt := 0, rs := r }, br + 1, w4.heap.size, by omega, by omega, by go_num, rfl, rfl, rfl, ⟨H5, hb6, lo5, by omega, R0.out.ph, by simp [none_said, Rl.out], by simp, by simp; omega, Ry, by simp only; omega, by simp only; omega, by omega⟩⟩
      · have hi' : ¬ (i : Int) < xs.length := by omega
        have Rp := R.ok (by omega) hN1 hN2
        have H := R.at_
        have eq_ : s.quiet = (s.cnt == (N : Int)) := by rw [PS.quiet, R.ph, R.len]; rfl
        have E := Lib.hid (And.intro eq_ R.ph)
        clear R eq_
        cases hq : (s.cnt == (N : Int)) with
        | true =>
          go_wp2_with fail
          refine (term_at H Rp (E.out.1.trans hq)).mono ?_
          rintro e w4 ⟨rfl, H⟩
          go_wp2_with fail
          refine (at_chg H (told_ok _)).mono ?_
          rintro e w5 ⟨rfl, H⟩
          go_wp2_with fail
          refine (phase_at H).mono ?_
          rintro e w6 ⟨rfl, H⟩
          go_wp2_with fail
          refine (begin_at_no H rfl).mono ?_
          rintro e w7 ⟨rfl, H⟩
          go_wp2_with fail
          refine (end_at_no H rfl).mono ?_
          rintro e w8 ⟨rfl, H⟩
          go_wp2_with fail
          go_ret
          exact ⟨rfl, H.c⟩
        | false =>
          go_wp2_with fail
          refine (term_at_no H (E.out.1.trans hq)).mono ?_
          rintro e w4 ⟨rfl, H⟩
          go_wp2_with fail
          refine (at_chg H (told_ok _)).mono ?_
          rintro e w5 ⟨rfl, H⟩
          go_wp2_with fail
          refine (phase_at H).mono ?_
          rw [E.out.2]
          rintro e w6 ⟨rfl, H⟩
          go_wp2_with fail
          refine (begin_at_no H (by rw [E.out.2]; rfl)).mono ?_
          rintro e w7 ⟨rfl, H⟩
          go_wp2_with fail
          refine (end_at_no H (by rw [E.out.2]; rfl)).mono ?_
          rintro e w8 ⟨rfl, H⟩
          go_wp2_with fail
          go_ret
          exact ⟨rfl, H.c⟩
end Go.Proofs.Ytoepnbiogfcgfaa
