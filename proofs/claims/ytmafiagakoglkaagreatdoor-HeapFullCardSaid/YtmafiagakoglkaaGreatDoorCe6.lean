/- Package central: Begin. -/
import Derived.Test.YtmafiagakoglkaaGreatDoorCe5
namespace Go.Proofs.YtmafiagakoglkaaGreatDoor
open Go.RowKit Go.Maps

/-- All swept rows laid behind the unswept ones. -/
def bgR (r : Nat → List Nat) (m : Nat) : Nat → List Nat := fun j => if j / 4 * 2 + j % 2 < m then (if j % 4 < 2 then [] else r j ++ r (j - 2)) else r j
def BgRel (w0 : World) (gc gl : Nat) (v : Nat → Value) (r : Nat → List Nat) (d n base gk : Nat) (idx : Value) (w : World) : Prop :=
  ∃ i v', gk + i = n + 1 ∧ i ≤ n ∧ idx = .int .i64 (i : Nat) ∧ IsCe w gc gl v' (bgR r (base + i * d)) ∧ StP (CeF gc gl v) (CeF gc gl v') w0 w
set_option maxHeartbeats 64000000 in
set_option maxRecDepth 100000 in
theorem cbegin_ok (w : World) (gc gl : Nat) (v : Nat → Value) (r : Nat → List Nat) (I : IsCe w gc gl v r) (hl : ∀ j, (r j).length ≤ 10000) (hx : ∀ j, ∀ x ∈ r j, x ≤ 1000000) : Calls Tryz.prog 51 #[.pointer (some ⟨gc, 0, none⟩)] w fun e w' => e = .returned (.tuple #[]) ∧ CeTo gc gl v (bgR r 32) w w' := by
  have b0 : w.cell? ⟨gc, 0, none⟩ = some (.slice (some ⟨gl, 0, none⟩) 16 16) := I.b.cellv 0 rfl
  have HI := Lib.hid (And.intro I (And.intro hl hx))
  clear I hl hx
  have e0 : bgR r 0 = r := by funext j; unfold bgR; rw [if_neg (by omega)]
  go_enter Tryz.func51, Tryz.ntmps51
  go_wp2_with fail
  go_loopg [11] 17 (fun gk idx wr => BgRel w gc gl v r 2 16 0 gk idx wr)
  case atStart => exact ⟨0, v, by omega, by omega, rfl, by rw [show 0 + 0 * 2 = 0 from rfl, e0]; exact HI.out.1, StP.refl _ _⟩
  case round =>
    clear b0 e0
    obtain ⟨k, v1, hgk, hk, rfl, I1, s1⟩ := hrel
    by_cases ek : k < 16
    · have hk' : (k : Int) < 16 := by omega
      have hk0 : (0 : Int) ≤ (k : Int) := by omega
      have H1 := Lib.hid (And.intro I1 s1); clear I1 s1
      go_wp2_with fail
      go_loopg [14] 3 (fun gk idx wr' => BgRel w gc gl v r 1 2 (k * 2) gk idx wr')
      case atStart => exact ⟨0, v1, by omega, by omega, rfl, by rw [show k * 2 + 0 * 1 = 0 + k * 2 by omega]; exact H1.out.1, H1.out.2⟩
      case round =>
        clear H1
        obtain ⟨f, v2, hgf, hf, rfl, I2, s2⟩ := hrel
        by_cases ef : f < 2
        · have hf' : (f : Int) < 2 := by omega
          have hf0 : (0 : Int) ≤ (f : Int) := by omega
          have hja : k * 4 + f < 64 := by omega
          have hjb : k * 4 + 2 + f < 64 := by omega
          have b0 : wr.cell? ⟨gc, 0, none⟩ = some (.slice (some ⟨gl, 0, none⟩) 16 16) := I2.b.cellv 0 rfl
          have ca := I2.cell hja
          have cb := I2.cell hjb
          obtain ⟨Aa, na, da, va⟩ := (I2.o _ hja).slice'
          obtain ⟨Ab, nb, db, vb⟩ := (I2.o _ hjb).slice'
          have ra : bgR r (k * 2 + f * 1) (k * 4 + f) = r (k * 4 + f) := by unfold bgR; rw [if_neg (by omega)]
          have rb : bgR r (k * 2 + f * 1) (k * 4 + 2 + f) = r (k * 4 + 2 + f) := by unfold bgR; rw [if_neg (by omega)]
          have Oa := I2.o _ hja
          have Ob := I2.o _ hjb
          rw [ra] at Oa
          rw [rb] at Ob
          rw [va] at ca Oa
          rw [vb] at cb Ob
          have wfl : ∀ j, (∀ y ∈ intsN (r j), WfI y) ∧ (intsN (r j)).length ≤ maxLen ∧ (intsN (r j)).length ≤ 100000 := fun j => by
            refine ⟨fun y hy => ?_, ?_, ?_⟩
            · unfold intsN at hy
              obtain ⟨y', hy', rfl⟩ := List.mem_map.1 hy
              have := HI.out.2.2 j y' hy'
              unfold WfI; omega
            · have := HI.out.2.1 j; unfold intsN maxLen; rw [List.length_map]; omega
            · have := HI.out.2.1 j; unfold intsN; rw [List.length_map]; omega
          have sa := Oa.sl (wfl _).1 (wfl _).2.1
          have sb := Ob.sl (wfl _).1 (wfl _).2.1
          have H2 := Lib.hid (And.intro I2 (And.intro s2 (And.intro va (And.intro vb (And.intro sa (And.intro sb wfl)))))); clear I2 s2 va vb sa sb wfl Oa Ob ra rb
          have hgcl := H2.out.1.b.lt
          have hgll := H2.out.1.l.lt
          have fb := H2.out.1.l.frozen (k * 4 + 2 + f)
          have hne := H2.out.1.ne
          have hsz : wr.heap.size ≤ wr.heap.size := Nat.le_refl _
          have e9 : intsN (r (k * 4 + 2 + f) ++ r (k * 4 + f)) = intsN (r (k * 4 + 2 + f)) ++ intsN (r (k * 4 + f)) := by unfold intsN; rw [List.map_append]
          have H9 := Lib.hid e9; clear e9
          go_upto_region 7 with fail
          go_cut [16] from 17 to 47 (fun _ wd => CeTo gc gl v2 (updV (bgR r (k * 2 + f * 1)) (k * 4 + 2 + f) (r (k * 4 + 2 + f) ++ r (k * 4 + f))) wr wd)
          case first =>
            go_region_law
              (rw [if_pos (by rfl)]; go_simp; go_at_call 104; refine (lconcat_ok _ _ _ _ (intsN (r (k * 4 + 2 + f))) (intsN (r (k * 4 + f))) (by first | exact (Blk.new _ _ _).drew | exact Blk.new _ _ _) (SlI.mono (H2.out.2.2.2.2.2.1.chg (by repeat (first | assumption | exact Chg.refl [] wr | refine Chg.drew ?_ | refine Chg.alloc ?_ _) : Chg [] wr _) hsz (by simp)) (by simp)) (SlI.mono (H2.out.2.2.2.2.1.chg (by repeat (first | assumption | exact Chg.refl [] wr | refine Chg.drew ?_ | refine Chg.alloc ?_ _) : Chg [] wr _) hsz (by simp)) (by simp)) (H2.out.2.2.2.2.2.2 _).2.2 (H2.out.2.2.2.2.2.2 _).2.2).mono ?_; rintro e w' ⟨vn, rfl, On, cn, fn⟩; obtain ⟨An, N1, kn, rfl⟩ := On.slice'; have D : Chg [] wr w' := Chg.trans (by repeat (first | assumption | exact Chg.refl [] wr | refine Chg.drew ?_ | refine Chg.alloc ?_ _)) cn; have z1 : w'.cell? ⟨gc, 0, none⟩ = some (.slice (some ⟨gl, 0, none⟩) 16 16) := D.cellv hgcl (by simp) b0; have z2 : w'.cell? ⟨gl, k * 4 + 2 + f, none⟩ = some (.slice Ab nb db) := D.cellv hgll (by simp) cb; have z3 : w'.frozen? ⟨gl, k * 4 + 2 + f, none⟩ = false := (D.blk H2.out.1.l (by simp)).frozen _; dsimp only)
            all_goals (have T := CeTo.set (u := .slice An N1 kn) (w := wr) (w' := w') (xs := r (k * 4 + 2 + f) ++ r (k * 4 + f)) H2.out.1 hjb ⟨D.mono (by simp), fun k hk => .inr (by have := fn k hk; simp at this; omega)⟩ (by rw [H9.out]; exact On))
            all_goals (have HT := Lib.hid T; clear T On cn fn D z1 z2 z3)
            all_goals go_wp2_with fail
            all_goals (go_meet; first | exact HT.out | exact HT.out.chg0 ((Chg.refl _ _).drew))
          case rest =>
            clear b0 ca cb fb
            obtain ⟨v3, I3, s3⟩ := hcut
            obtain ⟨w3, rfl⟩ : ∃ W : World, W = wc := ⟨_, rfl⟩
            have b0 : w3.cell? ⟨gc, 0, none⟩ = some (.slice (some ⟨gl, 0, none⟩) 16 16) := I3.b.cellv 0 rfl
            have ca := I3.cell hja
            have fa := I3.l.frozen (k * 4 + f)
            obtain ⟨Aa, na, da, va⟩ := (I3.o _ hja).slice'
            rw [va] at ca
            have T := CeTo.set (u := .slice none 0 0) (xs := []) I3 hja (w' := w3) ⟨Chg.refl _ _, fun k hk => by simp [fpv, Value.ownBlock] at hk⟩ (OwnI.nil _ _)
            have T2 := CeTo.trans (H2.out.2.1.trans s3) T
            have HT := Lib.hid T2; clear T T2 I3 s3 va
            go_wp2_with fail
            go_roundg (2 - f)
            case measure => omega
            case rel =>
              obtain ⟨v4, I4, s4⟩ := HT.out
              have er : updV (updV (bgR r (k * 2 + f * 1)) (k * 4 + 2 + f) (r (k * 4 + 2 + f) ++ r (k * 4 + f))) (k * 4 + f) [] = bgR r (k * 2 + (f + 1) * 1) := by
                funext j
                unfold updV bgR
                by_cases e1 : j = k * 4 + f
                · rw [if_pos e1, if_pos (by omega), if_pos (by omega)]
                · rw [if_neg e1]
                  by_cases e2 : j = k * 4 + 2 + f
                  · rw [if_pos e2, if_pos (by omega), if_neg (by omega), e2]
                    have : k * 4 + 2 + f - 2 = k * 4 + f := by omega
                    rw [this]
                  · rw [if_neg e2]
                    by_cases e3 : j / 4 * 2 + j % 2 < k * 2 + f * 1
                    · rw [if_pos e3, if_pos (show j / 4 * 2 + j % 2 < k * 2 + (f + 1) * 1 by omega)]
                    · rw [if_neg e3, if_neg (fun e4 => by
                        have h0 : j % 2 < 2 := Nat.mod_lt _ (by omega)
                        have h1 : j / 4 * 2 + j % 2 = k * 2 + f := by omega
                        have h2 : j / 4 = k := by omega
                        have h3 : j % 2 = f := by omega
                        have h5 : j = j / 4 * 4 + j % 4 := by omega
                        have h6 : j % 4 < 4 := Nat.mod_lt _ (by omega)
                        have h7 : j % 4 % 2 = f := by omega
                        have h8 : j % 4 = f ∨ j % 4 = 2 + f := by omega
                        omega)]
              rw [er] at I4
              exact ⟨f + 1, v4, by omega, by omega, by go_num, I4, s4⟩
        · obtain rfl : f = 2 := by omega
          have HM := Lib.hid (And.intro I2 s2); clear I2 s2 ef
          go_wp2_with fail
          go_roundg (16 - k)
          case measure => omega
          case rel => exact ⟨k + 1, v2, by omega, by omega, by go_num, by rw [show 0 + (k + 1) * 2 = k * 2 + 2 * 1 by omega]; exact HM.out.1, HM.out.2⟩
    · obtain rfl : k = 16 := by omega
      have HM := Lib.hid (And.intro I1 s1); clear I1 s1 ek
      go_wp2_with fail
      go_end0
      exact ⟨rfl, v1, HM.out.1, HM.out.2⟩
end Go.Proofs.YtmafiagakoglkaaGreatDoor
