/- told of layer 5. -/
import Derived.Test.YtcmligooekbodaaPgI
namespace Go.Proofs.Ytcmligooekbodaa
open Go.RowKit

theorem says_a1 {a c : Int} {l' : List R} (h : AllocSays [⟨1, 5⟩] 2 a c l') : a = 1 ∧ c = 0 ∧ l' = [⟨3, 3⟩] := by
  rcases h with ⟨h, _⟩ | ⟨_, h, _⟩ | ⟨_, r, hr, ha, hc, hl⟩
  · omega
  · have := h ⟨1, 5⟩ (by simp); simp at this
  · have e : r = ⟨1, 5⟩ := by have := hr.1; simpa using this
    subst e
    exact ⟨ha, hc, by rw [hl]; decide⟩
theorem says_a2 {a c : Int} {l' : List R} (h : AllocSays [⟨3, 3⟩] 9 a c l') : a = 0 ∧ c = 3 ∧ l' = [⟨3, 3⟩] := by
  rcases h with ⟨h, _⟩ | ⟨_, h, ha, hc, hl⟩ | ⟨_, r, hr, ha, hc, hl⟩
  · omega
  · exact ⟨ha, hc, hl⟩
  · have e : r = ⟨3, 3⟩ := by have := hr.1; simpa using this
    subst e
    have := hr.2.1
    simp at this
theorem says_f1 {c : Int} {l' : List R} (h : FreeSays 6 [⟨3, 3⟩] 1 2 c l') : c = 0 ∧ l' = [⟨1, 5⟩] := by
  rcases h with ⟨h, _⟩ | ⟨_, ⟨h, _⟩ | ⟨_, hc, hl⟩⟩
  · omega
  · rcases h with ⟨r, h1, _⟩ | ⟨r, h1, h2⟩
    · exact absurd h1 (by decide)
    · have e : (⟨3, 3⟩ : R) = r := by simpa [plc] using h1
      subst e
      simp at h2
  · exact ⟨hc, by rw [hl]; decide⟩
theorem says_f2 {c : Int} {l' : List R} (h : FreeSays 6 [⟨1, 5⟩] 1 1 c l') : c = 5 ∧ l' = [⟨1, 5⟩] := by
  rcases h with ⟨h, _⟩ | ⟨_, ⟨_, hc, hl⟩ | ⟨h, _⟩⟩
  · omega
  · exact ⟨hc, hl⟩
  · exact absurd (.inr ⟨⟨1, 5⟩, by decide, by decide⟩) h

def TdPost (w : World) (e : Ending) (w' : World) : Prop := e = .returned (.bool true) ∧ Chg [] w w'
set_option maxHeartbeats 3200000 in
set_option maxRecDepth 100000 in
theorem told_ok (w : World) : Calls Try.prog 14 #[] w (TdPost w) := by
  go_enter Try.func14, Try.ntmps14
  go_wp2_with fail
  refine (new_ok w 6).mono ?_
  rintro e w1 ⟨g, v, rfl, I, c, hn⟩
  have e6 : newN 6 = 6 := by decide
  have el : newL 6 = [⟨1, 5⟩] := by decide
  rw [e6, el] at I
  have P1 := Lib.hid (PgI.mk I c (fun k hk => ⟨hn k hk, by simp⟩) (fun k hk => by cases hk) : PgI w [] w1 g 6 [⟨1, 5⟩] v)
  clear I c hn e6 el
  go_wp2_with fail
  refine (alloc_i P1.out (by refine ⟨⟨by decide, by decide, trivial⟩, by decide⟩) (by decide) 2).mono ?_
  rintro e w2 ⟨a, c, l', v2, rfl, hs, P, _⟩
  obtain ⟨rfl, rfl, rfl⟩ := says_a1 hs
  have P2 := Lib.hid P; clear P hs
  go_wp2_with fail
  refine (alloc_i P2.out (by refine ⟨⟨by decide, by decide, trivial⟩, by decide⟩) (by decide) 9).mono ?_
  rintro e w3 ⟨a, c, l', v3, rfl, hs, P, _⟩
  obtain ⟨rfl, rfl, rfl⟩ := says_a2 hs
  have P3 := Lib.hid P; clear P hs
  go_wp2_with fail
  refine (free_i P3.out (by refine ⟨⟨by decide, by decide, trivial⟩, by decide⟩) (by decide) 1 2).mono ?_
  rintro e w4 ⟨c, l', v4, rfl, hs, P, _⟩
  obtain ⟨rfl, rfl⟩ := says_f1 hs
  have P4 := Lib.hid P; clear P hs
  go_wp2_with fail
  refine (free_i P4.out (by refine ⟨⟨by decide, by decide, trivial⟩, by decide⟩) (by decide) 1 1).mono ?_
  rintro e w5 ⟨c, l', v5, rfl, hs, P, _⟩
  obtain ⟨rfl, rfl⟩ := says_f2 hs
  have P5 := Lib.hid P; clear P hs
  go_wp2_with fail
  refine (runs_ok _ g 6 v5 [⟨1, 5⟩] P5.out.I (by decide)).mono ?_
  rintro e w6 ⟨vr, rfl, hr, hc, _⟩
  have P6 := Lib.hid (P5.out.chg0 hc)
  obtain ⟨g', cap, rest, rfl, hbb, hll, hcc, hm, _⟩ := own_open hr (by decide)
  have i0 : w6.cell? ⟨g', 0, none⟩ = some (.int .i64 1) := hbb.cellv 0 rfl
  have i1 : w6.cell? ⟨g', 1, none⟩ = some (.int .i64 5) := hbb.cellv 1 rfl
  clear hr hc hbb hll hcc hm
  go_wp2_with fail
  refine (left_ok _ g 6 v5 [⟨1, 5⟩] P6.out.I (by decide) (by decide)).mono ?_
  rintro e w7 ⟨rfl, hc⟩
  have P7 := Lib.hid (P6.out.chg0 hc); clear hc
  go_wp2_with fail
  go_ret
  exact ⟨rfl, P7.out.c⟩
end Go.Proofs.Ytcmligooekbodaa
