/- The walk of told of layer 30. -/
import Derived.Test.YtfkgooliglcjkaaAu4
import Derived.Test.YtfkgooliglcjkaaVwTold
namespace Go.Proofs.Ytfkgooliglcjkaa
open Go.RowKit Go.Maps

def vL (ph : Int) (gl : List Int) : Vw := ⟨ph, 0, 0, gl, [], [], 0, 0, 0⟩
theorem wf0 : WfI 0 := ⟨by decide, by decide⟩
theorem vL_at {w : World} {B : Nat} {ph : Int} {g : Value} {gl : List Int} (hp : WfI ph) (hs : SlI w B g gl) : VwAt w B (.agg #[.int .i64 ph, .int .i64 0, .int .i64 0, g, .slice none 0 0, .slice none 0 0, .int .i64 0, .int .i64 0, .int .i64 0]) (vL ph gl) :=
  ⟨⟨g, none, 0, none, 0, rfl, hs, ⟨fun i g hg => by simp [vL] at hg⟩, ⟨fun i o ho => by simp [vL] at ho⟩, by simp [vL], by simp [vL]⟩, hp, wf0, wf0, wf0, wf0, wf0⟩
theorem vL_small {ph : Int} {gl : List Int} (h : gl.length ≤ 10) : Small (vL ph gl) := ⟨by unfold Vw.names Vw.said vL; simp; omega, by simp [vL], by simp [vL]⟩
open Classical in
theorem brkLost_no {V : Vw} {S : List Int} (h : rchB V S = true) (h2 : S.all (fun x => (V.at_ x).isSome) = true) : brkLost V = false := by
  unfold brkLost
  refine decide_eq_false ?_
  rintro ⟨x, hx, hn⟩
  have := List.all_eq_true.1 h2 x ((rch_of h x).1 hx)
  rw [hn] at this; cases this
open Classical in
theorem brkLost_yes {V : Vw} {S : List Int} {x : Int} (h : rchB V S = true) (hx : x ∈ S) (hn : (V.at_ x).isSome = false) : brkLost V = true := by
  unfold brkLost
  exact decide_eq_true ⟨x, (rch_of h x).2 hx, hn⟩
theorem brkOb_nil {V : Vw} (h : V.objects = []) : brkOb V = false := brkOb_no fun j hj => by rw [h] at hj; simp at hj
theorem chk_z : chkN (vL 0 []) 4 = 0 := by
  have e : brks (vL 0 []) 4 = [false, false, false, false, false, false, false, false] := by
    unfold brks
    rw [brkLost_no (S := []) (by decide) (by decide), brkOb_nil rfl, brkWhite_no (by decide)]
    rfl
  unfold chkN; rw [e]; rfl
theorem chk_g : chkN (vL 0 [64]) 4 = 1 := by
  have e : brks (vL 0 [64]) 4 = [true, false, false, false, false, false, false, false] := by
    unfold brks
    rw [brkLost_yes (S := [64]) (x := 64) (by decide) (by decide) (by decide), brkOb_nil rfl, brkWhite_no (by decide)]
    rfl
  unfold chkN; rw [e]; rfl
theorem chk_p : chkN (vL 9 []) 4 = 7 := by
  have e : brks (vL 9 []) 4 = [false, false, false, false, false, false, true, false] := by
    unfold brks
    rw [brkLost_no (S := []) (by decide) (by decide), brkOb_nil rfl, brkWhite_no (by decide)]
    rfl
  unfold chkN; rw [e]; rfl
set_option maxHeartbeats 3200000 in
set_option maxRecDepth 100000 in
theorem told30_ok (w : World) : Calls Try.prog 34 #[] w (TdPost w) := by
  go_enter Try.func34, Try.ntmps34
  go_wp2_with fail
  refine (acheck_ok _ _ (vL 0 []) 4 (vL_at ⟨by decide, by decide⟩ (SlI.nilI _ _ _)) (vL_small (by decide))).mono ?_
  rintro e w1 ⟨rfl, C1⟩
  rw [chk_z]
  have H1 := Lib.hid C1; clear C1
  go_wp2_with fail
  refine (acheck_ok _ _ (vL 0 [64]) 4 (vL_at ⟨by decide, by decide⟩ (SlI.blk (xs := [64]) (Blk.new w1 3 #[.int .i64 64]) (by decide) (by intro x hx; simp at hx; subst hx; exact ⟨by decide, by decide⟩))) (vL_small (by decide))).mono ?_
  rintro e w2 ⟨rfl, C2⟩
  rw [chk_g]
  have H2 := Lib.hid ((H1.out.alloc (.cells #[.int .i64 64] 3)).trans C2); clear C2
  go_wp2_with fail
  refine (acheck_ok _ _ (vL 9 []) 4 (vL_at ⟨by decide, by decide⟩ (SlI.nilI _ _ _)) (vL_small (by decide))).mono ?_
  rintro e w3 ⟨rfl, C3⟩
  rw [chk_p]
  have H3 := Lib.hid (H2.out.trans C3); clear C3
  go_wp2_with fail
  refine (atext_ok _ 1).mono ?_
  rintro e w4 ⟨rfl, C4⟩
  rw [show txtN 1 = #[108, 111, 115, 116] from rfl]
  have H4 := Lib.hid (H3.out.trans C4); clear C4
  go_wp2_with fail
  refine (atext_ok _ 8).mono ?_
  rintro e w5 ⟨rfl, C5⟩
  rw [show txtN 8 = #[109, 97, 114, 107, 101, 100] from rfl]
  have H5 := Lib.hid (H4.out.trans C5); clear C5
  go_wp2_with fail
  refine (atext_ok _ 9).mono ?_
  rintro e w6 ⟨rfl, C6⟩
  rw [show txtN 9 = #[] from rfl]
  have H6 := Lib.hid (H5.out.trans C6); clear C6
  go_wp2_with fail
  go_ret
  exact ⟨rfl, H6.out⟩
end Go.Proofs.Ytfkgooliglcjkaa
