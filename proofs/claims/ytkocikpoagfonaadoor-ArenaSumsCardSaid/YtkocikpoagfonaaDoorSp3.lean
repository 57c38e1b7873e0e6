/- The walks of package span: At, Mark. -/
import Derived.Test.YtkocikpoagfonaaDoorSp2
namespace Go.Proofs.YtkocikpoagfonaaDoor
open Go.RowKit

section
variable (w : World) (b : SpB) (s : Sp) (I : IsSp w b s)
include I
def SkPost (b : SpB) (s : Sp) (i : Nat) (w : World) (e : Ending) (w' : World) : Prop :=
  e = .returned (.bool (s.F i && !(s.M i))) ∧ IsSp w' b ⟨s.first, s.k, s.F, if s.F i then setF s.M i else s.M, s.fr⟩ ∧ Chg b.l w w'
set_option maxHeartbeats 1600000 in
set_option maxRecDepth 100000 in
theorem smark_ok (i : Nat) (hi : i < slK s.k) : Calls Tryd.prog 46 #[.pointer (some ⟨b.g, 0, none⟩), .int .i64 i] w (SkPost b s i w) := by
  have b3 : w.cell? ⟨b.g, 3, none⟩ = some (.pointer (some ⟨b.m, 0, none⟩)) := I.hb.cellv 3 rfl
  have HI := Lib.hid I
  go_enter Tryd.func46, Tryd.ntmps46
  go_wp2_with fail
  refine (sused_ok w b s I i).mono ?_
  rintro e w1 ⟨rfl, rfl⟩
  rw [hasI_nat hi]
  clear I
  cases hF : s.F i with
  | false =>
    have HF := Lib.hid hF; clear hF
    go_wp2_with fail
    go_ret
    exact ⟨by rw [HF.out]; rfl, by rw [HF.out]; exact HI.out, Chg.refl _ _⟩
  | true =>
    have HF := Lib.hid hF; clear hF
    go_wp2_with fail
    refine (bset_ok w1 _ _ _ _ HI.out.hm i hi).mono ?_
    rintro e w3 ⟨rfl, M3, C3⟩
    have J := HI.out
    have hg3 : b.g ≠ b.m := J.hb.ne_ J.hm.b (by decide)
    have hg4 : b.g ≠ b.ma := J.hb.ne_ J.hm.d (by decide)
    have hm1 : b.m ≠ b.ua := J.hm.b.ne_ J.hu.d (by decide)
    have hm2 : b.ma ≠ b.u := (J.hu.b.ne_ J.hm.d (by decide)).symm
    have B3 := C3.blk J.hb (by simp [hg3, hg4])
    have I3 := J.hu.chg C3 (by simp [J.ne, Ne.symm hm2]) (by simp [Ne.symm hm1, J.ne2])
    have C4 := C3.mono (T := b.l) (by intro k hk; simp only [SpB.l, List.mem_cons, List.not_mem_nil, or_false] at hk ⊢; rcases hk with h | h <;> simp [h])
    have HX := Lib.hid (And.intro B3 (And.intro I3 (And.intro M3 C4))); clear B3 I3 M3 C4 C3 J
    go_wp2_with fail
    go_ret
    exact ⟨by rw [HF.out]; rfl, by rw [HF.out]; exact ⟨HX.out.1, HX.out.2.1, HX.out.2.2.1, HI.out.hk, HI.out.f1, HI.out.f2, HI.out.fr, HI.out.ne, HI.out.ne2⟩, HX.out.2.2.2⟩
def StPost (i : Nat) (w : World) (e : Ending) (w' : World) : Prop := e = .returned (.tuple #[.int .i64 i, .bool true]) ∧ Chg [] w w'
set_option maxHeartbeats 1600000 in
set_option maxRecDepth 100000 in
theorem sat_ok (i : Nat) (hi : i < slK s.k) : Calls Tryd.prog 45 #[.pointer (some ⟨b.g, 0, none⟩), .int .i64 (s.addr i : Nat)] w (StPost i w) := by
  have b1 : w.cell? ⟨b.g, 1, none⟩ = some (.int .i64 s.k) := I.hb.cellv 1 rfl
  have hlt := I.hb.lt
  have h2 := I.f2
  have h3 := (kF I.hk).2.2.2.1
  have h3' := (kF I.hk).2.2.1
  have h5 := (kF I.hk).2.2.2.2.2.2.2.2
  have h4 := sl_sz I.hk hi
  have h6 := (kF I.hk).2.2.2.2.2.1
  have hm : i * szK s.k ≤ 256 := by rw [Nat.add_mul] at h4; omega
  obtain ⟨q, hq⟩ : ∃ q, q = i * szK s.k := ⟨_, rfl⟩
  obtain ⟨a, ha⟩ : ∃ a, a = s.addr i := ⟨_, rfl⟩
  have haq : a = s.first * 64 + q := by rw [ha, hq]; rfl
  rw [← hq] at hm
  have e1 : ((q : Int)).tmod (szK s.k : Int) = 0 := by
    rw [hq, Int.natCast_mul]; exact Int.mul_tmod_left _ _
  have e2 : ((q : Int)).tdiv (szK s.k : Int) = (i : Int) := by
    rw [hq, Int.natCast_mul]; exact Int.mul_tdiv_cancel _ (by omega)
  have e2' : (q : Int) / (szK s.k : Int) = (i : Int) := by
    rw [hq, Int.natCast_mul]; exact Int.mul_ediv_cancel _ (by omega)
  have e3 : IntKind.i64.wrap ((a : Int) - ((s.first * 64 : Nat) : Int)) = (q : Int) := by rw [IntWalk.i64_in _ (by omega)]; omega
  have e4 : IntKind.i64.wrap ((a : Int) - (s.first : Int) * 64) = (q : Int) := by rw [IntWalk.i64_in _ (by omega)]; omega
  have hge : ¬ (a : Int) < ((s.first * 64 : Nat) : Int) := by omega
  have hge2 : ¬ (a : Int) < (s.first : Int) * 64 := by omega
  have hi' : (i : Int) < (slK s.k : Int) := by omega
  have hs0 : ¬ szK s.k = 0 := by omega
  have hs1 : ¬ (szK s.k : Int) = 0 := by omega
  rw [← ha]
  obtain ⟨z, hz⟩ : ∃ z, z = szK s.k := ⟨_, rfl⟩
  rw [← hz] at e1 e2 e2' hs0 hs1
  have HQ := Lib.hid (And.intro I hz); clear I h4 h6 hm haq ha hq h2 h3 h3' hz
  go_enter Tryd.func45, Tryd.ntmps45
  go_wp2_with fail
  refine (sbase_ok _ b s HQ.out.1).mono ?_
  rintro e w1 ⟨rfl, rfl⟩
  go_upto_region 3 with fail
  have k1 : Chg [] w1 w1.drew := (Chg.refl [] w1).drew
  go_region_held3 (fun w' => w'.cell? ⟨b.g, 1, none⟩ = some (.int .i64 s.k) ∧ Chg [] w1 w') (go_keep)
    (first | (go_at_call 40; refine (sbase_ok _ b s (HQ.out.1.chg0 (by assumption))).mono ?_; rintro e w' ⟨rfl, rfl⟩) | (go_at_call 28; refine (size_k _ s.k HQ.out.1.hk).mono ?_; rw [← HQ.out.2]; rintro e w' ⟨rfl, C⟩; have D := Chg.trans ‹Chg [] w1 _› C; have z1 := D.cellv hlt (by simp) b1))
  have H3 := Lib.hid ‹Chg [] w1 w'›
  obtain ⟨w2, rfl⟩ : ∃ w2 : World, w2 = w' := ⟨_, rfl⟩
  clear e3 e4 hge hge2 k1
  have ew : IntKind.i64.wrap (i : Int) = (i : Int) := IntWalk.i64_in _ (by omega)
  go_upto_region 4 with fail
  have k2 : Chg [] w2 w2.drew := (Chg.refl [] w2).drew
  go_region_held3 (fun w' => Chg [] w2 w') (first | assumption | exact Chg.refl [] w2 | exact Chg.drew (by assumption))
    (first | (go_at_call 58; refine (sslots_ok _ b s ((HQ.out.1.chg0 H3.out).chg0 (by assumption))).mono ?_; rintro e w' ⟨rfl, rfl⟩))
  have H4 := Lib.hid (H3.out.trans (by assumption : Chg [] w2 _))
  go_wp2_with fail
  go_ret2
  exact ⟨rfl, H4.out⟩
end
end Go.Proofs.YtkocikpoagfonaaDoor
