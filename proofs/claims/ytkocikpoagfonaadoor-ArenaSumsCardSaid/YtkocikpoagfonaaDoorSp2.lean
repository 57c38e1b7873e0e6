/- The walks of package span: Addr, At, Full, Alloc, Mark. -/
import Derived.Test.YtkocikpoagfonaaDoorSp
namespace Go.Proofs.YtkocikpoagfonaaDoor
open Go.RowKit

def Sp.addr (s : Sp) (i : Nat) : Nat := s.first * 64 + i * szK s.k
theorem slsz : ∀ k : Fin 16, ∀ i : Fin 65, i.val < slK k → (i.val + 1) * szK k ≤ pgK k * 64 := by decide +kernel
theorem sl_sz {k i : Nat} (hk : k < 16) (hi : i < slK k) : (i + 1) * szK k ≤ pgK k * 64 := by
  have := (kF hk).2.2.2.2.2.2.2.2
  exact slsz ⟨k, hk⟩ ⟨i, by omega⟩ hi
theorem NextSays.uniq {n : Nat} {G : Nat → Bool} {f : Nat} {r r' : Int} (h : NextSays n G f r) (h' : NextSays n G f r') : r = r' := by
  rcases h with ⟨rfl, a⟩ | ⟨y, rfl, a, b, c, d⟩
  · rcases h' with ⟨rfl, _⟩ | ⟨y', rfl, a', b', c', d'⟩
    · rfl
    · rw [a y' a' b'] at c'; cases c'
  · rcases h' with ⟨rfl, a'⟩ | ⟨y', rfl, a', b', c', d'⟩
    · rw [a' y a b] at c; cases c
    · rcases Nat.lt_trichotomy y y' with h1 | h1 | h1
      · rw [d' y a h1] at c; cases c
      · rw [h1]
      · rw [d y' a' h1] at c'; cases c'
theorem size_k (w : World) (k : Nat) (h : k < 16) : Calls Tryd.prog 28 #[.int .i64 k] w (NwPost (.int .i64 (szK k)) w) := by
  have := size_ok w k
  rwa [szI_nat h] at this
section
variable (w : World) (b : SpB) (s : Sp) (I : IsSp w b s)
include I
set_option maxHeartbeats 1600000 in
set_option maxRecDepth 100000 in
theorem saddr_ok (i : Nat) (hi : i < slK s.k) : Calls Tryd.prog 34 #[.pointer (some ⟨b.g, 0, none⟩), .int .i64 i] w (NwPost (.int .i64 (s.addr i : Nat)) w) := by
  have b1 : w.cell? ⟨b.g, 1, none⟩ = some (.int .i64 s.k) := I.hb.cellv 1 rfl
  have hlt := I.hb.lt
  have h2 := I.f2
  have h3 := (kF I.hk).2.2.2.1
  have h5 := (kF I.hk).2.2.2.2.2.2.2.2
  have h4 := sl_sz I.hk hi
  have h6 := (kF I.hk).2.2.2.2.2.1
  have hi' : (i : Int) < (slK s.k : Int) := by omega
  have hm : i * szK s.k ≤ 256 := by rw [Nat.add_mul] at h4; omega
  obtain ⟨q, hq⟩ : ∃ q, q = i * szK s.k := ⟨_, rfl⟩
  rw [← hq] at hm
  have e5 : IntKind.i64.wrap ((i : Int) * (szK s.k : Int)) = (q : Int) := by rw [show (i : Int) * (szK s.k : Int) = ((i * szK s.k : Nat) : Int) by rw [Int.natCast_mul], ← hq]; exact IntWalk.i64_in _ (by omega)
  have e6 : IntKind.i64.wrap (((s.first * 64 : Nat) : Int) + (q : Int)) = ((s.addr i : Nat) : Int) := by
    rw [IntWalk.i64_in _ (by omega)]; unfold Sp.addr; rw [← hq]; omega
  have e7 : IntKind.i64.wrap ((s.first : Int) * 64 + (q : Int)) = ((s.addr i : Nat) : Int) := by
    rw [IntWalk.i64_in _ (by omega)]; unfold Sp.addr; rw [← hq]; omega
  have HQ := Lib.hid (And.intro hq I); clear hq h4 h6 hm
  go_enter Tryd.func34, Tryd.ntmps34
  go_wp2_with fail
  refine (sslots_ok w b s I).mono ?_
  rintro e w1 ⟨rfl, rfl⟩
  go_wp2_with fail
  have k1 : Chg [] w1 w1.drew := (Chg.refl [] w1).drew
  clear I
  go_region_held3 (fun w' => w'.cell? ⟨b.g, 1, none⟩ = some (.int .i64 s.k) ∧ Chg [] w1 w') (go_keep)
    (first | (go_at_call 40; refine (sbase_ok _ b s (HQ.out.2.chg0 (by assumption))).mono ?_; rintro e w' ⟨rfl, rfl⟩) | (go_at_call 28; refine (size_k _ s.k HQ.out.2.hk).mono ?_; rintro e w' ⟨rfl, C⟩; have D := Chg.trans ‹Chg [] w1 _› C; have z1 := D.cellv hlt (by simp) b1))
  have HC := Lib.hid ‹Chg [] w1 w'›
  go_wp2_with fail
  go_ret
  exact ⟨rfl, HC.out⟩
/-! Full, Alloc -/
def SfPost (s : Sp) (w : World) (e : Ending) (w' : World) : Prop := ∃ r : Int, e = .returned (.bool (decide (r < 0))) ∧ NextSays (slK s.k) (notF s.F) s.fr r ∧ Chg [] w w'
set_option maxHeartbeats 1600000 in
set_option maxRecDepth 100000 in
theorem sfull_ok (T : Tab w) : Calls Tryd.prog 55 #[.pointer (some ⟨b.g, 0, none⟩)] w (SfPost s w) := by
  have b2 : w.cell? ⟨b.g, 2, none⟩ = some (.pointer (some ⟨b.u, 0, none⟩)) := I.hb.cellv 2 rfl
  have b4 : w.cell? ⟨b.g, 4, none⟩ = some (.int .i64 s.fr) := I.hb.cellv 4 rfl
  have h := I.fr
  have HI := Lib.hid (And.intro I T); clear I T
  go_enter Tryd.func55, Tryd.ntmps55
  go_wp2_with fail
  have k1 : Chg [] w w.drew := (Chg.refl [] w).drew
  go_region_held3 (fun w' => w'.cell? ⟨b.g, 2, none⟩ = some (.pointer (some ⟨b.u, 0, none⟩)) ∧ w'.cell? ⟨b.g, 4, none⟩ = some (.int .i64 s.fr) ∧ Chg [] w w') (go_keep)
    (first | (go_at_call 56; refine (bnext_false _ _ _ _ _ (HI.out.1.hu.chg0 (by assumption)) (HI.out.2.chg (by assumption : Chg [] w _) (by simp)) s.fr (by omega)).mono ?_; rintro e w' ⟨r, rfl, hr, rfl⟩; have HR := Lib.hid hr; clear hr))
  go_wp2_with fail
  go_ret
  exact ⟨_, rfl, HR.out, by assumption⟩
def SaPost (b : SpB) (s : Sp) (black : Bool) (w : World) (e : Ending) (w' : World) : Prop :=
  (e = .returned (.tuple #[.int .i64 0, .bool false]) ∧ (∀ x, s.fr ≤ x → x < slK s.k → s.F x = true) ∧ Chg [] w w') ∨
  ∃ y : Nat, e = .returned (.tuple #[.int .i64 y, .bool true]) ∧ s.fr ≤ y ∧ y < slK s.k ∧ s.F y = false ∧ (∀ x, s.fr ≤ x → x < y → s.F x = true) ∧ IsSp w' b ⟨s.first, s.k, setF s.F y, if black then setF s.M y else s.M, y⟩ ∧ Chg b.l w w'
set_option maxHeartbeats 1600000 in
set_option maxRecDepth 100000 in
theorem salloc_ok (T : Tab w) (black : Bool) : Calls Tryd.prog 33 #[.pointer (some ⟨b.g, 0, none⟩), .bool black] w (SaPost b s black w) := by
  have h := I.fr
  have HI0 := Lib.hid (And.intro I T)
  go_enter Tryd.func33, Tryd.ntmps33
  go_wp2_with fail
  refine (sfull_ok w b s I T).mono ?_
  rintro e w1 ⟨r, rfl, hr, c1⟩
  have HI := Lib.hid (And.intro (I.chg0 c1) (And.intro (T.chg c1 (by simp)) c1)); clear I T HI0 c1
  rcases hr with ⟨rfl, hz⟩ | ⟨y, rfl, h1, h2, h3, h4⟩
  · have HR := Lib.hid hz; clear hz
    go_wp2_with fail
    go_ret2
    exact .inl ⟨rfl, fun x a b => by have := HR.out x a b; unfold notF at this; simpa using this, HI.out.2.2⟩
  · have d1 : decide ((y : Int) < 0) = false := decide_eq_false (by omega)
    have hy0 : ¬ (y : Int) < 0 := by omega
    have HR := Lib.hid (And.intro h1 (And.intro h2 (And.intro h3 h4))); clear h1 h2 h3 h4
    have b2 : w1.cell? ⟨b.g, 2, none⟩ = some (.pointer (some ⟨b.u, 0, none⟩)) := HI.out.1.hb.cellv 2 rfl
    have b4 : w1.cell? ⟨b.g, 4, none⟩ = some (.int .i64 s.fr) := HI.out.1.hb.cellv 4 rfl
    go_upto_region 3 with fail
    have k1 : Chg [] w1 w1.drew := (Chg.refl [] w1).drew
    go_region_held3 (fun w' => w'.cell? ⟨b.g, 2, none⟩ = some (.pointer (some ⟨b.u, 0, none⟩)) ∧ w'.cell? ⟨b.g, 4, none⟩ = some (.int .i64 s.fr) ∧ Chg [] w1 w') (go_keep)
      (first | (go_at_call 56; refine (bnext_false _ _ _ _ _ (HI.out.1.hu.chg0 (by assumption)) (HI.out.2.1.chg (by assumption : Chg [] w1 _) (by simp)) s.fr (by omega)).mono ?_; rintro e w' ⟨r, rfl, hr, rfl⟩; have hry : r = (y : Int) := hr.uniq (.inr ⟨y, rfl, HR.out⟩); subst hry; clear hr))
    have H2 := Lib.hid (And.intro (HI.out.1.chg0 k1) (HI.out.2.2.trans k1))
    have hF : s.F y = false := by have := HR.out.2.2.1; unfold notF at this; simpa using this
    have hall : ∀ x, s.fr ≤ x → x < y → s.F x = true := fun x a b => by have := HR.out.2.2.2 x a b; unfold notF at this; simpa using this
    clear b2 b4
    generalize w1.drew = w2 at H2 k1 ⊢
    have b2 : w2.cell? ⟨b.g, 2, none⟩ = some (.pointer (some ⟨b.u, 0, none⟩)) := H2.out.1.hb.cellv 2 rfl
    clear k1
    go_wp2_with fail
    refine (bset_ok w2 _ _ _ _ H2.out.1.hu y HR.out.2.1).mono ?_
    rintro e w3 ⟨rfl, I3, C3⟩
    have J := H2.out.1
    have hne := J.ne
    have hne2 := J.ne2
    have hg1 : b.g ≠ b.u := J.hb.ne_ J.hu.b (by decide)
    have hg2 : b.g ≠ b.ua := J.hb.ne_ J.hu.d (by decide)
    have hg3 : b.g ≠ b.m := J.hb.ne_ J.hm.b (by decide)
    have hg4 : b.g ≠ b.ma := J.hb.ne_ J.hm.d (by decide)
    have hm1 : b.m ≠ b.ua := J.hm.b.ne_ J.hu.d (by decide)
    have hm2 : b.ma ≠ b.u := (J.hu.b.ne_ J.hm.d (by decide)).symm
    have B3 := C3.blk J.hb (by simp [hg1, hg2])
    have M3 := J.hm.chg C3 (by simp [hm1, Ne.symm hne]) (by simp [hm2, Ne.symm hne2])
    have b3 : w3.cell? ⟨b.g, 3, none⟩ = some (.pointer (some ⟨b.m, 0, none⟩)) := B3.cellv 3 rfl
    have f4 := B3.frozen 4
    have c4 : w3.cell? ⟨b.g, 4, none⟩ = some (.int .i64 s.fr) := B3.cellv 4 rfl
    have cs := (Chg.refl [b.g] w3).setCell (p := ⟨b.g, 4, none⟩) (.inl (by simp)) (.int .i64 (y : Nat))
    have B4 := B3.setv 4 (.int .i64 (y : Nat)) rfl
    have I4 := I3.chg cs (by simp [Ne.symm hg1]) (by simp [Ne.symm hg2])
    have M4 := M3.chg cs (by simp [Ne.symm hg3]) (by simp [Ne.symm hg4])
    have C4 : Chg b.l w (w3.setCell ⟨b.g, 4, none⟩ (.int .i64 (y : Nat))) := ((H2.out.2.mono (by simp)).trans (C3.mono (by intro k hk; simp only [SpB.l, List.mem_cons, List.not_mem_nil, or_false] at hk ⊢; rcases hk with h | h <;> simp [h]))).setCell (p := ⟨b.g, 4, none⟩) (.inl (by simp [SpB.l])) _
    have hgs : b.g ≠ b.m := hg3
    have HX := Lib.hid (And.intro B4 (And.intro I4 (And.intro M4 (And.intro C4 (And.intro hF hall))))); clear B3 M3 B4 I4 M4 C4 I3 C3 hF hall hne hne2 hm1 hm2 J cs hg1 hg2 hg3 hg4 b2
    have h64 := (kF H2.out.1.hk).2.2.2.2.2.2.2.2
    cases black with
    | false =>
      go_wp2_with fail
      go_ret2
      exact .inr ⟨y, rfl, HR.out.1, HR.out.2.1, HX.out.2.2.2.2.1, HX.out.2.2.2.2.2, ⟨HX.out.1, HX.out.2.1, HX.out.2.2.1, H2.out.1.hk, H2.out.1.f1, H2.out.1.f2, by show y ≤ 64; have := HR.out.2.1; omega, H2.out.1.ne, H2.out.1.ne2⟩, HX.out.2.2.2.1⟩
    | true =>
      go_wp2_with fail
      refine (bset_ok _ _ _ _ _ HX.out.2.2.1 y HR.out.2.1).mono ?_
      rintro e w5 ⟨rfl, M5, C5⟩
      have J := H2.out.1
      have hg3 : b.g ≠ b.m := J.hb.ne_ J.hm.b (by decide)
      have hg4 : b.g ≠ b.ma := J.hb.ne_ J.hm.d (by decide)
      have hm1 : b.m ≠ b.ua := J.hm.b.ne_ J.hu.d (by decide)
      have hm2 : b.ma ≠ b.u := (J.hu.b.ne_ J.hm.d (by decide)).symm
      have B5 := C5.blk HX.out.1 (by simp [hg3, hg4])
      have I5 := HX.out.2.1.chg C5 (by simp [J.ne, Ne.symm hm2]) (by simp [Ne.symm hm1, J.ne2])
      have C6 := HX.out.2.2.2.1.trans (C5.mono (T := b.l) (by intro k hk; simp only [SpB.l, List.mem_cons, List.not_mem_nil, or_false] at hk ⊢; rcases hk with h | h <;> simp [h]))
      have HY := Lib.hid (And.intro B5 (And.intro I5 (And.intro M5 C6))); clear B5 I5 M5 C6 C5 J
      go_wp2_with fail
      go_ret2
      exact .inr ⟨y, rfl, HR.out.1, HR.out.2.1, HX.out.2.2.2.2.1, HX.out.2.2.2.2.2, ⟨HY.out.1, HY.out.2.1, HY.out.2.2.1, H2.out.1.hk, H2.out.1.f1, H2.out.1.f2, by show y ≤ 64; have := HR.out.2.1; omega, H2.out.1.ne, H2.out.1.ne2⟩, HY.out.2.2.2⟩
end
end Go.Proofs.YtkocikpoagfonaaDoor
