/- The walks of package span. -/
/- The walks of package span: Addr, At, Full, Alloc, Mark. -/
/- The walks of package span: At, Mark. -/
/- The walk of package span: Sweep. -/
import Derived.Test.YtcnchgbngcnijaaGreatDoorMBit
import Derived.Test.YtcnchgbngcnijaaGreatDoorMCl
namespace Go.Proofs.YtcnchgbngcnijaaGreatDoor
open Go.RowKit

structure Sp where
  first : Nat
  k : Nat
  F : Nat → Bool
  M : Nat → Bool
  fr : Nat
structure SpB where
  g : Nat
  u : Nat
  ua : Nat
  m : Nat
  ma : Nat
def SpB.l (b : SpB) : List Nat := [b.g, b.u, b.ua, b.m, b.ma]
structure IsSp (w : World) (b : SpB) (s : Sp) : Prop where
  hb : Blk w b.g 145 #[.int .i64 s.first, .int .i64 s.k, .pointer (some ⟨b.u, 0, none⟩), .pointer (some ⟨b.m, 0, none⟩), .int .i64 s.fr]
  hu : IsSet w b.u b.ua (slK s.k) s.F
  hm : IsSet w b.m b.ma (slK s.k) s.M
  hk : s.k < 16
  f1 : 1 ≤ s.first
  f2 : s.first ≤ 262144
  fr : s.fr ≤ 64
  ne : b.u ≠ b.m
  ne2 : b.ua ≠ b.ma
section
variable {w w' : World} {b : SpB} {s : Sp}
theorem IsSp.chg {S : List Nat} (h : IsSp w b s) (c : Chg S w w') (hn : ∀ k ∈ b.l, k ∉ S) : IsSp w' b s :=
  ⟨c.blk h.hb (hn _ (by simp [SpB.l])), h.hu.chg c (hn _ (by simp [SpB.l])) (hn _ (by simp [SpB.l])), h.hm.chg c (hn _ (by simp [SpB.l])) (hn _ (by simp [SpB.l])), h.hk, h.f1, h.f2, h.fr, h.ne, h.ne2⟩
theorem IsSp.chg0 (h : IsSp w b s) (c : Chg [] w w') : IsSp w' b s := h.chg c (by simp)
theorem IsSp.lt (h : IsSp w b s) : ∀ k ∈ b.l, k < w.heap.size := fun k hk => by
  simp only [SpB.l, List.mem_cons, List.not_mem_nil, or_false] at hk
  rcases hk with rfl | rfl | rfl | rfl | rfl
  · exact h.hb.lt
  · exact h.hu.b.lt
  · exact h.hu.d.lt
  · exact h.hm.b.lt
  · exact h.hm.d.lt
end
/-! New -/
def SnPost (first k : Nat) (w : World) (e : Ending) (w' : World) : Prop := ∃ b : SpB, e = .returned (.tuple #[.pointer (some ⟨b.g, 0, none⟩), .int .i64 0]) ∧ IsSp w' b ⟨first, k, fun _ => false, fun _ => false, 0⟩ ∧ Chg [] w w' ∧ ∀ j ∈ b.l, w.heap.size ≤ j
set_option maxHeartbeats 1600000 in
set_option maxRecDepth 100000 in
theorem snew_ok (w : World) (first k : Nat) (hk : k < 16) (h1 : 1 ≤ first) (h2 : first ≤ 262144) : Calls Tryz.prog 94 #[.int .i64 first, .int .i64 k] w (SnPost first k w) := by
  obtain ⟨_, _, h3, h4, _, _, _, h5, h6⟩ := kF hk
  have d1 : decide ((first : Int) < 1) = false := decide_eq_false (by omega)
  have d2 : decide ((262144 : Int) < (first : Int)) = false := decide_eq_false (by omega)
  have d3 : ((szK k : Int) == 0) = false := by rw [beq_eq_false_iff_ne]; omega
  have d4 : (szK k == 0) = false := by rw [beq_eq_false_iff_ne]; omega
  have d5 : decide (first < 1) = false := decide_eq_false (by omega)
  have d6 : decide (262144 < first) = false := decide_eq_false (by omega)
  have hf1 : ¬ (first : Int) < 1 := by omega
  have hf2 : ¬ (262144 : Int) < (first : Int) := by omega
  have HK := Lib.hid (And.intro hk (And.intro h5 h6)); clear hk h3 h4 h5 h6
  go_enter Tryz.func94, Tryz.ntmps94
  go_wp2_with fail
  refine (size_ok w k).mono ?_
  rintro e w1 ⟨rfl, c1⟩
  rw [szI_nat HK.out.1]
  have HC1 := Lib.hid c1; clear c1
  go_wp2_with fail
  refine (slots_ok w1 k).mono ?_
  rintro e w2 ⟨rfl, c2⟩
  rw [slI_nat HK.out.1]
  have HC2 := Lib.hid (HC1.out.trans c2); clear c2
  go_wp2_with fail
  refine (bnew_ok w2 (slK k) HK.out.2.1 HK.out.2.2).mono ?_
  rintro e w3 ⟨u, ua, rfl, I3, c3, f3, f3'⟩
  have H3 := Lib.hid (And.intro I3 (And.intro c3 (And.intro f3 f3'))); clear I3 c3 f3 f3'
  go_wp2_with fail
  refine (bnew_ok w3 (slK k) HK.out.2.1 HK.out.2.2).mono ?_
  rintro e w4 ⟨m, ma, rfl, I4, c4, f4, f4'⟩
  have H4 := Lib.hid (And.intro I4 (And.intro c4 (And.intro f4 f4'))); clear I4 c4 f4 f4'
  go_wp2_with fail
  go_ret2
  have C0 := (Chg.refl [] w4).alloc (.cells #[.int .i64 first, .int .i64 k, .pointer (some ⟨u, 0, none⟩), .pointer (some ⟨m, 0, none⟩), .int .i64 0] 145)
  have I3 := (H3.out.1.chg0 H4.out.2.1).chg0 C0
  have I4 := H4.out.1.chg0 C0
  have l1 := H3.out.1.b.lt
  have l2 := H3.out.1.d.lt
  have l3 := H4.out.1.b.lt
  have s1 := HC2.out.size
  have s2 := H3.out.2.1.size
  have s3 := H4.out.2.1.size
  have o1 := H3.out.2.2.1
  have o2 := H3.out.2.2.2
  have o3 := H4.out.2.2.1
  have o4 := H4.out.2.2.2
  refine ⟨⟨w4.heap.size, u, ua, m, ma⟩, rfl, ⟨Blk.new _ _ _, I3, I4, HK.out.1, h1, h2, by show 0 ≤ 64; omega, by show u ≠ m; omega, by show ua ≠ ma; omega⟩, ((HC2.out.trans H3.out.2.1).trans H4.out.2.1).trans C0, fun j hj => ?_⟩
  simp only [SpB.l, List.mem_cons, List.not_mem_nil, or_false] at hj
  omega
/-! asks -/
section
variable (w : World) (b : SpB) (s : Sp) (I : IsSp w b s)
include I
set_option maxHeartbeats 1600000 in
set_option maxRecDepth 100000 in
theorem sclass_ok : Calls Tryz.prog 95 #[.pointer (some ⟨b.g, 0, none⟩)] w (QuPost (.int .i64 s.k) w) := by
  have b1 := I.hb.cellv 1 rfl
  go_enter Tryz.func95, Tryz.ntmps95
  go_wp2_with fail
  go_ret
  exact ⟨rfl, rfl⟩
set_option maxHeartbeats 1600000 in
set_option maxRecDepth 100000 in
theorem sbase_ok : Calls Tryz.prog 104 #[.pointer (some ⟨b.g, 0, none⟩)] w (QuPost (.int .i64 (s.first * 64 : Nat)) w) := by
  have b0 := I.hb.cellv 0 rfl
  have h2 := I.f2
  go_enter Tryz.func104, Tryz.ntmps104
  go_wp2_with fail
  go_ret
  exact ⟨by go_num, rfl⟩
set_option maxHeartbeats 1600000 in
set_option maxRecDepth 100000 in
theorem sslots_ok : Calls Tryz.prog 129 #[.pointer (some ⟨b.g, 0, none⟩)] w (QuPost (.int .i64 (slK s.k)) w) := by
  have b2 := I.hb.cellv 2 rfl
  go_enter Tryz.func129, Tryz.ntmps129
  go_wp2_with fail
  refine (blen_ok w _ _ _ _ I.hu).mono ?_
  rintro e w1 ⟨rfl, rfl⟩
  go_wp2_with fail
  go_ret
  exact ⟨rfl, rfl⟩
set_option maxHeartbeats 1600000 in
set_option maxRecDepth 100000 in
theorem slive_ok : Calls Tryz.prog 103 #[.pointer (some ⟨b.g, 0, none⟩)] w (QuPost (.int .i64 (cntF s.F (slK s.k))) w) := by
  have b2 := I.hb.cellv 2 rfl
  go_enter Tryz.func103, Tryz.ntmps103
  go_wp2_with fail
  refine (bcount_ok w _ _ _ _ I.hu).mono ?_
  rintro e w1 ⟨rfl, rfl⟩
  go_wp2_with fail
  go_ret
  exact ⟨rfl, rfl⟩
set_option maxHeartbeats 1600000 in
set_option maxRecDepth 100000 in
theorem sused_ok (i : Int) : Calls Tryz.prog 126 #[.pointer (some ⟨b.g, 0, none⟩), .int .i64 i] w (QuPost (.bool (hasI s.F (slK s.k) i)) w) := by
  have b3 := I.hb.cellv 2 rfl
  go_enter Tryz.func126, Tryz.ntmps126
  go_wp2_with fail
  refine (bhas_ok w _ _ _ _ I.hu i).mono ?_
  rintro e w1 ⟨rfl, rfl⟩
  go_wp2_with fail
  go_ret
  exact ⟨rfl, rfl⟩
end
end Go.Proofs.YtcnchgbngcnijaaGreatDoor
namespace Go.Proofs.YtcnchgbngcnijaaGreatDoor
open Go.RowKit

def Sp.addr (s : Sp) (i : Nat) : Nat := s.first * 64 + i * szK s.k
theorem slsz : ∀ k : Fin 16, ∀ i : Fin 65, i.val < slK k → (i.val + 1) * szK k ≤ pgK k * 64 := by decide +kernel
theorem sl_sz {k i : Nat} (hk : k < 16) (hi : i < slK k) : (i + 1) * szK k ≤ pgK k * 64 := by
  have := (kF hk).2.2.2.2.2.2.2.2
  exact slsz ⟨k, hk⟩ ⟨i, by omega⟩ hi
theorem NextSays.uniq {n : Nat} {G : Nat → Bool} {f : Nat} {r r' : Int} (h : NextSays n G f r) (h' : NextSays n G f r') : r = r' := by
  rcases h with ⟨rfl, a⟩ | ⟨y, rfl, a, b, c, d⟩
  · rcases h' with ⟨rfl, _⟩ | ⟨y', rfl, a', b', c', d'⟩
    · rfl
    · rw [a y' a' b'] at c'; cases c'
  · rcases h' with ⟨rfl, a'⟩ | ⟨y', rfl, a', b', c', d'⟩
    · rw [a' y a b] at c; cases c
    · rcases Nat.lt_trichotomy y y' with h1 | h1 | h1
      · rw [d' y a h1] at c; cases c
      · rw [h1]
      · rw [d y' a' h1] at c'; cases c'
theorem size_k (w : World) (k : Nat) (h : k < 16) : Calls Tryz.prog 91 #[.int .i64 k] w (NwPost (.int .i64 (szK k)) w) := by
  have := size_ok w k
  rwa [szI_nat h] at this
section
variable (w : World) (b : SpB) (s : Sp) (I : IsSp w b s)
include I
set_option maxHeartbeats 1600000 in
set_option maxRecDepth 100000 in
theorem saddr_ok (i : Nat) (hi : i < slK s.k) : Calls Tryz.prog 97 #[.pointer (some ⟨b.g, 0, none⟩), .int .i64 i] w (NwPost (.int .i64 (s.addr i : Nat)) w) := by
  have b1 : w.cell? ⟨b.g, 1, none⟩ = some (.int .i64 s.k) := I.hb.cellv 1 rfl
  have hlt := I.hb.lt
  have h2 := I.f2
  have h3 := (kF I.hk).2.2.2.1
  have h5 := (kF I.hk).2.2.2.2.2.2.2.2
  have h4 := sl_sz I.hk hi
  have h6 := (kF I.hk).2.2.2.2.2.1
  have hi' : (i : Int) < (slK s.k : Int) := by omega
  have hm : i * szK s.k ≤ 256 := by rw [Nat.add_mul] at h4; omega
  obtain ⟨q, hq⟩ : ∃ q, q = i * szK s.k := ⟨_, rfl⟩
  rw [← hq] at hm
  have e5 : IntKind.i64.wrap ((i : Int) * (szK s.k : Int)) = (q : Int) := by rw [show (i : Int) * (szK s.k : Int) = ((i * szK s.k : Nat) : Int) by rw [Int.natCast_mul], ← hq]; exact IntWalk.i64_in _ (by omega)
  have e6 : IntKind.i64.wrap (((s.first * 64 : Nat) : Int) + (q : Int)) = ((s.addr i : Nat) : Int) := by
    rw [IntWalk.i64_in _ (by omega)]; unfold Sp.addr; rw [← hq]; omega
  have e7 : IntKind.i64.wrap ((s.first : Int) * 64 + (q : Int)) = ((s.addr i : Nat) : Int) := by
    rw [IntWalk.i64_in _ (by omega)]; unfold Sp.addr; rw [← hq]; omega
  have HQ := Lib.hid (And.intro hq I); clear hq h4 h6 hm
  go_enter Tryz.func97, Tryz.ntmps97
  go_wp2_with fail
  refine (sslots_ok w b s I).mono ?_
  rintro e w1 ⟨rfl, rfl⟩
  go_wp2_with fail
  have k1 : Chg [] w1 w1.drew := (Chg.refl [] w1).drew
  clear I
  go_region_held3 (fun w' => w'.cell? ⟨b.g, 1, none⟩ = some (.int .i64 s.k) ∧ Chg [] w1 w') (go_keep)
    (first | (go_at_call 104; refine (sbase_ok _ b s (HQ.out.2.chg0 (by assumption))).mono ?_; rintro e w' ⟨rfl, rfl⟩) | (go_at_call 91; refine (size_k _ s.k HQ.out.2.hk).mono ?_; rintro e w' ⟨rfl, C⟩; have D := Chg.trans ‹Chg [] w1 _› C; have z1 := D.cellv hlt (by simp) b1))
  have HC := Lib.hid ‹Chg [] w1 w'›
  go_wp2_with fail
  go_ret
  exact ⟨rfl, HC.out⟩
/-! Full, Alloc -/
def SfPost (s : Sp) (w : World) (e : Ending) (w' : World) : Prop := ∃ r : Int, e = .returned (.bool (decide (r < 0))) ∧ NextSays (slK s.k) (notF s.F) s.fr r ∧ Chg [] w w'
set_option maxHeartbeats 1600000 in
set_option maxRecDepth 100000 in
theorem sfull_ok (T : Tab w) : Calls Tryz.prog 81 #[.pointer (some ⟨b.g, 0, none⟩)] w (SfPost s w) := by
  have b2 : w.cell? ⟨b.g, 2, none⟩ = some (.pointer (some ⟨b.u, 0, none⟩)) := I.hb.cellv 2 rfl
  have b4 : w.cell? ⟨b.g, 4, none⟩ = some (.int .i64 s.fr) := I.hb.cellv 4 rfl
  have h := I.fr
  have HI := Lib.hid (And.intro I T); clear I T
  go_enter Tryz.func81, Tryz.ntmps81
  go_wp2_with fail
  have k1 : Chg [] w w.drew := (Chg.refl [] w).drew
  go_region_held3 (fun w' => w'.cell? ⟨b.g, 2, none⟩ = some (.pointer (some ⟨b.u, 0, none⟩)) ∧ w'.cell? ⟨b.g, 4, none⟩ = some (.int .i64 s.fr) ∧ Chg [] w w') (go_keep)
    (first | (go_at_call 130; refine (bnext_false _ _ _ _ _ (HI.out.1.hu.chg0 (by assumption)) (HI.out.2.chg (by assumption : Chg [] w _) (by simp)) s.fr (by omega)).mono ?_; rintro e w' ⟨r, rfl, hr, rfl⟩; have HR := Lib.hid hr; clear hr))
  go_wp2_with fail
  go_ret
  exact ⟨_, rfl, HR.out, by assumption⟩
def SaPost (b : SpB) (s : Sp) (black : Bool) (w : World) (e : Ending) (w' : World) : Prop :=
  (e = .returned (.tuple #[.int .i64 0, .bool false]) ∧ (∀ x, s.fr ≤ x → x < slK s.k → s.F x = true) ∧ Chg [] w w') ∨
  ∃ y : Nat, e = .returned (.tuple #[.int .i64 y, .bool true]) ∧ s.fr ≤ y ∧ y < slK s.k ∧ s.F y = false ∧ (∀ x, s.fr ≤ x → x < y → s.F x = true) ∧ IsSp w' b ⟨s.first, s.k, setF s.F y, if black then setF s.M y else s.M, y⟩ ∧ Chg b.l w w'
set_option maxHeartbeats 1600000 in
set_option maxRecDepth 100000 in
theorem salloc_ok (T : Tab w) (black : Bool) : Calls Tryz.prog 96 #[.pointer (some ⟨b.g, 0, none⟩), .bool black] w (SaPost b s black w) := by
  have h := I.fr
  have HI0 := Lib.hid (And.intro I T)
  go_enter Tryz.func96, Tryz.ntmps96
  go_wp2_with fail
  refine (sfull_ok w b s I T).mono ?_
  rintro e w1 ⟨r, rfl, hr, c1⟩
  have HI := Lib.hid (And.intro (I.chg0 c1) (And.intro (T.chg c1 (by simp)) c1)); clear I T HI0 c1
  rcases hr with ⟨rfl, hz⟩ | ⟨y, rfl, h1, h2, h3, h4⟩
  · have HR := Lib.hid hz; clear hz
    go_wp2_with fail
    go_ret2
    exact .inl ⟨rfl, fun x a b => by have := HR.out x a b; unfold notF at this; simpa using this, HI.out.2.2⟩
  · have d1 : decide ((y : Int) < 0) = false := decide_eq_false (by omega)
    have hy0 : ¬ (y : Int) < 0 := by omega
    have HR := Lib.hid (And.intro h1 (And.intro h2 (And.intro h3 h4))); clear h1 h2 h3 h4
    have b2 : w1.cell? ⟨b.g, 2, none⟩ = some (.pointer (some ⟨b.u, 0, none⟩)) := HI.out.1.hb.cellv 2 rfl
    have b4 : w1.cell? ⟨b.g, 4, none⟩ = some (.int .i64 s.fr) := HI.out.1.hb.cellv 4 rfl
    go_upto_region 3 with fail
    have k1 : Chg [] w1 w1.drew := (Chg.refl [] w1).drew
    go_region_held3 (fun w' => w'.cell? ⟨b.g, 2, none⟩ = some (.pointer (some ⟨b.u, 0, none⟩)) ∧ w'.cell? ⟨b.g, 4, none⟩ = some (.int .i64 s.fr) ∧ Chg [] w1 w') (go_keep)
      (first | (go_at_call 130; refine (bnext_false _ _ _ _ _ (HI.out.1.hu.chg0 (by assumption)) (HI.out.2.1.chg (by assumption : Chg [] w1 _) (by simp)) s.fr (by omega)).mono ?_; rintro e w' ⟨r, rfl, hr, rfl⟩; have hry : r = (y : Int) := hr.uniq (.inr ⟨y, rfl, HR.out⟩); subst hry; clear hr))
    have H2 := Lib.hid (And.intro (HI.out.1.chg0 k1) (HI.out.2.2.trans k1))
    have hF : s.F y = false := by have := HR.out.2.2.1; unfold notF at this; simpa using this
    have hall : ∀ x, s.fr ≤ x → x < y → s.F x = true := fun x a b => by have := HR.out.2.2.2 x a b; unfold notF at this; simpa using this
    clear b2 b4
    generalize w1.drew = w2 at H2 k1 ⊢
    have b2 : w2.cell? ⟨b.g, 2, none⟩ = some (.pointer (some ⟨b.u, 0, none⟩)) := H2.out.1.hb.cellv 2 rfl
    clear k1
    go_wp2_with fail
    refine (bset_ok w2 _ _ _ _ H2.out.1.hu y HR.out.2.1).mono ?_
    rintro e w3 ⟨rfl, I3, C3⟩
    have J := H2.out.1
    have hne := J.ne
    have hne2 := J.ne2
    have hg1 : b.g ≠ b.u := J.hb.ne_ J.hu.b (by decide)
    have hg2 : b.g ≠ b.ua := J.hb.ne_ J.hu.d (by decide)
    have hg3 : b.g ≠ b.m := J.hb.ne_ J.hm.b (by decide)
    have hg4 : b.g ≠ b.ma := J.hb.ne_ J.hm.d (by decide)
    have hm1 : b.m ≠ b.ua := J.hm.b.ne_ J.hu.d (by decide)
    have hm2 : b.ma ≠ b.u := (J.hu.b.ne_ J.hm.d (by decide)).symm
    have B3 := C3.blk J.hb (by simp [hg1, hg2])
    have M3 := J.hm.chg C3 (by simp [hm1, Ne.symm hne]) (by simp [hm2, Ne.symm hne2])
    have b3 : w3.cell? ⟨b.g, 3, none⟩ = some (.pointer (some ⟨b.m, 0, none⟩)) := B3.cellv 3 rfl
    have f4 := B3.frozen 4
    have c4 : w3.cell? ⟨b.g, 4, none⟩ = some (.int .i64 s.fr) := B3.cellv 4 rfl
    have cs := (Chg.refl [b.g] w3).setCell (p := ⟨b.g, 4, none⟩) (.inl (by simp)) (.int .i64 (y : Nat))
    have B4 := B3.setv 4 (.int .i64 (y : Nat)) rfl
    have I4 := I3.chg cs (by simp [Ne.symm hg1]) (by simp [Ne.symm hg2])
    have M4 := M3.chg cs (by simp [Ne.symm hg3]) (by simp [Ne.symm hg4])
    have C4 : Chg b.l w (w3.setCell ⟨b.g, 4, none⟩ (.int .i64 (y : Nat))) := ((H2.out.2.mono (by simp)).trans (C3.mono (by intro k hk; simp only [SpB.l, List.mem_cons, List.not_mem_nil, or_false] at hk ⊢; rcases hk with h | h <;> simp [h]))).setCell (p := ⟨b.g, 4, none⟩) (.inl (by simp [SpB.l])) _
    have hgs : b.g ≠ b.m := hg3
    have HX := Lib.hid (And.intro B4 (And.intro I4 (And.intro M4 (And.intro C4 (And.intro hF hall))))); clear B3 M3 B4 I4 M4 C4 I3 C3 hF hall hne hne2 hm1 hm2 J cs hg1 hg2 hg3 hg4 b2
    have h64 := (kF H2.out.1.hk).2.2.2.2.2.2.2.2
    cases black with
    | false =>
      go_wp2_with fail
      go_ret2
      exact .inr ⟨y, rfl, HR.out.1, HR.out.2.1, HX.out.2.2.2.2.1, HX.out.2.2.2.2.2, ⟨HX.out.1, HX.out.2.1, HX.out.2.2.1, H2.out.1.hk, H2.out.1.f1, H2.out.1.f2, by show y ≤ 64; have := HR.out.2.1; omega, H2.out.1.ne, H2.out.1.ne2⟩, HX.out.2.2.2.1⟩
    | true =>
      go_wp2_with fail
      refine (bset_ok _ _ _ _ _ HX.out.2.2.1 y HR.out.2.1).mono ?_
      rintro e w5 ⟨rfl, M5, C5⟩
      have J := H2.out.1
      have hg3 : b.g ≠ b.m := J.hb.ne_ J.hm.b (by decide)
      have hg4 : b.g ≠ b.ma := J.hb.ne_ J.hm.d (by decide)
      have hm1 : b.m ≠ b.ua := J.hm.b.ne_ J.hu.d (by decide)
      have hm2 : b.ma ≠ b.u := (J.hu.b.ne_ J.hm.d (by decide)).symm
      have B5 := C5.blk HX.out.1 (by simp [hg3, hg4])
      have I5 := HX.out.2.1.chg C5 (by simp [J.ne, Ne.symm hm2]) (by simp [Ne.symm hm1, J.ne2])
      have C6 := HX.out.2.2.2.1.trans (C5.mono (T := b.l) (by intro k hk; simp only [SpB.l, List.mem_cons, List.not_mem_nil, or_false] at hk ⊢; rcases hk with h | h <;> simp [h]))
      have HY := Lib.hid (And.intro B5 (And.intro I5 (And.intro M5 C6))); clear B5 I5 M5 C6 C5 J
      go_wp2_with fail
      go_ret2
      exact .inr ⟨y, rfl, HR.out.1, HR.out.2.1, HX.out.2.2.2.2.1, HX.out.2.2.2.2.2, ⟨HY.out.1, HY.out.2.1, HY.out.2.2.1, H2.out.1.hk, H2.out.1.f1, H2.out.1.f2, by show y ≤ 64; have := HR.out.2.1; omega, H2.out.1.ne, H2.out.1.ne2⟩, HY.out.2.2.2⟩
end
end Go.Proofs.YtcnchgbngcnijaaGreatDoor
namespace Go.Proofs.YtcnchgbngcnijaaGreatDoor
open Go.RowKit

section
variable (w : World) (b : SpB) (s : Sp) (I : IsSp w b s)
include I
def SkPost (b : SpB) (s : Sp) (i : Nat) (w : World) (e : Ending) (w' : World) : Prop :=
  e = .returned (.bool (s.F i && !(s.M i))) ∧ IsSp w' b ⟨s.first, s.k, s.F, if s.F i then setF s.M i else s.M, s.fr⟩ ∧ Chg b.l w w'
set_option maxHeartbeats 1600000 in
set_option maxRecDepth 100000 in
theorem smark_ok (i : Nat) (hi : i < slK s.k) : Calls Tryz.prog 77 #[.pointer (some ⟨b.g, 0, none⟩), .int .i64 i] w (SkPost b s i w) := by
  have b3 : w.cell? ⟨b.g, 3, none⟩ = some (.pointer (some ⟨b.m, 0, none⟩)) := I.hb.cellv 3 rfl
  have HI := Lib.hid I
  go_enter Tryz.func77, Tryz.ntmps77
  go_wp2_with fail
  refine (sused_ok w b s I i).mono ?_
  rintro e w1 ⟨rfl, rfl⟩
  rw [hasI_nat hi]
  clear I
  cases hF : s.F i with
  | false =>
    have HF := Lib.hid hF; clear hF
    go_wp2_with fail
    go_ret
    exact ⟨by rw [HF.out]; rfl, by rw [HF.out]; exact HI.out, Chg.refl _ _⟩
  | true =>
    have HF := Lib.hid hF; clear hF
    go_wp2_with fail
    refine (bset_ok w1 _ _ _ _ HI.out.hm i hi).mono ?_
    rintro e w3 ⟨rfl, M3, C3⟩
    have J := HI.out
    have hg3 : b.g ≠ b.m := J.hb.ne_ J.hm.b (by decide)
    have hg4 : b.g ≠ b.ma := J.hb.ne_ J.hm.d (by decide)
    have hm1 : b.m ≠ b.ua := J.hm.b.ne_ J.hu.d (by decide)
    have hm2 : b.ma ≠ b.u := (J.hu.b.ne_ J.hm.d (by decide)).symm
    have B3 := C3.blk J.hb (by simp [hg3, hg4])
    have I3 := J.hu.chg C3 (by simp [J.ne, Ne.symm hm2]) (by simp [Ne.symm hm1, J.ne2])
    have C4 := C3.mono (T := b.l) (by intro k hk; simp only [SpB.l, List.mem_cons, List.not_mem_nil, or_false] at hk ⊢; rcases hk with h | h <;> simp [h])
    have HX := Lib.hid (And.intro B3 (And.intro I3 (And.intro M3 C4))); clear B3 I3 M3 C4 C3 J
    go_wp2_with fail
    go_ret
    exact ⟨by rw [HF.out]; rfl, by rw [HF.out]; exact ⟨HX.out.1, HX.out.2.1, HX.out.2.2.1, HI.out.hk, HI.out.f1, HI.out.f2, HI.out.fr, HI.out.ne, HI.out.ne2⟩, HX.out.2.2.2⟩
def StPost (i : Nat) (w : World) (e : Ending) (w' : World) : Prop := e = .returned (.tuple #[.int .i64 i, .bool true]) ∧ Chg [] w w'
set_option maxHeartbeats 1600000 in
set_option maxRecDepth 100000 in
theorem sat_ok (i : Nat) (hi : i < slK s.k) : Calls Tryz.prog 80 #[.pointer (some ⟨b.g, 0, none⟩), .int .i64 (s.addr i : Nat)] w (StPost i w) := by
  have b1 : w.cell? ⟨b.g, 1, none⟩ = some (.int .i64 s.k) := I.hb.cellv 1 rfl
  have hlt := I.hb.lt
  have h2 := I.f2
  have h3 := (kF I.hk).2.2.2.1
  have h3' := (kF I.hk).2.2.1
  have h5 := (kF I.hk).2.2.2.2.2.2.2.2
  have h4 := sl_sz I.hk hi
  have h6 := (kF I.hk).2.2.2.2.2.1
  have hm : i * szK s.k ≤ 256 := by rw [Nat.add_mul] at h4; omega
  obtain ⟨q, hq⟩ : ∃ q, q = i * szK s.k := ⟨_, rfl⟩
  obtain ⟨a, ha⟩ : ∃ a, a = s.addr i := ⟨_, rfl⟩
  have haq : a = s.first * 64 + q := by rw [ha, hq]; rfl
  rw [← hq] at hm
  have e1 : ((q : Int)).tmod (szK s.k : Int) = 0 := by
    rw [hq, Int.natCast_mul]; exact Int.mul_tmod_left _ _
  have e2 : ((q : Int)).tdiv (szK s.k : Int) = (i : Int) := by
    rw [hq, Int.natCast_mul]; exact Int.mul_tdiv_cancel _ (by omega)
  have e2' : (q : Int) / (szK s.k : Int) = (i : Int) := by
    rw [hq, Int.natCast_mul]; exact Int.mul_ediv_cancel _ (by omega)
  have e3 : IntKind.i64.wrap ((a : Int) - ((s.first * 64 : Nat) : Int)) = (q : Int) := by rw [IntWalk.i64_in _ (by omega)]; omega
  have e4 : IntKind.i64.wrap ((a : Int) - (s.first : Int) * 64) = (q : Int) := by rw [IntWalk.i64_in _ (by omega)]; omega
  have hge : ¬ (a : Int) < ((s.first * 64 : Nat) : Int) := by omega
  have hge2 : ¬ (a : Int) < (s.first : Int) * 64 := by omega
  have hi' : (i : Int) < (slK s.k : Int) := by omega
  have hs0 : ¬ szK s.k = 0 := by omega
  have hs1 : ¬ (szK s.k : Int) = 0 := by omega
  rw [← ha]
  obtain ⟨z, hz⟩ : ∃ z, z = szK s.k := ⟨_, rfl⟩
  rw [← hz] at e1 e2 e2' hs0 hs1
  have HQ := Lib.hid (And.intro I hz); clear I h4 h6 hm haq ha hq h2 h3 h3' hz
  go_enter Tryz.func80, Tryz.ntmps80
  go_wp2_with fail
  refine (sbase_ok _ b s HQ.out.1).mono ?_
  rintro e w1 ⟨rfl, rfl⟩
  go_upto_region 3 with fail
  have k1 : Chg [] w1 w1.drew := (Chg.refl [] w1).drew
  go_region_held3 (fun w' => w'.cell? ⟨b.g, 1, none⟩ = some (.int .i64 s.k) ∧ Chg [] w1 w') (go_keep)
    (first | (go_at_call 104; refine (sbase_ok _ b s (HQ.out.1.chg0 (by assumption))).mono ?_; rintro e w' ⟨rfl, rfl⟩) | (go_at_call 91; refine (size_k _ s.k HQ.out.1.hk).mono ?_; rw [← HQ.out.2]; rintro e w' ⟨rfl, C⟩; have D := Chg.trans ‹Chg [] w1 _› C; have z1 := D.cellv hlt (by simp) b1))
  have H3 := Lib.hid ‹Chg [] w1 w'›
  obtain ⟨w2, rfl⟩ : ∃ w2 : World, w2 = w' := ⟨_, rfl⟩
  clear e3 e4 hge hge2 k1
  have ew : IntKind.i64.wrap (i : Int) = (i : Int) := IntWalk.i64_in _ (by omega)
  go_upto_region 4 with fail
  have k2 : Chg [] w2 w2.drew := (Chg.refl [] w2).drew
  go_region_held3 (fun w' => Chg [] w2 w') (first | assumption | exact Chg.refl [] w2 | exact Chg.drew (by assumption))
    (first | (go_at_call 129; refine (sslots_ok _ b s ((HQ.out.1.chg0 H3.out).chg0 (by assumption))).mono ?_; rintro e w' ⟨rfl, rfl⟩))
  have H4 := Lib.hid (H3.out.trans (by assumption : Chg [] w2 _))
  go_wp2_with fail
  go_ret2
  exact ⟨rfl, H4.out⟩
end
end Go.Proofs.YtcnchgbngcnijaaGreatDoor
namespace Go.Proofs.YtcnchgbngcnijaaGreatDoor
open Go.RowKit

def SwPost (b : SpB) (s : Sp) (w : World) (e : Ending) (w' : World) : Prop :=
  ∃ v, e = .returned v ∧ OwnI 3 w' v (intsN ((allN s.F (slK s.k)).filter fun i => !(s.M i))) ∧ IsSp w' ⟨b.g, b.m, b.ma, b.u, b.ua⟩ ⟨s.first, s.k, s.M, fun _ => false, 0⟩ ∧ Chg b.l w w' ∧ ∀ j ∈ fpv v, w.heap.size ≤ j
def outTo (M : Nat → Bool) (al : List Nat) (i : Nat) : List Int := intsN ((al.take i).filter fun i => !(M i))
def SwRel1 (w0 : World) (M : Nat → Bool) (al : List Nat) (gk : Nat) (v idx : Value) (w : World) : Prop :=
  ∃ i, gk + i = al.length + 1 ∧ i ≤ al.length ∧ idx = .int .i64 (i : Nat) ∧ OwnI 3 w v (outTo M al i) ∧ Chg [] w0 w ∧ (∀ j ∈ fpv v, w0.heap.size ≤ j)
theorem outTo_succ {M : Nat → Bool} {al : List Nat} {i x : Nat} (hx : al[i]? = some x) : outTo M al (i + 1) = if M x then outTo M al i else outTo M al i ++ [(x : Int)] := by
  unfold outTo
  rw [List.take_add_one, hx]
  unfold intsN
  cases h : M x <;> simp [h]
def clrTo (F : Nat → Bool) (al : List Nat) (i x : Nat) : Bool := F x && !((al.take i).contains x)
theorem clrTo_zero (F : Nat → Bool) (al : List Nat) : clrTo F al 0 = F := by funext x; unfold clrTo; simp
theorem clrTo_succ {F : Nat → Bool} {al : List Nat} {i y : Nat} (h : al[i]? = some y) : clrF (clrTo F al i) y = clrTo F al (i + 1) := by
  funext x
  unfold clrF clrTo
  rw [List.take_add_one, h]
  by_cases e : x = y
  · subst e; simp
  · rw [if_neg e]; simp [e]
theorem clrTo_all {F : Nat → Bool} {n : Nat} (hz : ∀ x, n ≤ x → F x = false) : clrTo F (allN F n) (allN F n).length = fun _ => false := by
  funext x
  unfold clrTo
  rw [List.take_length]
  cases hF : F x
  · rfl
  · have hx : x < n := by
      rcases Nat.lt_or_ge x n with h | h
      · exact h
      · rw [hz x h] at hF; cases hF
    have : x ∈ allN F n := by unfold allN; rw [List.mem_filter, List.mem_range]; exact ⟨hx, hF⟩
    simp [this]
def SwRel2 (w0 : World) (u ua n : Nat) (F : Nat → Bool) (al : List Nat) (gk : Nat) (idx : Value) (w : World) : Prop :=
  ∃ i, gk + i = al.length + 1 ∧ i ≤ al.length ∧ idx = .int .i64 (i : Nat) ∧ IsSet w u ua n (clrTo F al i) ∧ Chg [u, ua] w0 w
theorem allN_lt {F : Nat → Bool} {n i x : Nat} (hx : (allN F n)[i]? = some x) : x < n ∧ F x = true := by
  have := List.mem_of_getElem? hx
  unfold allN at this
  rw [List.mem_filter, List.mem_range] at this
  exact this
set_option maxHeartbeats 1600000 in
set_option maxRecDepth 100000 in
theorem stays_ok (w : World) (b : SpB) (s : Sp) (I : IsSp w b s) (gb : Nat) (hb : w.cell? ⟨gb, 0, none⟩ = some (.pointer (some ⟨b.g, 0, none⟩))) (i : Int) : Calls Tryz.prog 151 #[.int .i64 i, .pointer (some ⟨gb, 0, none⟩)] w (QuPost (.bool (hasI s.M (slK s.k) i)) w) := by
  have b3 : w.cell? ⟨b.g, 3, none⟩ = some (.pointer (some ⟨b.m, 0, none⟩)) := I.hb.cellv 3 rfl
  go_enter Tryz.func151, Tryz.ntmps151
  go_wp2_with fail
  refine (bhas_ok w _ _ _ _ I.hm i).mono ?_
  rintro e w1 ⟨rfl, rfl⟩
  go_wp2_with fail
  go_ret
  exact ⟨rfl, rfl⟩
set_option maxHeartbeats 3200000 in
set_option maxRecDepth 100000 in
theorem ssweep_ok (w : World) (b : SpB) (s : Sp) (I : IsSp w b s) (T : Tab w) : Calls Tryz.prog 110 #[.pointer (some ⟨b.g, 0, none⟩)] w (SwPost b s w) := by
  have b2 : w.cell? ⟨b.g, 2, none⟩ = some (.pointer (some ⟨b.u, 0, none⟩)) := I.hb.cellv 2 rfl
  have hlen : (allN s.F (slK s.k)).length ≤ 64 := by
    rw [allN_len]
    have := cntF_le s.F (slK s.k)
    have := (kF I.hk).2.2.2.2.2.2.2.2
    omega
  have C0 := (Chg.refl [] w).alloc (.cells #[.pointer (some ⟨b.g, 0, none⟩)] 92)
  have HB := Lib.hid (And.intro (I.chg0 C0) (And.intro (T.chg C0 (by simp)) (And.intro (Blk.new w 92 #[.pointer (some ⟨b.g, 0, none⟩)]) C0)))
  clear I T C0
  go_enter Tryz.func110, Tryz.ntmps110
  go_upto_region 5 with fail
  obtain ⟨W, hW⟩ : ∃ W, W = (w.alloc (.cells #[.pointer (some ⟨b.g, 0, none⟩)] 92)) := ⟨_, rfl⟩
  obtain ⟨gb, hgb⟩ : ∃ gb, gb = w.heap.size := ⟨_, rfl⟩
  rw [← hW, ← hgb] at HB ⊢
  have HG := Lib.hid hgb; clear hW hgb b2
  have z0 : W.cell? ⟨gb, 0, none⟩ = some (.pointer (some ⟨b.g, 0, none⟩)) := HB.out.2.2.1.cellv 0 rfl
  have z2 : W.cell? ⟨b.g, 2, none⟩ = some (.pointer (some ⟨b.u, 0, none⟩)) := HB.out.1.hb.cellv 2 rfl
  go_wp2_with fail
  refine (ball_ok W _ _ _ _ HB.out.1.hu HB.out.2.1).mono ?_
  rintro e w1 ⟨vl, rfl, Ol, C1, F1⟩
  have hmem : ∀ i x, (allN s.F (slK s.k))[i]? = some x → x < slK s.k ∧ s.F x = true := fun i x h => allN_lt h
  obtain ⟨al, hal⟩ : ∃ al, al = allN s.F (slK s.k) := ⟨_, rfl⟩
  rw [← hal] at hlen hmem Ol
  obtain ⟨Al, cl, rfl⟩ := Ol.slice
  have hli : (intsN al).length = al.length := by unfold intsN; rw [List.length_map]
  rw [hli] at Ol ⊢
  clear z0 z2 hli
  have HL := Lib.hid (And.intro Ol (And.intro C1 (And.intro F1 (And.intro hal hmem)))); clear Ol C1 F1 hal hmem
  go_wp2_with fail
  go_loopg [3, 18] (al.length + 1) (fun gk v idx wr => SwRel1 w1 s.M al gk v idx wr)
  case atStart => exact ⟨0, by omega, by omega, rfl, OwnI.nil _ _, Chg.refl _ _, by simp [fpv, Value.ownBlock]⟩
  case round =>
    obtain ⟨i, hgk, hin, rfl, O, C, Fv⟩ := hrel
    by_cases e : i < al.length
    · obtain ⟨x, hx⟩ : ∃ x, al[i]? = some x := ⟨_, List.getElem?_eq_getElem e⟩
      have hxi : (intsN al)[i]? = some (x : Int) := by unfold intsN; rw [List.getElem?_map, hx]; rfl
      have hi' : (i : Int) < (al.length : Int) := by omega
      obtain ⟨ga, rfl, q0, -, -⟩ := (HL.out.1.chg0 C).cell hxi
      have hxl := HL.out.2.2.2.2 i x hx
      have I2 := (HB.out.1.chg0 HL.out.2.1).chg0 C
      have z0 : wr.cell? ⟨gb, 0, none⟩ = some (.pointer (some ⟨b.g, 0, none⟩)) := (C.blk (HL.out.2.1.blk HB.out.2.2.1 (by simp)) (by simp)).cellv 0 rfl
      have hs := outTo_succ (M := s.M) hx
      obtain ⟨Ao, co, rfl⟩ := O.slice
      have hol : (outTo s.M al i).length ≤ 64 := by
        have h1 : (outTo s.M al i).length ≤ (al.take i).length := by unfold outTo intsN; rw [List.length_map]; exact List.length_filter_le _ _
        rw [List.length_take] at h1; omega
      have HX := Lib.hid (And.intro O (And.intro C (And.intro Fv (And.intro I2 (And.intro hs hxl))))); clear O C Fv I2 hs hx hxi hxl
      go_wp2_with fail
      refine (stays_ok wr b s HX.out.2.2.2.1 gb z0 x).mono ?_
      rintro e w2 ⟨rfl, rfl⟩
      rw [hasI_nat HX.out.2.2.2.2.2.1]
      cases hM : s.M x with
      | true =>
        have HM := Lib.hid (HX.out.2.2.2.2.1.trans (if_pos hM)); clear hM
        go_wp2_with fail
        go_roundg (al.length - i)
        case measure => omega
        case rel => exact ⟨i + 1, by omega, by omega, by go_num, by rw [HM.out]; exact HX.out.1, HX.out.2.1, HX.out.2.2.1⟩
      | false =>
        have HM := Lib.hid (HX.out.2.2.2.2.1.trans (if_neg (by rw [hM]; decide))); clear hM
        have hll : (outTo s.M al i).length + 1 ≤ 1000000000000 := by omega
        go_wp2_with (at_builtin; refine wpList_push_int rfl _ _ rfl slZ rfl HX.out.1 rfl hll ?_)
        intro A' c' w5 O5 S5
        have H5 := Lib.hid (And.intro O5 (And.intro (HX.out.2.1.newS S5.c HX.out.2.2.1) (fun k hk => by
          rcases S5.f k hk with h | h
          · exact HX.out.2.2.1 k h
          · exact Nat.le_trans HX.out.2.1.size h : ∀ k ∈ fpv _, w1.heap.size ≤ k))); clear O5 S5
        go_wp2_with fail
        go_roundg (al.length - i)
        case measure => omega
        case rel => exact ⟨i + 1, by omega, by omega, by go_num, by rw [HM.out]; exact H5.out.1, H5.out.2.1, H5.out.2.2⟩
    · have e2 : i = al.length := by omega
      subst e2
      have hi' : ¬ (al.length : Int) < (al.length : Int) := by omega
      have HX := Lib.hid (And.intro O (And.intro C Fv)); clear O C Fv e hgk hin
      have I2 := (HB.out.1.chg0 HL.out.2.1).chg0 HX.out.2.1
      have z0 : wr.cell? ⟨gb, 0, none⟩ = some (.pointer (some ⟨b.g, 0, none⟩)) := (HX.out.2.1.blk (HL.out.2.1.blk HB.out.2.2.1 (by simp)) (by simp)).cellv 0 rfl
      have y2 : wr.cell? ⟨b.g, 2, none⟩ = some (.pointer (some ⟨b.u, 0, none⟩)) := I2.hb.cellv 2 rfl
      have y3 : wr.cell? ⟨b.g, 3, none⟩ = some (.pointer (some ⟨b.m, 0, none⟩)) := I2.hb.cellv 3 rfl
      have y4 : wr.cell? ⟨b.g, 4, none⟩ = some (.int .i64 s.fr) := I2.hb.cellv 4 rfl
      have f2 := I2.hb.frozen 2
      have f3 := I2.hb.frozen 3
      have f4 := I2.hb.frozen 4
      have hgg : gb ≠ b.g := (HB.out.2.2.1.ne_ HB.out.1.hb (by decide))
      have HI2 := Lib.hid I2; clear I2
      go_upto_region 11 with fail
      go_cut [31] from 32 to 47 (fun _ wd => Blk wd b.g 145 #[.int .i64 s.first, .int .i64 s.k, .pointer (some ⟨b.m, 0, none⟩), .pointer (some ⟨b.u, 0, none⟩), .int .i64 0] ∧ Chg [b.g] wr wd)
      case first =>
          clear HX HL HB HG hlen
          go_region
          go_wp2_with fail
          go_meet
          have B4 := ((HI2.out.hb.setv 2 (.pointer (some ⟨b.m, 0, none⟩)) rfl).setv 3 (.pointer (some ⟨b.u, 0, none⟩)) rfl).setv 4 (.int .i64 0) rfl
          exact ⟨B4.drew, ((((Chg.refl [b.g] wr).setCell (p := ⟨b.g, 2, none⟩) (.inl (by simp)) (.pointer (some ⟨b.m, 0, none⟩))).setCell (p := ⟨b.g, 3, none⟩) (.inl (by simp)) (.pointer (some ⟨b.u, 0, none⟩))).setCell (p := ⟨b.g, 4, none⟩) (.inl (by simp)) (.int .i64 0)).drew⟩
      case rest =>
      obtain ⟨B5, cc⟩ := hcut
      obtain ⟨W5, rfl⟩ : ∃ W : World, W = wc := ⟨_, rfl⟩
      have J := HI2.out
      have hg1 : b.g ≠ b.u := J.hb.ne_ J.hu.b (by decide)
      have hg2 : b.g ≠ b.ua := J.hb.ne_ J.hu.d (by decide)
      have hg3 : b.g ≠ b.m := J.hb.ne_ J.hm.b (by decide)
      have hg4 : b.g ≠ b.ma := J.hb.ne_ J.hm.d (by decide)
      have U5 := J.hu.chg cc (by simp [Ne.symm hg1]) (by simp [Ne.symm hg2])
      have M5 := J.hm.chg cc (by simp [Ne.symm hg3]) (by simp [Ne.symm hg4])
      have Z5 := cc.blk (HX.out.2.1.blk (HL.out.2.1.blk HB.out.2.2.1 (by simp)) (by simp)) (by simp [hgg])
      have T5 := ((HB.out.2.1.chg HL.out.2.1 (by simp)).chg HX.out.2.1 (by simp)).chg cc (by
        intro hm
        have e : 0 = b.g := by simpa using hm
        have h1 := HB.out.1.hb.cell 0
        rw [← e] at h1
        have h2 := HB.out.2.1 0 (by decide)
        rw [h1] at h2
        simp at h2)
      have O5 : OwnI 3 _ _ (outTo s.M al al.length) := HX.out.1.chg cc (fun k hk hm => by
        have e : k = b.g := by simpa using hm
        have h1 := HX.out.2.2 k hk
        have h2 := HI2.out.hb.lt
        have h3 := (HB.out.1.chg0 HL.out.2.1).hb.lt
        omega)
      have HY := Lib.hid (And.intro B5 (And.intro cc (And.intro U5 (And.intro M5 (And.intro Z5 (And.intro T5 O5)))))); clear B5 cc U5 M5 Z5 T5 O5 J z0 y2 y3 y4 f2 f3 f4
      have z0 : W5.cell? ⟨gb, 0, none⟩ = some (.pointer (some ⟨b.g, 0, none⟩)) := HY.out.2.2.2.2.1.cellv 0 rfl
      have z3 : W5.cell? ⟨b.g, 3, none⟩ = some (.pointer (some ⟨b.u, 0, none⟩)) := HY.out.1.cellv 3 rfl
      go_wp2_with fail
      refine (ball_ok W5 _ _ _ _ HY.out.2.2.1 HY.out.2.2.2.2.2.1).mono ?_
      rintro e w6 ⟨v2, rfl, O6, C6, F6⟩
      rw [← HL.out.2.2.2.1] at O6
      obtain ⟨A6, k6, rfl⟩ := O6.slice
      have hli : (intsN al).length = al.length := by unfold intsN; rw [List.length_map]
      rw [hli] at O6 F6 ⊢
      clear hli z0 z3 hg3 hg4 hgg
      have hu6 : b.u < W5.heap.size := HY.out.2.2.1.b.lt
      have hua6 : b.ua < W5.heap.size := HY.out.2.2.1.d.lt
      have HZ := Lib.hid (And.intro (HY.out.2.2.1.chg0 C6) (And.intro O6 (And.intro C6 F6))); clear O6 C6 F6
      go_wp2_with fail
      obtain ⟨W6, rfl⟩ : ∃ W : World, W = w6 := ⟨_, rfl⟩
      go_loopg [54] (al.length + 1) (fun gk idx wr => SwRel2 W6 b.u b.ua (slK s.k) s.F al gk idx wr)
      case atStart => exact ⟨0, by omega, by omega, rfl, by rw [clrTo_zero]; exact HZ.out.1, Chg.refl _ _⟩
      case round =>
        obtain ⟨i, hgk, hin, rfl, U, C⟩ := hrel
        have hne_u : ∀ k ∈ fpv (.slice A6 al.length k6), k ∉ [b.u, b.ua] := fun k hk hm => by
          have := HZ.out.2.2.2 k hk
          simp only [List.mem_cons, List.not_mem_nil, or_false] at hm
          omega
        have hgbu : gb ∉ [b.u, b.ua] := by
          have h1 : gb ≠ b.u := HB.out.2.2.1.ne_ HB.out.1.hu.b (by decide)
          have h2 : gb ≠ b.ua := HB.out.2.2.1.ne_ HB.out.1.hu.d (by decide)
          simp [h1, h2]
        have hgu : b.g ∉ [b.u, b.ua] := by simp [hg1, hg2]
        have Bg := C.blk (HZ.out.2.2.1.blk HY.out.1 (by simp)) hgu
        have Bz := C.blk (HZ.out.2.2.1.blk HY.out.2.2.2.2.1 (by simp)) hgbu
        by_cases e : i < al.length
        · obtain ⟨x, hx⟩ : ∃ x, al[i]? = some x := ⟨_, List.getElem?_eq_getElem e⟩
          have hxi : (intsN al)[i]? = some (x : Int) := by unfold intsN; rw [List.getElem?_map, hx]; rfl
          have hi' : (i : Int) < (al.length : Int) := by omega
          obtain ⟨ga, rfl, q0, -, -⟩ := (HZ.out.2.1.chg C hne_u).cell hxi
          have hxl := (HL.out.2.2.2.2 i x hx).1
          have z0 : wr.cell? ⟨gb, 0, none⟩ = some (.pointer (some ⟨b.g, 0, none⟩)) := Bz.cellv 0 rfl
          have z3 : wr.cell? ⟨b.g, 3, none⟩ = some (.pointer (some ⟨b.u, 0, none⟩)) := Bg.cellv 3 rfl
          have HQ := Lib.hid (And.intro U (And.intro C hx)); clear U C hx hxi hne_u Bg Bz hgbu hgu
          go_wp2_with fail
          refine (bclear_ok wr _ _ _ _ HQ.out.1 x hxl).mono ?_
          rintro e w8 ⟨rfl, U8, C8⟩
          rw [clrTo_succ HQ.out.2.2] at U8
          have H8 := Lib.hid (And.intro U8 (HQ.out.2.1.trans C8)); clear U8 C8
          go_wp2_with fail
          go_roundg (al.length - i)
          case measure => omega
          case rel => exact ⟨i + 1, by omega, by omega, by go_num, H8.out.1, H8.out.2⟩
        · have e2 : i = al.length := by omega
          subst e2
          have hi' : ¬ (al.length : Int) < (al.length : Int) := by omega
          have hmb : b.m ∉ [b.u, b.ua] := by
            have h1 : b.m ≠ b.u := Ne.symm HB.out.1.ne
            have h2 : b.m ≠ b.ua := HB.out.1.hm.b.ne_ HB.out.1.hu.d (by decide)
            simp [h1, h2]
          have hmab : b.ma ∉ [b.u, b.ua] := by
            have h1 : b.ma ≠ b.u := (HB.out.1.hu.b.ne_ HB.out.1.hm.d (by decide)).symm
            have h2 : b.ma ≠ b.ua := Ne.symm HB.out.1.ne2
            simp [h1, h2]
          have Mk := (HY.out.2.2.2.1.chg0 HZ.out.2.2.1).chg C hmb hmab
          have Ov := (HY.out.2.2.2.2.2.2.chg0 HZ.out.2.2.1).chg C (fun k hk hm => by
            have h1 := HX.out.2.2 k hk
            have h2 := (HB.out.1.chg0 HL.out.2.1).hu.b.lt
            have h3 := (HB.out.1.chg0 HL.out.2.1).hu.d.lt
            simp only [List.mem_cons, List.not_mem_nil, or_false] at hm
            omega)
          have hal := HL.out.2.2.2.1
          rw [hal, clrTo_all HB.out.1.hu.z] at U
          have Call : Chg b.l w wr := by
            have c1 := (HB.out.2.2.2.trans HL.out.2.1).trans HX.out.2.1
            have c2 := c1.mono (T := b.l) (by simp)
            have c3 := HY.out.2.1.mono (T := b.l) (by intro k hk; have e : k = b.g := (by simpa using hk); left; rw [e]; simp [SpB.l])
            have c4 := HZ.out.2.2.1.mono (T := b.l) (by simp)
            have c5 := C.mono (T := b.l) (by intro k hk; simp only [SpB.l, List.mem_cons, List.not_mem_nil, or_false] at hk ⊢; rcases hk with h | h <;> simp [h])
            exact ((c2.trans c3).trans c4).trans c5
          have HQ := Lib.hid (And.intro Bg (And.intro Mk (And.intro U (And.intro Ov Call)))); clear Bg Mk U Ov Call C Bz hne_u hgbu hgu hmb hmab hal e hgk hin
          go_wp2_with fail
          go_ret
          refine ⟨_, rfl, ?_, IsSp.mk HQ.out.1 HQ.out.2.1 HQ.out.2.2.1 HB.out.1.hk HB.out.1.f1 HB.out.1.f2 (Nat.zero_le _) (Ne.symm HB.out.1.ne) (Ne.symm HB.out.1.ne2), HQ.out.2.2.2.2, fun k hk => ?_⟩
          · have := HQ.out.2.2.2.1
            unfold outTo at this
            rw [List.take_length, HL.out.2.2.2.1] at this
            exact this
          · have h1 := HX.out.2.2 k hk
            have h2 := HB.out.2.2.2.size
            have h3 := HL.out.2.1.size
            omega
end Go.Proofs.YtcnchgbngcnijaaGreatDoor
