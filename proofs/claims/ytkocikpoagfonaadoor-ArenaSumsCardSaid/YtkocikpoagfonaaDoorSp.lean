/- The walks of package span. -/
import Derived.Test.YtkocikpoagfonaaDoorBtAll
import Derived.Test.YtkocikpoagfonaaDoorCl2
namespace Go.Proofs.YtkocikpoagfonaaDoor
open Go.RowKit

structure Sp where
  first : Nat
  k : Nat
  F : Nat → Bool
  M : Nat → Bool
  fr : Nat
structure SpB where
  g : Nat
  u : Nat
  ua : Nat
  m : Nat
  ma : Nat
def SpB.l (b : SpB) : List Nat := [b.g, b.u, b.ua, b.m, b.ma]
structure IsSp (w : World) (b : SpB) (s : Sp) : Prop where
  hb : Blk w b.g 85 #[.int .i64 s.first, .int .i64 s.k, .pointer (some ⟨b.u, 0, none⟩), .pointer (some ⟨b.m, 0, none⟩), .int .i64 s.fr]
  hu : IsSet w b.u b.ua (slK s.k) s.F
  hm : IsSet w b.m b.ma (slK s.k) s.M
  hk : s.k < 16
  f1 : 1 ≤ s.first
  f2 : s.first ≤ 262144
  fr : s.fr ≤ 64
  ne : b.u ≠ b.m
  ne2 : b.ua ≠ b.ma
section
variable {w w' : World} {b : SpB} {s : Sp}
theorem IsSp.chg {S : List Nat} (h : IsSp w b s) (c : Chg S w w') (hn : ∀ k ∈ b.l, k ∉ S) : IsSp w' b s :=
  ⟨c.blk h.hb (hn _ (by simp [SpB.l])), h.hu.chg c (hn _ (by simp [SpB.l])) (hn _ (by simp [SpB.l])), h.hm.chg c (hn _ (by simp [SpB.l])) (hn _ (by simp [SpB.l])), h.hk, h.f1, h.f2, h.fr, h.ne, h.ne2⟩
theorem IsSp.chg0 (h : IsSp w b s) (c : Chg [] w w') : IsSp w' b s := h.chg c (by simp)
theorem IsSp.lt (h : IsSp w b s) : ∀ k ∈ b.l, k < w.heap.size := fun k hk => by
  simp only [SpB.l, List.mem_cons, List.not_mem_nil, or_false] at hk
  rcases hk with rfl | rfl | rfl | rfl | rfl
  · exact h.hb.lt
  · exact h.hu.b.lt
  · exact h.hu.d.lt
  · exact h.hm.b.lt
  · exact h.hm.d.lt
end
/-! New -/
def SnPost (first k : Nat) (w : World) (e : Ending) (w' : World) : Prop := ∃ b : SpB, e = .returned (.tuple #[.pointer (some ⟨b.g, 0, none⟩), .int .i64 0]) ∧ IsSp w' b ⟨first, k, fun _ => false, fun _ => false, 0⟩ ∧ Chg [] w w' ∧ ∀ j ∈ b.l, w.heap.size ≤ j
set_option maxHeartbeats 1600000 in
set_option maxRecDepth 100000 in
theorem snew_ok (w : World) (first k : Nat) (hk : k < 16) (h1 : 1 ≤ first) (h2 : first ≤ 262144) : Calls Tryd.prog 31 #[.int .i64 first, .int .i64 k] w (SnPost first k w) := by
  obtain ⟨_, _, h3, h4, _, _, _, h5, h6⟩ := kF hk
  have d1 : decide ((first : Int) < 1) = false := decide_eq_false (by omega)
  have d2 : decide ((262144 : Int) < (first : Int)) = false := decide_eq_false (by omega)
  have d3 : ((szK k : Int) == 0) = false := by rw [beq_eq_false_iff_ne]; omega
  have d4 : (szK k == 0) = false := by rw [beq_eq_false_iff_ne]; omega
  have d5 : decide (first < 1) = false := decide_eq_false (by omega)
  have d6 : decide (262144 < first) = false := decide_eq_false (by omega)
  have hf1 : ¬ (first : Int) < 1 := by omega
  have hf2 : ¬ (262144 : Int) < (first : Int) := by omega
  have HK := Lib.hid (And.intro hk (And.intro h5 h6)); clear hk h3 h4 h5 h6
  go_enter Tryd.func31, Tryd.ntmps31
  go_wp2_with fail
  refine (size_ok w k).mono ?_
  rintro e w1 ⟨rfl, c1⟩
  rw [szI_nat HK.out.1]
  have HC1 := Lib.hid c1; clear c1
  go_wp2_with fail
  refine (slots_ok w1 k).mono ?_
  rintro e w2 ⟨rfl, c2⟩
  rw [slI_nat HK.out.1]
  have HC2 := Lib.hid (HC1.out.trans c2); clear c2
  go_wp2_with fail
  refine (bnew_ok w2 (slK k) HK.out.2.1 HK.out.2.2).mono ?_
  rintro e w3 ⟨u, ua, rfl, I3, c3, f3, f3'⟩
  have H3 := Lib.hid (And.intro I3 (And.intro c3 (And.intro f3 f3'))); clear I3 c3 f3 f3'
  go_wp2_with fail
  refine (bnew_ok w3 (slK k) HK.out.2.1 HK.out.2.2).mono ?_
  rintro e w4 ⟨m, ma, rfl, I4, c4, f4, f4'⟩
  have H4 := Lib.hid (And.intro I4 (And.intro c4 (And.intro f4 f4'))); clear I4 c4 f4 f4'
  go_wp2_with fail
  go_ret2
  have C0 := (Chg.refl [] w4).alloc (.cells #[.int .i64 first, .int .i64 k, .pointer (some ⟨u, 0, none⟩), .pointer (some ⟨m, 0, none⟩), .int .i64 0] 85)
  have I3 := (H3.out.1.chg0 H4.out.2.1).chg0 C0
  have I4 := H4.out.1.chg0 C0
  have l1 := H3.out.1.b.lt
  have l2 := H3.out.1.d.lt
  have l3 := H4.out.1.b.lt
  have s1 := HC2.out.size
  have s2 := H3.out.2.1.size
  have s3 := H4.out.2.1.size
  have o1 := H3.out.2.2.1
  have o2 := H3.out.2.2.2
  have o3 := H4.out.2.2.1
  have o4 := H4.out.2.2.2
  refine ⟨⟨w4.heap.size, u, ua, m, ma⟩, rfl, ⟨Blk.new _ _ _, I3, I4, HK.out.1, h1, h2, by show 0 ≤ 64; omega, by show u ≠ m; omega, by show ua ≠ ma; omega⟩, ((HC2.out.trans H3.out.2.1).trans H4.out.2.1).trans C0, fun j hj => ?_⟩
  simp only [SpB.l, List.mem_cons, List.not_mem_nil, or_false] at hj
  omega
/-! asks -/
section
variable (w : World) (b : SpB) (s : Sp) (I : IsSp w b s)
include I
set_option maxHeartbeats 1600000 in
set_option maxRecDepth 100000 in
theorem sclass_ok : Calls Tryd.prog 32 #[.pointer (some ⟨b.g, 0, none⟩)] w (QuPost (.int .i64 s.k) w) := by
  have b1 := I.hb.cellv 1 rfl
  go_enter Tryd.func32, Tryd.ntmps32
  go_wp2_with fail
  go_ret
  exact ⟨rfl, rfl⟩
set_option maxHeartbeats 1600000 in
set_option maxRecDepth 100000 in
theorem sbase_ok : Calls Tryd.prog 40 #[.pointer (some ⟨b.g, 0, none⟩)] w (QuPost (.int .i64 (s.first * 64 : Nat)) w) := by
  have b0 := I.hb.cellv 0 rfl
  have h2 := I.f2
  go_enter Tryd.func40, Tryd.ntmps40
  go_wp2_with fail
  go_ret
  exact ⟨by go_num, rfl⟩
set_option maxHeartbeats 1600000 in
set_option maxRecDepth 100000 in
theorem sslots_ok : Calls Tryd.prog 58 #[.pointer (some ⟨b.g, 0, none⟩)] w (QuPost (.int .i64 (slK s.k)) w) := by
  have b2 := I.hb.cellv 2 rfl
  go_enter Tryd.func58, Tryd.ntmps58
  go_wp2_with fail
  refine (blen_ok w _ _ _ _ I.hu).mono ?_
  rintro e w1 ⟨rfl, rfl⟩
  go_wp2_with fail
  go_ret
  exact ⟨rfl, rfl⟩
set_option maxHeartbeats 1600000 in
set_option maxRecDepth 100000 in
theorem slive_ok : Calls Tryd.prog 39 #[.pointer (some ⟨b.g, 0, none⟩)] w (QuPost (.int .i64 (cntF s.F (slK s.k))) w) := by
  have b2 := I.hb.cellv 2 rfl
  go_enter Tryd.func39, Tryd.ntmps39
  go_wp2_with fail
  refine (bcount_ok w _ _ _ _ I.hu).mono ?_
  rintro e w1 ⟨rfl, rfl⟩
  go_wp2_with fail
  go_ret
  exact ⟨rfl, rfl⟩
set_option maxHeartbeats 1600000 in
set_option maxRecDepth 100000 in
theorem smarked_ok (i : Int) : Calls Tryd.prog 35 #[.pointer (some ⟨b.g, 0, none⟩), .int .i64 i] w (QuPost (.bool (hasI s.M (slK s.k) i)) w) := by
  have b3 := I.hb.cellv 3 rfl
  go_enter Tryd.func35, Tryd.ntmps35
  go_wp2_with fail
  refine (bhas_ok w _ _ _ _ I.hm i).mono ?_
  rintro e w1 ⟨rfl, rfl⟩
  go_wp2_with fail
  go_ret
  exact ⟨rfl, rfl⟩
set_option maxHeartbeats 1600000 in
set_option maxRecDepth 100000 in
theorem sused_ok (i : Int) : Calls Tryd.prog 70 #[.pointer (some ⟨b.g, 0, none⟩), .int .i64 i] w (QuPost (.bool (hasI s.F (slK s.k) i)) w) := by
  have b3 := I.hb.cellv 2 rfl
  go_enter Tryd.func70, Tryd.ntmps70
  go_wp2_with fail
  refine (bhas_ok w _ _ _ _ I.hu i).mono ?_
  rintro e w1 ⟨rfl, rfl⟩
  go_wp2_with fail
  go_ret
  exact ⟨rfl, rfl⟩
end
end Go.Proofs.YtkocikpoagfonaaDoor
