/- The walks of package class. -/
/- The walks of package class: Pages, Slots, Of. -/
/- The walks of the document's Sizes, Size, Of (layer 4). -/
/- The walks of package span. -/
/- The walks of package span: Addr, At, Full, Alloc, Mark. -/
/- The walks of package span: At, Mark. -/
/- The walk of package span: Sweep. -/
/- A map from integers to any values that the call owns, told by a function. Plain theorems on worlds; no program in sight. -/
/- A value method called through a pointer in an interface value: plain law, of no program. -/
/- Runs of free pages: plain laws on lists. No program in sight. -/
/- The walks of package page's heap of runs (container/heap over bySize). -/
/- container/heap over bySize: up, Push, down, Pop. -/
/- container/heap.Pop over bySize. -/
/- copy and clear on rows of elements of any number of cells; stores into the middle of a block. Of no program. -/
/- The walks of package slices at runs of pages: Index, Delete, Clone, Insert. -/
/- The walks of package slices at runs of pages: Clone, Insert. -/
/- The walk of slices.Insert at runs of pages: in the middle, where there is no room; and all roads joined. -/
/- The walks of package page: join. -/
/- The walks of package page: Free. -/
/- The walks of package page: Free, the other arms; all joined. -/
/- The walks of package page: Alloc. -/
/- The walks of package page: New, Runs, Left. -/
/- Package page's contracts for a walk that owns a page beside other blocks; told of layer 5. -/
/- Runs of free pages: what Free gives back. Plain. -/
import Derived.Test.YtcpljjacamibeaaGreatDoorMemJ
import Derived.BigQuiet
import Derived.Deep.LoopGhost
import Derived.Deep.DeepCutAuto
import Derived.Deep.RegionLaw
import Derived.IntWalk
import Derived.Maps.OwnOps
import Derived.Maps.OwnSet
import Derived.WalkKit
import Derived.StillTailTactics
import Derived.BigRegion
import Derived.Deep.AppendLies
import Derived.Lib.AppendZerosOnto
import Derived.Lib.Overlaps
import Derived.Maps.AppendAt
namespace Go.Proofs.YtcpljjacamibeaaGreatDoor
set_option maxHeartbeats 16000000
set_option maxRecDepth 100000
open Go.RowKit
def szL : List Nat := [1, 2, 3, 4, 6, 8, 12, 16, 24, 32, 48, 64, 96, 128, 192, 256]
def pgL : List Nat := [1, 1, 1, 1, 1, 1, 1, 1, 2, 1, 3, 1, 3, 2, 3, 4]
def slL : List Nat := [64, 32, 21, 16, 10, 8, 5, 4, 5, 2, 4, 1, 2, 1, 1, 1]
def szK (k : Nat) : Nat := szL.getD k 0
def pgK (k : Nat) : Nat := pgL.getD k 0
def slK (k : Nat) : Nat := slL.getD k 0
def isK (k : Int) : Prop := 0 ≤ k ∧ k < 16
instance (k : Int) : Decidable (isK k) := inferInstanceAs (Decidable (_ ∧ _))
def szI (k : Int) : Int := if isK k then szK k.toNat else 0
def pgI (k : Int) : Int := if isK k then pgK k.toNat else 0
def slI (k : Int) : Int := if isK k then slK k.toNat else 0
def szA : Array Value := (szL.map fun (n : Nat) => Value.int .i64 (n : Int)).toArray
def NwPost (v : Value) (w : World) (e : Ending) (w' : World) : Prop := e = .returned v ∧ Chg [] w w'
theorem table_ok (w : World) : Calls Tryz.prog 168 #[] w (NwPost (.agg szA) w) := by
  go_enter Tryz.func168, Tryz.ntmps168
  go_wp2_with fail
  exact ⟨rfl, _, results_cell_row (P := Tryz.prog) (fn := Tryz.f168) rfl _ _ _ _ _ _ _ rfl (heap_alloc_new w _) Tryz.underlying116 (by rfl) (by kernel_rfl), rfl, (Chg.refl [] w).alloc _⟩
theorem count_ok (w : World) : Calls Tryz.prog 109 #[] w (NwPost (.int .i64 16) w) := by
  go_enter Tryz.func109, Tryz.ntmps109
  go_wp2_with fail
  refine (table_ok w).mono ?_
  rintro e w1 ⟨rfl, c1⟩
  go_wp2_with fail
  go_ret
  exact ⟨rfl, c1⟩
theorem idx_sz (W : World) (q : Nat) (hq : q < 16) : (Instr.index 116 (.agg szA) (.int .i64 (q : Nat))).run Tryz.prog W = .ok (.int .i64 (szK q : Nat)) W := by
  have h : q = 0 ∨ q = 1 ∨ q = 2 ∨ q = 3 ∨ q = 4 ∨ q = 5 ∨ q = 6 ∨ q = 7 ∨ q = 8 ∨ q = 9 ∨ q = 10 ∨ q = 11 ∨ q = 12 ∨ q = 13 ∨ q = 14 ∨ q = 15 := by omega
  rcases h with rfl | rfl | rfl | rfl | rfl | rfl | rfl | rfl | rfl | rfl | rfl | rfl | rfl | rfl | rfl | rfl <;> (show _ = _; kernel_rfl)
theorem size_ok (w : World) (k : Int) : Calls Tryz.prog 215 #[.int .i64 k] w (NwPost (.int .i64 (szI k)) w) := by
  go_enter Tryz.func215, Tryz.ntmps215
  by_cases h0 : k < 0
  · have d0 : decide (k < 0) = true := decide_eq_true h0
    have HK := Lib.hid h0
    go_wp2_with fail
    go_ret
    exact ⟨by unfold szI; rw [if_neg (by unfold isK; have := HK.out; omega)]; rfl, Chg.refl _ _⟩
  · have d0 : decide (k < 0) = false := decide_eq_false h0
    go_wp2_with fail
    refine (count_ok w).mono ?_
    rintro e w1 ⟨rfl, c1⟩
    have HC := Lib.hid c1; clear c1
    by_cases h1 : 16 ≤ k
    · have d1 : decide (16 ≤ k) = true := decide_eq_true h1
      have HK := Lib.hid h1
      go_wp2_with fail
      go_ret
      exact ⟨by unfold szI; rw [if_neg (by unfold isK; have := HK.out; omega)]; rfl, HC.out⟩
    · have d1 : decide (16 ≤ k) = false := decide_eq_false h1
      obtain ⟨q, rfl⟩ : ∃ q : Nat, k = q := ⟨k.toNat, by omega⟩
      have hq : q < 16 := by omega
      have hx := fun W => idx_sz W q hq
      have HK := Lib.hid hq
      go_wp2_with fail
      refine (table_ok w1).mono ?_
      rintro e w2 ⟨rfl, c2⟩
      have HC2 := Lib.hid (HC.out.trans c2); clear c2
      go_wp2_with fail
      go_ret
      exact ⟨by unfold szI; rw [if_pos (by unfold isK; have := HK.out; omega)]; simp, HC2.out⟩
def fitP (s p : Nat) : Bool := decide (p * 64 % s * 8 ≤ p * 64 - p * 64 % s)
theorem fit_k : ∀ k : Fin 16, fitP (szK k) (pgK k) = true ∧ (∀ p : Fin 5, 1 ≤ p.val → p.val < pgK k → fitP (szK k) p = false) ∧ 1 ≤ szK k ∧ szK k ≤ 256 ∧ 1 ≤ pgK k ∧ pgK k ≤ 4 ∧ pgK k * 64 / szK k = slK k ∧ 1 ≤ slK k ∧ slK k ≤ 64 := by decide +kernel
theorem kF {k : Nat} (h : k < 16) : fitP (szK k) (pgK k) = true ∧ (∀ p, 1 ≤ p → p < pgK k → fitP (szK k) p = false) ∧ 1 ≤ szK k ∧ szK k ≤ 256 ∧ 1 ≤ pgK k ∧ pgK k ≤ 4 ∧ pgK k * 64 / szK k = slK k ∧ 1 ≤ slK k ∧ slK k ≤ 64 := by
  obtain ⟨h1, h2, h3, h4, h5, h6, h7⟩ := fit_k ⟨k, h⟩
  exact ⟨h1, fun p a b => h2 ⟨p, by simp only at h6; omega⟩ a b, h3, h4, h5, h6, h7⟩
theorem szI_nat {k : Nat} (h : k < 16) : szI (k : Nat) = szK k := by unfold szI; rw [if_pos (by unfold isK; omega)]; simp
def CpRel (w0 : World) (P : Nat) (gk : Nat) (idx : Value) (w : World) : Prop := ∃ p, gk + p = P + 1 ∧ 1 ≤ p ∧ p ≤ P ∧ idx = .int .i64 (p : Nat) ∧ Chg [] w0 w
def SzsPost (w : World) (e : Ending) (w' : World) : Prop := e = .returned (.slice (some ⟨w.heap.size, 0, none⟩) 16 16) ∧ Blk w' w.heap.size 3 szA ∧ Chg [] w w'
def OfSays (n q : Nat) : Prop := q < 16 ∧ n ≤ szK q ∧ ∀ j, j < q → szK j < n
def OfPost (n : Nat) (w : World) (e : Ending) (w' : World) : Prop := ∃ q, OfSays n q ∧ NwPost (.int .i64 (q : Nat)) w e w'
def RoRel (w0 : World) (n : Int) (gk : Nat) (idx : Value) (w : World) : Prop := ∃ k, gk + k = 17 ∧ k ≤ 15 ∧ idx = .int .i64 (k : Nat) ∧ (∀ j, j < k → (szK j : Int) < n) ∧ Chg [] w0 w
structure Sp where
  first : Nat
  k : Nat
  F : Nat → Bool
  M : Nat → Bool
  fr : Nat
structure SpB where
  g : Nat
  u : Nat
  ua : Nat
  m : Nat
  ma : Nat
def SpB.l (b : SpB) : List Nat := [b.g, b.u, b.ua, b.m, b.ma]
structure IsSp (w : World) (b : SpB) (s : Sp) : Prop where
  hb : Blk w b.g 270 #[.int .i64 s.first, .int .i64 s.k, .pointer (some ⟨b.u, 0, none⟩), .pointer (some ⟨b.m, 0, none⟩), .int .i64 s.fr]
  hu : IsSet w b.u b.ua (slK s.k) s.F
  hm : IsSet w b.m b.ma (slK s.k) s.M
  hk : s.k < 16
  f1 : 1 ≤ s.first
  f2 : s.first ≤ 262144
  fr : s.fr ≤ 64
  ne : b.u ≠ b.m
  ne2 : b.ua ≠ b.ma
section
variable {w w' : World} {b : SpB} {s : Sp}
theorem IsSp.chg {S : List Nat} (h : IsSp w b s) (c : Chg S w w') (hn : ∀ k ∈ b.l, k ∉ S) : IsSp w' b s :=
  ⟨c.blk h.hb (hn _ (by simp [SpB.l])), h.hu.chg c (hn _ (by simp [SpB.l])) (hn _ (by simp [SpB.l])), h.hm.chg c (hn _ (by simp [SpB.l])) (hn _ (by simp [SpB.l])), h.hk, h.f1, h.f2, h.fr, h.ne, h.ne2⟩
theorem IsSp.chg0 (h : IsSp w b s) (c : Chg [] w w') : IsSp w' b s := h.chg c (by simp)
theorem IsSp.lt (h : IsSp w b s) : ∀ k ∈ b.l, k < w.heap.size := fun k hk => by
  simp only [SpB.l, List.mem_cons, List.not_mem_nil, or_false] at hk
  rcases hk with rfl | rfl | rfl | rfl | rfl
  · exact h.hb.lt
  · exact h.hu.b.lt
  · exact h.hu.d.lt
  · exact h.hm.b.lt
  · exact h.hm.d.lt
end
/-! New -/
def SnPost (first k : Nat) (w : World) (e : Ending) (w' : World) : Prop := ∃ b : SpB, e = .returned (.tuple #[.pointer (some ⟨b.g, 0, none⟩), .int .i64 0]) ∧ IsSp w' b ⟨first, k, fun _ => false, fun _ => false, 0⟩ ∧ Chg [] w w' ∧ ∀ j ∈ b.l, w.heap.size ≤ j
/-! asks -/
section
variable (w : World) (b : SpB) (s : Sp) (I : IsSp w b s)
include I
theorem sbase_ok : Calls Tryz.prog 252 #[.pointer (some ⟨b.g, 0, none⟩)] w (QuPost (.int .i64 (s.first * 64 : Nat)) w) := by
  have b0 := I.hb.cellv 0 rfl
  have h2 := I.f2
  go_enter Tryz.func252, Tryz.ntmps252
  go_wp2_with fail
  go_ret
  exact ⟨by go_num, rfl⟩
theorem sslots_ok : Calls Tryz.prog 253 #[.pointer (some ⟨b.g, 0, none⟩)] w (QuPost (.int .i64 (slK s.k)) w) := by
  have b2 := I.hb.cellv 2 rfl
  go_enter Tryz.func253, Tryz.ntmps253
  go_wp2_with fail
  refine (blen_ok w _ _ _ _ I.hu).mono ?_
  rintro e w1 ⟨rfl, rfl⟩
  go_wp2_with fail
  go_ret
  exact ⟨rfl, rfl⟩
theorem smarked_ok (i : Int) : Calls Tryz.prog 98 #[.pointer (some ⟨b.g, 0, none⟩), .int .i64 i] w (QuPost (.bool (hasI s.M (slK s.k) i)) w) := by
  have b3 := I.hb.cellv 3 rfl
  go_enter Tryz.func98, Tryz.ntmps98
  go_wp2_with fail
  refine (bhas_ok w _ _ _ _ I.hm i).mono ?_
  rintro e w1 ⟨rfl, rfl⟩
  go_wp2_with fail
  go_ret
  exact ⟨rfl, rfl⟩
end
def Sp.addr (s : Sp) (i : Nat) : Nat := s.first * 64 + i * szK s.k
theorem slsz : ∀ k : Fin 16, ∀ i : Fin 65, i.val < slK k → (i.val + 1) * szK k ≤ pgK k * 64 := by decide +kernel
theorem sl_sz {k i : Nat} (hk : k < 16) (hi : i < slK k) : (i + 1) * szK k ≤ pgK k * 64 := by
  have := (kF hk).2.2.2.2.2.2.2.2
  exact slsz ⟨k, hk⟩ ⟨i, by omega⟩ hi
theorem size_k (w : World) (k : Nat) (h : k < 16) : Calls Tryz.prog 215 #[.int .i64 k] w (NwPost (.int .i64 (szK k)) w) := by
  have := size_ok w k
  rwa [szI_nat h] at this
section
variable (w : World) (b : SpB) (s : Sp) (I : IsSp w b s)
include I
/-! Full, Alloc -/
def SfPost (s : Sp) (w : World) (e : Ending) (w' : World) : Prop := ∃ r : Int, e = .returned (.bool (decide (r < 0))) ∧ NextSays (slK s.k) (notF s.F) s.fr r ∧ Chg [] w w'
def SaPost (b : SpB) (s : Sp) (black : Bool) (w : World) (e : Ending) (w' : World) : Prop :=
  (e = .returned (.tuple #[.int .i64 0, .bool false]) ∧ (∀ x, s.fr ≤ x → x < slK s.k → s.F x = true) ∧ Chg [] w w') ∨
  ∃ y : Nat, e = .returned (.tuple #[.int .i64 y, .bool true]) ∧ s.fr ≤ y ∧ y < slK s.k ∧ s.F y = false ∧ (∀ x, s.fr ≤ x → x < y → s.F x = true) ∧ IsSp w' b ⟨s.first, s.k, setF s.F y, if black then setF s.M y else s.M, y⟩ ∧ Chg b.l w w'
end
section
variable (w : World) (b : SpB) (s : Sp) (I : IsSp w b s)
include I
def SkPost (b : SpB) (s : Sp) (i : Nat) (w : World) (e : Ending) (w' : World) : Prop :=
  e = .returned (.bool (s.F i && !(s.M i))) ∧ IsSp w' b ⟨s.first, s.k, s.F, if s.F i then setF s.M i else s.M, s.fr⟩ ∧ Chg b.l w w'
def StPost (i : Nat) (w : World) (e : Ending) (w' : World) : Prop := e = .returned (.tuple #[.int .i64 i, .bool true]) ∧ Chg [] w w'
theorem sat_ok (i : Nat) (hi : i < slK s.k) : Calls Tryz.prog 160 #[.pointer (some ⟨b.g, 0, none⟩), .int .i64 (s.addr i : Nat)] w (StPost i w) := by
  have b1 : w.cell? ⟨b.g, 1, none⟩ = some (.int .i64 s.k) := I.hb.cellv 1 rfl
  have hlt := I.hb.lt
  have h2 := I.f2
  have h3 := (kF I.hk).2.2.2.1
  have h3' := (kF I.hk).2.2.1
  have h5 := (kF I.hk).2.2.2.2.2.2.2.2
  have h4 := sl_sz I.hk hi
  have h6 := (kF I.hk).2.2.2.2.2.1
  have hm : i * szK s.k ≤ 256 := by rw [Nat.add_mul] at h4; omega
  obtain ⟨q, hq⟩ : ∃ q, q = i * szK s.k := ⟨_, rfl⟩
  obtain ⟨a, ha⟩ : ∃ a, a = s.addr i := ⟨_, rfl⟩
  have haq : a = s.first * 64 + q := by rw [ha, hq]; rfl
  rw [← hq] at hm
  have e1 : ((q : Int)).tmod (szK s.k : Int) = 0 := by
    rw [hq, Int.natCast_mul]; exact Int.mul_tmod_left _ _
  have e2 : ((q : Int)).tdiv (szK s.k : Int) = (i : Int) := by
    rw [hq, Int.natCast_mul]; exact Int.mul_tdiv_cancel _ (by omega)
  have e2' : (q : Int) / (szK s.k : Int) = (i : Int) := by
    rw [hq, Int.natCast_mul]; exact Int.mul_ediv_cancel _ (by omega)
  have e3 : IntKind.i64.wrap ((a : Int) - ((s.first * 64 : Nat) : Int)) = (q : Int) := by rw [IntWalk.i64_in _ (by omega)]; omega
  have e4 : IntKind.i64.wrap ((a : Int) - (s.first : Int) * 64) = (q : Int) := by rw [IntWalk.i64_in _ (by omega)]; omega
  have hge : ¬ (a : Int) < ((s.first * 64 : Nat) : Int) := by omega
  have hge2 : ¬ (a : Int) < (s.first : Int) * 64 := by omega
  have hi' : (i : Int) < (slK s.k : Int) := by omega
  have hs0 : ¬ szK s.k = 0 := by omega
  have hs1 : ¬ (szK s.k : Int) = 0 := by omega
  rw [← ha]
  obtain ⟨z, hz⟩ : ∃ z, z = szK s.k := ⟨_, rfl⟩
  rw [← hz] at e1 e2 e2' hs0 hs1
  have HQ := Lib.hid (And.intro I hz); clear I h4 h6 hm haq ha hq h2 h3 h3' hz
  go_enter Tryz.func160, Tryz.ntmps160
  go_wp2_with fail
  refine (sbase_ok _ b s HQ.out.1).mono ?_
  rintro e w1 ⟨rfl, rfl⟩
  go_upto_region 3 with fail
  have k1 : Chg [] w1 w1.drew := (Chg.refl [] w1).drew
  go_region_held3 (fun w' => w'.cell? ⟨b.g, 1, none⟩ = some (.int .i64 s.k) ∧ Chg [] w1 w') (go_keep)
    (first | (go_at_call 252; refine (sbase_ok _ b s (HQ.out.1.chg0 (by assumption))).mono ?_; rintro e w' ⟨rfl, rfl⟩) | (go_at_call 215; refine (size_k _ s.k HQ.out.1.hk).mono ?_; rw [← HQ.out.2]; rintro e w' ⟨rfl, C⟩; have D := Chg.trans ‹Chg [] w1 _› C; have z1 := D.cellv hlt (by simp) b1))
  have H3 := Lib.hid ‹Chg [] w1 w'›
  obtain ⟨w2, rfl⟩ : ∃ w2 : World, w2 = w' := ⟨_, rfl⟩
  clear e3 e4 hge hge2 k1
  have ew : IntKind.i64.wrap (i : Int) = (i : Int) := IntWalk.i64_in _ (by omega)
  go_upto_region 4 with fail
  have k2 : Chg [] w2 w2.drew := (Chg.refl [] w2).drew
  go_region_held3 (fun w' => Chg [] w2 w') (first | assumption | exact Chg.refl [] w2 | exact Chg.drew (by assumption))
    (first | (go_at_call 253; refine (sslots_ok _ b s ((HQ.out.1.chg0 H3.out).chg0 (by assumption))).mono ?_; rintro e w' ⟨rfl, rfl⟩))
  have H4 := Lib.hid (H3.out.trans (by assumption : Chg [] w2 _))
  go_wp2_with fail
  go_ret2
  exact ⟨rfl, H4.out⟩
end
def SwPost (b : SpB) (s : Sp) (w : World) (e : Ending) (w' : World) : Prop :=
  ∃ v, e = .returned v ∧ OwnI 3 w' v (intsN ((allN s.F (slK s.k)).filter fun i => !(s.M i))) ∧ IsSp w' ⟨b.g, b.m, b.ma, b.u, b.ua⟩ ⟨s.first, s.k, s.M, fun _ => false, 0⟩ ∧ Chg b.l w w' ∧ ∀ j ∈ fpv v, w.heap.size ≤ j
def outTo (M : Nat → Bool) (al : List Nat) (i : Nat) : List Int := intsN ((al.take i).filter fun i => !(M i))
def SwRel1 (w0 : World) (M : Nat → Bool) (al : List Nat) (gk : Nat) (v idx : Value) (w : World) : Prop :=
  ∃ i, gk + i = al.length + 1 ∧ i ≤ al.length ∧ idx = .int .i64 (i : Nat) ∧ OwnI 3 w v (outTo M al i) ∧ Chg [] w0 w ∧ (∀ j ∈ fpv v, w0.heap.size ≤ j)
def clrTo (F : Nat → Bool) (al : List Nat) (i x : Nat) : Bool := F x && !((al.take i).contains x)
def SwRel2 (w0 : World) (u ua n : Nat) (F : Nat → Bool) (al : List Nat) (gk : Nat) (idx : Value) (w : World) : Prop :=
  ∃ i, gk + i = al.length + 1 ∧ i ≤ al.length ∧ idx = .int .i64 (i : Nat) ∧ IsSet w u ua n (clrTo F al i) ∧ Chg [u, ua] w0 w
open Go.RowKit Go.Maps
def heldE (v : Value) : Option (DataW Value × List MemPlace) := some (.held v, [])
structure VMap (P : Program) (K : TypeId) (w : World) (b n : Nat) (f : Int → Option Value) : Prop where
  ex : ∃ D : DataW Value, w.ownsMap P K heldE b n D ∧ IsMap D ∧ ∀ x, has D (.int .i64 x) = (f x).isSome ∧ ∀ v, f x = some v → ∀ zd, D.atKey (.int .i64 x) zd = .held v
structure VTy (P : Program) (T K E : TypeId) (z : Value) : Prop where
  m : P.underlying T = some (.map K E)
  i : P.underlying K = some (.int .i64)
  z : ∀ w, (zeroValue E).run P w = .ok z w
def putV (f : Int → Option Value) (x : Int) (v : Value) : Int → Option Value := fun y => if y = x then some v else f y
def delV (f : Int → Option Value) (x : Int) : Int → Option Value := fun y => if y = x then none else f y
def Wf64 (x : Int) : Prop := -9223372036854775808 ≤ x ∧ x ≤ 9223372036854775807
theorem Wf64.wf {x : Int} (h : Wf64 x) : (Lit.int .i64 x).wf = true := by
  have e1 : IntKind.i64.min = -9223372036854775808 := by decide
  have e2 : IntKind.i64.max = 9223372036854775807 := by decide
  simp only [Lit.wf, e1, e2, Bool.and_eq_true, decide_eq_true_eq]; exact h
section
variable {P : Program} {T K E : TypeId} {z : Value} {w w' : World} {b n : Nat} {f : Int → Option Value}
theorem VMap.made (w : World) (P : Program) (K : TypeId) : VMap P K (w.alloc (.map #[] 0)) w.heap.size 0 (fun _ => none) :=
  ⟨.map [], World.ownsMap_made _ _ _ _, isMap_empty, fun x => ⟨rfl, fun v h => by cases h⟩⟩
theorem VMap.lt (h : VMap P K w b n f) : b < w.heap.size := let ⟨_, h1, _⟩ := h.ex; h1.lt
theorem VMap.block (h : VMap P K w b n f) (hb : w'.heap[b]? = w.heap[b]?) : VMap P K w' b n f := by
  obtain ⟨D, ⟨es, cl, h1, h2⟩, r⟩ := h.ex
  exact ⟨D, ⟨es, cl, hb.trans h1, h2⟩, r⟩
theorem VMap.chg {S : List Nat} (h : VMap P K w b n f) (c : Chg S w w') (hn : b ∉ S) : VMap P K w' b n f := h.block (c.block b h.lt hn)
theorem VMap.look (h : VMap P K w b n f) (t : VTy P T K E z) {x : Int} (hx : Wf64 x) : (Instr.lookup T (.map (some b)) (.int .i64 x) false).run P w = .ok ((f x).getD z) w := by
  obtain ⟨D, ho, hm, hf⟩ := h.ex
  obtain ⟨c, ps, hrun, hat⟩ := ho.lookup (int_keyed t.i) t.m (t.z w) (zd := .held z) (zp := []) rfl (keyOf_int_mk t.i hx.wf)
  rw [hrun]
  obtain ⟨h1, h2⟩ := hf x
  have hc : DataW.held c = D.atKey (.int .i64 x) (.held z) := by simpa [heldE] using congrArg (Option.map Prod.fst) hat
  cases e : f x with
  | none =>
    rw [e] at h1
    rw [atKey_of_not_has h1] at hc
    injection hc with hc
    rw [hc]; rfl
  | some v =>
    rw [h2 v e] at hc
    injection hc with hc
    rw [hc]; rfl
theorem Chg.turned (h : w.mapTurned w' b) : Chg [b] w w' := (Chg.refl _ w).grown h.grown (fun k hk => by injection hk with hk; exact .inl (by simp [hk]))
theorem VMap.put (h : VMap P K w b n f) (t : VTy P T K E z) {x : Int} (hx : Wf64 x) (v : Value) (hn : n < maxLen) :
    ∃ w', (Instr.mapUpdate T (.map (some b)) (.int .i64 x) v).run P w = .ok () w' ∧ VMap P K w' b (n + 1) (putV f x v) ∧ Chg [b] w w' ∧ w'.heap.size = w.heap.size := by
  obtain ⟨D, ho, hm, hf⟩ := h.ex
  obtain ⟨w', hrun, r1, r2⟩ := ho.store (int_keyed t.i) t.m hn (keyOf_int_mk t.i hx.wf) (val := v) (d := .held v) (ps := []) rfl
  refine ⟨w', hrun, ⟨_, r1, hm.put _ _, fun y => ?_⟩, Chg.turned r2, ?_⟩
  · unfold putV
    by_cases e : y = x
    · subst e
      rw [if_pos rfl]
      exact ⟨has_put_same hm (show WideAt.IsKeyLit (Lit.int .i64 y) from trivial) _, fun u hu zd => by injection hu with hu; subst hu; exact atKey_put_same hm (show WideAt.IsKeyLit (Lit.int .i64 y) from trivial) _ _⟩
    · rw [if_neg e]
      have hne : (Lit.int .i64 y) ≠ (Lit.int .i64 x) := by simpa using e
      exact ⟨(has_put_other hne _).trans (hf y).1, fun u hu zd => (atKey_put_other hne _ _).trans ((hf y).2 u hu zd)⟩
  · obtain ⟨es, cl, es', cl', hb, rfl⟩ := r2
    exact Array.size_setIfInBounds
end
section
variable {P : Program} {T K E : TypeId} {z : Value} {w : World} {b n : Nat} {f : Int → Option Value}
  {ops : Array Oper} {rest : List Oper} {o : Oper} {a : Act} {Q : Exit → Act → World → Prop}
theorem wpList_vmap_look (hg : o.guard = none) (m x : Operand) (hop : o.op = Op.lookup T m x false) (h : VMap P K w b n f) (t : VTy P T K E z) (hm : a.eval m = .map (some b)) {k : Int} (hx : a.eval x = .int .i64 k) (hk : Wf64 k)
    (hK : wpList P ops Q rest (a.put o.dst ((f k).getD z)) w) : wpList P ops Q (o :: rest) a w := by
  refine wpList_plain hg fun K' hK' => ?_
  unfold Oper.wp
  simp [execOp, hop, hm, hx, h.look t hk, Result.andThen]
  exact hK' _ _ hK
theorem wpList_vmap_insert (hg : o.guard = none) (m x v : Operand) (hop : o.op = Op.insert T m x v) (h : VMap P K w b n f) (t : VTy P T K E z) (hm : a.eval m = .map (some b)) {k : Int} {u : Value} (hx : a.eval x = .int .i64 k) (hk : Wf64 k) (hv : a.eval v = u) (hn : n < maxLen)
    (hK : ∀ w', VMap P K w' b (n + 1) (putV f k u) → Chg [b] w w' → w'.heap.size = w.heap.size → wpList P ops Q rest (a.put o.dst undef) w') : wpList P ops Q (o :: rest) a w := by
  refine wpList_plain hg fun K' hK' => ?_
  obtain ⟨w', hrun, r1, r2, r3⟩ := h.put t hk u hn
  unfold Oper.wp
  simp [execOp, hop, hm, hx, hv, hrun, Result.andThen]
  exact hK' _ _ (hK w' r1 r2 r3)
end
structure R where
  f : Nat
  p : Nat
  deriving DecidableEq
def nxt1 (lo : Nat) (a : List R) : Nat := a.foldl (fun _ r => r.f + r.p + 1) lo
def OkF : Nat → List R → Prop
  | _, [] => True
  | lo, r :: t => lo ≤ r.f ∧ 1 ≤ r.p ∧ OkF (r.f + r.p + 1) t
def Fr (l : List R) (x : Nat) : Prop := ∃ r, r ∈ l ∧ r.f ≤ x ∧ x < r.f + r.p
def Okn (n : Nat) (l : List R) : Prop := OkF 1 l ∧ nxt1 1 l ≤ n + 1
/-! Alloc. -/
def Best (l : List R) (k : Nat) (r : R) : Prop := r ∈ l ∧ k ≤ r.p ∧ ∀ s ∈ l, k ≤ s.p → r.p < s.p ∨ (r.p = s.p ∧ r.f ≤ s.f)
def cutR (l : List R) (r : R) (k : Nat) : List R :=
  if r.p = k then l.erase r else l.map fun s => if s = r then ⟨r.f + k, r.p - k⟩ else s
/-! Free. -/
def joinR (l : List R) (i : Nat) : List R :=
  match l[i]?, l[i + 1]? with
  | some r, some s => if r.f + r.p = s.f then (l.set i ⟨r.f, r.p + s.p⟩).eraseIdx (i + 1) else l
  | _, _ => l
def plc (l : List R) (first : Nat) : Nat := (l.takeWhile fun r => decide (r.f < first)).length
def backR (l : List R) (first k : Nat) : List R :=
  let at_ := plc l first
  let l1 := joinR (l.insertIdx at_ ⟨first, k⟩) at_
  if at_ = 0 then l1 else joinR l1 (at_ - 1)
def someR (l : List R) (first k : Nat) : Prop :=
  (∃ r, 0 < plc l first ∧ l[plc l first - 1]? = some r ∧ first < r.f + r.p) ∨ (∃ r, l[plc l first]? = some r ∧ r.f < first + k)
def frontR (first k : Nat) : List R → List R
  | [] => [⟨first, k⟩]
  | s :: b' => if first + k = s.f then ⟨first, k + s.p⟩ :: b' else ⟨first, k⟩ :: s :: b'
/-! What is free, page by page. -/
def sumR (l : List R) : Nat := (l.map (·.p)).sum
def scanR (F : Nat → Bool) : Nat → Nat → List R
  | _, 0 => []
  | i, m + 1 => if F i then (match scanR F (i + 1) m with | [] => [⟨i, 1⟩] | r :: t => if r.f = i + 1 then ⟨i, r.p + 1⟩ :: t else ⟨i, 1⟩ :: r :: t) else scanR F (i + 1) m
def rc (l : List R) : List Value := l.flatMap fun r => [.int .i64 r.f, .int .i64 r.p]
def Sm (l : List R) : Prop := ∀ r ∈ l, r.f ≤ 1000000 ∧ r.p ≤ 1000000
structure IsBy (w : World) (h : Nat) (v : Value) (l : List R) : Prop where
  b : Blk w h 417 #[v]
  o : w.ownsRow 0 354 2 v l.length (rc l)
def lessR (a b : R) : Bool := decide (a.p < b.p) || (a.p == b.p && decide (a.f < b.f))
def swapR (l : List R) (i j : Nat) (a b : R) : List R := (l.set i b).set j a
def PushPost (h : Nat) (v : Value) (l : List R) (w : World) (e : Ending) (w' : World) : Prop :=
  e = .returned (.tuple #[]) ∧ ∃ v', IsBy w' h v' l ∧ Stp (h :: fpv v) (h :: fpv v') w w'
def leR (a b : R) : Prop := a.p < b.p ∨ (a.p = b.p ∧ a.f ≤ b.f)
structure UpI (l : List R) (x : R) (L : List R) (j : Nat) : Prop where
  len : L.length = l.length + 1
  lt : j < L.length
  at_ : L[j]? = some x
  ins : ∀ p s, p ≠ j → L[p]? = some s → s ∈ l
  has : ∀ s ∈ l, ∃ p, p ≠ j ∧ L[p]? = some s
  up : 0 < j → ∀ s0, L[0]? = some s0 → ∀ s ∈ l, leR s0 s
  top : j = 0 → ∀ s ∈ l, leR x s
structure Top (l : List R) (L : List R) : Prop where
  len : L.length = l.length
  mem : ∀ s, s ∈ L ↔ s ∈ l
  top : ∀ s0, L[0]? = some s0 → ∀ s ∈ l, leR s0 s
def UpRel (w0 : World) (h : Nat) (v : Value) (l : List R) (x : R) (gk : Nat) (v1 : Value) (w : World) : Prop :=
  ∃ (j : Nat) (L : List R), gk = j + 1 ∧ v1 = .int .i64 j ∧ UpI l x L j ∧ IsBy w h v L ∧ Chg (fpv v) w0 w
def UpPost (w0 : World) (h : Nat) (v : Value) (l : List R) (e : Ending) (w : World) : Prop :=
  e = .returned (.tuple #[]) ∧ ∃ L, Top l L ∧ IsBy w h v L ∧ Chg (fpv v) w0 w
def HpPost (h : Nat) (v : Value) (l : List R) (w : World) (e : Ending) (w' : World) : Prop :=
  e = .returned (.tuple #[]) ∧ ∃ v' L, Top l L ∧ IsBy w' h v' L ∧ Stp (h :: fpv v) (h :: fpv v') w w'
/-! Pop. -/
def PopPost (h : Nat) (v : Value) (x : R) (w : World) (e : Ending) (w' : World) : Prop :=
  e = .returned (.iface 354 (.agg #[.int .i64 x.f, .int .i64 x.p])) ∧ Chg (h :: fpv v) w w'
def DownRel (w0 : World) (h n m : Nat) (v : Value) (y : Option R) (gk : Nat) (v7 : Value) (w : World) : Prop :=
  ∃ (i : Nat) (L : List R), gk + i = n + 1 ∧ i ≤ n ∧ v7 = .int .i64 i ∧ L.length = m ∧ L[n]? = y ∧ IsBy w h v L ∧ Chg (fpv v) w0 w
def DownPost (w0 : World) (h n m : Nat) (v : Value) (y : Option R) (e : Ending) (w : World) : Prop :=
  ∃ q L, e = .returned (.bool q) ∧ L.length = m ∧ L[n]? = y ∧ IsBy w h v L ∧ Chg (fpv v) w0 w
def SwapPost (w : World) (v : Value) (l : List R) (i j : Nat) (e : Ending) (w' : World) : Prop :=
  e = .returned (.tuple #[]) ∧ ∃ L : List R, L.length = l.length ∧ (∀ n, i ≠ n → j ≠ n → L[n]? = l[n]?) ∧ w'.ownsRow 0 354 2 v L.length (rc L) ∧ Chg (fpv v) w w'
def Swap0Post (w : World) (v : Value) (n m : Nat) (x : R) (e : Ending) (w' : World) : Prop :=
  e = .returned (.tuple #[]) ∧ ∃ L : List R, L.length = m ∧ L[n]? = some x ∧ w'.ownsRow 0 354 2 v L.length (rc L) ∧ Chg (fpv v) w w'
section
variable {P : Program}
end
def IxPost (n : Nat) (w : World) (e : Ending) (w' : World) : Prop := e = .returned (.int .i64 n) ∧ Chg [] w w'
def IxRel (w0 : World) (h n : Nat) (r : R) (gk : Nat) (v : Value) (w : World) : Prop :=
  ∃ i : Nat, gk + i = n + 1 ∧ i ≤ n ∧ v = .int .i64 i ∧ Chg [] w0 w ∧ Blk w h 354 #[.int .i64 r.f, .int .i64 r.p]
def DelPost (v : Value) (l : List R) (w : World) (e : Ending) (w' : World) : Prop :=
  ∃ v', e = .returned v' ∧ w'.ownsRow 0 354 2 v' l.length (rc l) ∧ Chg (fpv v) w w' ∧ v'.ownBlock = v.ownBlock
def ClPost (l : List R) (w : World) (e : Ending) (w' : World) : Prop :=
  ∃ v', e = .returned v' ∧ w'.ownsRow 0 354 2 v' l.length (rc l) ∧ Chg [] w w' ∧ ∀ k, v'.ownBlock = some k → w.heap.size ≤ k
def InsPost (v : Value) (l : List R) (w : World) (e : Ending) (w' : World) : Prop :=
  ∃ v', e = .returned v' ∧ w'.ownsRow 0 354 2 v' l.length (rc l) ∧ Chg (fpv v) w w' ∧ (v'.ownBlock = v.ownBlock ∨ ∃ k, v'.ownBlock = some k ∧ w.heap.size ≤ k)
structure IsPg (w : World) (g n : Nat) (v : Value) (l : List R) : Prop where
  b : Blk w g 352 #[.int .i64 n, v]
  o : w.ownsRow 0 354 2 v l.length (rc l)
def PgPost (g n : Nat) (v : Value) (res : Value) (l : List R) (w : World) (e : Ending) (w' : World) : Prop :=
  e = .returned res ∧ ∃ v', IsPg w' g n v' l ∧ Stp (g :: fpv v) (g :: fpv v') w w'
def FrRel (w0 : World) (m : Nat) (gk : Nat) (v : Value) (w : World) : Prop := ∃ i : Nat, gk + i = m + 1 ∧ i ≤ m ∧ v = .int .i64 i ∧ w = w0
structure FrOk (L : List R) (M first k : Nat) : Prop where
  lt : ∀ i, i < M → ∃ s, L[i]? = some s ∧ s.f < first
  X : M = 0 ∨ ∃ m q, M = m + 1 ∧ L[m]? = some q ∧ q.f + q.p ≤ first
  Y : M = L.length ∨ ∃ c, L[M]? = some c ∧ first + k ≤ c.f
structure FrNo (L : List R) (M first k : Nat) : Prop where
  lt : ∀ i, i < M → ∃ s, L[i]? = some s ∧ s.f < first
  E : M = L.length ∨ ∃ c, L[M]? = some c ∧ first ≤ c.f
  S : (∃ m q, M = m + 1 ∧ L[m]? = some q ∧ first < q.f + q.p) ∨ ((M = 0 ∨ ∃ m q, M = m + 1 ∧ L[m]? = some q ∧ q.f + q.p ≤ first) ∧ ∃ c, L[M]? = some c ∧ first ≤ c.f ∧ c.f < first + k)
def FreeSays (n : Nat) (l : List R) (first k : Int) (c : Int) (l' : List R) : Prop :=
  ((k < 1 ∨ first < 1 ∨ (n : Int) - 1 < first ∨ (n : Int) - first < k) ∧ c = 1 ∧ l' = l) ∨
  (¬ (k < 1 ∨ first < 1 ∨ (n : Int) - 1 < first ∨ (n : Int) - first < k) ∧ ((someR l first.toNat k.toNat ∧ c = 5 ∧ l' = l) ∨ (¬ someR l first.toNat k.toNat ∧ c = 0 ∧ l' = backR l first.toNat k.toNat)))
def FreePost (g n : Nat) (v : Value) (l : List R) (first k : Int) (w : World) (e : Ending) (w' : World) : Prop :=
  ∃ c l', FreeSays n l first k c l' ∧ PgPost g n v (.int .i64 c) l' w e w'
def fl (k : Nat) (l : List R) : List R := l.filter fun r => decide (k ≤ r.p)
theorem IsPg.chg0 {w w' : World} {g n : Nat} {v : Value} {l : List R} (I : IsPg w g n v l) (c : Chg [] w w') : IsPg w' g n v l :=
  ⟨c.blk I.b (by simp), own_chg I.o c (fun _ _ => by simp)⟩
structure AlInv (w0 : World) (h : Nat) (v : Value) (l L : List R) (w : World) : Prop where
  I : IsBy w h v L
  T : Top l L
  c : Chg [] w0 w
  n : ∀ j ∈ h :: fpv v, w0.heap.size ≤ j
def AlRel (w0 : World) (h k : Nat) (l : List R) (gk : Nat) (idx : Value) (w : World) : Prop :=
  ∃ i hv L, gk + i = l.length + 1 ∧ i ≤ l.length ∧ idx = .int .i64 (i : Nat) ∧ AlInv w0 h hv (fl k (l.take i)) L w
def AllocSays (l : List R) (k : Int) (a c : Int) (l' : List R) : Prop :=
  (k < 1 ∧ a = 0 ∧ c = 1 ∧ l' = l) ∨ (1 ≤ k ∧ (∀ r ∈ l, (r.p : Int) < k) ∧ a = 0 ∧ c = 3 ∧ l' = l) ∨ (1 ≤ k ∧ ∃ r, Best l k.toNat r ∧ a = r.f ∧ c = 0 ∧ l' = cutR l r k.toNat)
def AllocPost (g n : Nat) (v : Value) (l : List R) (k : Int) (w : World) (e : Ending) (w' : World) : Prop :=
  ∃ a c l', AllocSays l k a c l' ∧ PgPost g n v (.tuple #[.int .i64 a, .int .i64 c]) l' w e w'
theorem wrap64_small {x : Int} (h1 : -9223372036854775808 ≤ x) (h2 : x ≤ 9223372036854775807) : wrap64 x = x := by unfold wrap64; omega
def newN (n : Int) : Nat := (min (max n 1) 262144).toNat
def newL (N : Nat) : List R := if 1 < N then [⟨1, N - 1⟩] else []
def NewPost (N : Nat) (w : World) (e : Ending) (w' : World) : Prop :=
  ∃ g v, e = .returned (.pointer (some ⟨g, 0, none⟩)) ∧ IsPg w' g N v (newL N) ∧ Chg [] w w' ∧ ∀ k ∈ g :: fpv v, w.heap.size ≤ k
theorem newL_ok (N : Nat) (h : 1 ≤ N) : Okn N (newL N) := by
  unfold newL
  split
  · refine ⟨⟨Nat.le_refl _, by show 1 ≤ N - 1; omega, trivial⟩, ?_⟩
    show 1 + (N - 1) + 1 ≤ N + 1
    omega
  · exact ⟨trivial, by show 1 ≤ N + 1; omega⟩
theorem new_one (w : World) : NewPost 1 w (.returned (.pointer (some ⟨w.heap.size, 0, none⟩))) (w.alloc (.cells #[.int .i64 1, .slice none 0 0] 352)) :=
  ⟨_, _, rfl, ⟨Blk.new _ _ _, rfl, .inl ⟨rfl, rfl⟩⟩, (Chg.refl _ w).alloc _, fun k hk => by
    have : k = w.heap.size := by simpa [fpv, Value.ownBlock] using hk
    omega⟩
theorem new_many (w : World) (N : Nat) (h : 1 < N) (x y : Int) (hx : x = N) (hy : y = (N : Int) - 1) : NewPost N w (.returned (.pointer (some ⟨w.heap.size, 0, none⟩)))
    ((w.alloc (.cells #[.int .i64 x, .slice (some ⟨w.heap.size + 1, 0, none⟩) 1 1] 352)).alloc (.cells #[.int .i64 1, .int .i64 y] 354)) := by
  subst hx hy
  have hsz : (w.alloc (.cells #[.int .i64 (N : Int), .slice (some ⟨w.heap.size + 1, 0, none⟩) 1 1] 352)).heap.size = w.heap.size + 1 := World.size_alloc ..
  have B0 := (Blk.new w 352 #[Value.int .i64 (N : Int), .slice (some ⟨w.heap.size + 1, 0, none⟩) 1 1]).alloc (.cells #[.int .i64 1, .int .i64 ((N : Int) - 1)] 354)
  have B1 := Blk.new (w.alloc (.cells #[.int .i64 (N : Int), .slice (some ⟨w.heap.size + 1, 0, none⟩) 1 1] 352)) 354 #[Value.int .i64 1, Value.int .i64 ((N : Int) - 1)]
  rw [hsz] at B1
  have e : newL N = [⟨1, N - 1⟩] := by unfold newL; rw [if_pos h]
  have e2 : ((N - 1 : Nat) : Int) = (N : Int) - 1 := by omega
  refine ⟨w.heap.size, .slice (some ⟨w.heap.size + 1, 0, none⟩) 1 1, rfl, ⟨B0, ?_⟩, ((Chg.refl [] w).alloc _).alloc _, fun k hk => ?_⟩
  · rw [e]
    refine own_mk (rest := []) ?_ rfl (Nat.le_refl _) (by decide) rfl
    have e3 : (rc [(⟨1, N - 1⟩ : R)] ++ []).toArray = #[Value.int .i64 1, Value.int .i64 ((N : Int) - 1)] := by rw [← e2]; rfl
    rw [e3]; exact B1
  · have : k = w.heap.size ∨ k = w.heap.size + 1 := by simpa [fpv, Value.ownBlock, eq_comm] using hk
    omega
theorem new_ok (w : World) (n : Int) : Calls Tryz.prog 167 #[.int .i64 n] w (NewPost (newN n) w) := by
  rcases Int.lt_or_le n 1 with h1 | h1
  · have e : newN n = 1 := by unfold newN; omega
    rw [e]
    clear e
    go_enter Tryz.func167, Tryz.ntmps167
    go_wp2_with fail
    go_ret
    exact new_one w
  · rcases Int.lt_or_le 262144 n with h2 | h2
    · have e : newN n = 262144 := by unfold newN; omega
      rw [e]
      have h3 : ¬ n < 1 := by omega
      clear e h1
      go_enter Tryz.func167, Tryz.ntmps167
      go_wp2_with fail
      go_ret
      exact new_many w 262144 (by omega) _ _ rfl rfl
    · have h3 : ¬ n < 1 := by omega
      have h4 : ¬ 262144 < n := by omega
      obtain ⟨N, rfl⟩ : ∃ N : Nat, n = N := ⟨n.toNat, by omega⟩
      have e : newN N = N := by unfold newN; omega
      rw [e]
      clear e
      rcases Nat.lt_or_ge 1 N with h5 | h5
      · have h6 : (1 : Int) < (N : Int) := by omega
        have h7 : IntKind.i64.wrap ((N : Int) - 1) = (N : Int) - 1 := by rw [IntKind.wrap_i64]; omega
        go_enter Tryz.func167, Tryz.ntmps167
        go_wp2_with fail
        all_goals
          go_ret
          exact new_many w N h5 _ _ rfl rfl
      · obtain rfl : N = 1 := by omega
        go_enter Tryz.func167, Tryz.ntmps167
        go_wp2_with fail
        all_goals
          go_ret
          exact new_one w
def LfPost (s : Nat) (w : World) (e : Ending) (w' : World) : Prop := e = .returned (.int .i64 s) ∧ Chg [] w w'
def LfRel (w0 : World) (v : Value) (l : List R) (gk : Nat) (s idx : Value) (w : World) : Prop :=
  ∃ i, gk + i = l.length + 1 ∧ i ≤ l.length ∧ s = .int .i64 (sumR (l.take i) : Nat) ∧ idx = .int .i64 (i : Nat) ∧ Chg [] w0 w ∧ w.ownsRow 0 354 2 v l.length (rc l)
def Keep (S : List Nat) (w w' : World) : Prop := ∀ k ∈ S, w'.heap[k]? = w.heap[k]?
structure PgI (w0 : World) (S : List Nat) (w : World) (g n : Nat) (l : List R) (v : Value) : Prop where
  I : IsPg w g n v l
  c : Chg [] w0 w
  n : ∀ k ∈ g :: fpv v, w0.heap.size ≤ k ∧ k ∉ S
  s : ∀ k ∈ S, k < w.heap.size
def AllocI (w0 : World) (S : List Nat) (g n : Nat) (l : List R) (k : Int) (w : World) (e : Ending) (w' : World) : Prop :=
  ∃ a c l' v', e = .returned (.tuple #[.int .i64 a, .int .i64 c]) ∧ AllocSays l k a c l' ∧ PgI w0 S w' g n l' v' ∧ Keep S w w'
def FreeI (w0 : World) (S : List Nat) (g n : Nat) (l : List R) (first k : Int) (w : World) (e : Ending) (w' : World) : Prop :=
  ∃ c l' v', e = .returned (.int .i64 c) ∧ FreeSays n l first k c l' ∧ PgI w0 S w' g n l' v' ∧ Keep S w w'
end Go.Proofs.YtcpljjacamibeaaGreatDoor
