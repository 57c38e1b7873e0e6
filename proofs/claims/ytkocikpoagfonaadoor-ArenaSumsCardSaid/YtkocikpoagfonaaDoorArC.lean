/- ArenaComes: plain parts, and the walk. -/
import Derived.Test.YtkocikpoagfonaaDoorArT
import Derived.Test.YtkocikpoagfonaaDoorZI
import Derived.Test.YtkocikpoagfonaaDoorZCls
namespace Go.Proofs.YtkocikpoagfonaaDoor
open Go.RowKit

theorem mod_n (x : Int) (m : Nat) (hm : 1 ≤ m) (hm2 : m ≤ 1000000) : ∃ n : Nat, n < m ∧ wrap64 ((IntKind.u64.wrap x).tmod m) = n := by
  have h0 : 0 ≤ IntKind.u64.wrap x := by rw [IntKind.wrap_u64]; omega
  rw [Int.tmod_eq_emod_of_nonneg h0]
  have h1 := Int.emod_nonneg (IntKind.u64.wrap x) (b := (m : Int)) (by omega)
  have h2 := Int.emod_lt_of_pos (IntKind.u64.wrap x) (b := (m : Int)) (by omega)
  obtain ⟨n, hn⟩ : ∃ n : Nat, (n : Int) = (IntKind.u64.wrap x) % (m : Int) := ⟨((IntKind.u64.wrap x) % (m : Int)).toNat, by omega⟩
  exact ⟨n, by omega, by unfold wrap64; omega⟩
theorem spn_addr (f q : Nat) : (spn f q).addr 0 = f * 64 := by unfold Sp.addr spn; simp
section
variable {a : Ar}
theorem obI_nat (x : Nat) : obI a (x : Nat) = a.ob x := by unfold obI; rw [if_pos (by omega), Int.toNat_natCast]
theorem slotC_in {x : Int} {xs : List Int} {i : Int} (ho : obI a x = some xs) (h0 : 0 ≤ i) (h1 : i < xs.length) : slotC a x i = 0 := by unfold slotC; rw [ho]; exact if_pos ⟨h0, h1⟩
theorem slotC_out {x : Int} {xs : List Int} {i : Int} (ho : obI a x = some xs) (h : ¬ (0 ≤ i ∧ i < xs.length)) : slotC a x i = 2 := by unfold slotC; rw [ho]; exact if_neg h
theorem slotC_none {x i : Int} (ho : obI a x = none) : slotC a x i = 4 := by unfold slotC; rw [ho]
theorem loadV_in {x : Int} {xs : List Int} {i : Int} (ho : obI a x = some xs) (h0 : 0 ≤ i) (h1 : i < xs.length) : loadV a x i = xs.getD i.toNat 0 := by unfold loadV; rw [ho]; exact if_pos ⟨h0, h1⟩
theorem loadV_out {x : Int} {xs : List Int} {i : Int} (ho : obI a x = some xs) (h : ¬ (0 ≤ i ∧ i < xs.length)) : loadV a x i = 0 := by unfold loadV; rw [ho]; exact if_neg h
theorem loadV_none {x i : Int} (ho : obI a x = none) : loadV a x i = 0 := by unfold loadV; rw [ho]
theorem putA_sp (x i v : Int) : (putA a x i v).sp = a.sp := by unfold putA; split <;> rfl
theorem putA_l (x i v : Int) : (putA a x i v).l = a.l := by unfold putA; split <;> rfl
theorem putA_live (x i v : Int) : (putA a x i v).live = a.live := by unfold putA; split <;> rfl
theorem putA_ob {x : Nat} {xs : List Int} {i : Nat} (v : Int) (ho : a.ob x = some xs) (h1 : i < xs.length) : (putA a (x : Nat) (i : Nat) v).ob = updF a.ob x (some (xs.set i v)) := by
  unfold putA
  rw [if_pos (slotC_in (by rw [obI_nat]; exact ho) (by omega) (by omega))]
  show updF a.ob (Int.toNat (x : Nat)) ((a.ob (Int.toNat (x : Nat))).map fun xs => xs.set (Int.toNat (i : Nat)) v) = _
  rw [Int.toNat_natCast, Int.toNat_natCast, ho]
  rfl
theorem putA_no {x i : Int} (v : Int) (h : slotC a x i ≠ 0) : putA a x i v = a := by unfold putA; rw [if_neg h]
theorem putA_some {x i v : Int} {y : Nat} : ((putA a x i v).ob y).isSome = (a.ob y).isSome := by
  unfold putA
  split
  · show (updF a.ob x.toNat _ y).isSome = _
    by_cases e : y = x.toNat
    · subst e
      rw [updF_same]
      cases a.ob x.toNat <;> rfl
    · rw [updF_other _ _ e]
  · rfl
end
theorem cnt_pos {F : Nat → Bool} {i : Nat} : ∀ {n : Nat}, i < n → F i = true → 0 < cntF F n
  | 0, h, _ => by omega
  | n + 1, h, hF => by
    rw [cntF]
    by_cases e : i = n
    · subst e; rw [if_pos hF]; omega
    · have := cnt_pos (n := n) (by omega) hF
      omega
theorem filt_one {p : Nat → Bool} (h0 : p 0 = true) (h : ∀ i, 0 < i → p i = false) : ∀ n, 1 ≤ n → (List.range n).filter p = [0]
  | 0, hn => by omega
  | 1, _ => by simp [List.range_succ, h0]
  | n + 2, _ => by
    rw [List.range_succ, List.filter_append, filt_one h0 h (n + 1) (by omega)]
    simp [h (n + 1) (by omega)]
def oneF : Nat → Bool := fun i => decide (i = 0)
def s2 (q : Nat) : Sp := allocS (spn 1 q) 0 true
def s3 (q : Nat) : Sp := sweptS (s2 q)
def s4 (q : Nat) : Sp := sweptS (s3 q)
def s5 (q : Nat) : Sp := allocS (s4 q) 0 false
theorem s2_F (q i : Nat) : (s2 q).F i = decide (i = 0) := by show setF (fun _ => false) 0 i = _; unfold setF; simp
theorem s2_M (q i : Nat) : (s2 q).M i = decide (i = 0) := by show setF (fun _ => false) 0 i = _; unfold setF; simp
theorem s2_swept (q : Nat) : sweptL (s2 q) = [] := by
  unfold sweptL
  rw [List.filter_eq_nil_iff]
  intro i hi
  have := (List.mem_filter.1 hi).2
  rw [s2_F] at this
  rw [s2_M, this]; decide
theorem s3_swept {q : Nat} (hq : q < 16) : sweptL (s3 q) = [0] := by
  unfold sweptL
  have e1 : ∀ i, (s3 q).F i = decide (i = 0) := fun i => s2_M q i
  have e2 : allN (s3 q).F (slK (s3 q).k) = [0] := filt_one (by rw [e1]; rfl) (fun i hi => by rw [e1]; exact decide_eq_false (by omega)) _ (kF hq).2.2.2.2.2.2.2.1
  rw [e2]; rfl
theorem s5_M (q i : Nat) : (s5 q).M i = false := rfl
theorem s5_F (q : Nat) : (s5 q).F 0 = true := by show setF (s4 q).F 0 0 = true; unfold setF; simp
theorem addr64 {s : Sp} (h : s.first = 1) : s.addr 0 = 64 := by unfold Sp.addr; rw [h]; omega
end Go.Proofs.YtkocikpoagfonaaDoor
