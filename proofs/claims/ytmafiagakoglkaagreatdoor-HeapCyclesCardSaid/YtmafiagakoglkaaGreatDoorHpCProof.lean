/- For every input HeapCycles returns true, and each argument reads as it did; the row lists the library's table, tied to the program's text. No condition. -/
import Derived.Test.YtmafiagakoglkaaGreatDoorHpC
import Derived.Test.YtmafiagakoglkaaGreatDoorRow
import Derived.Test.YtmafiagakoglkaaGreatDoorZInts
import Derived.Test.YtmafiagakoglkaaGreatDoorCards
import Derived.Test.YtmafiagakoglkaaGreatDoorTie
import Derived.WalkKit
import Derived.ProofKit
import Derived.OpenShut
import Derived.Deep.DeepHandedRow
import Derived.Lib.LaidTab
namespace Go.Proofs.YtmafiagakoglkaaGreatDoor
open Go.ChangeShapes Go.WideShapes Go.ChangeAt Go.RowKit

theorem heapCycles_gTab : Tryz.prog.globalNamed "math/bits.deBruijn64tab" = some 0 := by kernel_rfl
theorem heapCycles_table {W : World} (h : laidMetH Tryz.prog Rows.heapCyclesRow.laid W) : Tab W := fun j hj => by
  have h1 := (Lib.tabIs_of_head (rest := []) (k := .u8) (zs := Lib.deBruijn64tab.map (fun n : Nat => (n : Int))) heapCycles_gTab (by kernel_rfl) Tryz.underlying170 Tryz.underlying5 (by kernel_rfl) (by kernel_rfl) h).cell heapCycles_gTab j hj
  rw [h1, List.getD_eq_getElem?_getD, List.getElem?_map, List.getD_eq_getElem?_getD]
  cases e : Lib.deBruijn64tab[j]? <;> rfl

set_option maxRecDepth 100000 in
theorem heapCycles_contract (H : Type) (enc : TypeId × Value → H) (W : World) (base : Nat) (args : Array Value) (ds gs : List (DataW H)) (before : List MemPlace)
    (hval0 : ∀ (j : Nat) t v, Tryz.f6.params[j]? = some t → args[j]? = some v → Value.okWide Tryz.prog W .any base t v)
    (hW : DataW.Whole enc Tryz.prog Tryz.f6.params.toList Rows.heapCyclesSpec.vars false W args.toList ds gs before) (hL : laidMetH Tryz.prog Rows.heapCyclesRow.laid W) :
    Calls Tryz.prog 6 args W fun e W' => ∃ v, e = .returned v ∧ Rows.heapCyclesSpec.post enc Tryz.prog Tryz.f6 false true false false W args v W' := by
  have hval : ∀ (j : Nat) t v, Tryz.f6.params[j]? = some t → args[j]? = some v → Value.okWide Tryz.prog W .any base t v := hval0
  have hW' := hW
  have hT := heapCycles_table hL
  obtain ⟨p, q, hA0, hV, rfl, hfz, hnd⟩ := hW
  have hA : DataW.TrodAll enc Tryz.prog W 0 (fun _ => true) true Tryz.f6.params.toList args.toList ds p := hA0
  rw [Tryz.params6] at hA hval
  obtain ⟨v0, v1, d0, d1, p0, p1, rfl, rfl, rfl, h0, h1⟩ := trodAll_two hA
  obtain ⟨A0, n0, c0, rfl⟩ := okWide_slice Tryz.underlying22 (hval 0 22 v0 rfl rfl)
  obtain ⟨xs0, rfl, hm0, hx0⟩ := ints_of_trod h0
  obtain ⟨a1, rfl, rfl, rfl, w1⟩ := open_int Tryz.underlying3 (hval 1 3 v1 rfl rfl) h1
  refine (cycles9_any A0 c0 xs0 a1 W hT hx0 hm0).mono fun e W' ⟨he, hg⟩ => ?_
  subst he
  exact ⟨_, rfl, law_post (P := Tryz.prog) law_laidOut Tryz.underlying4 rfl (fun t ht => by
    have h : t = 22 ∨ t = 3 := by rw [Tryz.params6] at ht; simpa using ht
    rcases h with rfl | rfl <;> exact ⟨by kernel_rfl, of_decide_eq_true (by kernel_rfl)⟩) rfl rfl hW' (hg.below (Nat.le_refl _) (by simp))⟩

/-- A world for the witness: the settled one, the table holding what its initialiser lays. -/
noncomputable def heapCycles_world (os : Os) : World :=
  { World.holding Tryz.prog os ⟨#[], #[], []⟩ with heap := (World.holding Tryz.prog os ⟨#[], #[], []⟩).heap.modify 0 fun
      | .cells _ t frozen => .cells (Lib.deBruijn64tab.map (fun n : Nat => Value.int .u8 (n : Int))).toArray t frozen
      | o => o }
theorem heapCycles_met (os : Os) : laidMet Tryz.prog Rows.heapCyclesRow.laid ((heapCycles_world os).forCall (fun _ _ => 0) ⟨#[], #[.slice none 0 0, .int .i64 0], []⟩).memory :=
  laidMet_of_run' 8 (by kernel_rfl) (by kernel_rfl)
theorem heapCycles_reads (os : Os) {H : Type} (enc : TypeId × Value → H) : ∃ places, DataW.whole enc Tryz.prog ((heapCycles_world os).forCall (fun _ _ => 0) ⟨#[], #[.slice none 0 0, .int .i64 0], []⟩).memory Tryz.f6.params.toList Rows.heapCyclesSpec.vars false (#[.slice none 0 0, .int .i64 0] : Array Value).toList 8 = some ([.nil, .lit (.int .i64 0)], [], places) :=
  ⟨[], by kernel_rfl⟩

set_option maxRecDepth 100000 in
theorem heapCycles_lifted (os : Os) (started : os.Started) (H : Type) (enc : TypeId × Value → H) (F : Stop.Interp) :
    ReturnsInHanded {} Tryz.checked os 6 .any ((OpenSpec.ofChange Rows.heapCyclesSpec).preRow enc Tryz.prog Tryz.f6 Rows.heapCyclesRow.domain false Rows.heapCyclesRow.laid) (((OpenSpec.ofChange Rows.heapCyclesSpec).at F).post enc Tryz.prog Tryz.f6 false true false false) := by
  obtain ⟨places, hx⟩ := heapCycles_reads os enc
  refine returnsInHanded_of_row (C := Tryz.checked) (s := OpenSpec.ofChange Rows.heapCyclesSpec) law_own started (by kernel_rfl) Tryz.func6
    (witness_row_at (enc := enc) (C := Tryz.checked) false (heapCycles_world os) #[.slice none 0 0, .int .i64 0] rfl (by kernel_rfl) (by kernel_rfl) (by kernel_rfl)
      (OpenSpec.preRow_of_cond 8 hx (by kernel_rfl) (fun k hk => by cases hk) (by kernel_rfl) (heapCycles_met os))) ?_
  intro W base args ds gs before hval hW _ _ _ hL _ _
  exact heapCycles_contract H enc W base args ds gs before hval hW hL

theorem heapCycles_said : Rows.HeapCyclesSaid :=
  OpenClaim.holds_of_cond 6 Tryz.f6 rfl rfl rfl rfl rfl rfl rfl ⟨rfl, rfl, rfl, rfl, rfl⟩ rfl rfl rfl rfl rfl (by kernel_rfl) Tryz.func6 (by kernel_rfl)
    (of_decide_eq_true (by kernel_rfl)) (by unfold Func.isWrapper; first | (rw [if_pos (by decide +kernel)]; kernel_rfl) | (rw [if_neg (by decide +kernel)]; exact ⟨rfl, rfl⟩))
    (fun os started H enc _ F => by rw [OpenClaim.pre_eq_preRow]; exact heapCycles_lifted os started H enc F)

theorem heapCycles_plain (f : FuncId) (fn : Func) (hf : Tryz.pinned.checked.prog.funcNamed "treadmill/treadmilllaw9.HeapCycles" = some f) (hfn : Tryz.pinned.checked.prog.funcs[f]? = some fn) :
    true = Tryz.pinned.checked.prog.looks [] ∧ ∀ (j : Nat) t, fn.params[j]? = some t → Tryz.pinned.checked.prog.wantsStandIn t = false := by
  obtain rfl : f = 6 := Option.some.inj ((show Tryz.prog.funcNamed "treadmill/treadmilllaw9.HeapCycles" = some 6 by kernel_rfl).symm.trans hf) |>.symm
  obtain rfl : fn = Tryz.f6 := (Option.some.inj (Tryz.func6.symm.trans hfn)).symm
  refine ⟨by kernel_rfl, fun j t ht => ?_⟩
  rw [Tryz.params6] at ht
  have h : t = 22 ∨ t = 3 := by have h1 := Array.mem_of_getElem? ht; simpa using h1
  rcases h with rfl | rfl
  · exact (show Tryz.prog.wantsStandIn 22 = false by kernel_rfl)
  · exact (show Tryz.prog.wantsStandIn 3 = false by kernel_rfl)

theorem heapCycles_card : Rows.HeapCyclesCardSaid :=
  Claim7.holds_tied_plain_at .later [] _ _ _ _ heapCycles_said (fun _ h => by cases h) (by kernel_rfl) (fun _ h => by cases h) heapCycles_row_tie rfl ⟨rfl, rfl⟩ (by kernel_rfl) rfl heapCycles_plain (by kernel_rfl)
#print axioms heapCycles_card
end Go.Proofs.YtmafiagakoglkaaGreatDoor
