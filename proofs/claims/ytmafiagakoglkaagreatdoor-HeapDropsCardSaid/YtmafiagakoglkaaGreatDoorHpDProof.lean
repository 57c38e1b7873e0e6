/- For every input HeapDrops returns true, and each argument reads as it did; the row lists the library's table, tied to the program's text. No condition. -/
import Derived.Test.YtmafiagakoglkaaGreatDoorHpD
import Derived.Test.YtmafiagakoglkaaGreatDoorRow
import Derived.Test.YtmafiagakoglkaaGreatDoorZInts
import Derived.Test.YtmafiagakoglkaaGreatDoorCards
import Derived.Test.YtmafiagakoglkaaGreatDoorTie
import Derived.WalkKit
import Derived.ProofKit
import Derived.OpenShut
import Derived.Deep.DeepHandedRow
import Derived.Lib.LaidTab
namespace Go.Proofs.YtmafiagakoglkaaGreatDoor
open Go.ChangeShapes Go.WideShapes Go.ChangeAt Go.RowKit

theorem heapDrops_gTab : Tryz.prog.globalNamed "math/bits.deBruijn64tab" = some 0 := by kernel_rfl
theorem heapDrops_table {W : World} (h : laidMetH Tryz.prog Rows.heapDropsRow.laid W) : Tab W := fun j hj => by
  have h1 := (Lib.tabIs_of_head (rest := []) (k := .u8) (zs := Lib.deBruijn64tab.map (fun n : Nat => (n : Int))) heapDrops_gTab (by kernel_rfl) Tryz.underlying170 Tryz.underlying5 (by kernel_rfl) (by kernel_rfl) h).cell heapDrops_gTab j hj
  rw [h1, List.getD_eq_getElem?_getD, List.getElem?_map, List.getD_eq_getElem?_getD]
  cases e : Lib.deBruijn64tab[j]? <;> rfl

set_option maxRecDepth 100000 in
theorem heapDrops_contract (H : Type) (enc : TypeId × Value → H) (W : World) (base : Nat) (args : Array Value) (ds gs : List (DataW H)) (before : List MemPlace)
    (hval0 : ∀ (j : Nat) t v, Tryz.f5.params[j]? = some t → args[j]? = some v → Value.okWide Tryz.prog W .any base t v)
    (hW : DataW.Whole enc Tryz.prog Tryz.f5.params.toList Rows.heapDropsSpec.vars false W args.toList ds gs before) (hL : laidMetH Tryz.prog Rows.heapDropsRow.laid W) :
    Calls Tryz.prog 5 args W fun e W' => ∃ v, e = .returned v ∧ Rows.heapDropsSpec.post enc Tryz.prog Tryz.f5 false true false false W args v W' := by
  have hval : ∀ (j : Nat) t v, Tryz.f5.params[j]? = some t → args[j]? = some v → Value.okWide Tryz.prog W .any base t v := hval0
  have hW' := hW
  have hT := heapDrops_table hL
  obtain ⟨p, q, hA0, hV, rfl, hfz, hnd⟩ := hW
  have hA : DataW.TrodAll enc Tryz.prog W 0 (fun _ => true) true Tryz.f5.params.toList args.toList ds p := hA0
  rw [Tryz.params5] at hA hval
  obtain ⟨v0, d0, rfl, rfl, h0⟩ := trodAll_one hA
  obtain ⟨A0, n0, c0, rfl⟩ := okWide_slice Tryz.underlying22 (hval 0 22 v0 rfl rfl)
  obtain ⟨xs0, rfl, hm0, hx0⟩ := ints_of_trod h0
  refine (drops9_any A0 c0 xs0 W hT hx0 hm0).mono fun e W' ⟨he, hg⟩ => ?_
  subst he
  exact ⟨_, rfl, law_post (P := Tryz.prog) law_laidOut Tryz.underlying4 rfl (fun t ht => by
    have h : t = 22 := by rw [Tryz.params5] at ht; simpa using ht
    subst h; exact ⟨by kernel_rfl, of_decide_eq_true (by kernel_rfl)⟩) rfl rfl hW' (hg.below (Nat.le_refl _) (by simp))⟩

/-- A world for the witness: the settled one, the table holding what its initialiser lays. -/
noncomputable def heapDrops_world (os : Os) : World :=
  { World.holding Tryz.prog os ⟨#[], #[], []⟩ with heap := (World.holding Tryz.prog os ⟨#[], #[], []⟩).heap.modify 0 fun
      | .cells _ t frozen => .cells (Lib.deBruijn64tab.map (fun n : Nat => Value.int .u8 (n : Int))).toArray t frozen
      | o => o }
theorem heapDrops_met (os : Os) : laidMet Tryz.prog Rows.heapDropsRow.laid ((heapDrops_world os).forCall (fun _ _ => 0) ⟨#[], #[.slice none 0 0], []⟩).memory :=
  laidMet_of_run' 8 (by kernel_rfl) (by kernel_rfl)
theorem heapDrops_reads (os : Os) {H : Type} (enc : TypeId × Value → H) : ∃ places, DataW.whole enc Tryz.prog ((heapDrops_world os).forCall (fun _ _ => 0) ⟨#[], #[.slice none 0 0], []⟩).memory Tryz.f5.params.toList Rows.heapDropsSpec.vars false (#[.slice none 0 0] : Array Value).toList 8 = some ([.nil], [], places) :=
  ⟨[], by kernel_rfl⟩

set_option maxRecDepth 100000 in
theorem heapDrops_lifted (os : Os) (started : os.Started) (H : Type) (enc : TypeId × Value → H) (F : Stop.Interp) :
    ReturnsInHanded {} Tryz.checked os 5 .any ((OpenSpec.ofChange Rows.heapDropsSpec).preRow enc Tryz.prog Tryz.f5 Rows.heapDropsRow.domain false Rows.heapDropsRow.laid) (((OpenSpec.ofChange Rows.heapDropsSpec).at F).post enc Tryz.prog Tryz.f5 false true false false) := by
  obtain ⟨places, hx⟩ := heapDrops_reads os enc
  refine returnsInHanded_of_row (C := Tryz.checked) (s := OpenSpec.ofChange Rows.heapDropsSpec) law_own started (by kernel_rfl) Tryz.func5
    (witness_row_at (enc := enc) (C := Tryz.checked) false (heapDrops_world os) #[.slice none 0 0] rfl (by kernel_rfl) (by kernel_rfl) (by kernel_rfl)
      (OpenSpec.preRow_of_cond 8 hx (by kernel_rfl) (fun k hk => by cases hk) (by kernel_rfl) (heapDrops_met os))) ?_
  intro W base args ds gs before hval hW _ _ _ hL _ _
  exact heapDrops_contract H enc W base args ds gs before hval hW hL

theorem heapDrops_said : Rows.HeapDropsSaid :=
  OpenClaim.holds_of_cond 5 Tryz.f5 rfl rfl rfl rfl rfl rfl rfl ⟨rfl, rfl, rfl, rfl, rfl⟩ rfl rfl rfl rfl rfl (by kernel_rfl) Tryz.func5 (by kernel_rfl)
    (of_decide_eq_true (by kernel_rfl)) (by unfold Func.isWrapper; first | (rw [if_pos (by decide +kernel)]; kernel_rfl) | (rw [if_neg (by decide +kernel)]; exact ⟨rfl, rfl⟩))
    (fun os started H enc _ F => by rw [OpenClaim.pre_eq_preRow]; exact heapDrops_lifted os started H enc F)

theorem heapDrops_plain (f : FuncId) (fn : Func) (hf : Tryz.pinned.checked.prog.funcNamed "treadmill/treadmilllaw9.HeapDrops" = some f) (hfn : Tryz.pinned.checked.prog.funcs[f]? = some fn) :
    true = Tryz.pinned.checked.prog.looks [] ∧ ∀ (j : Nat) t, fn.params[j]? = some t → Tryz.pinned.checked.prog.wantsStandIn t = false := by
  obtain rfl : f = 5 := Option.some.inj ((show Tryz.prog.funcNamed "treadmill/treadmilllaw9.HeapDrops" = some 5 by kernel_rfl).symm.trans hf) |>.symm
  obtain rfl : fn = Tryz.f5 := (Option.some.inj (Tryz.func5.symm.trans hfn)).symm
  refine ⟨by kernel_rfl, fun j t ht => ?_⟩
  rw [Tryz.params5] at ht
  have h : t = 22 := by have h1 := Array.mem_of_getElem? ht; simpa using h1
  subst h; exact (show Tryz.prog.wantsStandIn 22 = false by kernel_rfl)

theorem heapDrops_card : Rows.HeapDropsCardSaid :=
  Claim7.holds_tied_plain_at .later [] _ _ _ _ heapDrops_said (fun _ h => by cases h) (by kernel_rfl) (fun _ h => by cases h) heapDrops_row_tie rfl ⟨rfl, rfl⟩ (by kernel_rfl) rfl heapDrops_plain (by kernel_rfl)
#print axioms heapDrops_card
end Go.Proofs.YtmafiagakoglkaaGreatDoor
