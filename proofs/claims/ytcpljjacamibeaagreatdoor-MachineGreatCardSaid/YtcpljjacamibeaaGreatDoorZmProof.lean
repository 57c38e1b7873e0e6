/- For every input MachineGreat returns true, and each argument reads as it did; the row lists the library's table, tied to the program's text. No condition. -/
import Derived.Test.YtcpljjacamibeaaGreatDoorZmJ
import Derived.Test.YtcpljjacamibeaaGreatDoorCards
import Derived.Test.YtcpljjacamibeaaGreatDoorTie
import Derived.WalkKit
import Derived.ProofKit
import Derived.OpenShut
import Derived.Deep.DeepHandedRow
import Derived.Lib.LaidTab
namespace Go.Proofs.YtcpljjacamibeaaGreatDoor
set_option maxHeartbeats 16000000
set_option maxRecDepth 100000
open Go.ChangeShapes Go.WideShapes Go.ChangeAt Go.RowKit
theorem machineGreat_gTab : Tryz.prog.globalNamed "math/bits.deBruijn64tab" = some 3 := by kernel_rfl
theorem machineGreat_table {W : World} (h : laidMetH Tryz.prog Rows.machineGreatRow.laid W) : Tab W := fun j hj => by
  have h1 := (Lib.tabIs_of_head (rest := []) (k := .u8) (zs := Lib.deBruijn64tab.map (fun n : Nat => (n : Int))) machineGreat_gTab (by kernel_rfl) Tryz.underlying416 Tryz.underlying5 (by kernel_rfl) (by kernel_rfl) h).cell machineGreat_gTab j hj
  rw [h1, List.getD_eq_getElem?_getD, List.getElem?_map, List.getD_eq_getElem?_getD]
  cases e : Lib.deBruijn64tab[j]? <;> rfl
theorem machineGreat_contract (H : Type) (enc : TypeId × Value → H) (W : World) (base : Nat) (args : Array Value) (ds gs : List (DataW H)) (before : List MemPlace)
    (hval0 : ∀ (j : Nat) t v, Tryz.f4.params[j]? = some t → args[j]? = some v → Value.okWide Tryz.prog W .any base t v)
    (hW : DataW.Whole enc Tryz.prog Tryz.f4.params.toList Rows.machineGreatSpec.vars false W args.toList ds gs before) (hL : laidMetH Tryz.prog Rows.machineGreatRow.laid W) :
    Calls Tryz.prog 4 args W fun e W' => ∃ v, e = .returned v ∧ Rows.machineGreatSpec.post enc Tryz.prog Tryz.f4 false true false false W args v W' := by
  have hval : ∀ (j : Nat) t v, Tryz.f4.params[j]? = some t → args[j]? = some v → Value.okWide Tryz.prog W .any base t v := hval0
  have hW' := hW
  have hT := machineGreat_table hL
  obtain ⟨p, q, hA0, hV, rfl, hfz, hnd⟩ := hW
  have hA : DataW.TrodAll enc Tryz.prog W 0 (fun _ => true) true Tryz.f4.params.toList args.toList ds p := hA0
  rw [Tryz.params4] at hA hval
  obtain ⟨v0, v1, d0, d1, p0, p1, rfl, rfl, rfl, h0, h1⟩ := trodAll_two hA
  obtain ⟨q0, u0, b0, k0, rfl⟩ := open_config (hval 0 24 v0 rfl rfl) h0
  obtain ⟨a1, rfl, rfl, rfl, w1⟩ := open_int Tryz.underlying3 (hval 1 3 v1 rfl rfl) h1
  refine (great_all q0 u0 b0 k0 a1 W hT).mono fun e W' ⟨he, hg⟩ => ?_
  subst he
  exact ⟨_, rfl, law_post (P := Tryz.prog) law_laidOut Tryz.underlying4 rfl (fun t ht => by
    have h : t = 24 ∨ t = 3 := by rw [Tryz.params4] at ht; simpa using ht
    rcases h with rfl | rfl <;> exact ⟨by kernel_rfl, of_decide_eq_true (by kernel_rfl)⟩) rfl rfl hW' (hg.below (Nat.le_refl _) (by simp))⟩
noncomputable def machineGreat_world (os : Os) : World :=
  { World.holding Tryz.prog os ⟨#[], #[], []⟩ with heap := (World.holding Tryz.prog os ⟨#[], #[], []⟩).heap.modify 3 fun
      | .cells _ t frozen => .cells (Lib.deBruijn64tab.map (fun n : Nat => Value.int .u8 (n : Int))).toArray t frozen
      | o => o }
theorem machineGreat_met (os : Os) : laidMet Tryz.prog Rows.machineGreatRow.laid ((machineGreat_world os).forCall (fun _ _ => 0) ⟨#[], #[.agg #[.int .i64 0, .int .i64 0, .float .f64 0, .float .f64 0], .int .i64 0], []⟩).memory :=
  laidMet_of_run' 8 (by kernel_rfl) (by kernel_rfl)
theorem machineGreat_reads (os : Os) {H : Type} (enc : TypeId × Value → H) : ∃ places, DataW.whole enc Tryz.prog ((machineGreat_world os).forCall (fun _ _ => 0) ⟨#[], #[.agg #[.int .i64 0, .int .i64 0, .float .f64 0, .float .f64 0], .int .i64 0], []⟩).memory Tryz.f4.params.toList Rows.machineGreatSpec.vars false (#[.agg #[.int .i64 0, .int .i64 0, .float .f64 0, .float .f64 0], .int .i64 0] : Array Value).toList 8 = some ([.agg [.lit (.int .i64 0), .lit (.int .i64 0), .lit (.float .f64 0), .lit (.float .f64 0)], .lit (.int .i64 0)], [], places) :=
  ⟨[], by kernel_rfl⟩
theorem machineGreat_lifted (os : Os) (started : os.Started) (H : Type) (enc : TypeId × Value → H) (F : Stop.Interp) :
    ReturnsInHanded {} Tryz.checked os 4 .any ((OpenSpec.ofChange Rows.machineGreatSpec).preRow enc Tryz.prog Tryz.f4 Rows.machineGreatRow.domain false Rows.machineGreatRow.laid) (((OpenSpec.ofChange Rows.machineGreatSpec).at F).post enc Tryz.prog Tryz.f4 false true false false) := by
  obtain ⟨places, hx⟩ := machineGreat_reads os enc
  refine returnsInHanded_of_row (C := Tryz.checked) (s := OpenSpec.ofChange Rows.machineGreatSpec) law_own started (by kernel_rfl) Tryz.func4
    (witness_row_at (enc := enc) (C := Tryz.checked) false (machineGreat_world os) #[.agg #[.int .i64 0, .int .i64 0, .float .f64 0, .float .f64 0], .int .i64 0] rfl (by kernel_rfl) (by kernel_rfl) (by kernel_rfl)
      (OpenSpec.preRow_of_cond 8 hx (by kernel_rfl) (fun k hk => by cases hk) (by kernel_rfl) (machineGreat_met os))) ?_
  intro W base args ds gs before hval hW _ _ _ hL _ _
  exact machineGreat_contract H enc W base args ds gs before hval hW hL
theorem machineGreat_said : Rows.MachineGreatSaid :=
  OpenClaim.holds_of_cond 4 Tryz.f4 rfl rfl rfl rfl rfl rfl rfl ⟨rfl, rfl, rfl, rfl, rfl⟩ rfl rfl rfl rfl rfl machineGreat_k1 Tryz.func4 machineGreat_k2 machineGreat_k3 machineGreat_k4
    (fun os started H enc _ F => by rw [OpenClaim.pre_eq_preRow]; exact machineGreat_lifted os started H enc F)
theorem machineGreat_plain (f : FuncId) (fn : Func) (hf : Tryz.pinned.checked.prog.funcNamed "treadmill/treadmilllaw28.MachineGreat" = some f) (hfn : Tryz.pinned.checked.prog.funcs[f]? = some fn) :
    true = Tryz.pinned.checked.prog.looks [] ∧ ∀ (j : Nat) t, fn.params[j]? = some t → Tryz.pinned.checked.prog.wantsStandIn t = false := by
  obtain rfl : f = 4 := Option.some.inj ((show Tryz.prog.funcNamed "treadmill/treadmilllaw28.MachineGreat" = some 4 by kernel_rfl).symm.trans hf) |>.symm
  obtain rfl : fn = Tryz.f4 := (Option.some.inj (Tryz.func4.symm.trans hfn)).symm
  refine ⟨by kernel_rfl, fun j t ht => ?_⟩
  rw [Tryz.params4] at ht
  have h : t = 24 ∨ t = 3 := by have h1 := Array.mem_of_getElem? ht; simpa using h1
  rcases h with rfl | rfl
  · exact (show Tryz.prog.wantsStandIn 24 = false by kernel_rfl)
  · exact (show Tryz.prog.wantsStandIn 3 = false by kernel_rfl)
theorem machineGreat_card : Rows.MachineGreatCardSaid :=
  Claim7.holds_tied_plain_at .later [] _ _ _ _ machineGreat_said (fun _ h => by cases h) (by as_aux_lemma => kernel_rfl) (fun _ h => by cases h) machineGreat_row_tie rfl ⟨rfl, rfl⟩ (by as_aux_lemma => kernel_rfl) rfl machineGreat_plain (by as_aux_lemma => kernel_rfl)
#print axioms machineGreat_card
end Go.Proofs.YtcpljjacamibeaaGreatDoor
