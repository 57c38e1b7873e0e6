/- The last step of a law's row: the call returned true and nothing that was there has changed. No program's number in sight. -/
/- A choice, read off an argument. -/
/- A configuration, read off an argument. -/
/- Bytes, read off an argument; MachineNews of them. -/
/- For every input MachineNews returns true, and each argument reads as it did; the row lists the library's table, tied to the program's text. No condition. -/
import Derived.Test.YtcpljjacamibeaaGreatDoorMemJ
import Derived.ProofKit
import Derived.OpenShut
import Derived.Carry
import Derived.Deep.Slices
import Derived.Deep.Fields
import Derived.Test.YtcpljjacamibeaaGreatDoorRows
import Derived.WalkKit
import Derived.Lib.SmallJoins
import Derived.Test.YtcpljjacamibeaaGreatDoorQj
import Derived.Test.YtcpljjacamibeaaGreatDoorQjK
import Derived.Test.YtcpljjacamibeaaGreatDoorQjL
import Derived.Test.YtcpljjacamibeaaGreatDoorCards
import Derived.Test.YtcpljjacamibeaaGreatDoorTie
import Derived.Deep.DeepHandedRow
import Derived.Lib.LaidTab
namespace Go.Proofs.YtcpljjacamibeaaGreatDoor
set_option maxHeartbeats 16000000
set_option maxRecDepth 100000
open Go.ChangeShapes Go.WideShapes Go.ChangeAt Go.RowKit Go.Deep
theorem law_own : ownKnob Tryz.prog.godebug = none := by kernel_rfl
theorem law_laidOut : laidOutB Tryz.prog = true := by kernel_rfl
section
variable {H : Type} {enc : TypeId × Value → H} {P : Program}
theorem trodAll_stays {W W' : World} (hl : laidOutB P = true) (hb : Below W.heap.size W W') : ∀ (ts : List TypeId) (vs : List Value) (ds : List (DataW H)) (ps : List MemPlace),
    (∀ t ∈ ts, P.readableRec t = true ∧ t < P.types.size) → DataW.TrodAll enc P W 0 (fun _ => true) true ts vs ds ps → (∀ x ∈ ps, x.block < W.heap.size) →
    DataW.TrodAll enc P W' 0 (fun b => decide (b < W.heap.size)) true ts vs ds ps
  | [], [], [], _, _, h, _ => h
  | t :: ts, v :: vs, d :: ds, ps, ht, h, hlt => by
    obtain ⟨p, q, h1, h2, rfl⟩ := h
    have h0 := ht t (by simp)
    exact ⟨p, q, Below.trod hl h0.1 h0.2 h1 hb (fun x hx => hlt x (by simp [hx])), trodAll_stays hl hb ts vs ds q (fun t' h' => ht t' (by simp [h'])) h2 (fun x hx => hlt x (by simp [hx])), rfl⟩
  | [], _ :: _, _, _, _, h, _ => h.elim
  | [], [], _ :: _, _, _, h, _ => h.elim
  | _ :: _, [], _, _, _, h, _ => h.elim
  | _ :: _, _ :: _, [], _, _, h, _ => h.elim
theorem law_post {f : Func} {s : ChangeSpec} {tb : TypeId} {W W' : World} {args : Array Value} {ds gs : List (DataW H)} {before : List MemPlace} (hl : laidOutB P = true)
    (ht : P.underlying tb = some .bool) (hrt : f.resultTypes = #[tb]) (hp : ∀ t ∈ f.params.toList, P.readableRec t = true ∧ t < P.types.size) (hv : s.vars = [])
    (hfn : s.fn H ds = { results := [.lit (.bool true)], args := ds })
    (hW : DataW.Whole enc P f.params.toList s.vars false W args.toList ds gs before) (hb : Below W.heap.size W W') :
    s.post enc P f false true false false W args (.bool true) W' := by
  have hlt : ∀ p ∈ before, p.block < W.heap.size := fun p hp => hW.lt p hp
  have hW0 := hW
  obtain ⟨p, q, hA, hV, rfl, _, _⟩ := hW
  rw [hv] at hV
  obtain ⟨rfl, rfl⟩ := trodVars_none hV
  refine ⟨ds, [], p ++ [], [], p, [], hW0, ?_, ?_, ?_, ?_, fun h => by cases h⟩
  · rw [List.append_nil, hfn, hrt]
    exact trodAll_cons_mk (shut_bool ht _) trodAll_mk0
  · rw [List.append_nil, hfn]
    exact trodAll_stays hl hb _ _ _ _ hp hA (fun x hx => hlt x (by simp [hx]))
  · rw [List.append_nil, hfn, hv]
    exact rfl
  · exact hb.frame _
end
theorem list_of_each {α : Type} {p : Nat → α → Prop} : ∀ n : Nat, (∀ i, i < n → ∃ x, p i x) → ∃ xs : List α, xs.length = n ∧ ∀ i x, xs[i]? = some x → p i x
  | 0, _ => ⟨[], rfl, fun i x h => by simp at h⟩
  | n + 1, h => by
    obtain ⟨xs, hl, hx⟩ := list_of_each n (fun i hi => h i (by omega))
    obtain ⟨x, hp⟩ := h n (by omega)
    refine ⟨xs ++ [x], by simp [hl], fun i y hy => ?_⟩
    by_cases hi : i < n
    · exact hx i y (by rwa [List.getElem?_append_left (by omega)] at hy)
    · have hin : i = n := by
        have := (List.getElem?_eq_some_iff.1 hy).1
        simp at this; omega
      subst hin
      rw [List.getElem?_append_right (by omega)] at hy
      simp [hl] at hy
      exact hy ▸ hp
section
variable {H : Type} {enc : TypeId × Value → H} {P : Program} {w : World} {base : Nat} {spare : Nat → Bool} {held : Bool}
end
open Go.ChangeShapes Go.WideShapes Go.ChangeAt Go.RowKit
section
variable {H : Type} {enc : TypeId × Value → H} {w : World} {spare : Nat → Bool} {b0 : Nat} {v : Value} {d : DataW H} {p : List MemPlace}
end
section
variable {H : Type} {enc : TypeId × Value → H} {P : Program} {w : World} {spare : Nat → Bool} {b0 base : Nat} {held : Bool} {v : Value} {d : DataW H} {p : List MemPlace} {t : TypeId} {cs : List Value} {fuel : Nat} {x : DataW H × List MemPlace}
theorem trod_float28 {k : FloatKind} (ht : P.underlying t = some (.float k)) (h : DataW.trod enc P w base spare held fuel t cs = some x) : ∃ b, cs = [.float k b] := by
  cases fuel with
  | zero => simp [DataW.trod] at h
  | succ n =>
    unfold DataW.trod at h
    rw [ht] at h
    split at h <;> simp_all
theorem open_config (hv : Value.okWide Tryz.prog w .any b0 24 v) (h : DataW.Trod enc Tryz.prog w 0 spare true 24 v d p) : ∃ (q u : Int) (b k : Nat), v = .agg #[.int .i64 q, .int .i64 u, .float .f64 b, .float .f64 k] := by
  obtain ⟨v0, v1, v2, v3, y0, y1, y2, y3, n, rfl, -, -, h0, h1, h2, h3⟩ := Go.Joins.open_agg4 Tryz.underlying24 (by kernel_rfl) (by kernel_rfl) hv h
  obtain ⟨q, e0, -⟩ := DataW.trod_int Tryz.underlying3 h0
  obtain ⟨u, e1, -⟩ := DataW.trod_int Tryz.underlying3 h1
  obtain ⟨b, e2⟩ := trod_float28 Tryz.underlying22 h2
  obtain ⟨k, e3⟩ := trod_float28 Tryz.underlying22 h3
  exact ⟨q, u, b, k, by simp_all⟩
end
def BysAt (w : World) (B : Nat) (A : Option Addr) (xs : List Nat) : Prop := ∀ i x, xs[i]? = some x → x < 256 ∧ ∃ b off, A = some ⟨b, off, none⟩ ∧ b < B ∧ w.cell? ⟨b, off + i, none⟩ = some (.int .u8 (x : Nat))
theorem bytes_of_trod {H : Type} {enc : TypeId × Value → H} {w : World} {spare : Nat → Bool} {A : Option Addr} {n c : Nat} {d : DataW H} {p : List MemPlace}
    (h : DataW.Trod enc Tryz.prog w 0 spare true 73 (.slice A n c) d p) : ∃ xs : List Nat, xs.length = n ∧ xs.length ≤ maxLen ∧ BysAt w w.heap.size A xs := by
  obtain ⟨fuel, hf⟩ := h
  rcases open_slice1 Tryz.underlying73 (by kernel_rfl) hf with ⟨hcs, _⟩ | ⟨a, len, cap, m, k, V, D, Pl, hcs, _, hl, hm, hmm, _, hi⟩
  · simp [Value.cells] at hcs
    obtain ⟨_, rfl, _⟩ := hcs
    exact ⟨[], rfl, by simp, fun i x hx => by simp at hx⟩
  · simp [Value.cells] at hcs
    obtain ⟨rfl, rfl, rfl⟩ := hcs
    obtain ⟨b, off, spot⟩ := a
    obtain ⟨xs, hxl, hx⟩ := list_of_each (p := fun i (x : Nat) => x < 256 ∧ ∃ b' off', some (⟨b, off, spot⟩ : Addr) = some ⟨b', off', none⟩ ∧ b' < w.heap.size ∧ w.cell? ⟨b', off' + i, none⟩ = some (.int .u8 (x : Nat))) n (fun i hin => by
      have him : i < m := by rw [hmm]; split <;> omega
      obtain ⟨hc, ht⟩ := hi i him
      obtain ⟨x, e0, _, f0⟩ := DataW.trod_int Tryz.underlying5 ht
      simp at e0
      rw [e0] at hc
      have hs : spot = none := by
        have h0 := (hi 0 (by rw [hmm]; split <;> omega)).1
        have := World.cell?_spot h0
        simpa [Addr.add] using this
      subst hs
      rw [Go.WideShapes.add_plain] at hc
      have hw : 0 ≤ x ∧ x ≤ 255 := by
        have h := f0
        simp [Lit.wf, IntKind.min, IntKind.max, IntKind.signed, IntKind.bits] at h
        omega
      refine ⟨x.toNat, by omega, b, off, rfl, lt_of_cell hc, ?_⟩
      rw [Int.toNat_of_nonneg hw.1]
      exact hc)
    exact ⟨xs, hxl, by omega, hx⟩
theorem news_all (q u : Int) (b k : Nat) (A : Option Addr) (c : Nat) (xs : List Nat) (W : World) (_ : Tab W) (hx : BysAt W W.heap.size A xs) (_ : xs.length ≤ maxLen) :
    Calls Tryz.prog 5 #[.agg #[.int .i64 q, .int .i64 u, .float .f64 b, .float .f64 k], .slice A xs.length c] W (NwPost (.bool true) W) := by
  refine news_any W q u b k _ xs ⟨⟨A, c, by rw [u8s_len]⟩, fun A' n' c' e i y hy => ?_, fun y hy => ?_⟩ (fun x hm => ?_)
  · injection e with e1 e2 e3
    subst e1
    unfold u8s at hy
    rw [List.getElem?_map] at hy
    cases h : xs[i]? with
    | none => rw [h] at hy; cases hy
    | some x =>
      rw [h] at hy
      have hy : Value.int .u8 (x : Nat) = y := Option.some.inj hy
      subst hy
      exact (hx i x h).2
  · unfold u8s at hy
    obtain ⟨x, -, rfl⟩ := List.mem_map.1 hy
    rfl
  · obtain ⟨i, hi, e⟩ := List.getElem_of_mem hm
    exact (hx i x (by rw [List.getElem?_eq_getElem hi, e])).1
end Go.Proofs.YtcpljjacamibeaaGreatDoor
namespace Go.Proofs.YtcpljjacamibeaaGreatDoor
set_option maxHeartbeats 16000000
set_option maxRecDepth 100000
open Go.ChangeShapes Go.WideShapes Go.ChangeAt Go.RowKit
theorem machineNews_gTab : Tryz.prog.globalNamed "math/bits.deBruijn64tab" = some 3 := by kernel_rfl
theorem machineNews_table {W : World} (h : laidMetH Tryz.prog Rows.machineNewsRow.laid W) : Tab W := fun j hj => by
  have h1 := (Lib.tabIs_of_head (rest := []) (k := .u8) (zs := Lib.deBruijn64tab.map (fun n : Nat => (n : Int))) machineNews_gTab (by kernel_rfl) Tryz.underlying416 Tryz.underlying5 (by kernel_rfl) (by kernel_rfl) h).cell machineNews_gTab j hj
  rw [h1, List.getD_eq_getElem?_getD, List.getElem?_map, List.getD_eq_getElem?_getD]
  cases e : Lib.deBruijn64tab[j]? <;> rfl
theorem machineNews_contract (H : Type) (enc : TypeId × Value → H) (W : World) (base : Nat) (args : Array Value) (ds gs : List (DataW H)) (before : List MemPlace)
    (hval0 : ∀ (j : Nat) t v, Tryz.f5.params[j]? = some t → args[j]? = some v → Value.okWide Tryz.prog W .any base t v)
    (hW : DataW.Whole enc Tryz.prog Tryz.f5.params.toList Rows.machineNewsSpec.vars false W args.toList ds gs before) (hL : laidMetH Tryz.prog Rows.machineNewsRow.laid W) :
    Calls Tryz.prog 5 args W fun e W' => ∃ v, e = .returned v ∧ Rows.machineNewsSpec.post enc Tryz.prog Tryz.f5 false true false false W args v W' := by
  have hval : ∀ (j : Nat) t v, Tryz.f5.params[j]? = some t → args[j]? = some v → Value.okWide Tryz.prog W .any base t v := hval0
  have hW' := hW
  have hT := machineNews_table hL
  obtain ⟨p, q, hA0, hV, rfl, hfz, hnd⟩ := hW
  have hA : DataW.TrodAll enc Tryz.prog W 0 (fun _ => true) true Tryz.f5.params.toList args.toList ds p := hA0
  rw [Tryz.params5] at hA hval
  obtain ⟨v0, v1, d0, d1, p0, p1, rfl, rfl, rfl, h0, h1⟩ := trodAll_two hA
  obtain ⟨q0, u0, b0, k0, rfl⟩ := open_config (hval 0 24 v0 rfl rfl) h0
  obtain ⟨A1, n1, c1, rfl⟩ := okWide_slice Tryz.underlying73 (hval 1 73 v1 rfl rfl)
  obtain ⟨xs1, rfl, hm1, hx1⟩ := bytes_of_trod h1
  refine (news_all q0 u0 b0 k0 A1 c1 xs1 W hT hx1 hm1).mono fun e W' ⟨he, hg⟩ => ?_
  subst he
  exact ⟨_, rfl, law_post (P := Tryz.prog) law_laidOut Tryz.underlying4 rfl (fun t ht => by
    have h : t = 24 ∨ t = 73 := by rw [Tryz.params5] at ht; simpa using ht
    rcases h with rfl | rfl <;> exact ⟨by kernel_rfl, of_decide_eq_true (by kernel_rfl)⟩) rfl rfl hW' (hg.below (Nat.le_refl _) (by simp))⟩
noncomputable def machineNews_world (os : Os) : World :=
  { World.holding Tryz.prog os ⟨#[], #[], []⟩ with heap := (World.holding Tryz.prog os ⟨#[], #[], []⟩).heap.modify 3 fun
      | .cells _ t frozen => .cells (Lib.deBruijn64tab.map (fun n : Nat => Value.int .u8 (n : Int))).toArray t frozen
      | o => o }
theorem machineNews_met (os : Os) : laidMet Tryz.prog Rows.machineNewsRow.laid ((machineNews_world os).forCall (fun _ _ => 0) ⟨#[], #[.agg #[.int .i64 0, .int .i64 0, .float .f64 0, .float .f64 0], .slice none 0 0], []⟩).memory :=
  laidMet_of_run' 8 (by kernel_rfl) (by kernel_rfl)
theorem machineNews_reads (os : Os) {H : Type} (enc : TypeId × Value → H) : ∃ places, DataW.whole enc Tryz.prog ((machineNews_world os).forCall (fun _ _ => 0) ⟨#[], #[.agg #[.int .i64 0, .int .i64 0, .float .f64 0, .float .f64 0], .slice none 0 0], []⟩).memory Tryz.f5.params.toList Rows.machineNewsSpec.vars false (#[.agg #[.int .i64 0, .int .i64 0, .float .f64 0, .float .f64 0], .slice none 0 0] : Array Value).toList 8 = some ([.agg [.lit (.int .i64 0), .lit (.int .i64 0), .lit (.float .f64 0), .lit (.float .f64 0)], .nil], [], places) :=
  ⟨[], by kernel_rfl⟩
theorem machineNews_lifted (os : Os) (started : os.Started) (H : Type) (enc : TypeId × Value → H) (F : Stop.Interp) :
    ReturnsInHanded {} Tryz.checked os 5 .any ((OpenSpec.ofChange Rows.machineNewsSpec).preRow enc Tryz.prog Tryz.f5 Rows.machineNewsRow.domain false Rows.machineNewsRow.laid) (((OpenSpec.ofChange Rows.machineNewsSpec).at F).post enc Tryz.prog Tryz.f5 false true false false) := by
  obtain ⟨places, hx⟩ := machineNews_reads os enc
  refine returnsInHanded_of_row (C := Tryz.checked) (s := OpenSpec.ofChange Rows.machineNewsSpec) law_own started (by kernel_rfl) Tryz.func5
    (witness_row_at (enc := enc) (C := Tryz.checked) false (machineNews_world os) #[.agg #[.int .i64 0, .int .i64 0, .float .f64 0, .float .f64 0], .slice none 0 0] rfl (by kernel_rfl) (by kernel_rfl) (by kernel_rfl)
      (OpenSpec.preRow_of_cond 8 hx (by kernel_rfl) (fun k hk => by cases hk) (by kernel_rfl) (machineNews_met os))) ?_
  intro W base args ds gs before hval hW _ _ _ hL _ _
  exact machineNews_contract H enc W base args ds gs before hval hW hL
theorem machineNews_said : Rows.MachineNewsSaid :=
  OpenClaim.holds_of_cond 5 Tryz.f5 rfl rfl rfl rfl rfl rfl rfl ⟨rfl, rfl, rfl, rfl, rfl⟩ rfl rfl rfl rfl rfl machineNews_k1 Tryz.func5 machineNews_k2 machineNews_k3 machineNews_k4
    (fun os started H enc _ F => by rw [OpenClaim.pre_eq_preRow]; exact machineNews_lifted os started H enc F)
theorem machineNews_plain (f : FuncId) (fn : Func) (hf : Tryz.pinned.checked.prog.funcNamed "treadmill/treadmilllaw28.MachineNews" = some f) (hfn : Tryz.pinned.checked.prog.funcs[f]? = some fn) :
    true = Tryz.pinned.checked.prog.looks [] ∧ ∀ (j : Nat) t, fn.params[j]? = some t → Tryz.pinned.checked.prog.wantsStandIn t = false := by
  obtain rfl : f = 5 := Option.some.inj ((show Tryz.prog.funcNamed "treadmill/treadmilllaw28.MachineNews" = some 5 by kernel_rfl).symm.trans hf) |>.symm
  obtain rfl : fn = Tryz.f5 := (Option.some.inj (Tryz.func5.symm.trans hfn)).symm
  refine ⟨by kernel_rfl, fun j t ht => ?_⟩
  rw [Tryz.params5] at ht
  have h : t = 24 ∨ t = 73 := by have h1 := Array.mem_of_getElem? ht; simpa using h1
  rcases h with rfl | rfl
  · exact (show Tryz.prog.wantsStandIn 24 = false by kernel_rfl)
  · exact (show Tryz.prog.wantsStandIn 73 = false by kernel_rfl)
theorem machineNews_card : Rows.MachineNewsCardSaid :=
  Claim7.holds_tied_plain_at .later [] _ _ _ _ machineNews_said (fun _ h => by cases h) (by as_aux_lemma => kernel_rfl) (fun _ h => by cases h) machineNews_row_tie rfl ⟨rfl, rfl⟩ (by as_aux_lemma => kernel_rfl) rfl machineNews_plain (by as_aux_lemma => kernel_rfl)
#print axioms machineNews_card
end Go.Proofs.YtcpljjacamibeaaGreatDoor
