/- A closed fact of MachineFaults's row. -/
/- A choice, read off an argument. -/
/- A configuration, read off an argument. -/
/- The last step of a law's row: the call returned true and nothing that was there has changed. No program's number in sight. -/
import Derived.Test.YtepnlcemlnkpdaaGreatDoorRows
import Derived.OpenShut
import Derived.WalkKit
import Derived.ProofKit
import Derived.Lib.SmallJoins
import Derived.Test.YtepnlcemlnkpdaaGreatDoorMemJ
import Derived.Carry
import Derived.Deep.Slices
import Derived.Deep.Fields
namespace Go.Proofs.YtepnlcemlnkpdaaGreatDoor
set_option maxHeartbeats 16000000
set_option maxRecDepth 100000
open Go.ChangeShapes Go.WideShapes Go.ChangeAt Go.RowKit
theorem machineFaults_k2 : joinedFacts Tryz.pinned.checked.prog 4 Tryz.f4 (OpenSpec.ofChange Rows.machineFaultsSpec).bare Rows.machineFaultsRow = true := by
  unfold joinedFacts
  simp only [Bool.and_eq_true]
  repeat' apply And.intro
  all_goals as_aux_lemma => kernel_rfl
section
variable {H : Type} {enc : TypeId × Value → H} {w : World} {spare : Nat → Bool} {b0 : Nat} {v : Value} {d : DataW H} {p : List MemPlace}
end
section
variable {H : Type} {enc : TypeId × Value → H} {P : Program} {w : World} {spare : Nat → Bool} {b0 base : Nat} {held : Bool} {v : Value} {d : DataW H} {p : List MemPlace} {t : TypeId} {cs : List Value} {fuel : Nat} {x : DataW H × List MemPlace}
theorem trod_float28 {k : FloatKind} (ht : P.underlying t = some (.float k)) (h : DataW.trod enc P w base spare held fuel t cs = some x) : ∃ b, cs = [.float k b] := by
  cases fuel with
  | zero => simp [DataW.trod] at h
  | succ n =>
    unfold DataW.trod at h
    rw [ht] at h
    split at h <;> simp_all
theorem open_config (hv : Value.okWide Tryz.prog w .any b0 24 v) (h : DataW.Trod enc Tryz.prog w 0 spare true 24 v d p) : ∃ (q u : Int) (b k : Nat), v = .agg #[.int .i64 q, .int .i64 u, .float .f64 b, .float .f64 k] := by
  obtain ⟨v0, v1, v2, v3, y0, y1, y2, y3, n, rfl, -, -, h0, h1, h2, h3⟩ := Go.Joins.open_agg4 Tryz.underlying24 (by kernel_rfl) (by kernel_rfl) hv h
  obtain ⟨q, e0, -⟩ := DataW.trod_int Tryz.underlying3 h0
  obtain ⟨u, e1, -⟩ := DataW.trod_int Tryz.underlying3 h1
  obtain ⟨b, e2⟩ := trod_float28 Tryz.underlying22 h2
  obtain ⟨k, e3⟩ := trod_float28 Tryz.underlying22 h3
  exact ⟨q, u, b, k, by simp_all⟩
end
open Go.ChangeShapes Go.WideShapes Go.ChangeAt Go.RowKit Go.Deep
theorem law_own : ownKnob Tryz.prog.godebug = none := by kernel_rfl
theorem law_laidOut : laidOutB Tryz.prog = true := by kernel_rfl
section
variable {H : Type} {enc : TypeId × Value → H} {P : Program}
theorem trodAll_stays {W W' : World} (hl : laidOutB P = true) (hb : Below W.heap.size W W') : ∀ (ts : List TypeId) (vs : List Value) (ds : List (DataW H)) (ps : List MemPlace),
    (∀ t ∈ ts, P.readableRec t = true ∧ t < P.types.size) → DataW.TrodAll enc P W 0 (fun _ => true) true ts vs ds ps → (∀ x ∈ ps, x.block < W.heap.size) →
    DataW.TrodAll enc P W' 0 (fun b => decide (b < W.heap.size)) true ts vs ds ps
  | [], [], [], _, _, h, _ => h
  | t :: ts, v :: vs, d :: ds, ps, ht, h, hlt => by
    obtain ⟨p, q, h1, h2, rfl⟩ := h
    have h0 := ht t (by simp)
    exact ⟨p, q, Below.trod hl h0.1 h0.2 h1 hb (fun x hx => hlt x (by simp [hx])), trodAll_stays hl hb ts vs ds q (fun t' h' => ht t' (by simp [h'])) h2 (fun x hx => hlt x (by simp [hx])), rfl⟩
  | [], _ :: _, _, _, _, h, _ => h.elim
  | [], [], _ :: _, _, _, h, _ => h.elim
  | _ :: _, [], _, _, _, h, _ => h.elim
  | _ :: _, _ :: _, [], _, _, h, _ => h.elim
theorem law_post {f : Func} {s : ChangeSpec} {tb : TypeId} {W W' : World} {args : Array Value} {ds gs : List (DataW H)} {before : List MemPlace} (hl : laidOutB P = true)
    (ht : P.underlying tb = some .bool) (hrt : f.resultTypes = #[tb]) (hp : ∀ t ∈ f.params.toList, P.readableRec t = true ∧ t < P.types.size) (hv : s.vars = [])
    (hfn : s.fn H ds = { results := [.lit (.bool true)], args := ds })
    (hW : DataW.Whole enc P f.params.toList s.vars false W args.toList ds gs before) (hb : Below W.heap.size W W') :
    s.post enc P f false true false false W args (.bool true) W' := by
  have hlt : ∀ p ∈ before, p.block < W.heap.size := fun p hp => hW.lt p hp
  have hW0 := hW
  obtain ⟨p, q, hA, hV, rfl, _, _⟩ := hW
  rw [hv] at hV
  obtain ⟨rfl, rfl⟩ := trodVars_none hV
  refine ⟨ds, [], p ++ [], [], p, [], hW0, ?_, ?_, ?_, ?_, fun h => by cases h⟩
  · rw [List.append_nil, hfn, hrt]
    exact trodAll_cons_mk (shut_bool ht _) trodAll_mk0
  · rw [List.append_nil, hfn]
    exact trodAll_stays hl hb _ _ _ _ hp hA (fun x hx => hlt x (by simp [hx]))
  · rw [List.append_nil, hfn, hv]
    exact rfl
  · exact hb.frame _
end
section
variable {H : Type} {enc : TypeId × Value → H} {P : Program} {w : World} {base : Nat} {spare : Nat → Bool} {held : Bool}
end
end Go.Proofs.YtepnlcemlnkpdaaGreatDoor
