/- A value method called through a pointer in an interface value: plain law, of no program. -/
import Derived.Test.YtkocikpoagfonaaDoorMem
namespace Go.Proofs.YtkocikpoagfonaaDoor
open Go.RowKit
theorem run_method_val {P : Program} {t e : TypeId} {name : String} {f : FuncId} (hf : ((P.info? t).bind fun i => i.methods.find? (·.name == name)).map (fun m => (m.path.toList, m.func)) = some ([], some (f, false)))
    (hu : P.underlying t = some (.pointer e)) (fuel : Nat) (a : Addr) (w : World) :
    (method (fuel + 1) t (.pointer (some a)) name).run P w = ((loadVar e a).run P w).andThen fun v w' => .ok (f, v) w' := by
  obtain ⟨m, h1, h2⟩ := Option.map_eq_some_iff.1 hf
  obtain ⟨i, h3, h4⟩ := Option.bind_eq_some_iff.1 h1
  obtain ⟨h5, h6⟩ := Prod.mk.injEq .. ▸ h2
  have hp : m.path = #[] := Array.toList_eq_nil_iff.1 h5
  have hk : ∀ s1 s2, Builtin.ssaWrapNilChk_ #[t] t #[.pointer (some a), strVal s1, strVal s2] = pure (.pointer (some a)) := fun _ _ => rfl
  unfold method
  simp [typeInfo, h3, h4, hp, h6, follow, receiverAt, Place.get, run_underlying hu, hk, asAddr]
theorem run_method_ptr {P : Program} {t e : TypeId} {name : String} {f : FuncId} (hf : ((P.info? t).bind fun i => i.methods.find? (·.name == name)).map (fun m => (m.path.toList, m.func)) = some ([], some (f, true)))
    (hu : P.underlying t = some (.pointer e)) (fuel : Nat) (a : Addr) (w : World) :
    (method (fuel + 1) t (.pointer (some a)) name).run P w = .ok (f, .pointer (some a)) w := by
  obtain ⟨m, h1, h2⟩ := Option.map_eq_some_iff.1 hf
  obtain ⟨i, h3, h4⟩ := Option.bind_eq_some_iff.1 h1
  obtain ⟨h5, h6⟩ := Prod.mk.injEq .. ▸ h2
  have hp : m.path = #[] := Array.toList_eq_nil_iff.1 h5
  unfold method
  simp [typeInfo, h3, h4, hp, h6, follow, receiverAt, Place.get, run_underlying hu]
theorem run_assert_struct {P : Program} {t xT : TypeId} {fs : Array Field} (hu : P.underlying t = some (.struct fs)) (v : Value) (w : World) : (Instr.typeAssert (.iface t v) xT t false).run P w = .ok v w := by
  unfold Instr.typeAssert
  simp [run_underlying hu]
end Go.Proofs.YtkocikpoagfonaaDoor
