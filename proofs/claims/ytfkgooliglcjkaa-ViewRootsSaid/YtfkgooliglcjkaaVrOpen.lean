/- ViewRoots' arguments: lists of integers, read off an argument. -/
import Derived.Test.YtfkgooliglcjkaaVwOpen
import Derived.Test.YtfkgooliglcjkaaVrRoots
namespace Go.Proofs.Ytfkgooliglcjkaa
open Go.ChangeShapes Go.WideShapes Go.ChangeAt Go.RowKit Go.Deep

theorem vr_open {H : Type} {enc : TypeId × Value → H} {w : World} {spare : Nat → Bool} {A : Option Addr} {n c : Nat} {d : DataW H} {p : List MemPlace}
    (h : DataW.Trod enc Try.prog w 0 spare true 22 (.slice A n c) d p) : ∃ xs : List Int, xs.length = n ∧ xs.length ≤ maxLen ∧ SlI w w.heap.size (.slice A n c) xs := by
  obtain ⟨fuel, hf⟩ := h
  obtain ⟨xs, hx⟩ := sli_of_trod (v := .slice A n c) hf
  obtain ⟨A', c', e⟩ := hx.ex
  injection e with _ e2 _
  exact ⟨xs, e2.symm, hx.len, hx⟩
theorem vroots_row (A0 : Option Addr) (c0 : Nat) (xs : List Int) (A1 : Option Addr) (c1 : Nat) (ys : List Int) (D : Int) (w : World) (hx : SlI w w.heap.size (.slice A0 xs.length c0) xs) (_ : xs.length ≤ maxLen) (hy : SlI w w.heap.size (.slice A1 ys.length c1) ys) (_ : ys.length ≤ maxLen) :
    Calls Try.prog 6 #[.slice A0 xs.length c0, .slice A1 ys.length c1, .int .i64 D] w (TdPost w) := vroots_any _ _ xs ys D w hx hy
end Go.Proofs.Ytfkgooliglcjkaa
