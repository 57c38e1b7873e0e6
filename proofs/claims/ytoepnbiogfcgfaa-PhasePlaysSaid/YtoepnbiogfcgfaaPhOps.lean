/- A list of ops, read off an argument. -/
import Derived.Test.YtoepnbiogfcgfaaPhOpD
import Derived.Test.YtoepnbiogfcgfaaRow
namespace Go.Proofs.Ytoepnbiogfcgfaa
open Go.ChangeShapes Go.WideShapes Go.ChangeAt Go.RowKit Go.Deep

theorem ops_of_trod {H : Type} {enc : TypeId × Value → H} {w : World} {spare : Nat → Bool} {A : Option Addr} {n c : Nat} {d : DataW H} {p : List MemPlace}
    (h : DataW.Trod enc Try.prog w 0 spare true 22 (.slice A n c) d p) : ∃ xs : List OpD, xs.length = n ∧ xs.length ≤ maxLen ∧ OpsAt w w.heap.size A xs := by
  obtain ⟨hm, hi⟩ := rows_of_trod Try.underlying22 Try.underlying31 (by kernel_rfl) (by kernel_rfl) (by decide) h
  obtain ⟨xs, hl, hx⟩ := list_of_each (p := fun i (o : OpD) => ∃ b off, A = some ⟨b, off, none⟩ ∧ b < w.heap.size ∧ w.cell? ⟨b, off + i * 4, none⟩ = some (.int .i64 o.k) ∧ w.cell? ⟨b, off + i * 4 + 1, none⟩ = some (.int .i64 o.p) ∧
    w.cell? ⟨b, off + i * 4 + 2, none⟩ = some (.bool o.em) ∧ w.cell? ⟨b, off + i * 4 + 3, none⟩ = some (.bool o.fl)) n (fun i hin => by
      obtain ⟨b, off, rfl, hb, hf⟩ := hi i hin
      obtain ⟨v0, y0, u0, c0, t0⟩ := hf 0 _ rfl
      obtain ⟨v1, y1, u1, c1, t1⟩ := hf 1 _ rfl
      obtain ⟨v2, y2, u2, c2, t2⟩ := hf 2 _ rfl
      obtain ⟨v3, y3, u3, c3, t3⟩ := hf 3 _ rfl
      obtain ⟨k, e0, _, _⟩ := DataW.trod_int Try.underlying3 t0
      obtain ⟨pp, e1, _, _⟩ := DataW.trod_int Try.underlying3 t1
      obtain ⟨em, e2, _⟩ := DataW.trod_bool Try.underlying4 t2
      obtain ⟨fl, e3, _⟩ := DataW.trod_bool Try.underlying4 t3
      simp at e0 e1 e2 e3
      subst e0 e1 e2 e3
      exact ⟨⟨k, pp, em, fl⟩, b, off, rfl, hb, c0, c1, c2, c3⟩)
  exact ⟨xs, hl, by omega, hx⟩
end Go.Proofs.Ytoepnbiogfcgfaa
