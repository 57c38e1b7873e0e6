/- The ops of PagePlays: a list of three numbers each, read off an argument. -/
import Derived.Test.YtcmligooekbodaaPgRef3
import Derived.Test.YtcmligooekbodaaPgRef4
import Derived.Test.YtcmligooekbodaaPgTold
import Derived.Test.YtcmligooekbodaaRow
namespace Go.Proofs.Ytcmligooekbodaa
open Go.ChangeShapes Go.WideShapes Go.ChangeAt Go.RowKit Go.Deep

structure OpP where
  k : Int
  f : Int
  n : Int
def OppsAt (w : World) (B : Nat) (A : Option Addr) (xs : List OpP) : Prop :=
  ∀ i o, xs[i]? = some o → ∃ b off, A = some ⟨b, off, none⟩ ∧ b < B ∧ w.cell? ⟨b, off + i * 3, none⟩ = some (.int .i64 o.k) ∧ w.cell? ⟨b, off + i * 3 + 1, none⟩ = some (.int .i64 o.f) ∧ w.cell? ⟨b, off + i * 3 + 2, none⟩ = some (.int .i64 o.n)
theorem OppsAt.chg {w w' : World} {A : Option Addr} {xs : List OpP} (h : OppsAt w w.heap.size A xs) (c : Chg [] w w') : OppsAt w' w.heap.size A xs := fun i o hi => by
  obtain ⟨b, off, e, hB, h0, h1, h2⟩ := h i o hi
  exact ⟨b, off, e, hB, c.cellv hB (by simp) h0, c.cellv hB (by simp) h1, c.cellv hB (by simp) h2⟩
theorem opps_of_trod {H : Type} {enc : TypeId × Value → H} {w : World} {spare : Nat → Bool} {A : Option Addr} {n c : Nat} {d : DataW H} {p : List MemPlace}
    (h : DataW.Trod enc Try.prog w 0 spare true 36 (.slice A n c) d p) : ∃ xs : List OpP, xs.length = n ∧ xs.length ≤ maxLen ∧ OppsAt w w.heap.size A xs := by
  obtain ⟨hm, hi⟩ := rows_of_trod Try.underlying36 Try.underlying40 (by kernel_rfl) (by kernel_rfl) (by decide) h
  obtain ⟨xs, hl, hx⟩ := list_of_each (p := fun i (o : OpP) => ∃ b off, A = some ⟨b, off, none⟩ ∧ b < w.heap.size ∧ w.cell? ⟨b, off + i * 3, none⟩ = some (.int .i64 o.k) ∧ w.cell? ⟨b, off + i * 3 + 1, none⟩ = some (.int .i64 o.f) ∧
    w.cell? ⟨b, off + i * 3 + 2, none⟩ = some (.int .i64 o.n)) n (fun i hin => by
      obtain ⟨b, off, rfl, hb, hf⟩ := hi i hin
      obtain ⟨v0, y0, u0, c0, t0⟩ := hf 0 _ rfl
      obtain ⟨v1, y1, u1, c1, t1⟩ := hf 1 _ rfl
      obtain ⟨v2, y2, u2, c2, t2⟩ := hf 2 _ rfl
      obtain ⟨k, e0, _, _⟩ := DataW.trod_int Try.underlying3 t0
      obtain ⟨f, e1, _, _⟩ := DataW.trod_int Try.underlying3 t1
      obtain ⟨m, e2, _, _⟩ := DataW.trod_int Try.underlying3 t2
      simp at e0 e1 e2
      subst e0 e1 e2
      exact ⟨⟨k, f, m⟩, b, off, rfl, hb, c0, c1, c2⟩)
  exact ⟨xs, hl, by omega, hx⟩
end Go.Proofs.Ytcmligooekbodaa
