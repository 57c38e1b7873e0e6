/- The ops of a law of layer 25. -/
import Derived.Test.YtoepnbiogfcgfaaMem
namespace Go.Proofs.Ytoepnbiogfcgfaa
open Go.RowKit

structure OpD where
  k : Int
  p : Int
  em : Bool
  fl : Bool

/-- The ops lie at A. -/
def OpsAt (w : World) (B : Nat) (A : Option Addr) (xs : List OpD) : Prop :=
  ∀ i o, xs[i]? = some o → ∃ b off, A = some ⟨b, off, none⟩ ∧ b < B ∧ w.cell? ⟨b, off + i * 4, none⟩ = some (.int .i64 o.k) ∧ w.cell? ⟨b, off + i * 4 + 1, none⟩ = some (.int .i64 o.p) ∧
    w.cell? ⟨b, off + i * 4 + 2, none⟩ = some (.bool o.em) ∧ w.cell? ⟨b, off + i * 4 + 3, none⟩ = some (.bool o.fl)
theorem OpsAt.below {w w' : World} {B : Nat} {A : Option Addr} {xs : List OpD} (h : OpsAt w B A xs) (hb : Below B w w') : OpsAt w' B A xs := fun i o hi => by
  obtain ⟨b, off, e, hB, h0, h1, h2, h3⟩ := h i o hi
  exact ⟨b, off, e, hB, (hb.cell (p := ⟨b, _, none⟩) hB).trans h0, (hb.cell (p := ⟨b, _, none⟩) hB).trans h1, (hb.cell (p := ⟨b, _, none⟩) hB).trans h2, (hb.cell (p := ⟨b, _, none⟩) hB).trans h3⟩

end Go.Proofs.Ytoepnbiogfcgfaa
