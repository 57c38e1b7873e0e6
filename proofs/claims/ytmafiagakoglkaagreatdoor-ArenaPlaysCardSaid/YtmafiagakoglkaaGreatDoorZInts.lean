/- A list of integers, read off an argument. -/
import Derived.Test.YtmafiagakoglkaaGreatDoorMZ
import Derived.Test.YtmafiagakoglkaaGreatDoorRow
namespace Go.Proofs.YtmafiagakoglkaaGreatDoor
open Go.ChangeShapes Go.WideShapes Go.ChangeAt Go.RowKit Go.Deep

theorem ints_of_trod {H : Type} {enc : TypeId × Value → H} {w : World} {spare : Nat → Bool} {A : Option Addr} {n c : Nat} {d : DataW H} {p : List MemPlace}
    (h : DataW.Trod enc Tryz.prog w 0 spare true 22 (.slice A n c) d p) : ∃ xs : List Int, xs.length = n ∧ xs.length ≤ maxLen ∧ IntsAt w w.heap.size A xs := by
  obtain ⟨fuel, hf⟩ := h
  rcases open_slice1 Tryz.underlying22 (by kernel_rfl) hf with ⟨hcs, _⟩ | ⟨a, len, cap, m, k, V, D, Pl, hcs, _, hl, hm, hmm, _, hi⟩
  · simp [Value.cells] at hcs
    obtain ⟨_, rfl, _⟩ := hcs
    exact ⟨[], rfl, by simp, fun i x hx => by simp at hx⟩
  · simp [Value.cells] at hcs
    obtain ⟨rfl, rfl, rfl⟩ := hcs
    obtain ⟨b, off, spot⟩ := a
    obtain ⟨xs, hxl, hx⟩ := list_of_each (p := fun i (x : Int) => ∃ b' off', some (⟨b, off, spot⟩ : Addr) = some ⟨b', off', none⟩ ∧ b' < w.heap.size ∧ w.cell? ⟨b', off' + i, none⟩ = some (.int .i64 x)) n (fun i hin => by
      have him : i < m := by rw [hmm]; split <;> omega
      obtain ⟨hc, ht⟩ := hi i him
      obtain ⟨x, e0, _, _⟩ := DataW.trod_int Tryz.underlying3 ht
      simp at e0
      rw [e0] at hc
      have hs : spot = none := by
        have h0 := (hi 0 (by rw [hmm]; split <;> omega)).1
        have := World.cell?_spot h0
        simpa [Addr.add] using this
      subst hs
      rw [Go.WideShapes.add_plain] at hc
      exact ⟨x, b, off, rfl, lt_of_cell hc, hc⟩)
    exact ⟨xs, hxl, by omega, hx⟩
end Go.Proofs.YtmafiagakoglkaaGreatDoor
