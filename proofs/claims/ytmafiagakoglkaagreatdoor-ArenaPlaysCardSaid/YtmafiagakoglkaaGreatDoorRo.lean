/- The document's arena (treadmillref5): its sum is the arena's; its ids. Plain. -/
import Derived.Test.YtmafiagakoglkaaGreatDoorRk
namespace Go.Proofs.YtmafiagakoglkaaGreatDoor
open Go.RowKit Go.Maps

theorem rise_ints {l : List Nat} (h : l.Pairwise (· < ·)) : Rise (intsN l) := by
  unfold intsN
  show List.Pairwise _ _
  rw [List.pairwise_map]
  exact h.imp (fun h => by omega)
theorem ints_inj {l m : List Nat} (h : intsN l = intsN m) : l = m := by
  unfold intsN at h
  exact (List.map_inj_right (fun x y e => by omega)).1 h
theorem mem_ints {l : List Nat} {x : Int} : x ∈ intsN l ↔ 0 ≤ x ∧ x.toNat ∈ l := by
  unfold intsN
  rw [List.mem_map]
  constructor
  · rintro ⟨y, hy, rfl⟩; exact ⟨by omega, by simpa using hy⟩
  · rintro ⟨h0, h1⟩; exact ⟨_, h1, by omega⟩
theorem liv_filter (f : Nat → Option Sp) : ∀ N, (((List.range N).filter fun j => (f j).isSome).map (fun j => spW (f j))).sum = livN f N
  | 0 => rfl
  | N + 1 => by
    rw [List.range_succ, List.filter_append, List.map_append, List.sum_append, liv_filter f N, livN]
    congr 1
    cases h : f N <;> simp [h, spW]
theorem RaM.ids_eq {w : World} {h : RaH} {a : Ar} {ids : List Nat} {N : Nat} (M : RaM w h a ids) (ok : ArOk N a) : ids = (List.range N).filter fun j => (a.sp j).isSome := by
  refine ints_inj (rise_ext (rise_ints M.rise) (rise_ints (List.Pairwise.filter _ List.pairwise_lt_range)) fun y => ?_)
  rw [mem_ints, mem_ints, List.mem_filter, List.mem_range, M.mem]
  constructor
  · rintro ⟨h0, h1⟩
    obtain ⟨s, hs⟩ := Option.isSome_iff_exists.1 h1
    exact ⟨h0, ok.top _ s hs, h1⟩
  · rintro ⟨h0, _, h1⟩; exact ⟨h0, h1⟩
theorem RaM.len_le {w : World} {h : RaH} {a : Ar} {ids : List Nat} {N : Nat} (M : RaM w h a ids) (ok : ArOk N a) : ids.length ≤ N := by
  rw [M.ids_eq ok]
  exact Nat.le_trans (List.length_filter_le _ _) (by simp)
theorem RaM.live {w : World} {h : RaH} {a : Ar} {ids : List Nat} {N : Nat} (M : RaM w h a ids) (I : ArI N a) : lvN a ids ids.length = a.live := by
  unfold lvN
  rw [List.take_length, I.lv, ← liv_filter, M.ids_eq I.ok]
  congr 1
theorem RaM.spans {w : World} {h : RaH} {a : Ar} {ids : List Nat} (M : RaM w h a ids) {ks : List Int} (hr : Rise ks) (hm : ∀ x, x ∈ ks ↔ (spI a x).isSome = true) : ks = intsN ids := by
  refine rise_ext hr (rise_ints M.rise) fun y => ?_
  rw [hm, mem_ints, M.mem]
  unfold spI
  split
  · next h => exact ⟨fun h1 => ⟨h, h1⟩, fun h1 => h1.2⟩
  · next h => exact ⟨fun h1 => (by cases h1), fun h1 => absurd h1.1 h⟩
end Go.Proofs.YtmafiagakoglkaaGreatDoor
