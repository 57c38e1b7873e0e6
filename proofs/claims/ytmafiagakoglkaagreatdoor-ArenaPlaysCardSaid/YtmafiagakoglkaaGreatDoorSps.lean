/- The walk of package arena: Spans. -/
import Derived.Test.YtmafiagakoglkaaGreatDoorMOb
namespace Go.Proofs.YtmafiagakoglkaaGreatDoor
open Go.RowKit Go.Maps Go.Sort Go.Shelf

theorem keysS_ok (mb : Option Nat) (w : World) : Calls Tryz.prog 60 #[.map mb] w fun e w' => e = .returned (.func (.func 116) #[] #[.pointer (some ⟨w.heap.size, 0, none⟩)]) ∧ w' = w.alloc (.cells #[.map mb] 85) :=
  (callsIn_wide (n := 5)).1 (AnyZI.keys_in Tryz.laysKeysS Fence.wide 5 trivial rfl mb w)
theorem sortedkeysS_ok (w : World) (b n : Nat) (f : Int → Option Value) (V : VMap Tryz.prog 3 w b n f) (hn : n ≤ 2000000) :
    Calls Tryz.prog 54 #[.func (.func 116) #[] #[.pointer (some ⟨w.heap.size, 0, none⟩)]] (w.alloc (.cells #[.map (some b)] 85)) (KsPost (fun x => (f x).isSome) (w.alloc (.cells #[.map (some b)] 85))) := by
  obtain ⟨D0, hown, hsz, hks⟩ := V.keys Tryz.underlying3
  have hbl := hown.lt
  have hseq : SeqGives Fence.wide 2 Tryz.prog 116 #[.pointer (some ⟨w.heap.size, 0, none⟩)] encZ (fun ss => ss.Perm (intKeys D0)) (Maps.size D0) (w.alloc (.cells #[.map (some b)] 85)) :=
    AnyZI.keys_gives (ρ := Tryz.laysKeysS_ren) { Tryz.laysKeysS with } Fence.wide _ trivial rfl (by omega) w.heap.size b n D0 _ (by simp) (by simp) (by
      obtain ⟨es, clock, hb, Ft, hs, hD⟩ := hown
      exact ⟨es, clock, (Below.heap_alloc _ _ b hbl).trans hb, Ft, hs, hD⟩)
  have cS := AnyZI.sorted_in Tryz.laysSorted Fence.wide 5 trivial trivial trivial trivial rfl (by omega) (obj_sorts _) (enters_of Tryz.func109 (by kernel_rfl) rfl) 116 #[.pointer (some ⟨w.heap.size, 0, none⟩)] trivial (enters_of Tryz.func116 (by kernel_rfl) rfl) _ _ (by unfold maxLen; omega) (by omega) _ hseq
  refine ((callsIn_wide (n := 5)).1 cS).mono ?_
  rintro e w' ⟨v, ss, rfl, hS, ho, -, hb⟩
  obtain ⟨hnd, hmem⟩ := hks ss hS
  refine ⟨v, _, rfl, ⟨⟨?_, ?_⟩⟩, Chg.of_below hb, fun k hk => (ho.lt k (mem_fpv.1 hk)).1, rise_sorted hnd, fun x => by rw [List.mem_mergeSort]; exact hmem x⟩
  · rw [List.length_mergeSort]; exact ho.1
  · rw [List.length_mergeSort]
    exact ho.2.imp id fun ⟨g, cap, cur, h1, _, h3⟩ => ⟨g, cap, cur, h1, Nat.zero_le _, h3⟩
section
variable {w0 w : World} {g N b : Nat} {h : ArH} {a : Ar} (S : ArS w0 w g h a N b)
include S
set_option maxHeartbeats 1600000 in
set_option maxRecDepth 100000 in
theorem s_spans (hb : b ≤ 1000000) : Calls Tryz.prog 24 #[.pointer (some ⟨g, 0, none⟩)] w (KsPost (fun x => (spI a x).isSome) w) := by
  obtain rfl : h.ga = g := S.ga
  have hm := S.m
  have b1 : w.cell? ⟨h.ga, 1, none⟩ = some (.map (some h.bs)) := S.M.b.cellv 1 rfl
  have hK := sortedkeysS_ok w h.bs h.m _ S.M.s (by omega)
  have e : ∀ x, (natV (spV h a) x).isSome = (spI a x).isSome := fun x => by rw [spV_I]; cases spI a x <;> rfl
  have HK := Lib.hid (And.intro hK e); clear hK e S
  go_enter Tryz.func24, Tryz.ntmps24
  go_wp2_with fail
  refine (keysS_ok _ _).mono ?_
  rintro e w1 ⟨rfl, rfl⟩
  go_wp2_with fail
  refine HK.out.1.mono ?_
  rintro e w2 ⟨v, ks, rfl, O, c, f, r, m⟩
  have HO := Lib.hid (And.intro O (And.intro c (And.intro f (And.intro r m)))); clear O c f r m
  obtain ⟨A, cc, rfl⟩ := HO.out.1.slice
  go_wp2_with fail
  go_ret
  refine ⟨_, ks, rfl, HO.out.1, ((Chg.refl [] w).alloc _).trans HO.out.2.1, fun k hk => ?_, HO.out.2.2.2.1, fun x => by rw [HO.out.2.2.2.2 x, HK.out.2 x]⟩
  have := HO.out.2.2.1 k hk
  simp at this
  omega
end
end Go.Proofs.YtmafiagakoglkaaGreatDoor
