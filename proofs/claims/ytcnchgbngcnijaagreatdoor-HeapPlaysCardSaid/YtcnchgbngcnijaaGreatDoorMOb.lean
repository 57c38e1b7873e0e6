/- The keys of a map that is owned; lists that rise. Plain theorems. -/
/- The walk of package arena: Objects. -/
/- The walk of package arena: Spans. -/
import Derived.Test.YtcnchgbngcnijaaGreatDoorVMap
import Derived.Test.YtcnchgbngcnijaaGreatDoorMZ
import Derived.Lib.SlKeysI
import Derived.Maps.Range
import Derived.Test.YtcnchgbngcnijaaGreatDoorMAs
import Derived.Test.YtcnchgbngcnijaaGreatDoorShelf
namespace Go.Proofs.YtcnchgbngcnijaaGreatDoor
open Go.RowKit Go.Maps

theorem VMap.keys {P : Program} {K : TypeId} {w : World} {b n : Nat} {f : Int → Option Value} (h : VMap P K w b n f) (hK : P.underlying K = some (.int .i64)) :
    ∃ D : DataW Value, w.ownsMap P K heldE b n D ∧ Maps.size D ≤ n ∧ ∀ ss : List Int, ss.Perm (intKeys D) → ss.Nodup ∧ ∀ x, x ∈ ss ↔ (f x).isSome = true := by
  obtain ⟨D, ho, hm, hf⟩ := h.ex
  refine ⟨D, ho, ho.size_le, fun ss hs => ?_⟩
  obtain ⟨es, hD, hpw, _⟩ := ho.entries (int_keyed hK)
  obtain ⟨es', hD', hko⟩ := ho.keysOf
  obtain rfl : es = es' := by rw [hD] at hD'; simpa using hD'
  subst hD
  have hk : ∀ p ∈ es, ∃ x, p.1 = .int .i64 x := fun p hp => by
    obtain ⟨v, hv⟩ := hko p hp
    obtain ⟨x, _, hx, _⟩ := Maps.keyOf_i64 hK hv
    exact ⟨x, hx⟩
  refine ⟨hs.nodup_iff.2 ?_, fun x => ?_⟩
  · show (es.map fun p => Go.intOf p.1).Nodup
    refine List.pairwise_map.2 (hpw.imp_of_mem fun {p q} hp' hq' hne e => hne ?_)
    obtain ⟨a, ha⟩ := hk p hp'
    obtain ⟨b, hb⟩ := hk q hq'
    rw [ha, hb] at e ⊢
    exact congrArg _ e
  · rw [hs.mem_iff, ← (hf x).1, has_eq, List.any_eq_true]
    show x ∈ es.map (fun p => Go.intOf p.1) ↔ _
    rw [List.mem_map]
    constructor
    · rintro ⟨p, hp', rfl⟩
      obtain ⟨a, ha⟩ := hk p hp'
      exact ⟨p, hp', by rw [ha]; simp [Lit.sameKey, Go.intOf]⟩
    · rintro ⟨p, hp', hs'⟩
      obtain ⟨a, ha⟩ := hk p hp'
      rw [ha] at hs'
      exact ⟨p, hp', by rw [ha]; simpa [Lit.sameKey, Go.intOf] using hs'⟩
end Go.Proofs.YtcnchgbngcnijaaGreatDoor
namespace Go.Proofs.YtcnchgbngcnijaaGreatDoor
open Go.RowKit Go.Maps Go.Sort Go.Shelf

theorem obj_sorts (m : Nat) : AnyZI.SortsIn Tryz.prog Tryz.laysSorted_ren Fence.wide m :=
  ⟨fun blk off cap ss W hH hblk hsz => callsIn_wide.2 (Tryz.slices_Sort_int blk off cap ss W hH hblk hsz), fun p cap W => callsIn_wide.2 (Tryz.slices_Sort_int_none p cap W)⟩
theorem keys_ok (mb : Option Nat) (w : World) : Calls Tryz.prog 67 #[.map mb] w fun e w' => e = .returned (.func (.func 116) #[] #[.pointer (some ⟨w.heap.size, 0, none⟩)]) ∧ w' = w.alloc (.cells #[.map mb] 77) :=
  (callsIn_wide (n := 5)).1 (AnyZI.keys_in Tryz.laysKeys Fence.wide 5 trivial rfl mb w)
/-- A new list of keys, rising. -/
def KsPost (f : Int → Bool) (w : World) (e : Ending) (w' : World) : Prop := ∃ v ks, e = .returned v ∧ OwnI 3 w' v ks ∧ Chg [] w w' ∧ (∀ k ∈ fpv v, w.heap.size ≤ k) ∧ Rise ks ∧ ∀ x, x ∈ ks ↔ f x = true
theorem sortedkeys_ok (w : World) (b n : Nat) (f : Int → Option Value) (V : VMap Tryz.prog 3 w b n f) (hn : n ≤ 2000000) :
    Calls Tryz.prog 65 #[.func (.func 116) #[] #[.pointer (some ⟨w.heap.size, 0, none⟩)]] (w.alloc (.cells #[.map (some b)] 77)) (KsPost (fun x => (f x).isSome) (w.alloc (.cells #[.map (some b)] 77))) := by
  obtain ⟨D0, hown, hsz, hks⟩ := V.keys Tryz.underlying3
  have hbl := hown.lt
  have hseq : SeqGives Fence.wide 2 Tryz.prog 116 #[.pointer (some ⟨w.heap.size, 0, none⟩)] encZ (fun ss => ss.Perm (intKeys D0)) (Maps.size D0) (w.alloc (.cells #[.map (some b)] 77)) :=
    AnyZI.keys_gives (ρ := Tryz.laysKeys_ren) { Tryz.laysKeys with } Fence.wide _ trivial rfl (by omega) w.heap.size b n D0 _ (by simp) (by simp) (by
      obtain ⟨es, clock, hb, Ft, hs, hD⟩ := hown
      exact ⟨es, clock, (Below.heap_alloc _ _ b hbl).trans hb, Ft, hs, hD⟩)
  have cS := AnyZI.sorted_in Tryz.laysSorted Fence.wide 5 trivial trivial trivial trivial rfl (by omega) (obj_sorts _) (enters_of Tryz.func114 (by kernel_rfl) rfl) 116 #[.pointer (some ⟨w.heap.size, 0, none⟩)] trivial (enters_of Tryz.func116 (by kernel_rfl) rfl) _ _ (by unfold maxLen; omega) (by omega) _ hseq
  refine ((callsIn_wide (n := 5)).1 cS).mono ?_
  rintro e w' ⟨v, ss, rfl, hS, ho, -, hb⟩
  obtain ⟨hnd, hmem⟩ := hks ss hS
  refine ⟨v, _, rfl, ⟨⟨?_, ?_⟩⟩, Chg.of_below hb, fun k hk => (ho.lt k (mem_fpv.1 hk)).1, rise_sorted hnd, fun x => by rw [List.mem_mergeSort]; exact hmem x⟩
  · rw [List.length_mergeSort]; exact ho.1
  · rw [List.length_mergeSort]
    exact ho.2.imp id fun ⟨g, cap, cur, h1, _, h3⟩ => ⟨g, cap, cur, h1, Nat.zero_le _, h3⟩
section
variable {w0 w : World} {g N b : Nat} {h : ArH} {a : Ar} (S : ArS w0 w g h a N b)
include S
set_option maxHeartbeats 1600000 in
set_option maxRecDepth 100000 in
theorem s_objects (hb : b ≤ 1000000) : Calls Tryz.prog 16 #[.pointer (some ⟨g, 0, none⟩)] w (KsPost (fun x => (obI a x).isSome) w) := by
  obtain rfl : h.ga = g := S.ga
  have hm := S.m
  have b1 : w.cell? ⟨h.ga, 3, none⟩ = some (.map (some h.bj)) := S.M.b.cellv 3 rfl
  have hK := sortedkeys_ok w h.bj h.m _ S.M.j (by omega)
  have e : ∀ x, (natV (obV h a) x).isSome = (obI a x).isSome := fun x => by rw [obV_I]; cases obI a x <;> rfl
  have HK := Lib.hid (And.intro hK e); clear hK e S
  go_enter Tryz.func16, Tryz.ntmps16
  go_wp2_with fail
  refine (keys_ok _ _).mono ?_
  rintro e w1 ⟨rfl, rfl⟩
  go_wp2_with fail
  refine HK.out.1.mono ?_
  rintro e w2 ⟨v, ks, rfl, O, c, f, r, m⟩
  have HO := Lib.hid (And.intro O (And.intro c (And.intro f (And.intro r m)))); clear O c f r m
  obtain ⟨A, cc, rfl⟩ := HO.out.1.slice
  go_wp2_with fail
  go_ret
  refine ⟨_, ks, rfl, HO.out.1, ((Chg.refl [] w).alloc _).trans HO.out.2.1, fun k hk => ?_, HO.out.2.2.2.1, fun x => by rw [HO.out.2.2.2.2 x, HK.out.2 x]⟩
  have := HO.out.2.2.1 k hk
  simp at this
  omega
end
end Go.Proofs.YtcnchgbngcnijaaGreatDoor
namespace Go.Proofs.YtcnchgbngcnijaaGreatDoor
open Go.RowKit Go.Maps Go.Sort Go.Shelf

theorem keysS_ok (mb : Option Nat) (w : World) : Calls Tryz.prog 66 #[.map mb] w fun e w' => e = .returned (.func (.func 115) #[] #[.pointer (some ⟨w.heap.size, 0, none⟩)]) ∧ w' = w.alloc (.cells #[.map mb] 76) :=
  (callsIn_wide (n := 5)).1 (AnyZI.keys_in Tryz.laysKeysS Fence.wide 5 trivial rfl mb w)
theorem sortedkeysS_ok (w : World) (b n : Nat) (f : Int → Option Value) (V : VMap Tryz.prog 3 w b n f) (hn : n ≤ 2000000) :
    Calls Tryz.prog 65 #[.func (.func 115) #[] #[.pointer (some ⟨w.heap.size, 0, none⟩)]] (w.alloc (.cells #[.map (some b)] 76)) (KsPost (fun x => (f x).isSome) (w.alloc (.cells #[.map (some b)] 76))) := by
  obtain ⟨D0, hown, hsz, hks⟩ := V.keys Tryz.underlying3
  have hbl := hown.lt
  have hseq : SeqGives Fence.wide 2 Tryz.prog 115 #[.pointer (some ⟨w.heap.size, 0, none⟩)] encZ (fun ss => ss.Perm (intKeys D0)) (Maps.size D0) (w.alloc (.cells #[.map (some b)] 76)) :=
    AnyZI.keys_gives (ρ := Tryz.laysKeysS_ren) { Tryz.laysKeysS with } Fence.wide _ trivial rfl (by omega) w.heap.size b n D0 _ (by simp) (by simp) (by
      obtain ⟨es, clock, hb, Ft, hs, hD⟩ := hown
      exact ⟨es, clock, (Below.heap_alloc _ _ b hbl).trans hb, Ft, hs, hD⟩)
  have cS := AnyZI.sorted_in Tryz.laysSorted Fence.wide 5 trivial trivial trivial trivial rfl (by omega) (obj_sorts _) (enters_of Tryz.func114 (by kernel_rfl) rfl) 115 #[.pointer (some ⟨w.heap.size, 0, none⟩)] trivial (enters_of Tryz.func115 (by kernel_rfl) rfl) _ _ (by unfold maxLen; omega) (by omega) _ hseq
  refine ((callsIn_wide (n := 5)).1 cS).mono ?_
  rintro e w' ⟨v, ss, rfl, hS, ho, -, hb⟩
  obtain ⟨hnd, hmem⟩ := hks ss hS
  refine ⟨v, _, rfl, ⟨⟨?_, ?_⟩⟩, Chg.of_below hb, fun k hk => (ho.lt k (mem_fpv.1 hk)).1, rise_sorted hnd, fun x => by rw [List.mem_mergeSort]; exact hmem x⟩
  · rw [List.length_mergeSort]; exact ho.1
  · rw [List.length_mergeSort]
    exact ho.2.imp id fun ⟨g, cap, cur, h1, _, h3⟩ => ⟨g, cap, cur, h1, Nat.zero_le _, h3⟩
section
variable {w0 w : World} {g N b : Nat} {h : ArH} {a : Ar} (S : ArS w0 w g h a N b)
include S
set_option maxHeartbeats 1600000 in
set_option maxRecDepth 100000 in
theorem s_spans (hb : b ≤ 1000000) : Calls Tryz.prog 15 #[.pointer (some ⟨g, 0, none⟩)] w (KsPost (fun x => (spI a x).isSome) w) := by
  obtain rfl : h.ga = g := S.ga
  have hm := S.m
  have b1 : w.cell? ⟨h.ga, 1, none⟩ = some (.map (some h.bs)) := S.M.b.cellv 1 rfl
  have hK := sortedkeysS_ok w h.bs h.m _ S.M.s (by omega)
  have e : ∀ x, (natV (spV h a) x).isSome = (spI a x).isSome := fun x => by rw [spV_I]; cases spI a x <;> rfl
  have HK := Lib.hid (And.intro hK e); clear hK e S
  go_enter Tryz.func15, Tryz.ntmps15
  go_wp2_with fail
  refine (keysS_ok _ _).mono ?_
  rintro e w1 ⟨rfl, rfl⟩
  go_wp2_with fail
  refine HK.out.1.mono ?_
  rintro e w2 ⟨v, ks, rfl, O, c, f, r, m⟩
  have HO := Lib.hid (And.intro O (And.intro c (And.intro f (And.intro r m)))); clear O c f r m
  obtain ⟨A, cc, rfl⟩ := HO.out.1.slice
  go_wp2_with fail
  go_ret
  refine ⟨_, ks, rfl, HO.out.1, ((Chg.refl [] w).alloc _).trans HO.out.2.1, fun k hk => ?_, HO.out.2.2.2.1, fun x => by rw [HO.out.2.2.2.2 x, HK.out.2 x]⟩
  have := HO.out.2.2.1 k hk
  simp at this
  omega
end
end Go.Proofs.YtcnchgbngcnijaaGreatDoor
