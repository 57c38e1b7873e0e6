/- slices.Sorted(slices.Values(l)): plain contracts. -/
import Derived.Test.YtfkgooliglcjkaaVwIter
namespace Go.Proofs.Ytfkgooliglcjkaa
open Go.RowKit Go.Maps

theorem appendSeq_ok (w : World) (Bs cap : Nat) (A : Option Addr) (zs : List Int) (hreach : zs.length ≤ 1000000000000) (hBs : Bs < w.heap.size) (hc : w.cell? ⟨Bs, 0, none⟩ = some (.slice A zs.length cap)) (hI : ItI w.heap.size w A zs) :
    Calls Try.prog 83 #[.slice none 0 0, .func (.func 69) #[] #[.pointer (some ⟨Bs, 0, none⟩)]] w (NewI zs w) :=
  (callsIn_wide.1 (appendSeq_in Fence.wide 3 trivial trivial rfl (Nat.le_refl _) Bs cap A zs hreach w hBs hc hI)).mono fun e w' ⟨v, he, ho, hb⟩ =>
    ⟨v, he, ⟨⟨ho.1, ho.2.imp id fun ⟨g, cap, cur, h1, _, h3⟩ => ⟨g, cap, cur, h1, Nat.zero_le _, h3⟩⟩⟩, Chg.of_below hb, fun k hk => (ho.lt k (mem_fpv.1 hk)).1⟩
set_option maxHeartbeats 800000 in
theorem collect_ok (w : World) (Bs cap : Nat) (A : Option Addr) (zs : List Int) (hreach : zs.length ≤ 1000000000000) (hBs : Bs < w.heap.size) (hc : w.cell? ⟨Bs, 0, none⟩ = some (.slice A zs.length cap)) (hI : ItI w.heap.size w A zs) :
    Calls Try.prog 67 #[.func (.func 69) #[] #[.pointer (some ⟨Bs, 0, none⟩)]] w (NewI zs w) := by
  have H := Lib.hid (appendSeq_ok w Bs cap A zs hreach hBs hc hI); clear hc hI
  go_enter Try.func67, Try.ntmps67
  go_wp2_with fail
  refine H.out.mono ?_
  rintro e w1 ⟨v, rfl, ho, hr⟩
  obtain ⟨A', c', rfl⟩ := ho.slice
  have HR := Lib.hid (And.intro ho hr); clear ho hr
  go_wp2_with fail
  go_ret
  exact ⟨_, rfl, HR.out.1, HR.out.2⟩
set_option maxHeartbeats 800000 in
theorem sorted_ok (w : World) (Bs cap : Nat) (A : Option Addr) (zs : List Int) (hreach : zs.length ≤ 1000000000000) (hBs : Bs < w.heap.size) (hc : w.cell? ⟨Bs, 0, none⟩ = some (.slice A zs.length cap)) (hI : ItI w.heap.size w A zs) :
    Calls Try.prog 42 #[.func (.func 69) #[] #[.pointer (some ⟨Bs, 0, none⟩)]] w (NewI (srt zs) w) := by
  have H := Lib.hid (collect_ok w Bs cap A zs hreach hBs hc hI); clear hc hI
  go_enter Try.func42, Try.ntmps42
  go_wp2_with fail
  refine H.out.mono ?_
  rintro e w1 ⟨v, rfl, ho, c1, f1⟩
  obtain ⟨A', c', rfl⟩ := ho.slice
  have HR := Lib.hid (And.intro ho (And.intro c1 f1)); clear ho c1 f1
  go_wp2_with fail
  refine (sort_ok _ _ _ HR.out.1 hreach).mono ?_
  rintro e w2 ⟨rfl, ho, c2⟩
  have HS := Lib.hid (And.intro ho (HR.out.2.1.new c2 HR.out.2.2)); clear ho c2
  go_wp2_with fail
  go_ret
  exact ⟨_, rfl, HS.out.1, HS.out.2, HR.out.2.2⟩
set_option maxHeartbeats 400000 in
theorem values_ok (w : World) (A : Option Addr) (n c : Nat) :
    Calls Try.prog 43 #[.slice A n c] w fun e w' => e = .returned (.func (.func 69) #[] #[.pointer (some ⟨w.heap.size, 0, none⟩)]) ∧ w' = w.alloc (.cells #[.slice A n c] 22) := by
  go_enter Try.func43, Try.ntmps43
  go_wp2_with fail
  go_ret
  exact ⟨rfl, rfl⟩
/-- What a slice of integers that lies below the heap's end gives to the iterator's box. -/
theorem sorted_at {w0 w : World} {B : Nat} {A : Option Addr} {c : Nat} {zs : List Int} (h : SlI w0 B (.slice A zs.length c) zs) (hB : B ≤ w0.heap.size) (hc : Chg [] w0 w) (hl : zs.length ≤ 1000000000000) :
    Calls Try.prog 42 #[.func (.func 69) #[] #[.pointer (some ⟨w.heap.size, 0, none⟩)]] (w.alloc (.cells #[.slice A zs.length c] 22)) (NewI (srt zs) (w.alloc (.cells #[.slice A zs.length c] 22))) := by
  have c2 := hc.alloc (.cells #[.slice A zs.length c] 22)
  have h2 := (h.chg c2 hB (by simp)).at_ A _ c rfl
  refine sorted_ok _ w.heap.size c A zs hl (by simp) (Blk.cellv (Blk.new w 22 #[.slice A zs.length c]) 0 rfl) fun j x hx => ?_
  obtain ⟨b, off, e, hb, hcell⟩ := h2 j x hx
  exact ⟨b, off, e, by have := c2.size; omega, hcell⟩
end Go.Proofs.Ytfkgooliglcjkaa
