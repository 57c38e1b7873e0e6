/- The walks of package view: Words. -/
import Derived.Test.YtfkgooliglcjkaaVwAsk2
import Derived.Test.YtfkgooliglcjkaaCls
namespace Go.Proofs.Ytfkgooliglcjkaa
open Go.RowKit Go.Maps

def owN (n : Nat) : Nat := if 1 ≤ n ∧ n ≤ 256 then clsL.getD (clsN n) 0 else 0
theorem clsN_le {n : Nat} (h : n ≤ 256) : clsN n ≤ 15 := by
  unfold clsN
  rcases Nat.lt_or_ge 15 (clsL.takeWhile fun s => decide (s < n)).length with hlt | hge
  · exfalso
    have h1 := List.takeWhile_prefix (fun s => decide (s < n)) (l := clsL)
    have h2 : (clsL.takeWhile fun s => decide (s < n)).length ≤ 16 := h1.length_le
    have h3 : clsL.takeWhile (fun s => decide (s < n)) = clsL := h1.eq_of_length (by show _ = 16; omega)
    have h4 := List.all_takeWhile (l := clsL) (p := fun s => decide (s < n))
    rw [h3] at h4
    have h5 := List.all_eq_true.1 h4 256 (by decide)
    have := of_decide_eq_true h5
    omega
  · exact hge
theorem owN_le (n : Nat) : owN n ≤ 256 := by
  unfold owN; split
  · next h => exact (cls_topN (by have := clsN_le h.2; omega)).2
  · omega
theorem clsOf_no {n : Nat} (h : ¬ (1 ≤ n ∧ n ≤ 256)) : clsOf (n : Int) = -1 ∧ owN n = 0 := by
  unfold clsOf owN
  exact ⟨if_neg (by omega), if_neg h⟩
theorem clsOf_yes {n : Nat} (h : 1 ≤ n ∧ n ≤ 256) : ∃ k : Nat, k < 16 ∧ clsOf (n : Int) = k ∧ clsSz k = owN n := by
  refine ⟨clsN n, by have := clsN_le h.2; omega, ?_, ?_⟩
  · unfold clsOf; rw [if_pos (by omega)]; simp
  · rw [clsSz_in (by have := clsN_le h.2; omega)]; unfold owN; rw [if_pos h]
def wordsN (os : List Ob) : Nat := (os.map fun o => owN o.slots.length).sum
theorem words_take {os : List Ob} {i : Nat} {o : Ob} (h : os[i]? = some o) : wordsN (os.take (i + 1)) = wordsN (os.take i) + owN o.slots.length := by
  obtain ⟨hi, rfl⟩ := List.getElem?_eq_some_iff.1 h
  unfold wordsN
  rw [List.take_succ_eq_append_getElem hi, List.map_append, List.sum_append]
  simp only [List.map_cons, List.map_nil, List.sum_cons, List.sum_nil, Nat.add_zero]
theorem words_le : ∀ (os : List Ob), wordsN os ≤ os.length * 256
  | [] => by simp [wordsN]
  | o :: os => by
    have h1 := words_le os
    have h2 := owN_le o.slots.length
    have e : wordsN (o :: os) = owN o.slots.length + wordsN os := rfl
    rw [e, List.length_cons, Nat.succ_mul]; omega
def WdRel (w0 : World) (os : List Ob) (gk : Nat) (s idx : Value) (w : World) : Prop :=
  ∃ i, gk + i = os.length + 1 ∧ i ≤ os.length ∧ s = .int .i64 (wordsN (os.take i) : Nat) ∧ idx = .int .i64 (i : Nat) ∧ Chg [] w0 w
set_option maxHeartbeats 1600000 in
set_option maxRecDepth 100000 in
theorem words_ok (w : World) (v : Value) (V : Vw) (h : VwAt w w.heap.size v V) (hS : Small V) : Calls Try.prog 25 #[v] w (IntPost (wordsN V.objects : Nat) w) := by
  have HV := Lib.hid h
  obtain ⟨g, A1, c1, A2, c2, rfl, h1, h2, h3, h4, h5⟩ := h.ex
  obtain ⟨A0, c0, rfl⟩ := h1.ex
  have C1 := (Chg.refl [] w).alloc (.cells #[.int .i64 V.phase, .int .i64 V.cycle, .int .i64 V.clock, .slice A0 V.globals.length c0, .slice A1 V.gs.length c1, .slice A2 V.objects.length c2, .int .i64 V.grey, .int .i64 V.notes, .int .i64 V.roots] 26)
  have HB := Lib.hid (And.intro C1 h3); clear C1 h h1 h2 h3 h4 h5
  have hn := hS.o
  go_enter Try.func25, Try.ntmps25
  go_wp2_with fail
  go_loopg [3, 10] (V.objects.length + 1) (fun gk s idx wr => WdRel w V.objects gk s idx wr)
  case atStart => exact ⟨0, by omega, by omega, rfl, rfl, HB.out.1⟩
  case round =>
    obtain ⟨i, hgk, hin, rfl, rfl, C⟩ := hrel
    have hle := words_le (V.objects.take i)
    have hle2 : (V.objects.take i).length ≤ V.objects.length := by rw [List.length_take]; omega
    by_cases e : i < V.objects.length
    · obtain ⟨o, ho⟩ : ∃ o, V.objects[i]? = some o := ⟨_, List.getElem?_eq_getElem e⟩
      obtain ⟨b, off, s, rfl, hbb, i0, i1, i2, hsl, -⟩ := (HB.out.2.chg C (Nat.le_refl _) (by simp)).at_ i o ho
      obtain ⟨As, cs, rfl⟩ := hsl.ex
      have hol := hsl.len
      have hi' : (i : Int) < (V.objects.length : Int) := by omega
      have hts := words_take ho
      have how := owN_le o.slots.length
      have HX := Lib.hid (And.intro C hts); clear C hts ho hbb hsl hle2
      obtain ⟨q, hq⟩ : ∃ q, q = wordsN (V.objects.take i) := ⟨_, rfl⟩
      have hql : q ≤ 256000000 := by rw [hq]; have : (V.objects.take i).length ≤ 1000000 := by rw [List.length_take]; omega
                                     omega
      rw [← hq]
      have HQ := Lib.hid hq; clear hq hle
      go_wp2_with fail
      refine (of_ok _ _).mono ?_
      rintro e w2 ⟨rfl, C2⟩
      have HC := Lib.hid ((HX.out.1.alloc (.cells #[.int .i64 o.addr, .slice As o.slots.length cs, .bool o.marked] 30)).trans C2); clear C2 i0 i1 i2
      by_cases hin2 : 1 ≤ o.slots.length ∧ o.slots.length ≤ 256
      · obtain ⟨k, hk, hk1, hk2⟩ := clsOf_yes hin2
        rw [hk1]
        have hk3 : (0 : Int) ≤ (k : Int) := by omega
        have HK := Lib.hid hk2; clear hk1 hk2 hin2
        go_wp2_with fail
        refine (size_ok _ _).mono ?_
        rintro e w3 ⟨rfl, C3⟩
        have HD := Lib.hid (HC.out.trans C3); clear C3
        rw [HK.out]
        have hw : IntKind.i64.wrap ((q : Int) + (owN o.slots.length : Int)) = ((q + owN o.slots.length : Nat) : Int) := by rw [IntKind.wrap_i64]; omega
        go_wp2_with fail
        go_roundg (V.objects.length - i)
        case measure => omega
        case rel => exact ⟨i + 1, by omega, by omega, by rw [HX.out.2, ← HQ.out]; go_num, by go_num, HD.out⟩
      · obtain ⟨hk1, hk2⟩ := clsOf_no hin2
        rw [hk1]
        have HK := Lib.hid hk2; clear hk1 hk2 hin2
        go_wp2_with fail
        go_roundg (V.objects.length - i)
        case measure => omega
        case rel => exact ⟨i + 1, by omega, by omega, by rw [HX.out.2, ← HQ.out, HK.out]; rfl, by go_num, HC.out⟩
    · obtain rfl : i = V.objects.length := by omega
      rw [List.take_length]
      have HX := Lib.hid C; clear C e hgk hin hle hle2
      go_wp2_with fail
      go_ret
      exact ⟨rfl, HX.out⟩
end Go.Proofs.Ytfkgooliglcjkaa
