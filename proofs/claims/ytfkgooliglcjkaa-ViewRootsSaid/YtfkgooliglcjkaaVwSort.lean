/- Sorting a list of integers that the call owns: the library's contract in this proof's words. -/
import Derived.Test.YtfkgooliglcjkaaVwRoots
import Derived.Test.YtfkgooliglcjkaaShelf
namespace Go.Proofs.Ytfkgooliglcjkaa
open Go.RowKit Go.Maps

def srt (xs : List Int) : List Int := xs.mergeSort fun x y => decide (x ≤ y)
theorem srt_len (xs : List Int) : (srt xs).length = xs.length := List.length_mergeSort _
theorem srt_mem {xs : List Int} {x : Int} : x ∈ srt xs ↔ x ∈ xs := List.mem_mergeSort
theorem srt_rising {xs : List Int} (h : xs.Nodup) : Rising (srt xs) := by
  have h1 : (srt xs).Pairwise fun a b => decide (a ≤ b) = true := List.pairwise_mergeSort (fun a b c h1 h2 => by simp at *; omega) (fun a b => by simp; omega) xs
  have h2 : (srt xs).Nodup := (List.mergeSort_perm xs _).nodup_iff.2 h
  unfold Rising
  refine (h1.and h2).imp ?_
  intro a b hab
  have := of_decide_eq_true hab.1
  have := hab.2
  omega
theorem map_block {w : World} {g : Nat} {T : TypeId} {cur : Array Value} (hb : Blk w g T cur) (f : Array Value → Array Value) : Blk (Sort.mapBlock w g f) g T (f cur) := by
  unfold Blk at hb ⊢
  unfold Sort.mapBlock
  simp [Array.getElem?_modify, hb, Sort.onCells]
theorem map_block_ne {w : World} {g k : Nat} (hk : k ≠ g) (f : Array Value → Array Value) : (Sort.mapBlock w g f).heap[k]? = w.heap[k]? := by
  unfold Sort.mapBlock
  simp [Array.getElem?_modify, Ne.symm hk]
def SortPost (v : Value) (xs : List Int) (w : World) (e : Ending) (w' : World) : Prop := e = .returned (.tuple #[]) ∧ OwnI 3 w' v (srt xs) ∧ Chg (fpv v) w w'
theorem sort_ok (w : World) (v : Value) (xs : List Int) (h : OwnI 3 w v xs) (hl : xs.length ≤ 1000000000000) : Calls Try.prog 68 #[v] w (SortPost v xs w) := by
  rcases h.o.2 with ⟨rfl, h0⟩ | ⟨g, cap, cur, rfl, hg0, hh, hc, hm, hs, ht⟩
  · have hx : xs = [] := List.eq_nil_of_length_eq_zero h0
    subst hx
    refine (Try.slices_Sort_int_none none 0 w).mono ?_
    rintro e w' ⟨rfl, rfl⟩
    have e : srt [] = [] := by simp [srt]
    refine ⟨rfl, ?_, Chg.refl _ _⟩
    rw [e]; exact OwnI.nil _ _
  · have hb : Blk w g 3 cur := hh
    refine (Try.slices_Sort_int g 0 cap xs w (fun j hj => ?_) hb.lt (by omega)).mono ?_
    · have hj' : j < xs.length := by simpa using hj
      obtain ⟨g', e1, e2, e3, _⟩ := h.cell (A := some ⟨g, 0, none⟩) (n := xs.length) (c := cap) (i := j) (x := xs[j]) (List.getElem?_eq_getElem hj')
      injection e1 with e1
      injection e1 with e1
      subst e1
      rw [Nat.zero_add]
      exact ⟨by rw [e2]; simp [getElem!_pos, hj'], e3⟩
    · rintro e w' ⟨rfl, n, os, rfl⟩
      have hb1 : Blk (Sort.ahead w n) g 3 cur := hb
      have hb2 := map_block hb1 (Sort.putCells (Value.int .i64) 0 (srt xs).toArray)
      have hsz : (Sort.mapBlock (Sort.ahead w n) g (Sort.putCells (Value.int .i64) 0 (srt xs).toArray)).heap.size = w.heap.size := by simp [Sort.mapBlock, Sort.ahead]
      have hlt := hb.lt
      have hgr : ∀ k, k < w.heap.size → (Sort.grow (Sort.mapBlock (Sort.ahead w n) g (Sort.putCells (Value.int .i64) 0 (srt xs).toArray)) os).heap[k]? = (Sort.mapBlock (Sort.ahead w n) g (Sort.putCells (Value.int .i64) 0 (srt xs).toArray)).heap[k]? := fun k hk => by
        show (_ ++ os)[k]? = _
        rw [Array.getElem?_append_left (by rw [hsz]; exact hk)]
      refine ⟨rfl, ⟨?_, .inr ⟨g, cap, Sort.putCells (Value.int .i64) 0 (srt xs).toArray cur, by rw [srt_len], Nat.zero_le _, (hgr g hlt).trans hb2, by rw [srt_len]; exact hc, hm, by rw [← hs]; simp [Sort.putCells], ?_⟩⟩, ⟨rfl, rfl, rfl, ?_, fun k hk hn => ?_⟩⟩
      · simp
      · apply List.ext_getElem?
        intro i
        rw [srt_len, List.getElem?_take]
        by_cases hi : i < xs.length
        · have hi2 : i < cur.size := by omega
          have hi3 : i < (srt xs).length := by rw [srt_len]; exact hi
          rw [if_pos (by omega)]
          simp [Sort.putCells, hi2, hi3]
        · rw [if_neg (by omega), List.getElem?_eq_none (by simp [srt_len]; omega)]
      · have e : (Sort.grow (Sort.putRow (Value.int .i64) (Sort.ahead w n) g 0 (xs.mergeSort fun x y => decide (x ≤ y)).toArray) os).heap.size = (Sort.mapBlock (Sort.ahead w n) g (Sort.putCells (Value.int .i64) 0 (srt xs).toArray)).heap.size + os.size := Array.size_append
        rw [e, hsz]; omega
      · rw [show Sort.putRow (Value.int .i64) (Sort.ahead w n) g 0 (xs.mergeSort fun x y => decide (x ≤ y)).toArray = Sort.mapBlock (Sort.ahead w n) g (Sort.putCells (Value.int .i64) 0 (srt xs).toArray) from rfl, hgr k hk, map_block_ne (by rintro rfl; exact hn (by simp [fpv, Value.ownBlock]))]
        rfl
end Go.Proofs.Ytfkgooliglcjkaa
