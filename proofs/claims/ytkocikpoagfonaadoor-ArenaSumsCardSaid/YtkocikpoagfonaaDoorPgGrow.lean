/- The walk of slices.Insert at runs of pages: in the middle, where there is no room; and all roads joined. -/
import Derived.Test.YtkocikpoagfonaaDoorPgIns
import Derived.Lib.AppendZerosOnto
namespace Go.Proofs.YtkocikpoagfonaaDoor
open Go.RowKit

/-- In the middle, in a new row. -/
theorem ins_grown {w : World} {g cap : Nat} {a b : List R} {r : R} {rest : List Value} (hb : Blk w g 73 (rc a ++ rest).toArray) (hll : a.length * 2 + rest.length = cap * 2) (hc : (a ++ b).length < cap) (hm : cap ≤ maxLen) :
    ∀ (W : World), W.heap[g]? = ((w.setCells g (a.length * 2) [.int .i64 r.f, .int .i64 r.p]).drew.setCells g ((a.length + 1) * 2) (rc b)).heap[g]? →
      W.ownsRow 0 73 2 (.slice (some ⟨g, 0, none⟩) (a ++ r :: b).length cap) (a ++ r :: b).length (rc (a ++ r :: b)) := by
  intro W hW
  have hlab : (a ++ b).length = a.length + b.length := List.length_append
  have hrl : 2 + b.length * 2 ≤ rest.length := by omega
  obtain ⟨c0, c1, rest', rfl⟩ : ∃ c0 c1 rest', rest = c0 :: c1 :: rest' := by
    match rest, hrl with
    | c0 :: c1 :: rest', _ => exact ⟨c0, c1, rest', rfl⟩
    | [_], h => simp at h <;> omega
    | [], h => simp at h <;> omega
  simp only [List.length_cons] at hrl hll
  have hrest : rest' = rest'.take (b.length * 2) ++ rest'.drop (b.length * 2) := (List.take_append_drop _ _).symm
  have hyl : (rest'.take (b.length * 2)).length = b.length * 2 := by rw [List.length_take]; omega
  generalize rest'.take (b.length * 2) = y at hrest hyl
  generalize rest'.drop (b.length * 2) = z at hrest
  subst hrest
  have h1 : Blk (w.setCells g (a.length * 2) [.int .i64 r.f, .int .i64 r.p]) g 73 (rc a ++ [Value.int .i64 r.f, Value.int .i64 r.p] ++ (y ++ z)).toArray := by
    refine Blk.mid (x := rc a) (y := [c0, c1]) (z := y ++ z) ?_ [Value.int .i64 r.f, Value.int .i64 r.p] rfl (rc_len a).symm
    have e : rc a ++ [c0, c1] ++ (y ++ z) = rc a ++ c0 :: c1 :: (y ++ z) := by simp
    rw [e]; exact hb
  have h2 : Blk ((w.setCells g (a.length * 2) [.int .i64 r.f, .int .i64 r.p]).drew.setCells g ((a.length + 1) * 2) (rc b)) g 73 (rc a ++ [Value.int .i64 r.f, Value.int .i64 r.p] ++ rc b ++ z).toArray := by
    refine Blk.mid (y := y) ?_ _ (by rw [rc_len, hyl]) (by simp only [List.length_append, rc_len, List.length_cons, List.length_nil]; omega)
    rw [List.append_assoc]; exact h1.drew
  have h3 : Blk W g 73 (rc (a ++ r :: b) ++ z).toArray := by
    have e : rc (a ++ r :: b) ++ z = rc a ++ [Value.int .i64 r.f, Value.int .i64 r.p] ++ rc b ++ z := by rw [rc_append, rc_cons]; simp
    rw [e]; exact hW.trans h2
  simp only [List.length_append] at hll
  refine own_mk h3 ?_ ?_ hm (rc_len _)
  · simp only [rc_len, List.length_append, List.length_cons]; omega
  · simp only [List.length_append, List.length_cons]; omega

set_option maxRecDepth 100000 in
set_option maxHeartbeats 1600000 in
/-- In the middle, where there is no room. -/
theorem insert_grow (w : World) (g cap : Nat) (a b : List R) (r : R) (vb : Nat) (o : w.ownsRow 0 73 2 (.slice (some ⟨g, 0, none⟩) (a ++ b).length cap) (a ++ b).length (rc (a ++ b))) (hl : (a ++ b).length ≤ 1000000)
    (hvb : Blk w vb 73 #[.int .i64 r.f, .int .i64 r.p]) (hb0 : 0 < b.length) (hroom : cap < (a ++ b).length + 1) :
    Calls Tryd.prog 65 #[.slice (some ⟨g, 0, none⟩) (a ++ b).length cap, .int .i64 a.length, .slice (some ⟨vb, 0, none⟩) 1 1] w (InsPost (.slice (some ⟨g, 0, none⟩) (a ++ b).length cap) (a ++ r :: b) w) := by
  obtain ⟨i0, hi0, hz0, hz1, hz2⟩ := info_parts info_run
  obtain ⟨g', cap', rest, hv, hb, hll, hc, hm, _⟩ := own_open o (by rw [List.length_append]; omega)
  injection hv with h1 h2 h3
  injection h1 with h1
  injection h1 with h1
  subst h1 h3
  have hab : (a ++ b).length = a.length + b.length := List.length_append
  have hlb : (rc b).length = b.length * 2 := rc_len b
  have hu := Tryd.underlying69
  have hinfo : (Tryd.prog.info? 73).map (·.size) = some 2 := by kernel_rfl
  have hcap : cap = a.length + b.length := by omega
  subst hcap
  have hold : (Builtin.firstCells i0.size a.length (.slice (some ⟨g, 0, none⟩) a.length (a.length + b.length))).run Tryd.prog w.drew = .ok (rc a).toArray w.drew := by
    rw [hz1]
    refine run_firstCells_some w.drew 2 a.length ⟨g, 0, none⟩ a.length _ (rc a) (rc_len a) (fun j v hj => ?_)
    rw [Addr.add_lit, Nat.zero_add]
    refine (hb.cell _).trans ?_
    rw [List.getElem?_toArray, rc_append, List.append_assoc, List.getElem?_append_left (List.getElem?_eq_some_iff.1 hj).1]
    exact hj
  have hgl : g < w.heap.size := Blk.lt hb
  have hvl : vb < w.heap.size := Blk.lt hvb
  obtain ⟨G, hG⟩ : ∃ G, G = grownCap w (a.length + b.length + 1) (a.length + b.length) 73 := ⟨_, rfl⟩
  have hGn : a.length + b.length + 1 ≤ G := by rw [hG]; exact grownCap_ge w _ _ _
  have hGm : G ≤ maxLen := by rw [hG]; exact grownCap_le_maxLen w _ _ _ (by unfold maxLen; omega)
  obtain ⟨Z, hZ⟩ : ∃ Z, Z = (Builtin.zeroCells (Value.agg #[.int .i64 0, .int .i64 0]).cells (b.length + 1) ++ Builtin.zeroCells (Value.agg #[.int .i64 0, .int .i64 0]).cells (G - (a.length + b.length + 1))).toList := ⟨_, rfl⟩
  have hZl : a.length * 2 + Z.length = G * 2 := by
    rw [hZ]
    simp [Builtin.zeroCells, Value.cells]
    omega
  have hrz : ∀ ty, (Builtin.append_ #[69, 3] ty #[.slice (some ⟨g, 0, none⟩) a.length (a.length + b.length), .int .i64 ((b.length : Int) + 1)]).run Tryd.prog w =
      .ok (.slice (some ⟨w.heap.size, 0, none⟩) (a.length + b.length + 1) G) (w.drew.alloc (.cells (rc a ++ Z).toArray 73)) := fun ty => by
    have h := Lib.run_append_grow_zeros w 69 3 ty 73 i0 _ .i64 .i64 hu Tryd.underlying3 hi0 hz0 (some ⟨g, 0, none⟩) a.length (a.length + b.length) (rc a) hold (b.length + 1) (by omega) (by omega) (by omega) (by omega) (by rw [hz2]; omega)
      (by rw [hz2]; exact growslice_fits (by omega) (by omega))
    rw [← Nat.add_assoc, ← hG] at h
    rw [hZ]
    have e : ∀ x y : Array Value, (rc a ++ (x ++ y).toList).toArray = (rc a).toArray ++ x ++ y := fun x y => by apply Array.toList_inj.1; simp
    rw [e]
    exact h
  have hB1 : Blk (w.drew.alloc (.cells (rc a ++ Z).toArray 73)) w.heap.size 73 (rc a ++ Z).toArray := Blk.new w.drew _ _
  have hsz : (rc a ++ Z).toArray.size = G * 2 := by simp only [List.size_toArray, List.length_append, rc_len]; exact hZl
  have hvb1 : Blk (w.drew.alloc (.cells (rc a ++ Z).toArray 73)) vb 73 #[.int .i64 r.f, .int .i64 r.p] := hvb.drew.alloc _
  have hcp1 : ∀ ty dc lb, lb = b.length + 1 → (Builtin.copy_ #[69, 69] ty #[.slice (some ⟨w.heap.size, a.length * 2, none⟩) lb dc, .slice (some ⟨vb, 0, none⟩) 1 1]).run Tryd.prog (w.drew.alloc (.cells (rc a ++ Z).toArray 73)) =
      .ok (goInt 1) ((w.drew.alloc (.cells (rc a ++ Z).toArray 73)).setCells w.heap.size (a.length * 2) [.int .i64 r.f, .int .i64 r.p]) := fun ty dc lb hlb' => by
    subst hlb'
    exact run_copy_N _ _ _ ty 73 2 w.heap.size (a.length * 2) (b.length + 1) dc ⟨vb, 0, none⟩ 1 1 1 [.int .i64 r.f, .int .i64 r.p] hu hinfo (by simp only [Nat.min_def]; split <;> omega) rfl
      (fun j u hj => by rw [Addr.add_lit, Nat.zero_add, hvb1.cell]; simpa using hj)
      (fun j hj => hB1.some _ (by rw [hsz]; simp only [List.length_cons, List.length_nil] at hj; omega)) (fun j hj => hB1.frozen _) (one2 _ _)
  have hB2 := Blk.setCells_at (cs := #[]) [Value.int .i64 r.f, Value.int .i64 r.p] (a.length * 2) _ _ hB1
  have hg2 : Blk ((w.drew.alloc (.cells (rc a ++ Z).toArray 73)).setCells w.heap.size (a.length * 2) [.int .i64 r.f, .int .i64 r.p]) g 73 (rc (a ++ b) ++ rest).toArray := (hb.drew.alloc _).setCells_far (by omega) _ _
  have hcp2 : ∀ ty dc sc la lb, la = b.length → lb = b.length → (Builtin.copy_ #[69, 69] ty #[.slice (some ⟨w.heap.size, (a.length + 1) * 2, none⟩) la dc, .slice (some ⟨g, a.length * 2, none⟩) lb sc]).run Tryd.prog ((w.drew.alloc (.cells (rc a ++ Z).toArray 73)).setCells w.heap.size (a.length * 2) [.int .i64 r.f, .int .i64 r.p]).drew =
      .ok (goInt b.length) (((w.drew.alloc (.cells (rc a ++ Z).toArray 73)).setCells w.heap.size (a.length * 2) [.int .i64 r.f, .int .i64 r.p]).drew.setCells w.heap.size ((a.length + 1) * 2) (rc b)) := fun ty dc sc la lb hla hlb' => by
    subst hla hlb'
    exact run_copy_N _ _ _ ty 73 2 w.heap.size ((a.length + 1) * 2) b.length dc ⟨g, a.length * 2, none⟩ b.length sc b.length (rc b) hu hinfo (by simp only [Nat.min_def]; split <;> omega) hlb
      (fun j u hj => by
        rw [Addr.add_lit]
        refine (hg2.drew.cell _).trans ?_
        have hjl := (List.getElem?_eq_some_iff.1 hj).1
        rw [List.getElem?_toArray, rc_append, List.append_assoc, List.getElem?_append_right (by simp [rc_len]), List.getElem?_append_left (by simp [rc_len]; rw [rc_len] at hjl; omega), ← hj]
        congr 1
        simp [rc_len])
      (fun j hj => hB2.drew.some _ (by rw [putAll_size, hsz]; omega)) (fun j hj => hB2.drew.frozen _) (rc_one b)
  have hcp1' : ∀ ty dc lb, lb = b.length + 1 → (Builtin.copy_ #[69, 69] ty #[.slice (some ⟨w.heap.size, a.length * 2, none⟩) lb dc, .slice (some ⟨vb, 0, none⟩) 1 1]).run Tryd.prog (w.alloc (.cells (rc a ++ Z).toArray 73)).drew =
      .ok (goInt 1) ((w.alloc (.cells (rc a ++ Z).toArray 73)).drew.setCells w.heap.size (a.length * 2) [.int .i64 r.f, .int .i64 r.p]) := hcp1
  have hcp2' : ∀ ty dc sc la lb, la = b.length → lb = b.length → (Builtin.copy_ #[69, 69] ty #[.slice (some ⟨w.heap.size, (a.length + 1) * 2, none⟩) la dc, .slice (some ⟨g, a.length * 2, none⟩) lb sc]).run Tryd.prog ((w.alloc (.cells (rc a ++ Z).toArray 73)).drew.setCells w.heap.size (a.length * 2) [.int .i64 r.f, .int .i64 r.p]).drew =
      .ok (goInt b.length) (((w.alloc (.cells (rc a ++ Z).toArray 73)).drew.setCells w.heap.size (a.length * 2) [.int .i64 r.f, .int .i64 r.p]).drew.setCells w.heap.size ((a.length + 1) * 2) (rc b)) := hcp2
  have hfin : ((((w.alloc (.cells (rc a ++ Z).toArray 73)).drew.setCells w.heap.size (a.length * 2) [.int .i64 r.f, .int .i64 r.p]).drew).setCells w.heap.size ((a.length + 1) * 2) (rc b)).ownsRow 0 73 2 (.slice (some ⟨w.heap.size, 0, none⟩) (a ++ r :: b).length G) (a ++ r :: b).length (rc (a ++ r :: b)) ∧
      Chg [] w ((((w.alloc (.cells (rc a ++ Z).toArray 73)).drew.setCells w.heap.size (a.length * 2) [.int .i64 r.f, .int .i64 r.p]).drew).setCells w.heap.size ((a.length + 1) * 2) (rc b)) :=
    ⟨ins_grown (w := (w.alloc (.cells (rc a ++ Z).toArray 73)).drew) (b := b) (r := r) (Blk.new w _ _).drew hZl (by omega) hGm _ rfl, (((((Chg.refl _ w).alloc _).drew).setCells (.inr (Nat.le_refl _)) _ _).drew).setCells (.inr (Nat.le_refl _)) _ _⟩
  obtain ⟨W2, hW2⟩ : ∃ W2, W2 = ((w.alloc (.cells (rc a ++ Z).toArray 73)).drew.setCells w.heap.size (a.length * 2) [.int .i64 r.f, .int .i64 r.p]) := ⟨_, rfl⟩
  rw [← hW2] at hcp1' hcp2' hfin
  obtain ⟨W3, hW3⟩ : ∃ W3, W3 = (W2.drew).setCells w.heap.size ((a.length + 1) * 2) (rc b) := ⟨_, rfl⟩
  rw [← hW3] at hcp2' hfin
  have HC := Lib.hid (And.intro hcp1' (And.intro hcp2' (And.intro hrz hfin))); clear hcp1' hcp2' hfin hW2 hW3
  have hG63 : G ≤ 9223372036854775807 := by simp only [maxLen] at hGm; omega
  rw [hab] at hl hroom ⊢
  have b1 : a.length ≤ a.length + b.length + 1 := by omega
  have b2 : a.length ≤ a.length + b.length := by omega
  have b3 : ¬ G = a.length := by omega
  have b4 : ¬ G = a.length + 1 := by omega
  have b5 : ¬ ((a.length : Int) = (a.length : Int) + (b.length : Int)) := by omega
  have b6 : (0 : Int) ≤ (a.length : Int) + 1 := by omega
  have b7 : (a.length : Int) + 1 ≤ (a.length : Int) + (b.length : Int) + 1 := by omega
  have b10 : (a.length : Int) ≤ (a.length : Int) + (b.length : Int) := by omega
  have b11 : (0 : Int) ≤ (a.length : Int) := by omega
  have b12 : IntKind.i64.wrap ((a.length : Int) + 1) = (a.length : Int) + 1 := by rw [IntKind.wrap_i64]; omega
  have b13 : ((a.length : Int) + 1).toNat = a.length + 1 := by omega
  have b14 : a.length + 1 ≤ a.length + b.length + 1 := by omega
  have b16 : (a.length : Int) ≤ (a.length : Int) + (b.length : Int) + 1 := by omega
  have b17 : (a.length : Int) + 1 ≤ (a.length : Int) + (b.length : Int) := by omega
  have b18 : a.length + 1 ≤ a.length + b.length := by omega
  have b19 : ¬ b = [] := fun e => by rw [e] at hb0; exact Nat.lt_irrefl _ hb0
  have b20 : (a.length : Int) + (b.length : Int) + 1 - (a.length : Int) = (b.length : Int) + 1 := by omega
  have hl2 : (a ++ r :: b).length = a.length + b.length + 1 := by simp only [List.length_append, List.length_cons]; omega
  clear hb hll o hm hcp1 hcp2 hrz hsz hlb hc hold hi0 hz0 hz1 hz2 hB1 hB2 hg2 hvb1 hZ hZl hG hGm hvb hinfo
  go_enter Tryd.func65, Tryd.ntmps65
  go_wp2_with (at_builtin; refine Lib.wpList_append_run _ rfl _ _ _ _ rfl _ _ rfl rfl _ _ (HC.out.2.2.1 _) ?_)
  rw [HC.out.1 _ _ _ (by omega)]
  go_wp2_with fail
  go_still_tail 8, (by kernel_rfl)
  change wpList _ _ _ _ _ W2.drew
  refine wpList_copy_eq _ rfl _ _ 69 69 rfl _ _ rfl rfl (HC.out.2.1 _ _ _ _ _ (by omega) (by omega)) ?_
  go_wp2_with fail
  go_ret
  refine ⟨_, rfl, ?_, ?_, .inr ⟨_, rfl, Nat.le_refl _⟩⟩
  · have h := HC.out.2.2.2.1
    rw [hl2] at h ⊢
    exact h
  · exact HC.out.2.2.2.2.mono fun k hk => by cases hk

/-- slices.Insert of one run at any place. -/
theorem insert_ok (w : World) (v : Value) (a b : List R) (r : R) (vb : Nat) (o : w.ownsRow 0 73 2 v (a ++ b).length (rc (a ++ b))) (hl : (a ++ b).length ≤ 1000000) (hvb : Blk w vb 73 #[.int .i64 r.f, .int .i64 r.p]) (hne : v.ownBlock ≠ some vb) (x : Int) (hx : x = a.length) :
    Calls Tryd.prog 65 #[v, .int .i64 x, .slice (some ⟨vb, 0, none⟩) 1 1] w (InsPost v (a ++ r :: b) w) := by
  subst hx
  rcases Nat.eq_zero_or_pos b.length with hb | hb
  · have e : b = [] := List.eq_nil_of_length_eq_zero hb
    subst e
    rw [List.append_nil] at o hl
    exact insert_end w v a r vb o hl hvb
  · obtain ⟨g, cap, rest, rfl, _, _, hc, _, _⟩ := own_open o (by rw [List.length_append]; omega)
    by_cases hr : (a ++ b).length < cap
    · exact insert_room w g cap a b r vb o hl hvb (fun e => hne (by rw [e]; rfl)) hb hr
    · exact insert_grow w g cap a b r vb o hl hvb hb (by omega)
end Go.Proofs.YtkocikpoagfonaaDoor
