/- told of layer 29. -/
import Derived.Test.YtfkgooliglcjkaaVwWords
namespace Go.Proofs.Ytfkgooliglcjkaa
open Go.RowKit Go.Maps

/-! What can be reached, by a list. -/
def rchB (V : Vw) (S : List Int) : Bool :=
  (V.said.all fun x => x == 0 || S.contains x) && (S.all fun a => (V.slotsAt a).all fun x => x == 0 || S.contains x) &&
  ((List.range S.length).all fun i => S.getD i 0 != 0 && (V.said.contains (S.getD i 0) || (List.range i).any fun j => (V.slotsAt (S.getD j 0)).contains (S.getD i 0)))
theorem rch_of {V : Vw} {S : List Int} (h : rchB V S = true) (x : Int) : Rch V x ↔ x ∈ S := by
  unfold rchB at h
  simp only [Bool.and_eq_true, List.all_eq_true, Bool.or_eq_true, beq_iff_eq, List.contains_iff_mem, List.mem_range, bne_iff_ne, List.any_eq_true] at h
  obtain ⟨⟨h1, h2⟩, h3⟩ := h
  constructor
  · intro hr
    induction hr with
    | root g1 g2 => exact (h1 _ g1).resolve_left g2
    | step _ g1 g2 g3 g4 ih => exact (h2 _ ih _ (by rw [slotsAt_of g1 g2]; exact g3)).resolve_left g4
  · intro hx
    obtain ⟨i, hi⟩ := List.getElem?_of_mem hx
    have main : ∀ (i : Nat) (x : Int), S[i]? = some x → Rch V x := by
      intro i
      induction i using Nat.strongRecOn with
      | ind i ih =>
        intro x hi
        have hil := (List.getElem?_eq_some_iff.1 hi).1
        have hg : S.getD i 0 = x := by rw [List.getD_eq_getElem?_getD, hi]; rfl
        obtain ⟨g1, g2⟩ := h3 i hil
        rw [hg] at g1 g2
        rcases g2 with g2 | ⟨j, hj, g2⟩
        · exact .root g2 g1
        · have hjl : j < S.length := by omega
          have hgj : S.getD j 0 = S[j] := by simp [List.getD_eq_getElem?_getD, hjl]
          rw [hgj] at g2
          obtain ⟨k, o, e1, e2, e3⟩ := slotsAt_obj g2
          exact .step (ih j hj _ (List.getElem?_eq_getElem hjl)) e1 e2 e3 g1
    exact main i x hi
theorem isRch_of {V : Vw} {S l l' : List Int} (h : rchB V S = true) (hs : Rising l) (h1 : ∀ x ∈ thereL V S, x ∈ l) (h2 : ∀ x ∈ l, x ∈ thereL V S) (h' : IsRch V l') : l' = l := by
  refine h'.uniq ⟨hs, fun x => ?_⟩
  have e : (x ∈ S ∧ (V.at_ x).isSome = true) ↔ x ∈ thereL V S := by unfold thereL; rw [List.mem_filter]
  rw [rch_of h, e]
  exact ⟨h2 x, h1 x⟩
theorem isLost_of {V : Vw} {S l l' : List Int} (h : rchB V S = true) (hs : Rising l) (h1 : ∀ x ∈ lostL V S, x ∈ l) (h2 : ∀ x ∈ l, x ∈ lostL V S) (h' : IsLost V l') : l' = l := by
  refine h'.uniq ⟨hs, fun x => ?_⟩
  have e : (x ∈ S ∧ (V.at_ x).isSome = false) ↔ x ∈ lostL V S := by unfold lostL; rw [List.mem_filter]; simp
  rw [rch_of h, e]
  exact ⟨h2 x, h1 x⟩

/-! told's view. -/
def V0 : Vw := ⟨0, 0, 0, [64], [], [⟨64, [128, 0], false⟩, ⟨128, [256], true⟩, ⟨192, [0], false⟩], 0, 0, 0⟩
theorem V0_small : Small V0 := ⟨by decide, by decide, by decide⟩
theorem V0_rch : rchB V0 [64, 128, 256] = true := by decide
theorem V0_reach {l : List Int} (h : IsRch V0 l) : l = [64, 128] := isRch_of V0_rch (by unfold Rising; decide) (by decide) (by decide) h
theorem V0_lost {l : List Int} (h : IsLost V0 l) : l = [256] := isLost_of V0_rch (by unfold Rising; decide) (by decide) (by decide) h
theorem V0_white : whiteL V0 [64, 128] = [64] := by decide
theorem V0_find : findI V0 192 = 2 := by decide
theorem V0_words : wordsN V0.objects = 4 := by decide
theorem V0_slots {a x : Int} (h : x ∈ V0.slotsAt a) : (a = 64 ∧ (x = 128 ∨ x = 0)) ∨ (a = 128 ∧ x = 256) ∨ (a = 192 ∧ x = 0) := by
  obtain ⟨k, o, h1, h2, h3⟩ := slotsAt_obj h
  obtain ⟨o', h4, rfl⟩ := at_lt h1
  rw [h2] at h4; injection h4 with h4; subst h4
  match k, h2 with
  | 0, h2 => have e : (⟨64, [128, 0], false⟩ : Ob) = o := by simpa [V0] using h2
             subst e; left; simpa using h3
  | 1, h2 => have e : (⟨128, [256], true⟩ : Ob) = o := by simpa [V0] using h2
             subst e; right; left; simpa using h3
  | 2, h2 => have e : (⟨192, [0], false⟩ : Ob) = o := by simpa [V0] using h2
             subst e; right; right; simpa using h3
  | k + 3, h2 => simp [V0] at h2
theorem V0_way {p : List Int} (h : Way V0 p 128) : p = [64, 128] := by
  cases h with
  | root h1 _ => simp [V0, Vw.said] at h1
  | @step q a _ hq hx _ =>
    rcases V0_slots hx with ⟨rfl, _⟩ | ⟨_, h⟩ | ⟨_, h⟩
    · cases hq with
      | root _ _ => rfl
      | @step r b _ _ hy _ =>
        rcases V0_slots hy with ⟨_, h | h⟩ | ⟨_, h⟩ | ⟨_, h⟩ <;> omega
    · omega
    · omega
theorem V0_path {p : List Int} (h : IsPath V0 128 p) : p = [64, 128] := by
  rcases h with ⟨_, h | h⟩ | ⟨_, h⟩
  · exact absurd h (by decide)
  · exact absurd ((rch_of V0_rch 128).2 (by decide)) h
  · exact V0_way h.1

theorem SlI.blk {w : World} {g c : Nat} {T : TypeId} {xs : List Int} (h : Blk w g T (xs.map (Value.int .i64)).toArray) (hl : xs.length ≤ maxLen) (hw : ∀ x ∈ xs, WfI x) : SlI w w.heap.size (.slice (some ⟨g, 0, none⟩) xs.length c) xs :=
  ⟨⟨_, _, rfl⟩, hl, fun A n c e i x hx => by
    injection e with e1 e2 e3
    exact ⟨g, 0, e1.symm, h.lt, by rw [Nat.zero_add, h.cell]; simp [hx]⟩, hw⟩
theorem SlI.nilI (w : World) (B c : Nat) : SlI w B (.slice none 0 c) [] := ⟨⟨none, c, rfl⟩, by simp, fun A n c e i x hx => by simp at hx, by simp⟩

def TdPost (w : World) (e : Ending) (w' : World) : Prop := e = .returned (.bool true) ∧ Chg [] w w'
theorem ints_eq {w : World} {v u : Value} {xs ys : List Int} (hv : RdI w v xs) (hu : RdI w u ys) (e : xs = ys) : Calls Try.prog 14 #[v, u] w (TdPost w) :=
  (ints_ok w v u xs ys hv hu).mono fun _ _ h => by
    obtain ⟨h1, h2⟩ := h.chg
    exact ⟨by rw [h1, decide_eq_true e], h2⟩
def V0cells (n : Nat) : Array Value := #[.int .i64 0, .int .i64 0, .int .i64 0, .slice (some ⟨n, 0, none⟩) 1 1, .slice none 0 0, .slice (some ⟨n + 1 + 1 + 1 + 1, 0, none⟩) 3 3, .int .i64 0, .int .i64 0, .int .i64 0]
theorem V0_at {W : World} {n : Nat} (b0 : Blk W n 3 #[.int .i64 64]) (b1 : Blk W (n + 1) 3 #[.int .i64 128, .int .i64 0]) (b2 : Blk W (n + 1 + 1) 3 #[.int .i64 256]) (b3 : Blk W (n + 1 + 1 + 1) 3 #[.int .i64 0])
    (b4 : Blk W (n + 1 + 1 + 1 + 1) 30 #[.int .i64 64, .slice (some ⟨n + 1, 0, none⟩) 2 2, .bool false, .int .i64 128, .slice (some ⟨n + 1 + 1, 0, none⟩) 1 1, .bool true, .int .i64 192, .slice (some ⟨n + 1 + 1 + 1, 0, none⟩) 1 1, .bool false]) :
    VwAt W W.heap.size (.agg (V0cells n)) V0 := by
  have s0 : SlI W W.heap.size (.slice (some ⟨n, 0, none⟩) 1 1) [64] := SlI.blk (xs := [64]) b0 (by decide) (by intro x hx; simp at hx; subst hx; exact ⟨by decide, by decide⟩)
  have s1 : SlI W W.heap.size (.slice (some ⟨n + 1, 0, none⟩) 2 2) [128, 0] := SlI.blk (xs := [128, 0]) b1 (by decide) (by intro x hx; simp at hx; rcases hx with rfl | rfl <;> exact ⟨by decide, by decide⟩)
  have s2 : SlI W W.heap.size (.slice (some ⟨n + 1 + 1, 0, none⟩) 1 1) [256] := SlI.blk (xs := [256]) b2 (by decide) (by intro x hx; simp at hx; subst hx; exact ⟨by decide, by decide⟩)
  have s3 : SlI W W.heap.size (.slice (some ⟨n + 1 + 1 + 1, 0, none⟩) 1 1) [0] := SlI.blk (xs := [0]) b3 (by decide) (by intro x hx; simp at hx; subst hx; exact ⟨by decide, by decide⟩)
  refine ⟨⟨_, none, 0, some ⟨n + 1 + 1 + 1 + 1, 0, none⟩, 3, rfl, s0, ⟨fun i g hg => by simp [V0] at hg⟩, ⟨fun i o ho => ?_⟩, by decide, by decide⟩, ⟨by decide, by decide⟩, ⟨by decide, by decide⟩, ⟨by decide, by decide⟩, ⟨by decide, by decide⟩, ⟨by decide, by decide⟩, ⟨by decide, by decide⟩⟩
  match i, ho with
  | 0, ho => have e : (⟨64, [128, 0], false⟩ : Ob) = o := by simpa [V0] using ho
             subst e; exact ⟨_, 0, _, rfl, b4.lt, b4.cellv 0 rfl, b4.cellv 1 rfl, b4.cellv 2 rfl, s1, ⟨by decide, by decide⟩⟩
  | 1, ho => have e : (⟨128, [256], true⟩ : Ob) = o := by simpa [V0] using ho
             subst e; exact ⟨_, 0, _, rfl, b4.lt, b4.cellv 3 rfl, b4.cellv 4 rfl, b4.cellv 5 rfl, s2, ⟨by decide, by decide⟩⟩
  | 2, ho => have e : (⟨192, [0], false⟩ : Ob) = o := by simpa [V0] using ho
             subst e; exact ⟨_, 0, _, rfl, b4.lt, b4.cellv 6 rfl, b4.cellv 7 rfl, b4.cellv 8 rfl, s3, ⟨by decide, by decide⟩⟩
  | k + 3, ho => simp [V0] at ho
/-- told's state. -/
structure TdI (w0 : World) (n m : Nat) (w : World) : Prop where
  v : VwAt w w.heap.size (.agg (V0cells n)) V0
  b : Blk w m 26 (V0cells n)
  c : Chg [] w0 w
theorem TdI.chg {w0 w w' : World} {n m : Nat} (h : TdI w0 n m w) (c : Chg [] w w') : TdI w0 n m w' := ⟨(h.v.chg c (Nat.le_refl _) (by simp)).mono c.size, c.blk h.b (by simp), h.c.trans c⟩
set_option maxHeartbeats 3200000 in
set_option maxRecDepth 100000 in
theorem told_ok (w : World) : Calls Try.prog 13 #[] w (TdPost w) := by
  go_enter Try.func13, Try.ntmps13
  go_wp2_with fail
  have T0 : TdI w w.heap.size (w.heap.size + 1 + 1 + 1 + 1 + 1) ((((((w.alloc (.cells #[.int .i64 64] 3)).alloc (.cells #[.int .i64 128, .int .i64 0] 3)).alloc (.cells #[.int .i64 256] 3)).alloc (.cells #[.int .i64 0] 3)).alloc
      (.cells #[.int .i64 64, .slice (some ⟨w.heap.size + 1, 0, none⟩) 2 2, .bool false, .int .i64 128, .slice (some ⟨w.heap.size + 1 + 1, 0, none⟩) 1 1, .bool true, .int .i64 192, .slice (some ⟨w.heap.size + 1 + 1 + 1, 0, none⟩) 1 1, .bool false] 30)).alloc (.cells (V0cells w.heap.size) 26)) := by
    refine ⟨V0_at (Blk.alloc (Blk.alloc (Blk.alloc (Blk.alloc (Blk.alloc (Blk.new w _ _) _) _) _) _) _) ?_ ?_ ?_ ?_, ?_, ((((((Chg.refl [] w).alloc _).alloc _).alloc _).alloc _).alloc _).alloc _⟩
    · refine Blk.alloc (Blk.alloc (Blk.alloc (Blk.alloc ?_ _) _) _) _
      have := Blk.new (w.alloc (.cells #[.int .i64 64] 3)) 3 #[.int .i64 128, .int .i64 0]
      simpa using this
    · refine Blk.alloc (Blk.alloc (Blk.alloc ?_ _) _) _
      have := Blk.new ((w.alloc (.cells #[.int .i64 64] 3)).alloc (.cells #[.int .i64 128, .int .i64 0] 3)) 3 #[.int .i64 256]
      simpa using this
    · refine Blk.alloc (Blk.alloc ?_ _) _
      have := Blk.new (((w.alloc (.cells #[.int .i64 64] 3)).alloc (.cells #[.int .i64 128, .int .i64 0] 3)).alloc (.cells #[.int .i64 256] 3)) 3 #[.int .i64 0]
      simpa using this
    · refine Blk.alloc ?_ _
      have := Blk.new ((((w.alloc (.cells #[.int .i64 64] 3)).alloc (.cells #[.int .i64 128, .int .i64 0] 3)).alloc (.cells #[.int .i64 256] 3)).alloc (.cells #[.int .i64 0] 3)) 30 #[.int .i64 64, .slice (some ⟨w.heap.size + 1, 0, none⟩) 2 2, .bool false, .int .i64 128, .slice (some ⟨w.heap.size + 1 + 1, 0, none⟩) 1 1, .bool true, .int .i64 192, .slice (some ⟨w.heap.size + 1 + 1 + 1, 0, none⟩) 1 1, .bool false]
      simpa using this
    · have := Blk.new (((((w.alloc (.cells #[.int .i64 64] 3)).alloc (.cells #[.int .i64 128, .int .i64 0] 3)).alloc (.cells #[.int .i64 256] 3)).alloc (.cells #[.int .i64 0] 3)).alloc
        (.cells #[.int .i64 64, .slice (some ⟨w.heap.size + 1, 0, none⟩) 2 2, .bool false, .int .i64 128, .slice (some ⟨w.heap.size + 1 + 1, 0, none⟩) 1 1, .bool true, .int .i64 192, .slice (some ⟨w.heap.size + 1 + 1 + 1, 0, none⟩) 1 1, .bool false] 30)) 26 (V0cells w.heap.size)
      simpa using this
  have HT := Lib.hid T0; clear T0
  obtain ⟨n, hn⟩ : ∃ n, n = w.heap.size := ⟨_, rfl⟩
  rw [← hn] at HT ⊢
  clear hn
  refine (reach_ok _ _ V0 HT.out.v V0_small).mono ?_
  rintro e w1 ⟨l, hr, v1, rfl, O1, C1, F1⟩
  obtain rfl := V0_reach hr
  have T1 := HT.out.chg C1
  obtain ⟨A1, c1, rfl⟩ := O1.slice
  have H1 := Lib.hid (And.intro T1 O1); clear T1 O1 C1 F1 hr HT
  go_wp2_with fail
  refine (ints_eq (H1.out.2.alloc _).rd (RdI.blk (g := _) (c := 2) (xs := [64, 128]) (Blk.new _ 3 #[.int .i64 64, .int .i64 128]) (by decide)) rfl).mono ?_
  rintro e w2 ⟨rfl, C2⟩
  have T2 := H1.out.1.chg (((Chg.refl [] _).alloc (.cells #[.int .i64 64, .int .i64 128] 3)).trans C2)
  have HT := Lib.hid T2; clear T2 C2 H1
  have b0 := HT.out.b.cellv 0 rfl
  have b1 := HT.out.b.cellv 1 rfl
  have b2 := HT.out.b.cellv 2 rfl
  have b3 := HT.out.b.cellv 3 rfl
  have b4 := HT.out.b.cellv 4 rfl
  have b5 := HT.out.b.cellv 5 rfl
  have b6 := HT.out.b.cellv 6 rfl
  have b7 := HT.out.b.cellv 7 rfl
  have b8 := HT.out.b.cellv 8 rfl
  go_wp2_with fail
  clear b0 b1 b2 b3 b4 b5 b6 b7 b8
  refine (white_ok _ _ V0 HT.out.v V0_small).mono ?_
  rintro e w1 ⟨l, hr, v1, rfl, O1, C1, F1⟩
  obtain rfl := V0_reach hr
  rw [V0_white] at O1
  have T1 := HT.out.chg C1
  obtain ⟨A1, c1, rfl⟩ := O1.slice
  have H1 := Lib.hid (And.intro T1 O1); clear T1 O1 C1 F1 hr HT
  go_wp2_with fail
  refine (ints_eq (H1.out.2.alloc _).rd (RdI.blk (g := _) (c := 1) (xs := [64]) (Blk.new _ 3 #[.int .i64 64]) (by decide)) rfl).mono ?_
  rintro e w2 ⟨rfl, C2⟩
  have T2 := H1.out.1.chg (((Chg.refl [] _).alloc (.cells #[.int .i64 64] 3)).trans C2)
  have HT := Lib.hid T2; clear T2 C2 H1
  have b0 := HT.out.b.cellv 0 rfl
  have b1 := HT.out.b.cellv 1 rfl
  have b2 := HT.out.b.cellv 2 rfl
  have b3 := HT.out.b.cellv 3 rfl
  have b4 := HT.out.b.cellv 4 rfl
  have b5 := HT.out.b.cellv 5 rfl
  have b6 := HT.out.b.cellv 6 rfl
  have b7 := HT.out.b.cellv 7 rfl
  have b8 := HT.out.b.cellv 8 rfl
  go_wp2_with fail
  clear b0 b1 b2 b3 b4 b5 b6 b7 b8
  refine (lost_ok _ _ V0 HT.out.v V0_small).mono ?_
  rintro e w1 ⟨l, hr, v1, rfl, O1, C1, F1⟩
  obtain rfl := V0_lost hr
  have T1 := HT.out.chg C1
  obtain ⟨A1, c1, rfl⟩ := O1.slice
  have H1 := Lib.hid (And.intro T1 O1); clear T1 O1 C1 F1 hr HT
  go_wp2_with fail
  refine (ints_eq (H1.out.2.alloc _).rd (RdI.blk (g := _) (c := 1) (xs := [256]) (Blk.new _ 3 #[.int .i64 256]) (by decide)) rfl).mono ?_
  rintro e w2 ⟨rfl, C2⟩
  have T2 := H1.out.1.chg (((Chg.refl [] _).alloc (.cells #[.int .i64 256] 3)).trans C2)
  have HT := Lib.hid T2; clear T2 C2 H1
  have b0 := HT.out.b.cellv 0 rfl
  have b1 := HT.out.b.cellv 1 rfl
  have b2 := HT.out.b.cellv 2 rfl
  have b3 := HT.out.b.cellv 3 rfl
  have b4 := HT.out.b.cellv 4 rfl
  have b5 := HT.out.b.cellv 5 rfl
  have b6 := HT.out.b.cellv 6 rfl
  have b7 := HT.out.b.cellv 7 rfl
  have b8 := HT.out.b.cellv 8 rfl
  go_wp2_with fail
  clear b0 b1 b2 b3 b4 b5 b6 b7 b8
  refine (find_ok _ _ V0 192 HT.out.v V0_small).mono ?_
  rintro e w3 ⟨rfl, C3⟩
  rw [V0_find]
  have T3 := HT.out.chg C3
  clear HT
  have HT := Lib.hid T3; clear T3 C3
  have b0 := HT.out.b.cellv 0 rfl
  have b1 := HT.out.b.cellv 1 rfl
  have b2 := HT.out.b.cellv 2 rfl
  have b3 := HT.out.b.cellv 3 rfl
  have b4 := HT.out.b.cellv 4 rfl
  have b5 := HT.out.b.cellv 5 rfl
  have b6 := HT.out.b.cellv 6 rfl
  have b7 := HT.out.b.cellv 7 rfl
  have b8 := HT.out.b.cellv 8 rfl
  go_wp2_with fail
  clear b0 b1 b2 b3 b4 b5 b6 b7 b8
  refine (words_ok _ _ V0 HT.out.v V0_small).mono ?_
  rintro e w3 ⟨rfl, C3⟩
  rw [V0_words]
  have T3 := HT.out.chg C3
  clear HT
  have HT := Lib.hid T3; clear T3 C3
  have b0 := HT.out.b.cellv 0 rfl
  have b1 := HT.out.b.cellv 1 rfl
  have b2 := HT.out.b.cellv 2 rfl
  have b3 := HT.out.b.cellv 3 rfl
  have b4 := HT.out.b.cellv 4 rfl
  have b5 := HT.out.b.cellv 5 rfl
  have b6 := HT.out.b.cellv 6 rfl
  have b7 := HT.out.b.cellv 7 rfl
  have b8 := HT.out.b.cellv 8 rfl
  go_wp2_with fail
  clear b0 b1 b2 b3 b4 b5 b6 b7 b8
  refine (path_ok _ _ V0 128 HT.out.v V0_small ⟨by decide, by decide⟩).mono ?_
  rintro e w1 ⟨l, hr, v1, rfl, O1, C1, F1⟩
  obtain rfl := V0_path hr
  have T1 := HT.out.chg C1
  obtain ⟨A1, c1, rfl⟩ := O1.slice
  have H1 := Lib.hid (And.intro T1 O1); clear T1 O1 C1 F1 hr HT
  go_wp2_with fail
  refine (ints_eq (H1.out.2.alloc _).rd (RdI.blk (g := _) (c := 2) (xs := [64, 128]) (Blk.new _ 3 #[.int .i64 64, .int .i64 128]) (by decide)) rfl).mono ?_
  rintro e w2 ⟨rfl, C2⟩
  have T2 := H1.out.1.chg (((Chg.refl [] _).alloc (.cells #[.int .i64 64, .int .i64 128] 3)).trans C2)
  have HT := Lib.hid T2; clear T2 C2 H1
  go_wp2_with fail
  go_ret
  exact ⟨rfl, HT.out.c⟩
end Go.Proofs.Ytfkgooliglcjkaa
