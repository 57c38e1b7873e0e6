/- Package central: a step of what the call owns; TakeFull, Take. -/
import Derived.Test.YtmafiagakoglkaaGreatDoorCe
namespace Go.Proofs.YtmafiagakoglkaaGreatDoor
open Go.RowKit Go.Maps

/-- From w to w' only blocks of F and new ones change; those of F' are of F or new. -/
structure StP (F F' : Nat → Prop) (w w' : World) : Prop where
  os : w'.os = w.os
  tape : w'.tape = w.tape
  output : w'.output = w.output
  size : w.heap.size ≤ w'.heap.size
  block : ∀ k, k < w.heap.size → ¬ F k → w'.heap[k]? = w.heap[k]?
  fr : ∀ k, F' k → F k ∨ w.heap.size ≤ k
section
variable {F F' F'' : Nat → Prop} {w w' w'' : World}
theorem StP.refl (F : Nat → Prop) (w : World) : StP F F w w := ⟨rfl, rfl, rfl, Nat.le_refl _, fun _ _ _ => rfl, fun _ h => .inl h⟩
theorem StP.of_chg {S : List Nat} (c : Chg S w w') (hS : ∀ k ∈ S, F k ∨ w.heap.size ≤ k) (fr : ∀ k, F' k → F k ∨ w.heap.size ≤ k) : StP F F' w w' :=
  ⟨c.os, c.tape, c.output, c.size, fun k hk hn => c.block k hk (fun hm => by
    rcases hS k hm with h1 | h1
    · exact hn h1
    · omega), fr⟩
theorem StP.trans (s : StP F F' w w') (t : StP F' F'' w' w'') : StP F F'' w w'' :=
  ⟨t.os.trans s.os, t.tape.trans s.tape, t.output.trans s.output, Nat.le_trans s.size t.size, fun k hk hn => (t.block k (Nat.lt_of_lt_of_le hk s.size) (fun hm => by
    rcases s.fr k hm with h1 | h1
    · exact hn h1
    · omega)).trans (s.block k hk hn), fun k hk => by
    rcases t.fr k hk with h1 | h1
    · exact s.fr k h1
    · exact .inr (Nat.le_trans s.size h1)⟩
theorem StP.then0 (s : StP F F' w w') (c : Chg [] w' w'') : StP F F' w w'' := s.trans (StP.of_chg c (by simp) fun _ h => .inl h)
theorem StP.chg (s : StP F F' w w') : ∃ S : List Nat, Chg S w w' ∧ ∀ k ∈ S, F k := by
  classical
  refine ⟨(List.range w.heap.size).filter (fun k => decide (F k)), ⟨s.os, s.tape, s.output, s.size, fun k hk hn => s.block k hk (fun hf => hn ?_)⟩, fun k hk => ?_⟩
  · rw [List.mem_filter, List.mem_range]
    exact ⟨hk, decide_eq_true hf⟩
  · rw [List.mem_filter] at hk
    exact of_decide_eq_true hk.2
end
/-- The rows of central, turned into r'. -/
def CeTo (gc gl : Nat) (v : Nat → Value) (r' : Nat → List Nat) (w w' : World) : Prop := ∃ v', IsCe w' gc gl v' r' ∧ StP (CeF gc gl v) (CeF gc gl v') w w'
theorem CeTo.set {w w' : World} {gc gl : Nat} {v : Nat → Value} {r : Nat → List Nat} (I : IsCe w gc gl v r) {j : Nat} (hj : j < 64) {u : Value} {xs : List Nat} (s : Stp (fpv (v j)) (fpv u) w w') (O : OwnI 3 w' u (intsN xs)) :
    CeTo gc gl v (updV r j xs) w (w'.setCell ⟨gl, j, none⟩ u) := by
  refine ⟨_, I.set hj s O, StP.of_chg (S := gl :: fpv (v j)) ((s.c.mono (fun k hk => .inl (List.mem_cons_of_mem _ hk))).setCell (.inl (by simp)) u) (fun k hk => .inl ?_) (fun k hk => ?_)⟩
  · rcases List.mem_cons.1 hk with h | h
    · exact .inr (.inl h)
    · exact .inr (.inr ⟨j, hj, h⟩)
  · rcases hk with h1 | h1 | ⟨i, hi, h1⟩
    · exact .inl (.inl h1)
    · exact .inl (.inr (.inl h1))
    · by_cases ei : i = j
      · subst ei
        rw [updV_same] at h1
        rcases s.f k h1 with h2 | h2
        · exact .inl (.inr (.inr ⟨i, hi, h2⟩))
        · exact .inr h2
      · rw [updV_other _ _ ei] at h1; exact .inl (.inr (.inr ⟨i, hi, h1⟩))
def LaPost (gc gl : Nat) (v : Nat → Value) (r : Nat → List Nat) (j : Nat) (w : World) (e : Ending) (w' : World) : Prop :=
  (r j = [] ∧ e = .returned (.tuple #[.int .i64 0, .bool false]) ∧ w' = w) ∨ ∃ xs x, r j = xs ++ [x] ∧ e = .returned (.tuple #[.int .i64 (x : Nat), .bool true]) ∧ CeTo gc gl v (updV r j xs) w w'
theorem ce_last (w : World) (gc gl : Nat) (v : Nat → Value) (r : Nat → List Nat) (I : IsCe w gc gl v r) (j : Nat) (hj : j < 64) (hl : (r j).length ≤ 1000000) : Calls Tryz.prog 140 #[.pointer (some ⟨gl, j, none⟩)] w (LaPost gc gl v r j w) := by
  have hc := I.cell hj
  have hf := I.l.frozen j
  have O := I.o j hj
  rcases List.eq_nil_or_concat (r j) with h | ⟨xs, x, h⟩
  · rw [h] at O
    refine (last_nil w ⟨gl, j, none⟩ (v j) hc O).mono ?_
    rintro e w' ⟨rfl, rfl⟩
    exact .inl ⟨h, rfl, rfl⟩
  · rw [List.concat_eq_append] at h
    rw [h] at O hl
    have e1 : intsN (xs ++ [x]) = intsN xs ++ [((x : Nat) : Int)] := by unfold intsN; simp
    rw [e1] at O
    have hl2 : (intsN xs).length ≤ 1000000 := by unfold intsN; rw [List.length_map]; simp at hl; omega
    refine (last_some w ⟨gl, j, none⟩ (v j) (intsN xs) x hc hf O hl2).mono ?_
    rintro e w' ⟨u, rfl, rfl, O', hfp⟩
    have s : Stp (fpv (v j)) (fpv u) w w := by rw [hfp]; exact Stp.refl _ _
    exact .inr ⟨xs, x, h, rfl, CeTo.set I hj s O'⟩
set_option maxHeartbeats 1600000 in
set_option maxRecDepth 100000 in
theorem takefull_ok (w : World) (gc gl : Nat) (v : Nat → Value) (r : Nat → List Nat) (I : IsCe w gc gl v r) (k : Nat) (hk : k < 16) (hl : ∀ j, (r j).length ≤ 1000000) : Calls Tryz.prog 96 #[.pointer (some ⟨gc, 0, none⟩), .int .i64 (k : Nat)] w (LaPost gc gl v r (k * 4 + 3) w) := by
  have b0 : w.cell? ⟨gc, 0, none⟩ = some (.slice (some ⟨gl, 0, none⟩) 16 16) := I.b.cellv 0 rfl
  have h0 : (0 : Int) ≤ (k : Int) := by omega
  have h1 : (k : Int) < 16 := by omega
  have HI := Lib.hid I
  clear I
  go_enter Tryz.func96, Tryz.ntmps96
  go_wp2_with fail
  refine (has_k w gc gl v r HI.out k hk).mono ?_
  rintro e w1 ⟨rfl, rfl⟩
  go_wp2_with fail
  refine (ce_last w1 gc gl v r HI.out (k * 4 + 3) (by omega) (hl _)).mono ?_
  rintro e w2 (⟨hn, rfl, rfl⟩ | ⟨xs, x, hr, rfl, ht⟩)
  · have HN := Lib.hid hn; clear hn
    go_wp2_with fail
    go_ret2
    exact .inl ⟨HN.out, rfl, rfl⟩
  · have HN := Lib.hid (And.intro hr ht); clear hr ht
    go_wp2_with fail
    go_ret2
    exact .inr ⟨xs, x, HN.out.1, rfl, HN.out.2⟩
def TkPost (gc gl : Nat) (v : Nat → Value) (r : Nat → List Nat) (k : Nat) (w : World) (e : Ending) (w' : World) : Prop :=
  (r (k * 4) = [] ∧ r (k * 4 + 2) = [] ∧ e = .returned (.tuple #[.int .i64 0, .bool false, .bool false]) ∧ w' = w) ∨
  (∃ xs x, r (k * 4) = xs ++ [x] ∧ e = .returned (.tuple #[.int .i64 (x : Nat), .bool false, .bool true]) ∧ CeTo gc gl v (updV r (k * 4) xs) w w') ∨
  ∃ xs x, r (k * 4) = [] ∧ r (k * 4 + 2) = xs ++ [x] ∧ e = .returned (.tuple #[.int .i64 (x : Nat), .bool true, .bool true]) ∧ CeTo gc gl v (updV r (k * 4 + 2) xs) w w'
def TkRel (w0 : World) (r : Nat → List Nat) (k gk : Nat) (idx : Value) (w : World) : Prop :=
  w = w0 ∧ ((gk = 3 ∧ idx = .int .i64 0) ∨ (gk = 2 ∧ idx = .int .i64 1 ∧ r (k * 4) = []) ∨ (gk = 1 ∧ idx = .int .i64 2 ∧ r (k * 4) = [] ∧ r (k * 4 + 2) = []))
set_option maxHeartbeats 1600000 in
set_option maxRecDepth 100000 in
theorem take_ok (w : World) (gc gl : Nat) (v : Nat → Value) (r : Nat → List Nat) (I : IsCe w gc gl v r) (k : Nat) (hk : k < 16) (hl : ∀ j, (r j).length ≤ 1000000) : Calls Tryz.prog 95 #[.pointer (some ⟨gc, 0, none⟩), .int .i64 (k : Nat)] w (TkPost gc gl v r k w) := by
  have b0 : w.cell? ⟨gc, 0, none⟩ = some (.slice (some ⟨gl, 0, none⟩) 16 16) := I.b.cellv 0 rfl
  have h0 : (0 : Int) ≤ (k : Int) := by omega
  have h1 : (k : Int) < 16 := by omega
  have HI := Lib.hid I
  clear I
  go_enter Tryz.func95, Tryz.ntmps95
  go_wp2_with fail
  refine (has_k w gc gl v r HI.out k hk).mono ?_
  rintro e w1 ⟨rfl, rfl⟩
  go_wp2_with fail
  go_loopg [14] 3 (fun gk idx wr => TkRel w1 r k gk idx wr)
  case atStart => exact ⟨rfl, .inl ⟨rfl, rfl⟩⟩
  case round =>
    obtain ⟨hw, hcase⟩ := hrel
    subst hw
    rcases hcase with ⟨rfl, rfl⟩ | ⟨rfl, rfl, hn⟩ | ⟨rfl, rfl, hn, hn2⟩
    · go_wp2_with fail
      refine (ce_last _ gc gl v r HI.out (k * 4) (by omega) (hl _)).mono ?_
      rintro e w2 (⟨hn, rfl, rfl⟩ | ⟨xs, x, hr, rfl, ht⟩)
      · have HN := Lib.hid hn; clear hn
        go_wp2_with fail
        go_roundg 2
        case measure => omega
        case rel => exact ⟨rfl, .inr (.inl ⟨rfl, rfl, HN.out⟩)⟩
      · have HN := Lib.hid (And.intro hr ht); clear hr ht
        go_wp2_with fail
        go_ret3
        exact .inr (.inl ⟨xs, x, HN.out.1, rfl, HN.out.2⟩)
    · have HM := Lib.hid hn; clear hn
      go_wp2_with fail
      refine (ce_last _ gc gl v r HI.out (k * 4 + 2) (by omega) (hl _)).mono ?_
      rintro e w2 (⟨hn, rfl, rfl⟩ | ⟨xs, x, hr, rfl, ht⟩)
      · have HN := Lib.hid hn; clear hn
        go_wp2_with fail
        go_roundg 1
        case measure => omega
        case rel => exact ⟨rfl, .inr (.inr ⟨rfl, rfl, HM.out, HN.out⟩)⟩
      · have HN := Lib.hid (And.intro hr ht); clear hr ht
        go_wp2_with fail
        go_ret3
        exact .inr (.inr ⟨xs, x, HM.out, HN.out.1, rfl, HN.out.2⟩)
    · have HM := Lib.hid (And.intro hn hn2); clear hn hn2
      go_wp2_with fail
      go_ret3
      exact .inl ⟨HM.out.1, HM.out.2, rfl, rfl⟩
end Go.Proofs.YtmafiagakoglkaaGreatDoor
