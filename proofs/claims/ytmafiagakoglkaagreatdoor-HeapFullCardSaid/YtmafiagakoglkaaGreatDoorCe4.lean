/- Package central: Put. -/
import Derived.Test.YtmafiagakoglkaaGreatDoorCe3
namespace Go.Proofs.YtmafiagakoglkaaGreatDoor
open Go.RowKit Go.Maps

/-- The rows without a span. -/
def DelTo (r : Nat → List Nat) (id : Nat) (r1 : Nat → List Nat) : Prop := (r1 = r ∧ ∀ j, j < 64 → id ∉ r j) ∨ ∃ j, j < 64 ∧ id ∈ r j ∧ (∀ i, i < j → id ∉ r i) ∧ r1 = delR r id j
def sd (full : Bool) : Nat := if full then 1 else 0
def CpPost (gc gl : Nat) (v : Nat → Value) (r : Nat → List Nat) (k id : Nat) (full : Bool) (w : World) (e : Ending) (w' : World) : Prop :=
  e = .returned (.tuple #[]) ∧ ∃ r1, DelTo r id r1 ∧ CeTo gc gl v (updV r1 (k * 4 + sd full) (r1 (k * 4 + sd full) ++ [id])) w w'
theorem CeTo.chg0 {w w' w'' : World} {gc gl : Nat} {v : Nat → Value} {r : Nat → List Nat} (T : CeTo gc gl v r w w') (c : Chg [] w' w'') : CeTo gc gl v r w w'' := by
  obtain ⟨v', I, s⟩ := T
  exact ⟨v', I.chg0 c, s.then0 c⟩
theorem CeTo.trans {w w' w'' : World} {gc gl : Nat} {v v' : Nat → Value} {r' : Nat → List Nat} (s : StP (CeF gc gl v) (CeF gc gl v') w w') (T : CeTo gc gl v' r' w' w'') : CeTo gc gl v r' w w'' := by
  obtain ⟨v'', I, t⟩ := T
  exact ⟨v'', I, s.trans t⟩
theorem CeTo.refl {w : World} {gc gl : Nat} {v : Nat → Value} {r : Nat → List Nat} (I : IsCe w gc gl v r) : CeTo gc gl v r w w := ⟨v, I, StP.refl _ _⟩
theorem DelTo.len {r r1 : Nat → List Nat} {id : Nat} (h : DelTo r id r1) (j : Nat) : (r1 j).length ≤ (r j).length := by
  rcases h with ⟨rfl, -⟩ | ⟨i, -, -, -, rfl⟩
  · exact Nat.le_refl _
  · unfold delR updV
    split
    · next e => rw [e]; exact (List.erase_sublist).length_le
    · exact Nat.le_refl _
set_option maxHeartbeats 3200000 in
set_option maxRecDepth 100000 in
theorem cput_ok (w : World) (gc gl : Nat) (v : Nat → Value) (r : Nat → List Nat) (I : IsCe w gc gl v r) (k : Nat) (hk : k < 16) (id : Nat) (hid : id ≤ 1000000) (full : Bool) (hl : ∀ j, (r j).length ≤ 100000) (hx : ∀ j, ∀ x ∈ r j, x ≤ 1000000) : Calls Tryz.prog 46 #[.pointer (some ⟨gc, 0, none⟩), .int .i64 (k : Nat), .int .i64 (id : Nat), .bool full] w (CpPost gc gl v r k id full w) := by
  have h0 : (0 : Int) ≤ (k : Int) := by omega
  have h1 : (k : Int) < 16 := by omega
  have HI := Lib.hid (And.intro I (And.intro hl hx))
  clear I hl hx
  go_enter Tryz.func46, Tryz.ntmps46
  go_wp2_with fail
  refine (has_k w gc gl v r HI.out.1 k hk).mono ?_
  rintro e w1 ⟨rfl, rfl⟩
  go_wp2_with fail
  refine (cdel_ok _ gc gl v r HI.out.1 id hid HI.out.2.1 HI.out.2.2).mono ?_
  rintro e w2 hd
  obtain ⟨bo, rfl, r1, hd1, v1, I1, s1⟩ : ∃ bo, e = .returned (.bool bo) ∧ ∃ r1, DelTo r id r1 ∧ CeTo gc gl v r1 w1 w2 := by
    rcases hd with ⟨hn, rfl, c⟩ | ⟨j, hj, hin, hfst, rfl, T⟩
    · exact ⟨false, rfl, r, .inl ⟨rfl, hn⟩, (CeTo.refl HI.out.1).chg0 c⟩
    · exact ⟨true, rfl, _, .inr ⟨j, hj, hin, hfst, rfl⟩, T⟩
  have b0 : w2.cell? ⟨gc, 0, none⟩ = some (.slice (some ⟨gl, 0, none⟩) 16 16) := I1.b.cellv 0 rfl
  have hs2 : sd full < 2 := by unfold sd; split <;> omega
  have hj : k * 4 + sd full < 64 := by omega
  have hll := hd1.len (k * 4 + sd full)
  have hll2 := HI.out.2.1 (k * 4 + sd full)
  have H1 := Lib.hid (And.intro I1 (And.intro s1 hd1)); clear I1 s1 hd1 hd
  obtain ⟨f, hf⟩ : ∃ f, f = sd full := ⟨_, rfl⟩
  have hside : (if full then (1 : Int) else 0) = (f : Int) := by rw [hf]; unfold sd; split <;> rfl
  rw [← hf] at hs2 hj hll hll2
  have HF := Lib.hid (And.intro hf hside); clear hf hside
  have hf0 : (0 : Int) ≤ (f : Int) := by omega
  have hf2 : (f : Int) < 2 := by omega
  go_upto_region 2 with fail
  go_region_held3 (fun w' => w'.cell? ⟨gc, 0, none⟩ = some (.slice (some ⟨gl, 0, none⟩) 16 16)) (go_keep)
    (first | (go_at_call 93; refine (side_ok _ full).mono ?_; rintro e w' ⟨rfl, rfl⟩; rw [HF.out.2]))
  obtain ⟨w3, hw3⟩ : ∃ W : World, W = w2.drew := ⟨_, rfl⟩
  rw [← hw3]
  have C3 : Chg [] w2 w3 := by rw [hw3]; exact (Chg.refl [] w2).drew
  clear hw3
  have I3 := H1.out.1.chg0 C3
  have O := I3.o _ hj
  obtain ⟨A, n, c, hv⟩ := O.slice'
  have c1 := I3.cell hj
  have f1 := I3.l.frozen (k * 4 + f)
  have hng := I3.ne_gl hj
  rw [hv] at c1 O hng
  have hlO : (intsN (r1 (k * 4 + f))).length + 1 ≤ 1000000000000 := by unfold intsN; rw [List.length_map]; omega
  have H3 := Lib.hid (And.intro I3 (And.intro O (And.intro hv (And.intro hng hlO)))); clear I3 O hv hng hlO b0
  go_wp2_with (at_builtin; refine wpList_push_int rfl _ _ rfl slty rfl H3.out.2.1 rfl H3.out.2.2.2.2 ?_)
  intro A6 c6 w6 O6 s6
  have B6 := s6.c.blk H3.out.1.l H3.out.2.2.2.1
  have z2 : w6.cell? ⟨gl, k * 4 + f, none⟩ = some (.slice A n c) := by rw [← H3.out.2.2.1]; exact B6.cellv _ (ceC_at v1 hj)
  have z3 := B6.frozen (k * 4 + f)
  have e9 : intsN (r1 (k * 4 + f) ++ [id]) = intsN (r1 (k * 4 + f)) ++ [((id : Nat) : Int)] := by unfold intsN; simp
  have T := CeTo.set (u := .slice A6 ((intsN (r1 (k * 4 + f))).length + 1) c6) H3.out.1 hj (by rw [H3.out.2.2.1]; exact s6) (by rw [e9]; exact O6)
  have s2 := H1.out.2.1.then0 C3
  have T2 := CeTo.trans s2 T
  have HT := Lib.hid T2; clear T T2 s2 C3 e9 O6 s6 B6 c1 f1
  go_wp2_with fail
  go_end0
  exact ⟨rfl, r1, H1.out.2.2, by rw [← HF.out.1]; exact HT.out⟩
end Go.Proofs.YtmafiagakoglkaaGreatDoor
