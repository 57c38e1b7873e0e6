/- Package central: Unswept, Any. -/
import Derived.Test.YtmafiagakoglkaaGreatDoorCe4
import Derived.Test.YtmafiagakoglkaaGreatDoorMCl
namespace Go.Proofs.YtmafiagakoglkaaGreatDoor
open Go.RowKit Go.Maps

def unsN (r : Nat → List Nat) : Nat → Nat
  | 0 => 0
  | k + 1 => unsN r k + (r (k * 4 + 2)).length + (r (k * 4 + 3)).length
theorem unsN_le {r : Nat → List Nat} {m : Nat} (h : ∀ j, (r j).length ≤ m) : ∀ n, unsN r n ≤ n * (2 * m)
  | 0 => by simp [unsN]
  | n + 1 => by
    have := unsN_le h n
    have h2 := h (n * 4 + 2)
    have h3 := h (n * 4 + 3)
    rw [unsN, Nat.succ_mul]; omega
def UsRel (w0 : World) (r : Nat → List Nat) (gk : Nat) (n idx : Value) (w : World) : Prop :=
  ∃ k, gk + k = 17 ∧ k ≤ 16 ∧ idx = .int .i64 (k : Nat) ∧ n = .int .i64 (unsN r k : Nat) ∧ Chg [] w0 w
set_option maxHeartbeats 3200000 in
set_option maxRecDepth 100000 in
theorem cunswept_ok (w : World) (gc gl : Nat) (v : Nat → Value) (r : Nat → List Nat) (I : IsCe w gc gl v r) (hl : ∀ j, (r j).length ≤ 100000) : Calls Tryz.prog 50 #[.pointer (some ⟨gc, 0, none⟩)] w (NwPost (.int .i64 (unsN r 16 : Nat)) w) := by
  have b0 : w.cell? ⟨gc, 0, none⟩ = some (.slice (some ⟨gl, 0, none⟩) 16 16) := I.b.cellv 0 rfl
  have HI := Lib.hid (And.intro I hl)
  clear I hl
  go_enter Tryz.func50, Tryz.ntmps50
  go_wp2_with fail
  go_loopg [3, 13] 17 (fun gk n idx wr => UsRel w r gk n idx wr)
  case atStart => exact ⟨0, by omega, by omega, rfl, rfl, Chg.refl _ _⟩
  case round =>
    obtain ⟨k, hgk, hk, rfl, rfl, C⟩ := hrel
    by_cases e : k < 16
    · have hk' : (k : Int) < 16 := by omega
      have hk0 : (0 : Int) ≤ (k : Int) := by omega
      have I2 := HI.out.1.chg0 C
      obtain ⟨A0, n0, d0, v0⟩ := (I2.o (k * 4) (by omega)).slice'
      obtain ⟨A1, n1, d1, v1⟩ := (I2.o (k * 4 + 1) (by omega)).slice'
      obtain ⟨A2, d2, v2⟩ : ∃ A c, v (k * 4 + 2) = .slice A (r (k * 4 + 2)).length c := by
        obtain ⟨A, c, h⟩ := (I2.o (k * 4 + 2) (by omega)).slice
        exact ⟨A, c, by rw [h]; unfold intsN; rw [List.length_map]⟩
      obtain ⟨A3, d3, v3⟩ : ∃ A c, v (k * 4 + 3) = .slice A (r (k * 4 + 3)).length c := by
        obtain ⟨A, c, h⟩ := (I2.o (k * 4 + 3) (by omega)).slice
        exact ⟨A, c, by rw [h]; unfold intsN; rw [List.length_map]⟩
      have c0 := I2.cell (j := k * 4) (by omega)
      have c1 := I2.cell (j := k * 4 + 1) (by omega)
      have c2 := I2.cell (j := k * 4 + 2) (by omega)
      have c3 := I2.cell (j := k * 4 + 3) (by omega)
      rw [v0] at c0
      rw [v1] at c1
      rw [v2] at c2
      rw [v3] at c3
      have l2 := HI.out.2 (k * 4 + 2)
      have l3 := HI.out.2 (k * 4 + 3)
      have hu := unsN_le HI.out.2 k
      have hu2 : unsN r k ≤ 100000000 := by omega
      have HC := Lib.hid (And.intro C (And.intro v0 (And.intro v1 (And.intro v2 v3)))); clear C I2 v0 v1 v2 v3 hu
      obtain ⟨m, hm⟩ : ∃ m, m = unsN r k := ⟨_, rfl⟩
      rw [← hm] at hu2 ⊢
      obtain ⟨x2, hx2⟩ : ∃ x, x = (r (k * 4 + 2)).length := ⟨_, rfl⟩
      obtain ⟨x3, hx3⟩ : ∃ x, x = (r (k * 4 + 3)).length := ⟨_, rfl⟩
      rw [← hx2] at c2 l2
      rw [← hx3] at c3 l3
      have HM := Lib.hid (And.intro hm (And.intro hx2 hx3)); clear hm hx2 hx3
      go_wp2_with fail
      go_roundg (16 - k)
      case measure => omega
      case rel => exact ⟨k + 1, by omega, by omega, by go_num, by
        have e : ((unsN r (k + 1) : Nat) : Int) = (m : Int) + (x2 : Int) + (x3 : Int) := by
          rw [unsN, ← HM.out.1, ← HM.out.2.1, ← HM.out.2.2]; omega
        rw [e], HC.out.1.alloc _⟩
    · obtain rfl : k = 16 := by omega
      have HC := Lib.hid C; clear C e
      go_wp2_with fail
      go_ret
      exact ⟨rfl, HC.out⟩
/-- The first unswept row that is not empty gives its first one. -/
def AyPost (gc gl : Nat) (v : Nat → Value) (r : Nat → List Nat) (w : World) (e : Ending) (w' : World) : Prop :=
  ((∀ k, k < 16 → r (k * 4 + 2) = [] ∧ r (k * 4 + 3) = []) ∧ e = .returned (.tuple #[.int .i64 0, .int .i64 0, .bool false]) ∧ Chg [] w w') ∨
  ∃ k f x xs, k < 16 ∧ f < 2 ∧ r (k * 4 + 2 + f) = x :: xs ∧ e = .returned (.tuple #[.int .i64 (k : Nat), .int .i64 (x : Nat), .bool true]) ∧ CeTo gc gl v (updV r (k * 4 + 2 + f) xs) w w'
theorem lclone_n (w : World) (ad : Addr) (n c : Nat) (xs : List Int) (hn : xs.length = n) (hv : SlI w w.heap.size (.slice (some ad) n c) xs) (hl : n ≤ 1000000) : Calls Tryz.prog 117 #[.slice (some ad) n c] w (NwL xs w) := by
  subst hn
  exact lclone_ok w ad c xs hv hl
theorem OwnI.blk {E : TypeId} {w : World} {g n c : Nat} {xs : List Int} (h : OwnI E w (.slice (some ⟨g, 0, none⟩) n c) xs) : ∃ cur, Blk w g E cur := by
  rcases h.o.2 with ⟨e, _⟩ | ⟨g', cap, cur, e, _, hh, _⟩
  · simp at e
  · injection e with e1 e2 e3
    injection e1 with e1
    injection e1 with e1
    subst e1
    exact ⟨cur, hh⟩
def AyRel (w0 : World) (r : Nat → List Nat) (gk : Nat) (idx : Value) (w : World) : Prop :=
  ∃ k, gk + k = 17 ∧ k ≤ 16 ∧ idx = .int .i64 (k : Nat) ∧ (∀ i, i < k → r (i * 4 + 2) = [] ∧ r (i * 4 + 3) = []) ∧ w = w0
def AzRel (w0 : World) (r : Nat → List Nat) (k gk : Nat) (idx : Value) (w : World) : Prop :=
  ∃ f, gk + f = 3 ∧ f ≤ 2 ∧ idx = .int .i64 (f : Nat) ∧ (∀ i, i < f → r (k * 4 + 2 + i) = []) ∧ w = w0
set_option maxHeartbeats 3200000 in
set_option maxRecDepth 100000 in
theorem cany_ok (w : World) (gc gl : Nat) (v : Nat → Value) (r : Nat → List Nat) (I : IsCe w gc gl v r) (hl : ∀ j, (r j).length ≤ 100000) (hx : ∀ j, ∀ x ∈ r j, x ≤ 1000000) : Calls Tryz.prog 61 #[.pointer (some ⟨gc, 0, none⟩)] w (AyPost gc gl v r w) := by
  have b0 : w.cell? ⟨gc, 0, none⟩ = some (.slice (some ⟨gl, 0, none⟩) 16 16) := I.b.cellv 0 rfl
  have HI := Lib.hid (And.intro I (And.intro hl hx))
  clear I hl hx
  go_enter Tryz.func61, Tryz.ntmps61
  go_wp2_with fail
  go_loopg [15] 17 (fun gk idx wr => AyRel w r gk idx wr)
  case atStart => exact ⟨0, by omega, by omega, rfl, fun j hj => by omega, rfl⟩
  case round =>
    obtain ⟨k, hgk, hk, rfl, hno, hw⟩ := hrel
    subst hw
    by_cases ek : k < 16
    · have hk' : (k : Int) < 16 := by omega
      have hk0 : (0 : Int) ≤ (k : Int) := by omega
      have HN := Lib.hid hno; clear hno
      go_wp2_with fail
      go_loopg [18] 3 (fun gk idx wr' => AzRel wr r k gk idx wr')
      case atStart => exact ⟨0, by omega, by omega, rfl, fun j hj => by omega, rfl⟩
      case round =>
        obtain ⟨f, hgf, hf, rfl, hno, hw⟩ := hrel
        subst hw
        by_cases ef : f < 2
        · have hf' : (f : Int) < 2 := by omega
          have hf0 : (0 : Int) ≤ (f : Int) := by omega
          have hj : k * 4 + 2 + f < 64 := by omega
          have c1 := HI.out.1.cell hj
          have O := HI.out.1.o _ hj
          obtain ⟨A, c, hv⟩ : ∃ A c, v (k * 4 + 2 + f) = .slice A (r (k * 4 + 2 + f)).length c := by
            obtain ⟨A, c, h⟩ := O.slice
            exact ⟨A, c, by rw [h]; unfold intsN; rw [List.length_map]⟩
          have HF := Lib.hid hno; clear hno
          cases hr : r (k * 4 + 2 + f) with
          | nil =>
            rw [hv, hr] at c1
            have HR := Lib.hid hr; clear hr O hv
            go_wp2_with fail
            go_roundg (2 - f)
            case measure => omega
            case rel => exact ⟨f + 1, by omega, by omega, by go_num, fun i hi => by
              rcases Nat.lt_or_ge i f with g1 | g1
              · exact HF.out i g1
              · have : i = f := by omega
                rw [this]; exact HR.out, rfl⟩
          | cons x xs =>
            rw [hr] at O hv
            rw [hv] at c1 O
            have hx0 : (intsN (x :: xs))[0]? = some ((x : Nat) : Int) := rfl
            obtain ⟨g, rfl, cx, -, -⟩ := O.cell hx0
            have hng : g ≠ gl := fun e => HI.out.1.ne_gl hj (by rw [hv, e]; simp [fpv, Value.ownBlock])
            have hcap := O.cap
            have hln : (intsN (x :: xs)).length = xs.length + 1 := by unfold intsN; simp
            have hln2 : (intsN xs).length = xs.length := by unfold intsN; simp
            rw [hln] at hcap
            have hll := HI.out.2.1 (k * 4 + 2 + f)
            rw [hr] at hll
            have hsl := O.sl (fun y hy => by
              unfold intsN at hy
              obtain ⟨y', hy', rfl⟩ := List.mem_map.1 hy
              have := HI.out.2.2 (k * 4 + 2 + f) y' (by rw [hr]; exact hy')
              unfold WfI; omega) (by rw [hln]; unfold maxLen; simp at hll; omega)
            have HR := Lib.hid hr; clear hr
            obtain ⟨n, hn⟩ : ∃ n, n = xs.length := ⟨_, rfl⟩
            have e0 : (x :: xs).length = n + 1 := by rw [hn]; rfl
            rw [e0] at c1 hv O hsl hll
            rw [← hn] at hcap hln2
            have HO := Lib.hid (And.intro hv (And.intro O (And.intro hng (And.intro hln2 (And.intro hsl (And.intro hln hn)))))); clear hv O hng hln2 hsl hln hn e0 hx0
            have hne := HI.out.1.ne
            have hgcl := HI.out.1.b.lt
            have d5 : ((n : Int) + 1) ≤ (c : Int) := by omega
            have d6 : (1 : Int) ≤ (n : Int) + 1 := by omega
            have d7 : (0 : Int) < (n : Int) + 1 := by omega
            have d8 : (1 : Int) ≤ (c : Int) := by omega
            have hsz : wr.heap.size ≤ wr.heap.size := Nat.le_refl _
            by_cases hc1 : c = 1
            · obtain rfl : c = 1 := hc1
              obtain rfl : n = 0 := by omega
              have hxs : xs = [] := List.eq_nil_of_length_eq_zero (by have := HO.out.2.2.2.1; unfold intsN at this; rw [List.length_map] at this; exact this)
              subst hxs
              go_upto_region 11 with fail
              go_region_held3 (fun w' => w'.cell? ⟨gc, 0, none⟩ = some (.slice (some ⟨gl, 0, none⟩) 16 16)) (first | (go_keep; done) | exact Blk.cellv (Blk.far (Chg.blk (by assumption : Chg [] wr _) HI.out.1.b (by simp)) hne _) 0 rfl | (refine Chg.cellv (S := []) (a := wr) ?_ hgcl (by simp) b0; repeat (first | assumption | exact Chg.refl [] wr | refine Chg.drew ?_ | refine Chg.alloc ?_ _)))
                (first | (go_at_call 117; refine (lclone_n _ _ _ _ (intsN []) (by rfl) (SlI.none_ _ _ _ _) (by omega)).mono ?_; rintro e w' ⟨vn, rfl, On, cn, fn⟩; obtain ⟨An, N1, kn, rfl⟩ := On.slice'; have D : Chg [] wr w' := Chg.trans (by repeat (first | assumption | exact Chg.refl [] wr | refine Chg.drew ?_ | refine Chg.alloc ?_ _) : Chg [] wr _) cn; have z1 : w'.cell? ⟨gc, 0, none⟩ = some (.slice (some ⟨gl, 0, none⟩) 16 16) := D.cellv hgcl (by simp) b0; have z2 : w'.cell? ⟨gl, k * 4 + 2 + f, none⟩ = some (.slice (some ⟨g, 0, none⟩) (0 + 1) 1) := D.cellv HI.out.1.l.lt (by simp) c1; have z3 : w'.frozen? ⟨gl, k * 4 + 2 + f, none⟩ = false := (D.blk HI.out.1.l (by simp)).frozen _))
              have T := CeTo.set HI.out.1 hj (w := wr) (w' := w') (xs := []) ⟨D.mono (by simp), fun k hk => .inr (by have := fn k hk; simp at this; omega)⟩ On
              obtain ⟨w5, hw5⟩ : ∃ W : World, W = w'.setCell ⟨gl, k * 4 + 2 + f, none⟩ (.slice An N1 kn) := ⟨_, rfl⟩
              rw [← hw5] at T ⊢
              have c5 : w5.cell? ⟨g, 0, none⟩ = some (.int .i64 (x : Nat)) := by
                obtain ⟨cur, hB⟩ := HO.out.2.1.blk
                have hB2 := (D.blk hB (by simp)).far (p := ⟨gl, k * 4 + 2 + f, none⟩) HO.out.2.2.1 (.slice An N1 kn)
                rw [← hw5] at hB2
                have h1 := hB.cell 0
                rw [hB2.cell, ← h1]
                exact cx
              have HT := Lib.hid T; clear T On cn fn D z1 z2 z3 hw5
              go_wp2_with fail
              go_quiet (fail)
              go_wp2_with fail
              go_ret3
              exact .inr ⟨k, f, x, [], ek, ef, HR.out, rfl, HT.out.chg0 ((Chg.refl _ _).drewN _)⟩
            · have d9 : ¬ c = 1 := hc1
              go_upto_region 11 with fail
              go_region_held3 (fun w' => w'.cell? ⟨gc, 0, none⟩ = some (.slice (some ⟨gl, 0, none⟩) 16 16)) (first | (go_keep; done) | exact Blk.cellv (Blk.far (Chg.blk (by assumption : Chg [] wr _) HI.out.1.b (by simp)) hne _) 0 rfl | (refine Chg.cellv (S := []) (a := wr) ?_ hgcl (by simp) b0; repeat (first | assumption | exact Chg.refl [] wr | refine Chg.drew ?_ | refine Chg.alloc ?_ _)))
                (first | (go_at_call 117; refine (lclone_n _ _ _ _ (intsN xs) (by rw [HO.out.2.2.2.1]) (SlI.mono ((SlI.drop (m := n) HO.out.2.2.2.2.1 (by rw [HO.out.2.2.2.2.2.1]; omega) (by rw [HO.out.2.2.2.2.2.1, ← HO.out.2.2.2.2.2.2]; omega)).chg (by repeat (first | assumption | exact Chg.refl [] wr | refine Chg.drew ?_ | refine Chg.alloc ?_ _) : Chg [] wr _) hsz (by simp)) (by simp)) (by omega)).mono ?_; rintro e w' ⟨vn, rfl, On, cn, fn⟩; obtain ⟨An, N1, kn, rfl⟩ := On.slice'; have D : Chg [] wr w' := Chg.trans (by repeat (first | assumption | exact Chg.refl [] wr | refine Chg.drew ?_ | refine Chg.alloc ?_ _) : Chg [] wr _) cn; have z1 : w'.cell? ⟨gc, 0, none⟩ = some (.slice (some ⟨gl, 0, none⟩) 16 16) := D.cellv hgcl (by simp) b0; have z2 : w'.cell? ⟨gl, k * 4 + 2 + f, none⟩ = some (.slice (some ⟨g, 0, none⟩) (n + 1) c) := D.cellv HI.out.1.l.lt (by simp) c1; have z3 : w'.frozen? ⟨gl, k * 4 + 2 + f, none⟩ = false := (D.blk HI.out.1.l (by simp)).frozen _))
              have T := CeTo.set HI.out.1 hj (w := wr) (w' := w') (xs := xs) ⟨D.mono (by simp), fun k hk => .inr (by have := fn k hk; simp at this; omega)⟩ On
              obtain ⟨w5, hw5⟩ : ∃ W : World, W = w'.setCell ⟨gl, k * 4 + 2 + f, none⟩ (.slice An N1 kn) := ⟨_, rfl⟩
              rw [← hw5] at T ⊢
              have c5 : w5.cell? ⟨g, 0, none⟩ = some (.int .i64 (x : Nat)) := by
                obtain ⟨cur, hB⟩ := HO.out.2.1.blk
                have hB2 := (D.blk hB (by simp)).far (p := ⟨gl, k * 4 + 2 + f, none⟩) HO.out.2.2.1 (.slice An N1 kn)
                rw [← hw5] at hB2
                have h1 := hB.cell 0
                rw [hB2.cell, ← h1]
                exact cx
              have HT := Lib.hid T; clear T On cn fn D z1 z2 z3 hw5
              go_wp2_with fail
              go_quiet (fail)
              go_wp2_with fail
              go_ret3
              exact .inr ⟨k, f, x, xs, ek, ef, HR.out, rfl, HT.out.chg0 ((Chg.refl _ _).drewN _)⟩
        · obtain rfl : f = 2 := by omega
          have HM := Lib.hid hno; clear hno ef
          go_wp2_with fail
          go_roundg (16 - k)
          case measure => omega
          case rel => exact ⟨k + 1, by omega, by omega, by go_num, fun i hi => by
            rcases Nat.lt_or_ge i k with g1 | g1
            · exact HN.out i g1
            · have : i = k := by omega
              rw [this]; exact ⟨HM.out 0 (by omega), HM.out 1 (by omega)⟩, rfl⟩
    · obtain rfl : k = 16 := by omega
      have HM := Lib.hid hno; clear hno ek
      go_wp2_with fail
      go_ret3
      exact .inl ⟨HM.out, rfl, Chg.refl _ _⟩
end Go.Proofs.YtmafiagakoglkaaGreatDoor
