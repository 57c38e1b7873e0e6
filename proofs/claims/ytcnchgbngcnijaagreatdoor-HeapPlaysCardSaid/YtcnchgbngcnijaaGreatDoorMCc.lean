/- Package central: Unswept, Any. -/
/- Package central: Begin. -/
/- Package central: Waiting. -/
/- Package central: New; classes: Count, Of. -/
import Derived.Test.YtcnchgbngcnijaaGreatDoorMCb
import Derived.Test.YtcnchgbngcnijaaGreatDoorMCl
namespace Go.Proofs.YtcnchgbngcnijaaGreatDoor
open Go.RowKit Go.Maps

def unsN (r : Nat → List Nat) : Nat → Nat
  | 0 => 0
  | k + 1 => unsN r k + (r (k * 4 + 2)).length + (r (k * 4 + 3)).length
theorem unsN_le {r : Nat → List Nat} {m : Nat} (h : ∀ j, (r j).length ≤ m) : ∀ n, unsN r n ≤ n * (2 * m)
  | 0 => by simp [unsN]
  | n + 1 => by
    have := unsN_le h n
    have h2 := h (n * 4 + 2)
    have h3 := h (n * 4 + 3)
    rw [unsN, Nat.succ_mul]; omega
def UsRel (w0 : World) (r : Nat → List Nat) (gk : Nat) (n idx : Value) (w : World) : Prop :=
  ∃ k, gk + k = 17 ∧ k ≤ 16 ∧ idx = .int .i64 (k : Nat) ∧ n = .int .i64 (unsN r k : Nat) ∧ Chg [] w0 w
set_option maxHeartbeats 3200000 in
set_option maxRecDepth 100000 in
theorem cunswept_ok (w : World) (gc gl : Nat) (v : Nat → Value) (r : Nat → List Nat) (I : IsCe w gc gl v r) (hl : ∀ j, (r j).length ≤ 100000) : Calls Tryz.prog 78 #[.pointer (some ⟨gc, 0, none⟩)] w (NwPost (.int .i64 (unsN r 16 : Nat)) w) := by
  have b0 : w.cell? ⟨gc, 0, none⟩ = some (.slice (some ⟨gl, 0, none⟩) 16 16) := I.b.cellv 0 rfl
  have HI := Lib.hid (And.intro I hl)
  clear I hl
  go_enter Tryz.func78, Tryz.ntmps78
  go_wp2_with fail
  go_loopg [3, 13] 17 (fun gk n idx wr => UsRel w r gk n idx wr)
  case atStart => exact ⟨0, by omega, by omega, rfl, rfl, Chg.refl _ _⟩
  case round =>
    obtain ⟨k, hgk, hk, rfl, rfl, C⟩ := hrel
    by_cases e : k < 16
    · have hk' : (k : Int) < 16 := by omega
      have hk0 : (0 : Int) ≤ (k : Int) := by omega
      have I2 := HI.out.1.chg0 C
      obtain ⟨A0, n0, d0, v0⟩ := (I2.o (k * 4) (by omega)).slice'
      obtain ⟨A1, n1, d1, v1⟩ := (I2.o (k * 4 + 1) (by omega)).slice'
      obtain ⟨A2, d2, v2⟩ : ∃ A c, v (k * 4 + 2) = .slice A (r (k * 4 + 2)).length c := by
        obtain ⟨A, c, h⟩ := (I2.o (k * 4 + 2) (by omega)).slice
        exact ⟨A, c, by rw [h]; unfold intsN; rw [List.length_map]⟩
      obtain ⟨A3, d3, v3⟩ : ∃ A c, v (k * 4 + 3) = .slice A (r (k * 4 + 3)).length c := by
        obtain ⟨A, c, h⟩ := (I2.o (k * 4 + 3) (by omega)).slice
        exact ⟨A, c, by rw [h]; unfold intsN; rw [List.length_map]⟩
      have c0 := I2.cell (j := k * 4) (by omega)
      have c1 := I2.cell (j := k * 4 + 1) (by omega)
      have c2 := I2.cell (j := k * 4 + 2) (by omega)
      have c3 := I2.cell (j := k * 4 + 3) (by omega)
      rw [v0] at c0
      rw [v1] at c1
      rw [v2] at c2
      rw [v3] at c3
      have l2 := HI.out.2 (k * 4 + 2)
      have l3 := HI.out.2 (k * 4 + 3)
      have hu := unsN_le HI.out.2 k
      have hu2 : unsN r k ≤ 100000000 := by omega
      have HC := Lib.hid (And.intro C (And.intro v0 (And.intro v1 (And.intro v2 v3)))); clear C I2 v0 v1 v2 v3 hu
      obtain ⟨m, hm⟩ : ∃ m, m = unsN r k := ⟨_, rfl⟩
      rw [← hm] at hu2 ⊢
      obtain ⟨x2, hx2⟩ : ∃ x, x = (r (k * 4 + 2)).length := ⟨_, rfl⟩
      obtain ⟨x3, hx3⟩ : ∃ x, x = (r (k * 4 + 3)).length := ⟨_, rfl⟩
      rw [← hx2] at c2 l2
      rw [← hx3] at c3 l3
      have HM := Lib.hid (And.intro hm (And.intro hx2 hx3)); clear hm hx2 hx3
      go_wp2_with fail
      go_roundg (16 - k)
      case measure => omega
      case rel => exact ⟨k + 1, by omega, by omega, by go_num, by
        have e : ((unsN r (k + 1) : Nat) : Int) = (m : Int) + (x2 : Int) + (x3 : Int) := by
          rw [unsN, ← HM.out.1, ← HM.out.2.1, ← HM.out.2.2]; omega
        rw [e], HC.out.1.alloc _⟩
    · obtain rfl : k = 16 := by omega
      have HC := Lib.hid C; clear C e
      go_wp2_with fail
      go_ret
      exact ⟨rfl, HC.out⟩
/-- The first unswept row that is not empty gives its first one. -/
def AyPost (gc gl : Nat) (v : Nat → Value) (r : Nat → List Nat) (w : World) (e : Ending) (w' : World) : Prop :=
  ((∀ k, k < 16 → r (k * 4 + 2) = [] ∧ r (k * 4 + 3) = []) ∧ e = .returned (.tuple #[.int .i64 0, .int .i64 0, .bool false]) ∧ Chg [] w w') ∨
  ∃ k f x xs, k < 16 ∧ f < 2 ∧ r (k * 4 + 2 + f) = x :: xs ∧ e = .returned (.tuple #[.int .i64 (k : Nat), .int .i64 (x : Nat), .bool true]) ∧ CeTo gc gl v (updV r (k * 4 + 2 + f) xs) w w'
/-- The same, and it is the first. -/
def AyPost2 (gc gl : Nat) (v : Nat → Value) (r : Nat → List Nat) (w : World) (e : Ending) (w' : World) : Prop :=
  ((∀ k, k < 16 → r (k * 4 + 2) = [] ∧ r (k * 4 + 3) = []) ∧ e = .returned (.tuple #[.int .i64 0, .int .i64 0, .bool false]) ∧ Chg [] w w') ∨
  ∃ k f x xs, k < 16 ∧ f < 2 ∧ (∀ i, i < k → r (i * 4 + 2) = [] ∧ r (i * 4 + 3) = []) ∧ (∀ i, i < f → r (k * 4 + 2 + i) = []) ∧ r (k * 4 + 2 + f) = x :: xs ∧ e = .returned (.tuple #[.int .i64 (k : Nat), .int .i64 (x : Nat), .bool true]) ∧ CeTo gc gl v (updV r (k * 4 + 2 + f) xs) w w'
theorem lclone_n (w : World) (ad : Addr) (n c : Nat) (xs : List Int) (hn : xs.length = n) (hv : SlI w w.heap.size (.slice (some ad) n c) xs) (hl : n ≤ 1000000) : Calls Tryz.prog 133 #[.slice (some ad) n c] w (NwL xs w) := by
  subst hn
  exact lclone_ok w ad c xs hv hl
theorem OwnI.blk {E : TypeId} {w : World} {g n c : Nat} {xs : List Int} (h : OwnI E w (.slice (some ⟨g, 0, none⟩) n c) xs) : ∃ cur, Blk w g E cur := by
  rcases h.o.2 with ⟨e, _⟩ | ⟨g', cap, cur, e, _, hh, _⟩
  · simp at e
  · injection e with e1 e2 e3
    injection e1 with e1
    injection e1 with e1
    subst e1
    exact ⟨cur, hh⟩
def AyRel (w0 : World) (r : Nat → List Nat) (gk : Nat) (idx : Value) (w : World) : Prop :=
  ∃ k, gk + k = 17 ∧ k ≤ 16 ∧ idx = .int .i64 (k : Nat) ∧ (∀ i, i < k → r (i * 4 + 2) = [] ∧ r (i * 4 + 3) = []) ∧ w = w0
def AzRel (w0 : World) (r : Nat → List Nat) (k gk : Nat) (idx : Value) (w : World) : Prop :=
  ∃ f, gk + f = 3 ∧ f ≤ 2 ∧ idx = .int .i64 (f : Nat) ∧ (∀ i, i < f → r (k * 4 + 2 + i) = []) ∧ w = w0
set_option maxHeartbeats 3200000 in
set_option maxRecDepth 100000 in
theorem cany2_ok (w : World) (gc gl : Nat) (v : Nat → Value) (r : Nat → List Nat) (I : IsCe w gc gl v r) (hl : ∀ j, (r j).length ≤ 100000) (hx : ∀ j, ∀ x ∈ r j, x ≤ 1000000) : Calls Tryz.prog 85 #[.pointer (some ⟨gc, 0, none⟩)] w (AyPost2 gc gl v r w) := by
  have b0 : w.cell? ⟨gc, 0, none⟩ = some (.slice (some ⟨gl, 0, none⟩) 16 16) := I.b.cellv 0 rfl
  have HI := Lib.hid (And.intro I (And.intro hl hx))
  clear I hl hx
  go_enter Tryz.func85, Tryz.ntmps85
  go_wp2_with fail
  go_loopg [15] 17 (fun gk idx wr => AyRel w r gk idx wr)
  case atStart => exact ⟨0, by omega, by omega, rfl, fun j hj => by omega, rfl⟩
  case round =>
    obtain ⟨k, hgk, hk, rfl, hno, hw⟩ := hrel
    subst hw
    by_cases ek : k < 16
    · have hk' : (k : Int) < 16 := by omega
      have hk0 : (0 : Int) ≤ (k : Int) := by omega
      have HN := Lib.hid hno; clear hno
      go_wp2_with fail
      go_loopg [18] 3 (fun gk idx wr' => AzRel wr r k gk idx wr')
      case atStart => exact ⟨0, by omega, by omega, rfl, fun j hj => by omega, rfl⟩
      case round =>
        obtain ⟨f, hgf, hf, rfl, hno, hw⟩ := hrel
        subst hw
        by_cases ef : f < 2
        · have hf' : (f : Int) < 2 := by omega
          have hf0 : (0 : Int) ≤ (f : Int) := by omega
          have hj : k * 4 + 2 + f < 64 := by omega
          have c1 := HI.out.1.cell hj
          have O := HI.out.1.o _ hj
          obtain ⟨A, c, hv⟩ : ∃ A c, v (k * 4 + 2 + f) = .slice A (r (k * 4 + 2 + f)).length c := by
            obtain ⟨A, c, h⟩ := O.slice
            exact ⟨A, c, by rw [h]; unfold intsN; rw [List.length_map]⟩
          have HF := Lib.hid hno; clear hno
          cases hr : r (k * 4 + 2 + f) with
          | nil =>
            rw [hv, hr] at c1
            have HR := Lib.hid hr; clear hr O hv
            go_wp2_with fail
            go_roundg (2 - f)
            case measure => omega
            case rel => exact ⟨f + 1, by omega, by omega, by go_num, fun i hi => by
              rcases Nat.lt_or_ge i f with g1 | g1
              · exact HF.out i g1
              · have : i = f := by omega
                rw [this]; exact HR.out, rfl⟩
          | cons x xs =>
            rw [hr] at O hv
            rw [hv] at c1 O
            have hx0 : (intsN (x :: xs))[0]? = some ((x : Nat) : Int) := rfl
            obtain ⟨g, rfl, cx, -, -⟩ := O.cell hx0
            have hng : g ≠ gl := fun e => HI.out.1.ne_gl hj (by rw [hv, e]; simp [fpv, Value.ownBlock])
            have hcap := O.cap
            have hln : (intsN (x :: xs)).length = xs.length + 1 := by unfold intsN; simp
            have hln2 : (intsN xs).length = xs.length := by unfold intsN; simp
            rw [hln] at hcap
            have hll := HI.out.2.1 (k * 4 + 2 + f)
            rw [hr] at hll
            have hsl := O.sl (fun y hy => by
              unfold intsN at hy
              obtain ⟨y', hy', rfl⟩ := List.mem_map.1 hy
              have := HI.out.2.2 (k * 4 + 2 + f) y' (by rw [hr]; exact hy')
              unfold WfI; omega) (by rw [hln]; unfold maxLen; simp at hll; omega)
            have HR := Lib.hid hr; clear hr
            obtain ⟨n, hn⟩ : ∃ n, n = xs.length := ⟨_, rfl⟩
            have e0 : (x :: xs).length = n + 1 := by rw [hn]; rfl
            rw [e0] at c1 hv O hsl hll
            rw [← hn] at hcap hln2
            have HO := Lib.hid (And.intro hv (And.intro O (And.intro hng (And.intro hln2 (And.intro hsl (And.intro hln hn)))))); clear hv O hng hln2 hsl hln hn e0 hx0
            have hne := HI.out.1.ne
            have hgcl := HI.out.1.b.lt
            have d5 : ((n : Int) + 1) ≤ (c : Int) := by omega
            have d6 : (1 : Int) ≤ (n : Int) + 1 := by omega
            have d7 : (0 : Int) < (n : Int) + 1 := by omega
            have d8 : (1 : Int) ≤ (c : Int) := by omega
            have hsz : wr.heap.size ≤ wr.heap.size := Nat.le_refl _
            by_cases hc1 : c = 1
            · obtain rfl : c = 1 := hc1
              obtain rfl : n = 0 := by omega
              have hxs : xs = [] := List.eq_nil_of_length_eq_zero (by have := HO.out.2.2.2.1; unfold intsN at this; rw [List.length_map] at this; exact this)
              subst hxs
              go_upto_region 11 with fail
              go_region_held3 (fun w' => w'.cell? ⟨gc, 0, none⟩ = some (.slice (some ⟨gl, 0, none⟩) 16 16)) (first | (go_keep; done) | exact Blk.cellv (Blk.far (Chg.blk (by assumption : Chg [] wr _) HI.out.1.b (by simp)) hne _) 0 rfl | (refine Chg.cellv (S := []) (a := wr) ?_ hgcl (by simp) b0; repeat (first | assumption | exact Chg.refl [] wr | refine Chg.drew ?_ | refine Chg.alloc ?_ _)))
                (first | (go_at_call 133; refine (lclone_n _ _ _ _ (intsN []) (by rfl) (SlI.none_ _ _ _ _) (by omega)).mono ?_; rintro e w' ⟨vn, rfl, On, cn, fn⟩; obtain ⟨An, N1, kn, rfl⟩ := On.slice'; have D : Chg [] wr w' := Chg.trans (by repeat (first | assumption | exact Chg.refl [] wr | refine Chg.drew ?_ | refine Chg.alloc ?_ _) : Chg [] wr _) cn; have z1 : w'.cell? ⟨gc, 0, none⟩ = some (.slice (some ⟨gl, 0, none⟩) 16 16) := D.cellv hgcl (by simp) b0; have z2 : w'.cell? ⟨gl, k * 4 + 2 + f, none⟩ = some (.slice (some ⟨g, 0, none⟩) (0 + 1) 1) := D.cellv HI.out.1.l.lt (by simp) c1; have z3 : w'.frozen? ⟨gl, k * 4 + 2 + f, none⟩ = false := (D.blk HI.out.1.l (by simp)).frozen _))
              have T := CeTo.set HI.out.1 hj (w := wr) (w' := w') (xs := []) ⟨D.mono (by simp), fun k hk => .inr (by have := fn k hk; simp at this; omega)⟩ On
              obtain ⟨w5, hw5⟩ : ∃ W : World, W = w'.setCell ⟨gl, k * 4 + 2 + f, none⟩ (.slice An N1 kn) := ⟨_, rfl⟩
              rw [← hw5] at T ⊢
              have c5 : w5.cell? ⟨g, 0, none⟩ = some (.int .i64 (x : Nat)) := by
                obtain ⟨cur, hB⟩ := HO.out.2.1.blk
                have hB2 := (D.blk hB (by simp)).far (p := ⟨gl, k * 4 + 2 + f, none⟩) HO.out.2.2.1 (.slice An N1 kn)
                rw [← hw5] at hB2
                have h1 := hB.cell 0
                rw [hB2.cell, ← h1]
                exact cx
              have HT := Lib.hid T; clear T On cn fn D z1 z2 z3 hw5
              go_wp2_with fail
              go_quiet (fail)
              go_wp2_with fail
              go_ret3
              exact .inr ⟨k, f, x, [], ek, ef, HN.out, HF.out, HR.out, rfl, HT.out.chg0 ((Chg.refl _ _).drewN _)⟩
            · have d9 : ¬ c = 1 := hc1
              go_upto_region 11 with fail
              go_region_held3 (fun w' => w'.cell? ⟨gc, 0, none⟩ = some (.slice (some ⟨gl, 0, none⟩) 16 16)) (first | (go_keep; done) | exact Blk.cellv (Blk.far (Chg.blk (by assumption : Chg [] wr _) HI.out.1.b (by simp)) hne _) 0 rfl | (refine Chg.cellv (S := []) (a := wr) ?_ hgcl (by simp) b0; repeat (first | assumption | exact Chg.refl [] wr | refine Chg.drew ?_ | refine Chg.alloc ?_ _)))
                (first | (go_at_call 133; refine (lclone_n _ _ _ _ (intsN xs) (by rw [HO.out.2.2.2.1]) (SlI.mono ((SlI.drop (m := n) HO.out.2.2.2.2.1 (by rw [HO.out.2.2.2.2.2.1]; omega) (by rw [HO.out.2.2.2.2.2.1, ← HO.out.2.2.2.2.2.2]; omega)).chg (by repeat (first | assumption | exact Chg.refl [] wr | refine Chg.drew ?_ | refine Chg.alloc ?_ _) : Chg [] wr _) hsz (by simp)) (by simp)) (by omega)).mono ?_; rintro e w' ⟨vn, rfl, On, cn, fn⟩; obtain ⟨An, N1, kn, rfl⟩ := On.slice'; have D : Chg [] wr w' := Chg.trans (by repeat (first | assumption | exact Chg.refl [] wr | refine Chg.drew ?_ | refine Chg.alloc ?_ _) : Chg [] wr _) cn; have z1 : w'.cell? ⟨gc, 0, none⟩ = some (.slice (some ⟨gl, 0, none⟩) 16 16) := D.cellv hgcl (by simp) b0; have z2 : w'.cell? ⟨gl, k * 4 + 2 + f, none⟩ = some (.slice (some ⟨g, 0, none⟩) (n + 1) c) := D.cellv HI.out.1.l.lt (by simp) c1; have z3 : w'.frozen? ⟨gl, k * 4 + 2 + f, none⟩ = false := (D.blk HI.out.1.l (by simp)).frozen _))
              have T := CeTo.set HI.out.1 hj (w := wr) (w' := w') (xs := xs) ⟨D.mono (by simp), fun k hk => .inr (by have := fn k hk; simp at this; omega)⟩ On
              obtain ⟨w5, hw5⟩ : ∃ W : World, W = w'.setCell ⟨gl, k * 4 + 2 + f, none⟩ (.slice An N1 kn) := ⟨_, rfl⟩
              rw [← hw5] at T ⊢
              have c5 : w5.cell? ⟨g, 0, none⟩ = some (.int .i64 (x : Nat)) := by
                obtain ⟨cur, hB⟩ := HO.out.2.1.blk
                have hB2 := (D.blk hB (by simp)).far (p := ⟨gl, k * 4 + 2 + f, none⟩) HO.out.2.2.1 (.slice An N1 kn)
                rw [← hw5] at hB2
                have h1 := hB.cell 0
                rw [hB2.cell, ← h1]
                exact cx
              have HT := Lib.hid T; clear T On cn fn D z1 z2 z3 hw5
              go_wp2_with fail
              go_quiet (fail)
              go_wp2_with fail
              go_ret3
              exact .inr ⟨k, f, x, xs, ek, ef, HN.out, HF.out, HR.out, rfl, HT.out.chg0 ((Chg.refl _ _).drewN _)⟩
        · obtain rfl : f = 2 := by omega
          have HM := Lib.hid hno; clear hno ef
          go_wp2_with fail
          go_roundg (16 - k)
          case measure => omega
          case rel => exact ⟨k + 1, by omega, by omega, by go_num, fun i hi => by
            rcases Nat.lt_or_ge i k with g1 | g1
            · exact HN.out i g1
            · have : i = k := by omega
              rw [this]; exact ⟨HM.out 0 (by omega), HM.out 1 (by omega)⟩, rfl⟩
    · obtain rfl : k = 16 := by omega
      have HM := Lib.hid hno; clear hno ek
      go_wp2_with fail
      go_ret3
      exact .inl ⟨HM.out, rfl, Chg.refl _ _⟩
end Go.Proofs.YtcnchgbngcnijaaGreatDoor
namespace Go.Proofs.YtcnchgbngcnijaaGreatDoor
open Go.RowKit Go.Maps

/-- All swept rows laid behind the unswept ones. -/
def bgR (r : Nat → List Nat) (m : Nat) : Nat → List Nat := fun j => if j / 4 * 2 + j % 2 < m then (if j % 4 < 2 then [] else r j ++ r (j - 2)) else r j
def BgRel (w0 : World) (gc gl : Nat) (v : Nat → Value) (r : Nat → List Nat) (d n base gk : Nat) (idx : Value) (w : World) : Prop :=
  ∃ i v', gk + i = n + 1 ∧ i ≤ n ∧ idx = .int .i64 (i : Nat) ∧ IsCe w gc gl v' (bgR r (base + i * d)) ∧ StP (CeF gc gl v) (CeF gc gl v') w0 w
set_option maxHeartbeats 64000000 in
set_option maxRecDepth 100000 in
theorem cbegin_ok (w : World) (gc gl : Nat) (v : Nat → Value) (r : Nat → List Nat) (I : IsCe w gc gl v r) (hl : ∀ j, (r j).length ≤ 10000) (hx : ∀ j, ∀ x ∈ r j, x ≤ 1000000) : Calls Tryz.prog 79 #[.pointer (some ⟨gc, 0, none⟩)] w fun e w' => e = .returned (.tuple #[]) ∧ CeTo gc gl v (bgR r 32) w w' := by
  have b0 : w.cell? ⟨gc, 0, none⟩ = some (.slice (some ⟨gl, 0, none⟩) 16 16) := I.b.cellv 0 rfl
  have HI := Lib.hid (And.intro I (And.intro hl hx))
  clear I hl hx
  have e0 : bgR r 0 = r := by funext j; unfold bgR; rw [if_neg (by omega)]
  go_enter Tryz.func79, Tryz.ntmps79
  go_wp2_with fail
  go_loopg [11] 17 (fun gk idx wr => BgRel w gc gl v r 2 16 0 gk idx wr)
  case atStart => exact ⟨0, v, by omega, by omega, rfl, by rw [show 0 + 0 * 2 = 0 from rfl, e0]; exact HI.out.1, StP.refl _ _⟩
  case round =>
    clear b0 e0
    obtain ⟨k, v1, hgk, hk, rfl, I1, s1⟩ := hrel
    by_cases ek : k < 16
    · have hk' : (k : Int) < 16 := by omega
      have hk0 : (0 : Int) ≤ (k : Int) := by omega
      have H1 := Lib.hid (And.intro I1 s1); clear I1 s1
      go_wp2_with fail
      go_loopg [14] 3 (fun gk idx wr' => BgRel w gc gl v r 1 2 (k * 2) gk idx wr')
      case atStart => exact ⟨0, v1, by omega, by omega, rfl, by rw [show k * 2 + 0 * 1 = 0 + k * 2 by omega]; exact H1.out.1, H1.out.2⟩
      case round =>
        clear H1
        obtain ⟨f, v2, hgf, hf, rfl, I2, s2⟩ := hrel
        by_cases ef : f < 2
        · have hf' : (f : Int) < 2 := by omega
          have hf0 : (0 : Int) ≤ (f : Int) := by omega
          have hja : k * 4 + f < 64 := by omega
          have hjb : k * 4 + 2 + f < 64 := by omega
          have b0 : wr.cell? ⟨gc, 0, none⟩ = some (.slice (some ⟨gl, 0, none⟩) 16 16) := I2.b.cellv 0 rfl
          have ca := I2.cell hja
          have cb := I2.cell hjb
          obtain ⟨Aa, na, da, va⟩ := (I2.o _ hja).slice'
          obtain ⟨Ab, nb, db, vb⟩ := (I2.o _ hjb).slice'
          have ra : bgR r (k * 2 + f * 1) (k * 4 + f) = r (k * 4 + f) := by unfold bgR; rw [if_neg (by omega)]
          have rb : bgR r (k * 2 + f * 1) (k * 4 + 2 + f) = r (k * 4 + 2 + f) := by unfold bgR; rw [if_neg (by omega)]
          have Oa := I2.o _ hja
          have Ob := I2.o _ hjb
          rw [ra] at Oa
          rw [rb] at Ob
          rw [va] at ca Oa
          rw [vb] at cb Ob
          have wfl : ∀ j, (∀ y ∈ intsN (r j), WfI y) ∧ (intsN (r j)).length ≤ maxLen ∧ (intsN (r j)).length ≤ 100000 := fun j => by
            refine ⟨fun y hy => ?_, ?_, ?_⟩
            · unfold intsN at hy
              obtain ⟨y', hy', rfl⟩ := List.mem_map.1 hy
              have := HI.out.2.2 j y' hy'
              unfold WfI; omega
            · have := HI.out.2.1 j; unfold intsN maxLen; rw [List.length_map]; omega
            · have := HI.out.2.1 j; unfold intsN; rw [List.length_map]; omega
          have sa := Oa.sl (wfl _).1 (wfl _).2.1
          have sb := Ob.sl (wfl _).1 (wfl _).2.1
          have H2 := Lib.hid (And.intro I2 (And.intro s2 (And.intro va (And.intro vb (And.intro sa (And.intro sb wfl)))))); clear I2 s2 va vb sa sb wfl Oa Ob ra rb
          have hgcl := H2.out.1.b.lt
          have hgll := H2.out.1.l.lt
          have fb := H2.out.1.l.frozen (k * 4 + 2 + f)
          have hne := H2.out.1.ne
          have hsz : wr.heap.size ≤ wr.heap.size := Nat.le_refl _
          have e9 : intsN (r (k * 4 + 2 + f) ++ r (k * 4 + f)) = intsN (r (k * 4 + 2 + f)) ++ intsN (r (k * 4 + f)) := by unfold intsN; rw [List.map_append]
          have H9 := Lib.hid e9; clear e9
          go_upto_region 7 with fail
          go_cut [16] from 17 to 47 (fun _ wd => CeTo gc gl v2 (updV (bgR r (k * 2 + f * 1)) (k * 4 + 2 + f) (r (k * 4 + 2 + f) ++ r (k * 4 + f))) wr wd)
          case first =>
            go_region_law
              (rw [if_pos (by rfl)]; go_simp; go_at_call 128; refine (lconcat_ok _ _ _ _ (intsN (r (k * 4 + 2 + f))) (intsN (r (k * 4 + f))) (by first | exact (Blk.new _ _ _).drew | exact Blk.new _ _ _) (SlI.mono (H2.out.2.2.2.2.2.1.chg (by repeat (first | assumption | exact Chg.refl [] wr | refine Chg.drew ?_ | refine Chg.alloc ?_ _) : Chg [] wr _) hsz (by simp)) (by simp)) (SlI.mono (H2.out.2.2.2.2.1.chg (by repeat (first | assumption | exact Chg.refl [] wr | refine Chg.drew ?_ | refine Chg.alloc ?_ _) : Chg [] wr _) hsz (by simp)) (by simp)) (H2.out.2.2.2.2.2.2 _).2.2 (H2.out.2.2.2.2.2.2 _).2.2).mono ?_; rintro e w' ⟨vn, rfl, On, cn, fn⟩; obtain ⟨An, N1, kn, rfl⟩ := On.slice'; have D : Chg [] wr w' := Chg.trans (by repeat (first | assumption | exact Chg.refl [] wr | refine Chg.drew ?_ | refine Chg.alloc ?_ _)) cn; have z1 : w'.cell? ⟨gc, 0, none⟩ = some (.slice (some ⟨gl, 0, none⟩) 16 16) := D.cellv hgcl (by simp) b0; have z2 : w'.cell? ⟨gl, k * 4 + 2 + f, none⟩ = some (.slice Ab nb db) := D.cellv hgll (by simp) cb; have z3 : w'.frozen? ⟨gl, k * 4 + 2 + f, none⟩ = false := (D.blk H2.out.1.l (by simp)).frozen _; dsimp only)
            all_goals (have T := CeTo.set (u := .slice An N1 kn) (w := wr) (w' := w') (xs := r (k * 4 + 2 + f) ++ r (k * 4 + f)) H2.out.1 hjb ⟨D.mono (by simp), fun k hk => .inr (by have := fn k hk; simp at this; omega)⟩ (by rw [H9.out]; exact On))
            all_goals (have HT := Lib.hid T; clear T On cn fn D z1 z2 z3)
            all_goals go_wp2_with fail
            all_goals (go_meet; first | exact HT.out | exact HT.out.chg0 ((Chg.refl _ _).drew))
          case rest =>
            clear b0 ca cb fb
            obtain ⟨v3, I3, s3⟩ := hcut
            obtain ⟨w3, rfl⟩ : ∃ W : World, W = wc := ⟨_, rfl⟩
            have b0 : w3.cell? ⟨gc, 0, none⟩ = some (.slice (some ⟨gl, 0, none⟩) 16 16) := I3.b.cellv 0 rfl
            have ca := I3.cell hja
            have fa := I3.l.frozen (k * 4 + f)
            obtain ⟨Aa, na, da, va⟩ := (I3.o _ hja).slice'
            rw [va] at ca
            have T := CeTo.set (u := .slice none 0 0) (xs := []) I3 hja (w' := w3) ⟨Chg.refl _ _, fun k hk => by simp [fpv, Value.ownBlock] at hk⟩ (OwnI.nil _ _)
            have T2 := CeTo.trans (H2.out.2.1.trans s3) T
            have HT := Lib.hid T2; clear T T2 I3 s3 va
            go_wp2_with fail
            go_roundg (2 - f)
            case measure => omega
            case rel =>
              obtain ⟨v4, I4, s4⟩ := HT.out
              have er : updV (updV (bgR r (k * 2 + f * 1)) (k * 4 + 2 + f) (r (k * 4 + 2 + f) ++ r (k * 4 + f))) (k * 4 + f) [] = bgR r (k * 2 + (f + 1) * 1) := by
                funext j
                unfold updV bgR
                by_cases e1 : j = k * 4 + f
                · rw [if_pos e1, if_pos (by omega), if_pos (by omega)]
                · rw [if_neg e1]
                  by_cases e2 : j = k * 4 + 2 + f
                  · rw [if_pos e2, if_pos (by omega), if_neg (by omega), e2]
                    have : k * 4 + 2 + f - 2 = k * 4 + f := by omega
                    rw [this]
                  · rw [if_neg e2]
                    by_cases e3 : j / 4 * 2 + j % 2 < k * 2 + f * 1
                    · rw [if_pos e3, if_pos (show j / 4 * 2 + j % 2 < k * 2 + (f + 1) * 1 by omega)]
                    · rw [if_neg e3, if_neg (fun e4 => by
                        have h0 : j % 2 < 2 := Nat.mod_lt _ (by omega)
                        have h1 : j / 4 * 2 + j % 2 = k * 2 + f := by omega
                        have h2 : j / 4 = k := by omega
                        have h3 : j % 2 = f := by omega
                        have h5 : j = j / 4 * 4 + j % 4 := by omega
                        have h6 : j % 4 < 4 := Nat.mod_lt _ (by omega)
                        have h7 : j % 4 % 2 = f := by omega
                        have h8 : j % 4 = f ∨ j % 4 = 2 + f := by omega
                        omega)]
              rw [er] at I4
              exact ⟨f + 1, v4, by omega, by omega, by go_num, I4, s4⟩
        · obtain rfl : f = 2 := by omega
          have HM := Lib.hid (And.intro I2 s2); clear I2 s2 ef
          go_wp2_with fail
          go_roundg (16 - k)
          case measure => omega
          case rel => exact ⟨k + 1, v2, by omega, by omega, by go_num, by rw [show 0 + (k + 1) * 2 = k * 2 + 2 * 1 by omega]; exact HM.out.1, HM.out.2⟩
    · obtain rfl : k = 16 := by omega
      have HM := Lib.hid (And.intro I1 s1); clear I1 s1 ek
      go_wp2_with fail
      go_end0
      exact ⟨rfl, v1, HM.out.1, HM.out.2⟩
end Go.Proofs.YtcnchgbngcnijaaGreatDoor
namespace Go.Proofs.YtcnchgbngcnijaaGreatDoor
open Go.RowKit Go.Maps

def waN (r : Nat → List Nat) : Nat → List Nat
  | 0 => []
  | k + 1 => waN r k ++ r (k * 4 + 2) ++ r (k * 4 + 3)
theorem waN_len (r : Nat → List Nat) : ∀ n, (waN r n).length = unsN r n
  | 0 => rfl
  | n + 1 => by rw [waN, unsN, List.length_append, List.length_append, waN_len r n]
def WtRel (w0 : World) (r : Nat → List Nat) (gk : Nat) (vo idx : Value) (w : World) : Prop :=
  ∃ k, gk + k = 17 ∧ k ≤ 16 ∧ idx = .int .i64 (k : Nat) ∧ OwnI 3 w vo (intsN (waN r k)) ∧ Chg [] w0 w ∧ ∀ j ∈ fpv vo, w0.heap.size ≤ j
set_option maxHeartbeats 6400000 in
set_option maxRecDepth 100000 in
theorem cwaiting_ok (w : World) (gc gl : Nat) (v : Nat → Value) (r : Nat → List Nat) (I : IsCe w gc gl v r) (hl : ∀ j, (r j).length ≤ 10000) (hx : ∀ j, ∀ x ∈ r j, x ≤ 1000000) : Calls Tryz.prog 131 #[.pointer (some ⟨gc, 0, none⟩)] w (NwL (intsN (waN r 16)) w) := by
  have b0 : w.cell? ⟨gc, 0, none⟩ = some (.slice (some ⟨gl, 0, none⟩) 16 16) := I.b.cellv 0 rfl
  have HI := Lib.hid (And.intro I (And.intro hl hx))
  clear I hl hx
  go_enter Tryz.func131, Tryz.ntmps131
  go_wp2_with fail
  go_loopg [3, 13] 17 (fun gk vo idx wr => WtRel w r gk vo idx wr)
  case atStart => exact ⟨0, by omega, by omega, rfl, OwnI.nil _ _, Chg.refl _ _, fun j hj => by simp [fpv, Value.ownBlock] at hj⟩
  case round =>
    obtain ⟨k, hgk, hk, rfl, O, C, F⟩ := hrel
    by_cases e : k < 16
    · have hk' : (k : Int) < 16 := by omega
      have hk0 : (0 : Int) ≤ (k : Int) := by omega
      have I2 := HI.out.1.chg0 C
      obtain ⟨A0, n0, d0, v0⟩ := (I2.o (k * 4) (by omega)).slice'
      obtain ⟨A1, n1, d1, v1⟩ := (I2.o (k * 4 + 1) (by omega)).slice'
      obtain ⟨A2, n2, d2, v2⟩ := (I2.o (k * 4 + 2) (by omega)).slice'
      obtain ⟨A3, n3, d3, v3⟩ := (I2.o (k * 4 + 3) (by omega)).slice'
      have c0 := I2.cell (j := k * 4) (by omega)
      have c1 := I2.cell (j := k * 4 + 1) (by omega)
      have c2 := I2.cell (j := k * 4 + 2) (by omega)
      have c3 := I2.cell (j := k * 4 + 3) (by omega)
      have wfl : ∀ j, (∀ y ∈ intsN (r j), WfI y) ∧ (intsN (r j)).length ≤ maxLen ∧ (intsN (r j)).length ≤ 100000 := fun j => by
        refine ⟨fun y hy => ?_, ?_, ?_⟩
        · unfold intsN at hy
          obtain ⟨y', hy', rfl⟩ := List.mem_map.1 hy
          have := HI.out.2.2 j y' hy'
          unfold WfI; omega
        · have := HI.out.2.1 j; unfold intsN maxLen; rw [List.length_map]; omega
        · have := HI.out.2.1 j; unfold intsN; rw [List.length_map]; omega
      have s2 := (HI.out.1.o (k * 4 + 2) (by omega)).sl (wfl _).1 (wfl _).2.1
      have s3 := (HI.out.1.o (k * 4 + 3) (by omega)).sl (wfl _).1 (wfl _).2.1
      rw [v0] at c0
      rw [v1] at c1
      rw [v2] at c2 s2
      rw [v3] at c3 s3
      have hu := unsN_le HI.out.2.1 k
      have hlO : (intsN (waN r k)).length ≤ 100000000 := by unfold intsN; rw [List.length_map, waN_len]; omega
      obtain ⟨Ao, no, co, rfl⟩ := O.slice'
      have HC := Lib.hid (And.intro C (And.intro O (And.intro F (And.intro s2 (And.intro s3 (And.intro wfl hlO)))))); clear C I2 v0 v1 v2 v3 hu O F s2 s3 wfl hlO
      have hlt : ∀ j ∈ fpv (.slice Ao no co), j < wr.heap.size := fun j hj => HC.out.2.1.lt hj
      go_upto_region 6 with fail
      obtain ⟨lc, hlc⟩ : ∃ lc, lc = wr.heap.size := ⟨_, rfl⟩
      obtain ⟨W1, hW1⟩ : ∃ W1 : World, W1 = wr.alloc (.cells #[.slice A0 n0 d0, .slice A1 n1 d1, .slice A2 n2 d2, .slice A3 n3 d3] 139) := ⟨_, rfl⟩
      rw [← hlc, ← hW1]
      have B1 : Blk W1 lc 139 #[.slice A0 n0 d0, .slice A1 n1 d1, .slice A2 n2 d2, .slice A3 n3 d3] := by rw [hW1, hlc]; exact Blk.new _ _ _
      have l2 : W1.cell? ⟨lc, 2, none⟩ = some (.slice A2 n2 d2) := B1.cellv 2 rfl
      have l3 : W1.cell? ⟨lc, 3, none⟩ = some (.slice A3 n3 d3) := B1.cellv 3 rfl
      have C1 : Chg [] wr W1 := by rw [hW1]; exact (Chg.refl [] wr).alloc _
      have D1 : Chg [] w W1 := HC.out.1.trans C1
      have O1 := HC.out.2.1.chg0 C1
      have hnl : lc ∉ fpv (.slice Ao no co) := fun hm => by have := hlt lc hm; omega
      have HC1 := Lib.hid (And.intro D1 O1)
      have hlcW : lc < W1.heap.size := B1.lt
      clear C1 hlc hW1 hlt
      have k1 : Chg [] w W1.drew := D1.drew
      have O1d := O1.drew
      have z2 : W1.drew.cell? ⟨lc, 2, none⟩ = some (.slice A2 n2 d2) := B1.drew.cellv 2 rfl
      have z3 : W1.drew.cell? ⟨lc, 3, none⟩ = some (.slice A3 n3 d3) := B1.drew.cellv 3 rfl
      have hl1 := HC.out.2.2.2.2.2.2
      have q2 := (HC.out.2.2.2.2.2.1 (k * 4 + 2)).2.2
      have q3 := (HC.out.2.2.2.2.2.1 (k * 4 + 3)).2.2
      go_region_held3 (fun w' => w'.cell? ⟨lc, 2, none⟩ = some (.slice A2 n2 d2) ∧ w'.cell? ⟨lc, 3, none⟩ = some (.slice A3 n3 d3)) (go_keep)
        (first
          | (refine step_cat_n (by rfl) _ _ (by rfl) slty (by rfl) O5 (by rfl) (HC.out.2.2.2.2.1.chg D5 (Nat.le_refl _) (by simp)) ((intsN (waN r k)).length + (intsN (r (k * 4 + 2))).length + (intsN (r (k * 4 + 3))).length) (by rw [List.length_append]) (by omega) ?_; intro A6 c6 w6 O6 t6; have D6 : Chg [] w w6 := Chg.new D5 t6.c F5; have F6 := (fun j hj => (t6.f j hj).elim (F5 j) (fun h => Nat.le_trans D5.size h) : ∀ j ∈ fpv (.slice A6 ((intsN (waN r k)).length + (intsN (r (k * 4 + 2))).length + (intsN (r (k * 4 + 3))).length) c6), w.heap.size ≤ j); have y2 : w6.cell? ⟨lc, 2, none⟩ = some (.slice A2 n2 d2) := t6.c.cellv hl5 hn5 x2; have y3 : w6.cell? ⟨lc, 3, none⟩ = some (.slice A3 n3 d3) := t6.c.cellv hl5 hn5 x3)
          | (refine step_cat_n (by rfl) _ _ (by rfl) slty (by rfl) (by first | exact O1d | exact O1) (by rfl) (HC.out.2.2.2.1.chg (by assumption : Chg [] w _) (Nat.le_refl _) (by simp)) ((intsN (waN r k)).length + (intsN (r (k * 4 + 2))).length) rfl (by omega) ?_; intro A5 c5 w5 O5 t5; have D5 : Chg [] w w5 := Chg.new (by assumption) t5.c HC.out.2.2.1; have F5 := (fun j hj => (t5.f j hj).elim (HC.out.2.2.1 j) (fun h => Nat.le_trans k1.size h) : ∀ j ∈ fpv (.slice A5 ((intsN (waN r k)).length + (intsN (r (k * 4 + 2))).length) c5), w.heap.size ≤ j); have x2 : w5.cell? ⟨lc, 2, none⟩ = some (.slice A2 n2 d2) := t5.c.cellv hlcW hnl z2; have x3 : w5.cell? ⟨lc, 3, none⟩ = some (.slice A3 n3 d3) := t5.c.cellv hlcW hnl z3; have hl5 : lc < w5.heap.size := Nat.lt_of_lt_of_le hlcW t5.c.size; have hn5 : lc ∉ fpv (.slice A5 ((intsN (waN r k)).length + (intsN (r (k * 4 + 2))).length) c5) := (fun hm => (t5.f lc hm).elim hnl (fun h => Nat.lt_irrefl _ (Nat.lt_of_lt_of_le hlcW h)))))
      have e9 : intsN (waN r (k + 1)) = intsN (waN r k) ++ intsN (r (k * 4 + 2)) ++ intsN (r (k * 4 + 3)) := by unfold intsN; rw [waN, List.map_append, List.map_append]
      have HZ := Lib.hid (And.intro (e9 ▸ O6) (And.intro D6 F6)); clear e9 O6 D6 F6 t6 O5 D5 F5 t5 x2 x3 y2 y3 hl5 hn5 z2 z3 l2 l3 B1 D1 O1 O1d
      go_wp2_with fail
      go_roundg (16 - k)
      case measure => omega
      case rel => exact ⟨k + 1, by omega, by omega, by go_num, HZ.out.1, HZ.out.2.1, HZ.out.2.2⟩
    · obtain rfl : k = 16 := by omega
      have HC := Lib.hid (And.intro O (And.intro C F)); clear C O F e
      obtain ⟨Ao, no, co, rfl⟩ := HC.out.1.slice'
      go_wp2_with fail
      go_ret
      exact ⟨_, rfl, HC.out.1, HC.out.2.1, HC.out.2.2⟩
end Go.Proofs.YtcnchgbngcnijaaGreatDoor
namespace Go.Proofs.YtcnchgbngcnijaaGreatDoor
open Go.RowKit Go.Maps

set_option maxHeartbeats 1600000 in
set_option maxRecDepth 100000 in
theorem cnew_ok (w : World) : Calls Tryz.prog 72 #[] w fun e w' => ∃ gc gl, e = .returned (.pointer (some ⟨gc, 0, none⟩)) ∧ IsCe w' gc gl (fun _ => .slice none 0 0) (fun _ => []) ∧ Chg [] w w' ∧ ∀ k, CeF gc gl (fun _ => .slice none 0 0) k → w.heap.size ≤ k := by
  have hmk : ∀ W : World, (Instr.makeSlice 131 (.int .i64 16) (.int .i64 16)).run Tryz.prog W = .ok (.slice (some ⟨W.heap.size, 0, none⟩) 16 16) (W.alloc (.cells (ceC fun _ => .slice none 0 0) 139)) := fun W => by
    obtain ⟨i, hi, hzz⟩ := Option.map_eq_some_iff.1 (show (Tryz.prog.info? 139).map (fun i => (i.zero, i.size, i.bytes)) = some (some (.agg #[.slice none 0 0, .slice none 0 0, .slice none 0 0, .slice none 0 0]), 4, 96) by kernel_rfl)
    simp only [Prod.mk.injEq] at hzz
    obtain ⟨hz, hs, hb⟩ := hzz
    have hr := run_make (P := Tryz.prog) W 131 139 i _ Tryz.underlying131 hi hz .i64 .i64 16 16 (by decide) (Int.le_refl _) (by rw [hb]; decide) (by decide)
    have em : madeCells (Value.agg #[.slice none 0 0, .slice none 0 0, .slice none 0 0, .slice none 0 0]).cells (Int.toNat 16 * 4) = ceC fun _ => .slice none 0 0 := by kernel_rfl
    rw [hs, em] at hr
    exact hr
  go_enter Tryz.func72, Tryz.ntmps72
  go_wp2_with fail
  refine (count_ok w).mono ?_
  rintro e w1 ⟨rfl, c⟩
  have HC := Lib.hid c; clear c
  go_wp2_with fail
  go_ret
  have B1 := Blk.new w1 139 (ceC fun _ => .slice none 0 0)
  have B2 := Blk.new (w1.alloc (.cells (ceC fun _ => .slice none 0 0) 139)) 133 #[.slice (some ⟨w1.heap.size, 0, none⟩) 16 16]
  rw [World.size_alloc] at B2
  refine ⟨_, w1.heap.size, rfl, ⟨B2, B1.alloc _, fun j hj => OwnI.nil _ _, fun i j hi hj hne k hk => by simp [fpv, Value.ownBlock] at hk⟩, (HC.out.alloc _).alloc _, fun k hk => ?_⟩
  have hsz := HC.out.size
  rcases hk with rfl | rfl | ⟨j, -, hk⟩
  · omega
  · exact hsz
  · simp [fpv, Value.ownBlock] at hk
end Go.Proofs.YtcnchgbngcnijaaGreatDoor
