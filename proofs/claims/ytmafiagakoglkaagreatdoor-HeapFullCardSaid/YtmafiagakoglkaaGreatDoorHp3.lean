/- Package cache: Flush. -/
import Derived.Test.YtmafiagakoglkaaGreatDoorHp2
namespace Go.Proofs.YtmafiagakoglkaaGreatDoor
open Go.RowKit Go.Maps

/-- A span put behind its row. -/
def PutTo (a : Ar) (r : Nat → List Nat) (k id : Nat) (r' : Nat → List Nat) : Prop :=
  ∃ r1 full, DelTo r id r1 ∧ (full = true ↔ ∀ s, spI a (id : Nat) = some s → fullS s) ∧ r' = updV r1 (k * 4 + sd full) (r1 (k * 4 + sd full) ++ [id])
theorem DelTo.mem {r r1 : Nat → List Nat} {id : Nat} (h : DelTo r id r1) {j x : Nat} (hx : x ∈ r1 j) : x ∈ r j := by
  rcases h with ⟨rfl, -⟩ | ⟨i, -, -, -, rfl⟩
  · exact hx
  · unfold delR updV at hx
    split at hx
    · next e => rw [e]; exact List.mem_of_mem_erase hx
    · exact hx
theorem PutTo.len {a : Ar} {r r' : Nat → List Nat} {k id : Nat} (h : PutTo a r k id r') (j : Nat) : (r' j).length ≤ (r j).length + 1 := by
  obtain ⟨r1, full, hd, -, rfl⟩ := h
  have h1 := hd.len j
  unfold updV
  split
  · next e => rw [← e, List.length_append]; simp; omega
  · omega
theorem PutTo.mem {a : Ar} {r r' : Nat → List Nat} {k id : Nat} (h : PutTo a r k id r') {j x : Nat} (hx : x ∈ r' j) : x ∈ r j ∨ x = id := by
  obtain ⟨r1, full, hd, -, rfl⟩ := h
  unfold updV at hx
  split at hx
  · next e =>
    rw [← e] at hx
    rcases List.mem_append.1 hx with h1 | h1
    · exact .inl (hd.mem h1)
    · exact .inr (List.mem_singleton.1 h1)
  · exact .inl (hd.mem hx)
def FlR (a : Ar) (f : Nat → Int) : Nat → (Nat → List Nat) → (Nat → List Nat) → Prop
  | 0, r, r' => r' = r
  | n + 1, r, r' => ∃ r1, FlR a f n r r1 ∧ ((f n = -1 ∧ r' = r1) ∨ ∃ id : Nat, f n = id ∧ PutTo a r1 n id r')
theorem FlR.len {a : Ar} {f : Nat → Int} : ∀ {n : Nat} {r r' : Nat → List Nat}, FlR a f n r r' → ∀ j, (r' j).length ≤ (r j).length + n
  | 0, r, r', h, j => by rw [h]; omega
  | n + 1, r, r', ⟨r1, h1, h2⟩, j => by
    have := h1.len j
    rcases h2 with ⟨-, rfl⟩ | ⟨id, -, h3⟩
    · omega
    · have := h3.len j; omega
theorem FlR.mem {a : Ar} {f : Nat → Int} : ∀ {n : Nat} {r r' : Nat → List Nat}, FlR a f n r r' → ∀ {j x : Nat}, x ∈ r' j → x ∈ r j ∨ ∃ k, k < n ∧ f k = (x : Nat)
  | 0, r, r', h, j, x, hx => by rw [h] at hx; exact .inl hx
  | n + 1, r, r', ⟨r1, h1, h2⟩, j, x, hx => by
    have key : x ∈ r1 j → x ∈ r j ∨ ∃ k, k < n + 1 ∧ f k = (x : Nat) := fun h => by
      rcases h1.mem h with h3 | ⟨k, hk, h3⟩
      · exact .inl h3
      · exact .inr ⟨k, by omega, h3⟩
    rcases h2 with ⟨-, rfl⟩ | ⟨id, hid, h3⟩
    · exact key hx
    · rcases h3.mem hx with h4 | rfl
      · exact key h4
      · exact .inr ⟨n, by omega, hid⟩
/-- What a P has, the first n classes given back. -/
def flO (f : Nat → Int) (n : Nat) : Nat → Int := fun k => if k < n then -1 else f k
theorem flO_zero (f : Nat → Int) : flO f 0 = f := by funext k; unfold flO; rw [if_neg (by omega)]
theorem flO_at (f : Nat → Int) (n : Nat) : flO f n n = f n := by unfold flO; rw [if_neg (by omega)]
theorem flO_set (f : Nat → Int) (n : Nat) : updV (flO f n) n (-1) = flO f (n + 1) := by
  funext k
  unfold updV flO
  by_cases e : k = n
  · rw [if_pos e, if_pos (by omega)]
  · rw [if_neg e]
    by_cases h : k < n
    · rw [if_pos h, if_pos (by omega)]
    · rw [if_neg h, if_neg (by omega)]
theorem flO_same {f : Nat → Int} {n : Nat} (h : f n = -1) : flO f n = flO f (n + 1) := by
  rw [← flO_set]
  funext k
  unfold updV
  split
  · next e => rw [e, flO_at, h]
  · rfl
def FlPost (W w : World) (H : HpH) (A : HpA) (N b p : Nat) (e : Ending) (w' : World) : Prop :=
  e = .returned (.tuple #[]) ∧ ∃ v' r', FlR A.a (A.own p) 16 A.r r' ∧ HpS W w' { H with v := v' } { A with r := r', own := updV A.own p (flO (A.own p) 16) } N b ∧ StP (HpF H A) (HpF { H with v := v' } { A with r := r', own := updV A.own p (flO (A.own p) 16) }) w w'
def FlRel (W w0 : World) (H : HpH) (A : HpA) (N b p gk : Nat) (idx : Value) (w : World) : Prop :=
  ∃ k v' r', gk + k = 17 ∧ k ≤ 16 ∧ idx = .int .i64 (k : Nat) ∧ FlR A.a (A.own p) k A.r r' ∧ HpS W w { H with v := v' } { A with r := r', own := updV A.own p (flO (A.own p) k) } N b ∧ StP (HpF H A) (HpF { H with v := v' } { A with r := r', own := updV A.own p (flO (A.own p) k) }) w0 w
theorem updV_self {α : Type} (f : Nat → α) (j : Nat) : updV f j (f j) = f := by
  funext i; unfold updV; split
  · next e => rw [e]
  · rfl
set_option maxHeartbeats 6400000 in
set_option maxRecDepth 100000 in
theorem flush_ok (W w : World) (H : HpH) (A : HpA) (N b : Nat) (Q : HpS W w H A N b) (T0 : Tab W) (B : HpB A) (p : Nat) (hp : p < A.P) : Calls Tryz.prog 27 #[.pointer (some ⟨H.gh, 0, none⟩), .int .i64 (p : Nat)] w (FlPost W w H A N b p) := by
  have b2 : w.cell? ⟨H.gh, 2, none⟩ = some H.vo := Q.hb.cellv 2 rfl
  obtain ⟨g, c, hvo, c1, hcap⟩ := Q.vo_at hp
  rw [hvo] at b2
  have hp0 : (0 : Int) ≤ (p : Int) := by omega
  have hp1 : (p : Int) < (A.P : Int) := by omega
  have hp2 : ¬ (A.P : Int) ≤ (p : Int) := by omega
  have hp3 : ¬ A.P ≤ p := by omega
  have e0 : ({ A with r := A.r, own := updV A.own p (flO (A.own p) 0) } : HpA) = A := by rw [flO_zero, updV_self]
  have HQ := Lib.hid (And.intro Q (And.intro T0 (And.intro B (And.intro hvo e0)))); clear Q T0 B hvo e0
  go_enter Tryz.func27, Tryz.ntmps27
  go_wp2_with fail
  go_loopg [29] 17 (fun gk idx wr => FlRel W w H A N b p gk idx wr)
  case atStart => exact ⟨0, H.v, A.r, by omega, by omega, rfl, rfl, by rw [HQ.out.2.2.2.2]; exact HQ.out.1, by rw [HQ.out.2.2.2.2]; exact StP.refl _ _⟩
  case round =>
    clear b2 c1
    obtain ⟨k, v1, r1, hgk, hk, rfl, hF, Q1, t1⟩ := hrel
    have HT := Lib.hid t1; clear t1
    by_cases ek : k < 16
    · have hk' : (k : Int) < 16 := by omega
      have hk0 : (0 : Int) ≤ (k : Int) := by omega
      have ck := Q1.own_at hp ek
      have eo : (updV A.own p (flO (A.own p) k)) p k = A.own p k := by rw [updV_same, flO_at]
      have ck2 : wr.cell? ⟨H.gp p, k, none⟩ = some (.int .i64 (A.own p k)) := by rw [← eo]; exact ck
      clear ck eo
      rcases HQ.out.2.2.1.o p k hp ek with h1 | ⟨id, hid, hid2⟩
      · rw [h1] at ck2
        have HX := Lib.hid (And.intro hF (And.intro Q1 h1)); clear hF Q1 h1
        go_wp2_with fail
        go_roundg (16 - k)
        case measure => omega
        case rel => exact ⟨k + 1, v1, r1, by omega, by omega, by go_num, ⟨r1, HX.out.1, .inl ⟨HX.out.2.2, rfl⟩⟩, by rw [← flO_same HX.out.2.2]; exact HX.out.2.1, by rw [← flO_same HX.out.2.2]; exact HT.out⟩
      · rw [hid] at ck2
        have hne1 : ((id : Nat) : Int) ≠ -1 := by omega
        have hq : (((id : Nat) : Int) != -1) = true := by rw [bne_iff_ne]; exact hne1
        have hl1 : ∀ j, (r1 j).length ≤ 100000 := fun j => by have := hF.len j; have := HQ.out.2.2.1.l j; omega
        have hx1 : ∀ j, ∀ x ∈ r1 j, x ≤ 1000000 := fun j x hx => by
          rcases hF.mem hx with h2 | ⟨k', hk', h2⟩
          · exact HQ.out.2.2.1.x j x h2
          · rcases HQ.out.2.2.1.o p k' hp (by omega) with h3 | ⟨id', h3, h4⟩
            · omega
            · omega
        have b0 : wr.cell? ⟨H.gh, 0, none⟩ = some (.pointer (some ⟨H.ah.ga, 0, none⟩)) := Q1.hb.cellv 0 rfl
        have b1 : wr.cell? ⟨H.gh, 1, none⟩ = some (.pointer (some ⟨H.gc, 0, none⟩)) := Q1.hb.cellv 1 rfl
        have hghl := Q1.hb.lt
        have HX := Lib.hid (And.intro hF (And.intro Q1 (And.intro hid (And.intro hl1 hx1)))); clear hF Q1 hid hl1 hx1
        go_upto_region 5 with fail
        go_region_held3 (fun w' => w'.cell? ⟨H.gh, 0, none⟩ = some (.pointer (some ⟨H.ah.ga, 0, none⟩)) ∧ w'.cell? ⟨H.gh, 1, none⟩ = some (.pointer (some ⟨H.gc, 0, none⟩))) (go_keep)
          (first
            | (go_at_call 20; refine (s_full (ArS.chg0 HX.out.2.1.S (by repeat (first | assumption | exact Chg.refl [] wr | refine Chg.drew ?_))) HQ.out.2.1 (id : Nat) (by unfold Wf64; omega)).mono ?_; rintro e w' ⟨bo, rfl, cf, hbo⟩; have D : Chg [] wr w' := Chg.trans (by repeat (first | assumption | exact Chg.refl [] wr | refine Chg.drew ?_)) cf; have z0 : w'.cell? ⟨H.gh, 0, none⟩ = some (.pointer (some ⟨H.ah.ga, 0, none⟩)) := D.cellv hghl (by simp) b0; have z1 : w'.cell? ⟨H.gh, 1, none⟩ = some (.pointer (some ⟨H.gc, 0, none⟩)) := D.cellv hghl (by simp) b1)
            | (go_at_call 46; refine (cput_ok _ H.gc H.gl v1 r1 (IsCe.chg0 HX.out.2.1.C D) k ek id hid2 bo HX.out.2.2.2.1 HX.out.2.2.2.2).mono ?_; rintro e w' ⟨rfl, r2, hd, v2, I2, s2⟩; have Q2 := (HpS.chg0 HX.out.2.1 D).central I2 s2; have t2 := (HT.out.then0 D).trans (st_central (A := { A with r := r1, own := updV A.own p (flO (A.own p) k) }) (H := { H with v := v1 }) (r' := updV r2 (k * 4 + sd bo) (r2 (k * 4 + sd bo) ++ [id])) s2); have y0 : w'.cell? ⟨H.gh, 0, none⟩ = some (.pointer (some ⟨H.ah.ga, 0, none⟩)) := Q2.hb.cellv 0 rfl; have y1 : w'.cell? ⟨H.gh, 1, none⟩ = some (.pointer (some ⟨H.gc, 0, none⟩)) := Q2.hb.cellv 1 rfl))
        have hP : PutTo A.a r1 k id (updV r2 (k * 4 + sd bo) (r2 (k * 4 + sd bo) ++ [id])) := ⟨r2, bo, hd, hbo, rfl⟩
        obtain ⟨g2, cc2, hvo2, c2, hcap2⟩ := Q2.vo_at hp
        have q2 : w'.cell? ⟨H.gh, 2, none⟩ = some H.vo := Q2.hb.cellv 2 rfl
        have q4 : w'.cell? ⟨H.gp p, k, none⟩ = some (.int .i64 (updV A.own p (flO (A.own p) k) p k)) := Q2.own_at hp ek
        have q5 : w'.frozen? ⟨H.gp p, k, none⟩ = false := (Q2.g p hp).frozen k
        have hvo3 : H.vo = .slice (some ⟨g2, 0, none⟩) A.P cc2 := hvo2
        have c3 : w'.cell? ⟨g2, p, none⟩ = some (.slice (some ⟨H.gp p, 0, none⟩) 16 16) := c2
        rw [hvo3] at q2
        have Q3 := Q2.set hp ek (-1)
        have eo : updV (updV A.own p (flO (A.own p) k)) p (updV (updV A.own p (flO (A.own p) k) p) k (-1)) = updV A.own p (flO (A.own p) (k + 1)) := by
          rw [updV_same, flO_set]
          funext i
          unfold updV
          split <;> rfl
        have t3 := t2.trans (st_set (H := { H with v := v2 }) (A := { A with r := updV r2 (k * 4 + sd bo) (r2 (k * 4 + sd bo) ++ [id]), own := updV A.own p (flO (A.own p) k) }) (k := k) hp (-1) (updV A.own p (flO (A.own p) (k + 1))))
        have HY := Lib.hid (And.intro hP (And.intro Q3 (And.intro eo t3))); clear hP Q3 eo t2 t3 Q2 hd I2 s2 hbo cf D z0 z1 y0 y1 hvo2 hvo3 c2 b0 b1 ck2 hq
        go_wp2_with fail
        go_roundg (16 - k)
        case measure => omega
        case rel =>
          have Q4 := HY.out.2.1
          have e4 := HY.out.2.2.1
          refine ⟨k + 1, v2, _, by omega, by omega, by go_num, ⟨r1, HX.out.1, .inr ⟨id, HX.out.2.2.1, HY.out.1⟩⟩, ?_, HY.out.2.2.2⟩
          rw [← e4]
          exact Q4
    · obtain rfl : k = 16 := by omega
      have HX := Lib.hid (And.intro hF Q1); clear hF Q1 ek
      go_wp2_with fail
      go_end0
      exact ⟨rfl, v1, r1, HX.out.1, HX.out.2, HT.out⟩
end Go.Proofs.YtmafiagakoglkaaGreatDoor
