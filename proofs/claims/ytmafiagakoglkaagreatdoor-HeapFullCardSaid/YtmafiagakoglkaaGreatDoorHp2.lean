/- Package cache: owned, unswept, Arena, Unswept, fresh. -/
import Derived.Test.YtmafiagakoglkaaGreatDoorHp
namespace Go.Proofs.YtmafiagakoglkaaGreatDoor
open Go.RowKit Go.Maps

/-- What ids and rows are bounded by. -/
structure HpB (A : HpA) : Prop where
  l : ∀ j, (A.r j).length ≤ 10000
  x : ∀ j, ∀ x ∈ A.r j, x ≤ 1000000
  o : ∀ p k, p < A.P → k < 16 → A.own p k = -1 ∨ ∃ id : Nat, A.own p k = id ∧ id ≤ 1000000
  P : A.P ≤ 64
section
variable {W w : World} {H : HpH} {A : HpA} {N b : Nat} (Q : HpS W w H A N b)
include Q
theorem HpS.vo_at {p : Nat} (hp : p < A.P) : ∃ g c, H.vo = .slice (some ⟨g, 0, none⟩) A.P c ∧ w.cell? ⟨g, p, none⟩ = some (.slice (some ⟨H.gp p, 0, none⟩) 16 16) ∧ A.P ≤ c := by
  rcases Q.o.2 with ⟨_, h0⟩ | ⟨g, cap, cur, e, hb0, hh, hc, hm, hs, ht⟩
  · omega
  · refine ⟨g, cap, e, ?_, by omega⟩
    have hB : Blk w g 22 cur := hh
    rw [hB.cell]
    have h1 : (cur.toList.take (A.P * 1))[p]? = some (.slice (some ⟨H.gp p, 0, none⟩) 16 16) := by rw [ht]; unfold ownVs; simp [hp]
    rw [List.getElem?_take] at h1
    split at h1
    · simpa using h1
    · cases h1
theorem HpS.own_at {p k : Nat} (hp : p < A.P) (hk : k < 16) : w.cell? ⟨H.gp p, k, none⟩ = some (.int .i64 (A.own p k)) := (Q.g p hp).cellv k (own16_at _ hk)
theorem HpS.vo_sl : ∃ B c, H.vo = .slice B A.P c := by
  rcases Q.o.2 with ⟨e, h0⟩ | ⟨g, cap, cur, e, _⟩
  · exact ⟨none, 0, by rw [h0]; exact e⟩
  · exact ⟨_, cap, e⟩
def OdPost (A : HpA) (id : Int) (w : World) (e : Ending) (w' : World) : Prop := ∃ bo, e = .returned (.bool bo) ∧ w' = w ∧ (bo = true ↔ ∃ p k, p < A.P ∧ k < 16 ∧ A.own p k = id)
def OdRel (A : HpA) (id : Int) (gk : Nat) (idx : Value) (w0 w : World) : Prop := ∃ p, gk + p = A.P + 1 ∧ p ≤ A.P ∧ idx = .int .i64 (p : Nat) ∧ (∀ q k, q < p → k < 16 → A.own q k ≠ id) ∧ w = w0
def OeRel (A : HpA) (p : Nat) (id : Int) (gk : Nat) (idx : Value) (w0 w : World) : Prop := ∃ k, gk + k = 17 ∧ k ≤ 16 ∧ idx = .int .i64 (k : Nat) ∧ (∀ j, j < k → A.own p j ≠ id) ∧ w = w0
set_option maxHeartbeats 1600000 in
set_option maxRecDepth 100000 in
theorem owned_ok (hP : A.P ≤ 64) (id : Int) : Calls Tryz.prog 56 #[.pointer (some ⟨H.gh, 0, none⟩), .int .i64 id] w (OdPost A id w) := by
  have b2 : w.cell? ⟨H.gh, 2, none⟩ = some H.vo := Q.hb.cellv 2 rfl
  obtain ⟨Bv, cv, hvo⟩ := Q.vo_sl
  rw [hvo] at b2
  have HQ := Lib.hid (And.intro Q hvo); clear Q hvo
  go_enter Tryz.func56, Tryz.ntmps56
  go_wp2_with fail
  go_loopg [14] (A.P + 1) (fun gk idx wr => OdRel A id gk idx w wr)
  case atStart => exact ⟨0, by omega, by omega, rfl, fun q k h => by omega, rfl⟩
  case round =>
    obtain ⟨p, hgk, hp, rfl, hno, hw⟩ := hrel
    subst hw
    by_cases ep : p < A.P
    · have hp' : (p : Int) < (A.P : Int) := by omega
      have hp0 : (0 : Int) ≤ (p : Int) := by omega
      obtain ⟨g, c, e1, c1, -⟩ := HQ.out.1.vo_at ep
      rw [HQ.out.2] at e1
      injection e1 with e1 e2 e3
      subst e1
      have HN := Lib.hid hno; clear hno e2 e3
      go_wp2_with fail
      go_loopg [20] 17 (fun gk idx wr' => OeRel A p id gk idx wr wr')
      case atStart => exact ⟨0, by omega, by omega, rfl, fun j h => by omega, rfl⟩
      case round =>
        obtain ⟨k, hgk2, hk, rfl, hno, hw⟩ := hrel
        subst hw
        by_cases ek : k < 16
        · have hk' : (k : Int) < 16 := by omega
          have hk0 : (0 : Int) ≤ (k : Int) := by omega
          have c2 := HQ.out.1.own_at ep ek
          have HM := Lib.hid hno; clear hno
          by_cases e : A.own p k = id
          · have hq : (A.own p k == id) = true := by rw [beq_iff_eq]; exact e
            have HE := Lib.hid e; clear e
            go_wp2_with fail
            go_ret
            exact ⟨true, rfl, rfl, fun _ => ⟨p, k, ep, ek, HE.out⟩, fun _ => rfl⟩
          · have hq : (A.own p k == id) = false := by rw [beq_eq_false_iff_ne]; exact e
            have HE := Lib.hid e; clear e
            go_wp2_with fail
            go_roundg (16 - k)
            case measure => omega
            case rel => exact ⟨k + 1, by omega, by omega, by go_num, fun j hj => by
              rcases Nat.lt_or_ge j k with g1 | g1
              · exact HM.out j g1
              · have : j = k := by omega
                rw [this]; exact HE.out, rfl⟩
        · obtain rfl : k = 16 := by omega
          have HM := Lib.hid hno; clear hno ek
          go_wp2_with fail
          go_roundg (A.P - p)
          case measure => omega
          case rel => exact ⟨p + 1, by omega, by omega, by go_num, fun q j hq hj => by
            rcases Nat.lt_or_ge q p with g1 | g1
            · exact HN.out q j g1 hj
            · have : q = p := by omega
              rw [this]; exact HM.out j hj, rfl⟩
    · obtain rfl : p = A.P := by omega
      have hp' : ¬ (A.P : Int) < (A.P : Int) := by omega
      have HM := Lib.hid hno; clear hno ep
      go_wp2_with fail
      go_ret
      exact ⟨false, rfl, rfl, ⟨fun h => (by cases h), fun ⟨q, k, h1, h2, h3⟩ => absurd h3 (HM.out q k h1 h2)⟩⟩
def UwRel (xs : List Int) (id : Int) (gk : Nat) (idx : Value) (w0 w : World) : Prop := ∃ i, gk + i = xs.length + 1 ∧ i ≤ xs.length ∧ idx = .int .i64 (i : Nat) ∧ id ∉ xs.take i ∧ w = w0
set_option maxHeartbeats 1600000 in
set_option maxRecDepth 100000 in
theorem unswept_ok (B : HpB A) (id : Nat) : Calls Tryz.prog 57 #[.pointer (some ⟨H.gh, 0, none⟩), .int .i64 (id : Nat)] w (NwPost (.bool (decide (id ∈ waN A.r 16))) w) := by
  have b1 : w.cell? ⟨H.gh, 1, none⟩ = some (.pointer (some ⟨H.gc, 0, none⟩)) := Q.hb.cellv 1 rfl
  have HQ := Lib.hid (And.intro Q B); clear Q B
  go_enter Tryz.func57, Tryz.ntmps57
  go_wp2_with fail
  refine (cwaiting_ok w H.gc H.gl H.v A.r HQ.out.1.C HQ.out.2.l HQ.out.2.x).mono ?_
  rintro e w1 ⟨v1, rfl, O, c1, f1⟩
  obtain ⟨xs, hxs⟩ : ∃ xs, xs = intsN (waN A.r 16) := ⟨_, rfl⟩
  rw [← hxs] at O
  obtain ⟨A1, k1, rfl⟩ := O.slice
  have hmem : ((id : Nat) : Int) ∈ xs ↔ id ∈ waN A.r 16 := by
    rw [hxs]; unfold intsN; rw [List.mem_map]
    constructor
    · rintro ⟨y, hy, e⟩; have : y = id := by omega
      rw [← this]; exact hy
    · intro h; exact ⟨id, h, rfl⟩
  have hln : xs.length ≤ 1000000 := by
    have := unsN_le HQ.out.2.l 16
    rw [hxs]; unfold intsN; rw [List.length_map, waN_len]; omega
  have HO := Lib.hid (And.intro O (And.intro c1 hmem)); clear O c1 f1 hmem hxs b1
  go_wp2_with fail
  go_loopg [13] (xs.length + 1) (fun gk idx wr => UwRel xs (id : Nat) gk idx w1 wr)
  case atStart => exact ⟨0, by omega, by omega, rfl, by simp, rfl⟩
  case round =>
    obtain ⟨i, hgk, hi, rfl, hno, hw⟩ := hrel
    subst hw
    by_cases e : i < xs.length
    · obtain ⟨y, hy⟩ : ∃ y, xs[i]? = some y := ⟨_, List.getElem?_eq_getElem e⟩
      obtain ⟨g, rfl, c2, -⟩ := HO.out.1.cell hy
      have hi' : (i : Int) < (xs.length : Int) := by omega
      have hi0 : (0 : Int) ≤ (i : Int) := by omega
      have HT := Lib.hid (And.intro hno hy); clear hno hy
      by_cases ey : y = (id : Nat)
      · have hq : (y == ((id : Nat) : Int)) = true := by rw [beq_iff_eq]; exact ey
        have HE := Lib.hid ey; clear ey
        go_wp2_with fail
        go_ret
        exact ⟨by rw [decide_eq_true (HO.out.2.2.1 (HE.out ▸ List.mem_of_getElem? HT.out.2))]; rfl, HO.out.2.1⟩
      · have hq : (y == ((id : Nat) : Int)) = false := by rw [beq_eq_false_iff_ne]; exact ey
        have HE := Lib.hid ey; clear ey
        go_wp2_with fail
        go_roundg (xs.length - i)
        case measure => omega
        case rel => exact ⟨i + 1, by omega, by omega, by go_num, by
          rw [take_succ_get HT.out.2, List.mem_append]
          rintro (h | h)
          · exact HT.out.1 h
          · exact HE.out (by simpa using h : ((id : Nat) : Int) = y).symm, rfl⟩
    · obtain rfl : i = xs.length := by omega
      rw [List.take_length] at hno
      have hi' : ¬ (xs.length : Int) < (xs.length : Int) := by omega
      have HM := Lib.hid hno; clear hno e
      go_wp2_with fail
      go_ret
      exact ⟨by rw [decide_eq_false (fun h => HM.out (HO.out.2.2.2 h))]; rfl, HO.out.2.1⟩
end
end Go.Proofs.YtmafiagakoglkaaGreatDoor
