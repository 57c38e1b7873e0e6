/- The document's span (treadmillref5): how it lies in memory; Full, Live, Set, Alloc. -/
/- The document's span (treadmillref5): Sweep, Addr, NewSpan. -/
/- Lists of values of one cell that the call owns (pointers, slices): append of a list that is read. Plain theorems on worlds; no program in sight. -/
import Derived.Test.YtcnchgbngcnijaaGreatDoorMPd
import Derived.Test.YtcnchgbngcnijaaGreatDoorMAs
import Derived.Test.YtcnchgbngcnijaaGreatDoorMAq
import Derived.Test.YtcnchgbngcnijaaGreatDoorMZ
namespace Go.Proofs.YtcnchgbngcnijaaGreatDoor
open Go.RowKit Go.Maps

structure RsB where
  g : Nat
  u : Nat
  m : Nat
def RsB.l (b : RsB) : List Nat := [b.g, b.u, b.m]
def bls (n : Nat) (F : Nat → Bool) : Array Value := ((List.range n).map fun i => Value.bool (F i)).toArray
theorem bls_ext {n : Nat} {F G : Nat → Bool} (h : ∀ i, i < n → F i = G i) : bls n F = bls n G := by
  unfold bls
  congr 1
  exact List.map_congr_left fun i hi => by rw [h i (List.mem_range.1 hi)]
/-- r: from where places are sought. -/
structure IsRs (w : World) (b : RsB) (s : Sp) (r : Nat) : Prop where
  hb : Blk w b.g 96 #[.int .i64 s.first, .int .i64 s.k, .slice (some ⟨b.u, 0, none⟩) (slK s.k) (slK s.k), .slice (some ⟨b.m, 0, none⟩) (slK s.k) (slK s.k), .int .i64 r]
  hu : Blk w b.u 4 (bls (slK s.k) s.F)
  hm : Blk w b.m 4 (bls (slK s.k) s.M)
  hk : s.k < 16
  f1 : 1 ≤ s.first
  f2 : s.first ≤ 262144
  hr : r = s.fr ∨ (fullS s ∧ r = slK s.k)
  rl : r ≤ slK s.k
  ne : b.u ≠ b.m
section
variable {w w' : World} {b : RsB} {s : Sp} {r : Nat}
theorem IsRs.chg {S : List Nat} (h : IsRs w b s r) (c : Chg S w w') (hn : ∀ k ∈ b.l, k ∉ S) : IsRs w' b s r :=
  ⟨c.blk h.hb (hn _ (by simp [RsB.l])), c.blk h.hu (hn _ (by simp [RsB.l])), c.blk h.hm (hn _ (by simp [RsB.l])), h.hk, h.f1, h.f2, h.hr, h.rl, h.ne⟩
theorem IsRs.chg0 (h : IsRs w b s r) (c : Chg [] w w') : IsRs w' b s r := h.chg c (by simp)
theorem IsRs.lt (h : IsRs w b s r) : ∀ k ∈ b.l, k < w.heap.size := fun k hk => by
  simp only [RsB.l, List.mem_cons, List.not_mem_nil, or_false] at hk
  rcases hk with rfl | rfl | rfl
  · exact h.hb.lt
  · exact h.hu.lt
  · exact h.hm.lt
theorem IsRs.gu (h : IsRs w b s r) : b.g ≠ b.u := h.hb.ne_ h.hu (by decide)
theorem IsRs.gm (h : IsRs w b s r) : b.g ≠ b.m := h.hb.ne_ h.hm (by decide)
theorem IsRs.sl (h : IsRs w b s r) : slK s.k ≤ 64 := (kF h.hk).2.2.2.2.2.2.2.2
end
def RsfPost (s : Sp) (w : World) (e : Ending) (w' : World) : Prop := ∃ bo, e = .returned (.bool bo) ∧ w' = w ∧ (bo = true ↔ fullS s)
def RfuRel (w0 : World) (s : Sp) (r gk : Nat) (idx : Value) (w : World) : Prop := ∃ i, gk + i = slK s.k + 1 ∧ r ≤ i ∧ i ≤ slK s.k ∧ idx = .int .i64 (i : Nat) ∧ (∀ x, r ≤ x → x < i → s.F x = true) ∧ w = w0
set_option maxHeartbeats 1600000 in
set_option maxRecDepth 100000 in
theorem rsfull_ok (w : World) (b : RsB) (s : Sp) (r : Nat) (I : IsRs w b s r) : Calls Tryz.prog 112 #[.pointer (some ⟨b.g, 0, none⟩)] w (RsfPost s w) := by
  have b2 : w.cell? ⟨b.g, 2, none⟩ = some (.slice (some ⟨b.u, 0, none⟩) (slK s.k) (slK s.k)) := I.hb.cellv 2 rfl
  have b4 : w.cell? ⟨b.g, 4, none⟩ = some (.int .i64 r) := I.hb.cellv 4 rfl
  have hsl := I.sl
  have hrl := I.rl
  obtain ⟨n, hn⟩ : ∃ n, n = slK s.k := ⟨_, rfl⟩
  have HI := Lib.hid (And.intro I hn)
  rw [← hn] at b2 hsl hrl
  clear I hn
  go_enter Tryz.func112, Tryz.ntmps112
  go_wp2_with fail
  go_loopg [3] (n + 1 - r) (fun gk idx wr => RfuRel w s r gk idx wr)
  case atStart => exact ⟨r, by have := HI.out.2; omega, Nat.le_refl _, by rw [← HI.out.2]; exact hrl, rfl, fun x h1 h2 => by omega, rfl⟩
  case round =>
    obtain ⟨i, hgk, hri, hi, rfl, hF, rfl⟩ := hrel
    rw [← HI.out.2] at hgk hi
    by_cases ei : i < n
    · have hi' : (i : Int) < (n : Int) := by omega
      have hi0 : (0 : Int) ≤ (i : Int) := by omega
      have hc : wr.cell? ⟨b.u, i, none⟩ = some (.bool (s.F i)) := bools_at HI.out.1.hu (by rw [← HI.out.2]; exact ei)
      have HF := Lib.hid hF; clear hF
      cases hFi : s.F i with
      | false =>
        rw [hFi] at hc
        have HG := Lib.hid hFi; clear hFi
        go_wp2_with fail
        go_ret
        refine ⟨false, rfl, rfl, ⟨fun h => (by cases h), fun h => ?_⟩⟩
        exfalso
        rcases HI.out.1.hr with h1 | ⟨-, h1⟩
        · have := h i (by omega) (by rw [← HI.out.2]; exact ei)
          rw [HG.out] at this; cases this
        · rw [← HI.out.2] at h1; omega
      | true =>
        rw [hFi] at hc
        have HG := Lib.hid hFi; clear hFi
        go_wp2_with fail
        go_roundg (n - i)
        case measure => omega
        case rel => exact ⟨i + 1, by have := HI.out.2; omega, by omega, by have := HI.out.2; omega, by go_num, fun x h1 h2 => by
          by_cases e : x = i
          · rw [e]; exact HG.out
          · exact HF.out x h1 (by omega), rfl⟩
    · obtain rfl : i = n := by omega
      have hi' : ¬ (i : Int) < (i : Int) := by omega
      have HF := Lib.hid hF; clear hF
      go_wp2_with fail
      go_ret
      refine ⟨true, rfl, rfl, ⟨fun _ => ?_, fun _ => rfl⟩⟩
      rcases HI.out.1.hr with h1 | ⟨h1, -⟩
      · intro x h2 h3
        exact HF.out x (by omega) (by rw [HI.out.2]; exact h3)
      · exact h1
def RlvRel (w0 : World) (s : Sp) (gk : Nat) (cnt idx : Value) (w : World) : Prop := ∃ i, gk + i = slK s.k + 1 ∧ i ≤ slK s.k ∧ idx = .int .i64 (i : Nat) ∧ cnt = .int .i64 (cntF s.F i : Nat) ∧ w = w0
set_option maxHeartbeats 1600000 in
set_option maxRecDepth 100000 in
theorem rslive_ok (w : World) (b : RsB) (s : Sp) (r : Nat) (I : IsRs w b s r) : Calls Tryz.prog 69 #[.pointer (some ⟨b.g, 0, none⟩)] w (QuPost (.int .i64 (cntF s.F (slK s.k) : Nat)) w) := by
  have b2 : w.cell? ⟨b.g, 2, none⟩ = some (.slice (some ⟨b.u, 0, none⟩) (slK s.k) (slK s.k)) := I.hb.cellv 2 rfl
  have hsl := I.sl
  obtain ⟨n, hn⟩ : ∃ n, n = slK s.k := ⟨_, rfl⟩
  have HI := Lib.hid (And.intro I hn)
  rw [← hn] at b2 hsl
  clear I hn
  go_enter Tryz.func69, Tryz.ntmps69
  go_wp2_with fail
  go_loopg [3, 4] (n + 1) (fun gk cnt idx wr => RlvRel w s gk cnt idx wr)
  case atStart => exact ⟨0, by have := HI.out.2; omega, by omega, rfl, rfl, rfl⟩
  case round =>
    obtain ⟨i, hgk, hi, rfl, rfl, rfl⟩ := hrel
    rw [← HI.out.2] at hgk hi
    have hcl := cntF_le s.F i
    by_cases ei : i < n
    · have hi' : (i : Int) < (n : Int) := by omega
      have hi0 : (0 : Int) ≤ (i : Int) := by omega
      have hc : wr.cell? ⟨b.u, i, none⟩ = some (.bool (s.F i)) := bools_at HI.out.1.hu (by rw [← HI.out.2]; exact ei)
      obtain ⟨ct, hct⟩ : ∃ ct, ct = cntF s.F i := ⟨_, rfl⟩
      rw [← hct] at hcl ⊢
      have HCT := Lib.hid hct; clear hct
      cases hFi : s.F i with
      | false =>
        rw [hFi] at hc
        have HG := Lib.hid hFi; clear hFi
        go_wp2_with fail
        go_roundg (n - i)
        case measure => omega
        case rel => exact ⟨i + 1, by have := HI.out.2; omega, by have := HI.out.2; omega, by go_num, by rw [cntF, HG.out, HCT.out]; first | rfl | simp, rfl⟩
      | true =>
        rw [hFi] at hc
        have HG := Lib.hid hFi; clear hFi
        go_wp2_with fail
        go_roundg (n - i)
        case measure => omega
        case rel => exact ⟨i + 1, by have := HI.out.2; omega, by have := HI.out.2; omega, by go_num, by rw [cntF, HG.out, ← HCT.out, if_pos rfl]; rfl, rfl⟩
    · obtain rfl : i = n := by omega
      have hi' : ¬ (i : Int) < (i : Int) := by omega
      go_wp2_with fail
      go_ret
      exact ⟨by rw [← HI.out.2]; rfl, rfl⟩
/-! Set, Alloc -/
theorem bls_set {w : World} {A n i : Nat} {F : Nat → Bool} (h : Blk w A 4 (bls n F)) (hi : i < n) (b : Bool) {G : Nat → Bool} (hG : ∀ j, (if j = i then b else F j) = G j) : Blk (w.setCell ⟨A, i, none⟩ (.bool b)) A 4 (bls n G) := by
  have h1 := bools_set h hi b
  have h2 : bls n G = ((List.range n).map fun j => Value.bool (if j = i then b else F j)).toArray := bls_ext fun j _ => (hG j).symm
  rw [h2]; exact h1
set_option maxHeartbeats 1600000 in
set_option maxRecDepth 100000 in
theorem rsset_ok (w : World) (b : RsB) (s : Sp) (r i : Nat) (I : IsRs w b s r) (hi : i < slK s.k) (hF : s.F i = true) : Calls Tryz.prog 109 #[.pointer (some ⟨b.g, 0, none⟩), .int .i64 (i : Nat)] w fun e w' => e = .returned (.bool (!(s.M i))) ∧ IsRs w' b (markS s i) r ∧ Chg [b.m] w w' := by
  have b2 : w.cell? ⟨b.g, 2, none⟩ = some (.slice (some ⟨b.u, 0, none⟩) (slK s.k) (slK s.k)) := I.hb.cellv 2 rfl
  have b3 : w.cell? ⟨b.g, 3, none⟩ = some (.slice (some ⟨b.m, 0, none⟩) (slK s.k) (slK s.k)) := I.hb.cellv 3 rfl
  have cu : w.cell? ⟨b.u, i, none⟩ = some (.bool (s.F i)) := bools_at I.hu hi
  have cm : w.cell? ⟨b.m, i, none⟩ = some (.bool (s.M i)) := bools_at I.hm hi
  have fm := I.hm.frozen i
  rw [hF] at cu
  have hsl := I.sl
  have mk : ∀ {w'}, Blk w' b.g 96 #[.int .i64 s.first, .int .i64 s.k, .slice (some ⟨b.u, 0, none⟩) (slK s.k) (slK s.k), .slice (some ⟨b.m, 0, none⟩) (slK s.k) (slK s.k), .int .i64 r] → Blk w' b.u 4 (bls (slK s.k) s.F) → Blk w' b.m 4 (bls (slK s.k) (setF s.M i)) → IsRs w' b (markS s i) r := fun h1 h2 h3 => ⟨h1, h2, h3, I.hk, I.f1, I.f2, I.hr, I.rl, I.ne⟩
  have MK := Lib.hid (And.intro @mk I); clear mk I
  obtain ⟨n, hn⟩ : ∃ n, n = slK s.k := ⟨_, rfl⟩
  have HN := Lib.hid hn
  rw [← hn] at b2 b3 hi hsl
  clear hn
  have hi1 : (i : Int) < (n : Int) := by omega
  have hi2 : ¬ (n : Int) ≤ (i : Int) := by omega
  have hi0 : (0 : Int) ≤ (i : Int) := by omega
  have hi3 : ¬ (i : Int) < 0 := by omega
  have hnu := MK.out.2.ne
  have hgm := MK.out.2.gm
  cases hM : s.M i with
  | true =>
    rw [hM] at cm
    have HM := Lib.hid hM; clear hM
    go_enter Tryz.func109, Tryz.ntmps109
    go_wp2_with fail
    go_ret
    refine ⟨by rfl, MK.out.1 MK.out.2.hb MK.out.2.hu ?_, Chg.refl _ _⟩
    have e : bls (slK s.k) (setF s.M i) = bls (slK s.k) s.M := bls_ext fun j _ => by
      unfold setF
      split
      · next h => rw [h, HM.out]
      · rfl
    rw [e]; exact MK.out.2.hm
  | false =>
    rw [hM] at cm
    go_enter Tryz.func109, Tryz.ntmps109
    go_wp2_with fail
    go_ret
    refine ⟨by rfl, MK.out.1 (MK.out.2.hb.far hgm _) (MK.out.2.hu.far hnu _) (bls_set MK.out.2.hm (by rw [← HN.out]; exact hi) true fun j => rfl), (Chg.refl _ w).setCell (.inl (by simp)) _⟩
def RsaPost (b : RsB) (s : Sp) (black : Bool) (w : World) (e : Ending) (w' : World) : Prop :=
  (fullS s ∧ e = .returned (.tuple #[.int .i64 0, .bool false]) ∧ IsRs w' b s (slK s.k) ∧ Chg b.l w w') ∨
  ∃ y, s.fr ≤ y ∧ y < slK s.k ∧ s.F y = false ∧ (∀ x, s.fr ≤ x → x < y → s.F x = true) ∧ e = .returned (.tuple #[.int .i64 (y : Nat), .bool true]) ∧ IsRs w' b (allocS s y black) y ∧ Chg b.l w w'
set_option maxHeartbeats 3200000 in
set_option maxRecDepth 100000 in
theorem rsalloc_ok (w : World) (b : RsB) (s : Sp) (r : Nat) (black : Bool) (I : IsRs w b s r) (hmf : ∀ i, s.M i = true → s.F i = true) : Calls Tryz.prog 107 #[.pointer (some ⟨b.g, 0, none⟩), .bool black] w (RsaPost b s black w) := by
  have b2 : w.cell? ⟨b.g, 2, none⟩ = some (.slice (some ⟨b.u, 0, none⟩) (slK s.k) (slK s.k)) := I.hb.cellv 2 rfl
  have b3 : w.cell? ⟨b.g, 3, none⟩ = some (.slice (some ⟨b.m, 0, none⟩) (slK s.k) (slK s.k)) := I.hb.cellv 3 rfl
  have b4 : w.cell? ⟨b.g, 4, none⟩ = some (.int .i64 r) := I.hb.cellv 4 rfl
  have f4 := I.hb.frozen 4
  have hsl := I.sl
  have hrl := I.rl
  have hgu := I.gu
  have hgm := I.gm
  have hum := I.ne
  obtain ⟨n, hn⟩ : ∃ n, n = slK s.k := ⟨_, rfl⟩
  have HI := Lib.hid (And.intro I (And.intro hn hmf))
  rw [← hn] at b2 b3 hsl hrl
  clear I hn hmf
  go_enter Tryz.func107, Tryz.ntmps107
  go_wp2_with fail
  go_loopg [6] (n + 1 - r) (fun gk idx wr => RfuRel w s r gk idx wr)
  case atStart => exact ⟨r, by have := HI.out.2.1; omega, Nat.le_refl _, by have := HI.out.2.1; omega, rfl, fun x h1 h2 => by omega, rfl⟩
  case round =>
    obtain ⟨i, hgk, hri, hi, rfl, hF, rfl⟩ := hrel
    rw [← HI.out.2.1] at hgk hi
    by_cases ei : i < n
    · have hi' : (i : Int) < (n : Int) := by omega
      have hi0 : (0 : Int) ≤ (i : Int) := by omega
      have hin : i < slK s.k := by have := HI.out.2.1; omega
      have hc : wr.cell? ⟨b.u, i, none⟩ = some (.bool (s.F i)) := bools_at HI.out.1.hu hin
      have cm : wr.cell? ⟨b.m, i, none⟩ = some (.bool (s.M i)) := bools_at HI.out.1.hm hin
      have fu := HI.out.1.hu.frozen i
      have fm := HI.out.1.hm.frozen i
      have HF := Lib.hid (And.intro hF hin); clear hF hin
      cases hFi : s.F i with
      | false =>
        rw [hFi] at hc
        have HG := Lib.hid hFi; clear hFi
        have hM : s.M i = false := by
          cases h : s.M i with
          | false => rfl
          | true => rw [HI.out.2.2 i h] at HG; exact absurd HG.out (by decide)
        have HM := Lib.hid hM; clear hM
        go_upto_region 7 with fail
        obtain ⟨w4, hw4⟩ : ∃ w4, w4 = (wr.setCell ⟨b.u, i, none⟩ (.bool true)).setCell ⟨b.m, i, none⟩ (.bool black) := ⟨_, rfl⟩
        have B4 : Blk w4 b.g 96 #[.int .i64 s.first, .int .i64 s.k, .slice (some ⟨b.u, 0, none⟩) (slK s.k) (slK s.k), .slice (some ⟨b.m, 0, none⟩) (slK s.k) (slK s.k), .int .i64 r] := by
          rw [hw4]; exact (HI.out.1.hb.far hgu _).far hgm _
        have C4 : Chg b.l wr w4 := by rw [hw4]; exact ((Chg.refl _ wr).setCell (.inl (by simp [RsB.l])) _).setCell (.inl (by simp [RsB.l])) _
        have K : IsRs (w4.setCell ⟨b.g, 4, none⟩ (.int .i64 (i : Nat))) b (allocS s i black) i ∧ Chg b.l wr (w4.setCell ⟨b.g, 4, none⟩ (.int .i64 (i : Nat))) := by
          refine ⟨⟨B4.set_ 4 _, ?_, ?_, HI.out.1.hk, HI.out.1.f1, HI.out.1.f2, .inl rfl, Nat.le_of_lt HF.out.2, HI.out.1.ne⟩, C4.setCell (.inl (by simp [RsB.l])) _⟩
          · rw [hw4]; exact ((bls_set HI.out.1.hu HF.out.2 true fun j => rfl).far hum _).far (Ne.symm hgu) _
          · rw [hw4]
            refine (bls_set (HI.out.1.hm.far (Ne.symm hum) _) HF.out.2 black fun j => ?_).far (Ne.symm hgm) _
            show _ = (if black then setF s.M i else s.M) j
            cases black with
            | true => rfl
            | false =>
              show (if j = i then false else s.M j) = s.M j
              split
              · next h => rw [h, HM.out]
              · rfl
        have HK := Lib.hid K; clear K C4
        rw [← hw4]
        clear hw4 fu fm f4 b2 b3 b4 hc cm
        have x4 : w4.cell? ⟨b.g, 4, none⟩ = some (.int .i64 r) := B4.cellv 4 rfl
        have y4 := B4.frozen 4
        clear B4
        go_wp2_with fail
        try rw [Exit.noGoto_ret]
        go_ret2
        refine .inr ⟨i, ?_, HF.out.2, HG.out, fun x h1 h2 => ?_, rfl, HK.out.1, HK.out.2⟩
        · rcases HI.out.1.hr with h | ⟨-, h⟩
          · omega
          · have := HF.out.2; omega
        · rcases HI.out.1.hr with h | ⟨-, h⟩
          · exact HF.out.1 x (by omega) h2
          · have := HF.out.2; omega
      | true =>
        rw [hFi] at hc
        have HG := Lib.hid hFi; clear hFi
        go_wp2_with fail
        go_roundg (n - i)
        case measure => omega
        case rel => exact ⟨i + 1, by have := HI.out.2.1; omega, by omega, by have := HI.out.2.1; omega, by go_num, fun x h1 h2 => by
          by_cases e : x = i
          · rw [e]; exact HG.out
          · exact HF.out.1 x h1 (by omega), rfl⟩
    · obtain rfl : i = n := by omega
      have hi' : ¬ (i : Int) < (i : Int) := by omega
      have HF := Lib.hid hF; clear hF
      have hfull : fullS s := by
        rcases HI.out.1.hr with h1 | ⟨h1, -⟩
        · intro x h2 h3
          exact HF.out x (by omega) (by rw [HI.out.2.1]; exact h3)
        · exact h1
      have K : IsRs (wr.setCell ⟨b.g, 4, none⟩ (.int .i64 (i : Nat))) b s i ∧ Chg b.l wr (wr.setCell ⟨b.g, 4, none⟩ (.int .i64 (i : Nat))) :=
        ⟨⟨HI.out.1.hb.set_ 4 _, HI.out.1.hu.far (Ne.symm hgu) _, HI.out.1.hm.far (Ne.symm hgm) _, HI.out.1.hk, HI.out.1.f1, HI.out.1.f2, .inr ⟨hfull, HI.out.2.1⟩, by rw [HI.out.2.1]; exact Nat.le_refl _, HI.out.1.ne⟩, (Chg.refl _ wr).setCell (.inl (by simp [RsB.l])) _⟩
      have HK := Lib.hid (And.intro K hfull); clear K hfull
      go_wp2_with fail
      go_ret2
      exact .inl ⟨HK.out.2, rfl, by rw [← HI.out.2.1]; exact HK.out.1.1, HK.out.1.2⟩
end Go.Proofs.YtcnchgbngcnijaaGreatDoor
namespace Go.Proofs.YtcnchgbngcnijaaGreatDoor
open Go.RowKit Go.Maps

/-- What has been swept of the first i places. -/
def swU (s : Sp) (i : Nat) : Nat → Bool := fun j => if j < i then s.F j && s.M j else s.F j
def swM (s : Sp) (i : Nat) : Nat → Bool := fun j => if j < i then false else s.M j
def swO (s : Sp) (i : Nat) : List Nat := (List.range i).filter fun j => s.F j && !(s.M j)
theorem swO_all (s : Sp) : swO s (slK s.k) = sweptL s := by
  unfold swO sweptL allN
  rw [List.filter_filter]
  exact List.filter_congr fun j _ => by rw [Bool.and_comm]
theorem swO_succ (s : Sp) (i : Nat) : swO s (i + 1) = if (s.F i && !(s.M i)) = true then swO s i ++ [i] else swO s i := by
  unfold swO
  rw [List.range_succ, List.filter_append]
  cases h : (s.F i && !(s.M i)) <;> simp [h]
theorem swU_zero (s : Sp) : swU s 0 = s.F := by funext j; unfold swU; rw [if_neg (by omega)]
theorem swM_zero (s : Sp) : swM s 0 = s.M := by funext j; unfold swM; rw [if_neg (by omega)]
theorem swM_succ (s : Sp) (i j : Nat) : (if j = i then false else swM s i j) = swM s (i + 1) j := by
  unfold swM
  by_cases e : j = i
  · rw [if_pos e, if_pos (by omega)]
  · rw [if_neg e]
    by_cases h : j < i
    · rw [if_pos h, if_pos (by omega)]
    · rw [if_neg h, if_neg (by omega)]
theorem swU_succ {s : Sp} {i : Nat} (h : (s.F i && !(s.M i)) = true) (j : Nat) : (if j = i then false else swU s i j) = swU s (i + 1) j := by
  unfold swU
  by_cases e : j = i
  · rw [if_pos e, if_pos (by omega), e]
    cases h1 : s.F i <;> cases h2 : s.M i <;> simp [h1, h2] at h ⊢
  · rw [if_neg e]
    by_cases h : j < i
    · rw [if_pos h, if_pos (by omega)]
    · rw [if_neg h, if_neg (by omega)]
theorem swU_skip {s : Sp} {i : Nat} (h : (s.F i && !(s.M i)) = false) (j : Nat) : swU s i j = swU s (i + 1) j := by
  unfold swU
  by_cases e : j = i
  · rw [if_neg (by omega), if_pos (by omega), e]
    cases h1 : s.F i <;> cases h2 : s.M i <;> simp [h1, h2] at h ⊢
  · by_cases h : j < i
    · rw [if_pos h, if_pos (by omega)]
    · rw [if_neg h, if_neg (by omega)]
/-- What the loop keeps. -/
structure RswK (w0 : World) (b : RsB) (s : Sp) (r i : Nat) (v : Value) (w : World) : Prop where
  hb : Blk w b.g 96 #[.int .i64 s.first, .int .i64 s.k, .slice (some ⟨b.u, 0, none⟩) (slK s.k) (slK s.k), .slice (some ⟨b.m, 0, none⟩) (slK s.k) (slK s.k), .int .i64 r]
  hu : Blk w b.u 4 (bls (slK s.k) (swU s i))
  hm : Blk w b.m 4 (bls (slK s.k) (swM s i))
  o : OwnI 3 w v (intsN (swO s i))
  f : ∀ k ∈ fpv v, w0.heap.size ≤ k
  c : Chg b.l w0 w
def RswRel (w0 : World) (b : RsB) (s : Sp) (r gk : Nat) (v idx : Value) (w : World) : Prop := ∃ i, gk + i = slK s.k + 1 ∧ i ≤ slK s.k ∧ idx = .int .i64 (i : Nat) ∧ RswK w0 b s r i v w
def RswPost (b : RsB) (s : Sp) (w : World) (e : Ending) (w' : World) : Prop := ∃ v, e = .returned v ∧ OwnI 3 w' v (intsN (sweptL s)) ∧ (∀ k ∈ fpv v, w.heap.size ≤ k) ∧ IsRs w' b (sweptS s) 0 ∧ Chg b.l w w'
set_option maxHeartbeats 6400000 in
set_option maxRecDepth 100000 in
theorem rssweep_ok (w : World) (b : RsB) (s : Sp) (r : Nat) (I : IsRs w b s r) (hmf : ∀ i, s.M i = true → s.F i = true) : Calls Tryz.prog 111 #[.pointer (some ⟨b.g, 0, none⟩)] w (RswPost b s w) := by
  have hsl := I.sl
  have hgu := I.gu
  have hgm := I.gm
  have hum := I.ne
  have hlt : ∀ k ∈ b.l, k < w.heap.size := I.lt
  have K0 : RswK w b s r 0 (.slice none 0 0) w := ⟨I.hb, by rw [swU_zero]; exact I.hu, by rw [swM_zero]; exact I.hm, OwnI.nil _ _, fun k hk => by simp [fpv, Value.ownBlock] at hk, Chg.refl _ _⟩
  obtain ⟨n, hn⟩ : ∃ n, n = slK s.k := ⟨_, rfl⟩
  have HI := Lib.hid (And.intro I (And.intro hn (And.intro hmf (And.intro hlt K0))))
  rw [← hn] at hsl
  have b2 : w.cell? ⟨b.g, 2, none⟩ = some (.slice (some ⟨b.u, 0, none⟩) n n) := by rw [hn]; exact I.hb.cellv 2 rfl
  clear I hn hmf hlt K0
  go_enter Tryz.func111, Tryz.ntmps111
  go_wp2_with fail
  clear b2
  go_loopg [3, 4] (n + 1) (fun gk v idx wr => RswRel w b s r gk v idx wr)
  case atStart => exact ⟨0, by have := HI.out.2.1; omega, by omega, rfl, HI.out.2.2.2.2⟩
  case round =>
    obtain ⟨i, hgk, hi, rfl, K⟩ := hrel
    rw [← HI.out.2.1] at hgk hi
    have b2 : wr.cell? ⟨b.g, 2, none⟩ = some (.slice (some ⟨b.u, 0, none⟩) n n) := by rw [HI.out.2.1]; exact K.hb.cellv 2 rfl
    have b3 : wr.cell? ⟨b.g, 3, none⟩ = some (.slice (some ⟨b.m, 0, none⟩) n n) := by rw [HI.out.2.1]; exact K.hb.cellv 3 rfl
    obtain ⟨Av, cv, hv⟩ := K.o.slice
    have hlen : (intsN (swO s i)).length ≤ i := by unfold intsN swO; rw [List.length_map]; exact Nat.le_trans (List.length_filter_le _ _) (by rw [List.length_range]; exact Nat.le_refl _)
    subst hv
    by_cases ei : i < n
    · have hi' : (i : Int) < (n : Int) := by omega
      have hi0 : (0 : Int) ≤ (i : Int) := by omega
      have hin : i < slK s.k := by have := HI.out.2.1; omega
      have hc : wr.cell? ⟨b.u, i, none⟩ = some (.bool (s.F i)) := by
        have h := bools_at K.hu hin
        have e : swU s i i = s.F i := by unfold swU; rw [if_neg (by omega)]
        rw [e] at h; exact h
      have cm : wr.cell? ⟨b.m, i, none⟩ = some (.bool (s.M i)) := by
        have h := bools_at K.hm hin
        have e : swM s i i = s.M i := by unfold swM; rw [if_neg (by omega)]
        rw [e] at h; exact h
      have fu := K.hu.frozen i
      have fm := K.hm.frozen i
      have lu : b.u < wr.heap.size := K.hu.lt
      have lm : b.m < wr.heap.size := K.hm.lt
      have lg : b.g < wr.heap.size := K.hb.lt
      have HK := Lib.hid (And.intro K hin); clear K hin
      cases hp : (s.F i && !(s.M i)) with
      | true =>
        have hF : s.F i = true := by cases h : s.F i <;> simp [h] at hp ⊢
        have hM : s.M i = false := by cases h : s.M i <;> simp [h] at hp ⊢
        rw [hF] at hc
        rw [hM] at cm
        have HP := Lib.hid hp; clear hp hF hM
        go_upto_region 7 with fail
        obtain ⟨w4, hw4⟩ : ∃ w4, w4 = wr.setCell ⟨b.u, i, none⟩ (.bool false) := ⟨_, rfl⟩
        have bnf : ∀ j ∈ b.l, j ∉ fpv (.slice Av (intsN (swO s i)).length cv) := fun j hj hm => by
          have h1 := HK.out.1.f j hm
          have h2 := HI.out.2.2.2.1 j hj
          omega
        have B4 : Blk w4 b.g 96 #[.int .i64 s.first, .int .i64 s.k, .slice (some ⟨b.u, 0, none⟩) (slK s.k) (slK s.k), .slice (some ⟨b.m, 0, none⟩) (slK s.k) (slK s.k), .int .i64 r] := by rw [hw4]; exact HK.out.1.hb.far hgu _
        have U4 : Blk w4 b.u 4 (bls (slK s.k) (swU s (i + 1))) := by rw [hw4]; exact bls_set HK.out.1.hu HK.out.2 false (swU_succ HP.out)
        have M4 : Blk w4 b.m 4 (bls (slK s.k) (swM s i)) := by rw [hw4]; exact HK.out.1.hm.far (Ne.symm hum) _
        have c4 : Chg [b.u] wr w4 := by rw [hw4]; exact (Chg.refl _ wr).setCell (.inl (by simp)) _
        have O4 : OwnI 3 w4 (.slice Av (intsN (swO s i)).length cv) (intsN (swO s i)) := HK.out.1.o.chg c4 (fun k hk hm => bnf b.u (by simp [RsB.l]) (by have h3 : k = b.u := (by simpa using hm); rw [← h3]; exact hk))
        have C4 : Chg b.l w w4 := HK.out.1.c.trans (c4.mono (fun k hk => .inl (by have h3 : k = b.u := (by simpa using hk); rw [h3]; simp [RsB.l])))
        have H4 := Lib.hid (And.intro B4 (And.intro U4 (And.intro M4 (And.intro O4 (And.intro C4 bnf))))); clear B4 U4 M4 O4 C4 bnf c4
        rw [← hw4]
        clear hw4 fu fm hc cm b2 b3
        go_wp2_with (at_builtin; refine wpList_push_int (v := .slice Av (intsN (swO s i)).length cv) (xs := intsN (swO s i)) rfl _ _ rfl slty rfl H4.out.2.2.2.1 rfl (by omega) ?_; intro A9 c9 w9 O9 s9; have x3 : w9.cell? ⟨b.g, 3, none⟩ = some (.slice (some ⟨b.m, 0, none⟩) n n) := (by rw [HI.out.2.1]; exact (s9.c.blk H4.out.1 (H4.out.2.2.2.2.2 _ (by simp [RsB.l]))).cellv 3 rfl); have x4 : w9.cell? ⟨b.m, i, none⟩ = some (.bool (swM s i i)) := bools_at (s9.c.blk H4.out.2.2.1 (H4.out.2.2.2.2.2 _ (by simp [RsB.l]))) HK.out.2; have y4 := (s9.c.blk H4.out.2.2.1 (H4.out.2.2.2.2.2 _ (by simp [RsB.l]))).frozen i)
        have K9 : RswK w b s r (i + 1) (.slice A9 ((intsN (swO s i)).length + 1) c9) (w9.setCell ⟨b.m, i, none⟩ (.bool false)) := by
          have hbg := s9.c.blk H4.out.1 (H4.out.2.2.2.2.2 _ (by simp [RsB.l]))
          have hbu := s9.c.blk H4.out.2.1 (H4.out.2.2.2.2.2 _ (by simp [RsB.l]))
          have hbm := s9.c.blk H4.out.2.2.1 (H4.out.2.2.2.2.2 _ (by simp [RsB.l]))
          have hnew : ∀ k ∈ fpv (.slice A9 ((intsN (swO s i)).length + 1) c9), w.heap.size ≤ k := fun k hk => by
            rcases s9.f k hk with h1 | h1
            · exact HK.out.1.f k h1
            · exact Nat.le_trans H4.out.2.2.2.2.1.size h1
          have e : intsN (swO s (i + 1)) = intsN (swO s i) ++ [((i : Nat) : Int)] := by
            rw [swO_succ, if_pos HP.out]; unfold intsN; rw [List.map_append]; rfl
          refine ⟨hbg.far hgm _, hbu.far hum _, bls_set hbm HK.out.2 false (swM_succ s i), ?_, hnew, ?_⟩
          · rw [e]
            exact O9.chg (S := [b.m]) ((Chg.refl _ w9).setCell (.inl (by simp)) _) (fun k hk hm => by
              have h1 := hnew k hk
              have h2 := HI.out.2.2.2.1 b.m (by simp [RsB.l])
              have h3 : k = b.m := by simpa using hm
              omega)
          · exact (H4.out.2.2.2.2.1.then_ s9.c (fun k hk => .inr (HK.out.1.f k hk))).setCell (.inl (by simp [RsB.l])) _
        have H9 := Lib.hid K9; clear K9 O9 s9 x3 x4 y4 H4
        go_wp2_with fail
        go_roundg (n - i)
        case measure => omega
        case rel => exact ⟨i + 1, by have := HI.out.2.1; omega, by have := HI.out.2.1; omega, by go_num, H9.out⟩
      | false =>
        have HP := Lib.hid hp; clear hp
        have K2 : RswK w b s r (i + 1) (.slice Av (intsN (swO s i)).length cv) (wr.setCell ⟨b.m, i, none⟩ (.bool false)) := by
          have c : Chg b.l wr (wr.setCell ⟨b.m, i, none⟩ (.bool false)) := (Chg.refl _ wr).setCell (.inl (by simp [RsB.l])) _
          have e : swO s (i + 1) = swO s i := by rw [swO_succ, HP.out]; rfl
          refine ⟨HK.out.1.hb.far hgm _, ?_, bls_set HK.out.1.hm HK.out.2 false (swM_succ s i), ?_, HK.out.1.f, HK.out.1.c.trans c⟩
          · have h := HK.out.1.hu.far hum (p := ⟨b.m, i, none⟩) (.bool false)
            rw [bls_ext (fun j _ => swU_skip HP.out j)] at h
            exact h
          · rw [e]
            exact HK.out.1.o.chg (S := [b.m]) ((Chg.refl _ wr).setCell (.inl (by simp)) _) (fun k hk hm => by
              have h1 := HK.out.1.f k hk
              have h2 := HI.out.2.2.2.1 b.m (by simp [RsB.l])
              have h3 : k = b.m := by simpa using hm
              omega)
        have H2 := Lib.hid K2; clear K2
        cases hF : s.F i with
        | false =>
          rw [hF] at hc
          clear hF
          go_wp2_with fail
          go_roundg (n - i)
          case measure => omega
          case rel => exact ⟨i + 1, by have := HI.out.2.1; omega, by have := HI.out.2.1; omega, by go_num, H2.out⟩
        | true =>
          rw [hF] at hc
          have hM : s.M i = true := by
            have := HP.out
            rw [hF] at this
            cases h : s.M i <;> simp [h] at this ⊢
          rw [hM] at cm
          clear hF hM
          go_wp2_with fail
          go_roundg (n - i)
          case measure => omega
          case rel => exact ⟨i + 1, by have := HI.out.2.1; omega, by have := HI.out.2.1; omega, by go_num, H2.out⟩
    · obtain rfl : i = n := by omega
      have hi' : ¬ (i : Int) < (i : Int) := by omega
      have b4 : wr.cell? ⟨b.g, 4, none⟩ = some (.int .i64 r) := K.hb.cellv 4 rfl
      have f4 := K.hb.frozen 4
      have K2 : RswPost b s w (.returned (.slice Av (intsN (swO s i)).length cv)) (wr.setCell ⟨b.g, 4, none⟩ (.int .i64 0)) := by
        have c : Chg b.l wr (wr.setCell ⟨b.g, 4, none⟩ (.int .i64 0)) := (Chg.refl _ wr).setCell (.inl (by simp [RsB.l])) _
        have e : swO s i = sweptL s := by rw [HI.out.2.1]; exact swO_all s
        refine ⟨_, rfl, ?_, K.f, ⟨K.hb.set_ 4 _, ?_, ?_, HI.out.1.hk, HI.out.1.f1, HI.out.1.f2, .inl rfl, Nat.zero_le _, HI.out.1.ne⟩, K.c.trans c⟩
        · rw [← e]
          exact K.o.chg (S := [b.g]) ((Chg.refl _ wr).setCell (.inl (by simp)) _) (fun k hk hm => by
              have h1 := K.f k hk
              have h2 := HI.out.2.2.2.1 b.g (by simp [RsB.l])
              have h3 : k = b.g := by simpa using hm
              omega)
        · have h := K.hu.far (Ne.symm hgu) (p := ⟨b.g, 4, none⟩) (.int .i64 0)
          have e2 : bls (slK s.k) (swU s i) = bls (slK s.k) s.M := bls_ext fun j hj => by
            unfold swU
            rw [if_pos (by rw [HI.out.2.1]; exact hj)]
            cases h : s.M j with
            | false => simp
            | true => rw [HI.out.2.2.1 j h]; rfl
          rw [e2] at h; exact h
        · have h := K.hm.far (Ne.symm hgm) (p := ⟨b.g, 4, none⟩) (.int .i64 0)
          have e2 : bls (slK s.k) (swM s i) = bls (slK s.k) (fun _ => false) := bls_ext fun j hj => by
            unfold swM
            rw [if_pos (by rw [HI.out.2.1]; exact hj)]
          rw [e2] at h; exact h
      have H2 := Lib.hid K2; clear K2 K
      go_wp2_with fail
      go_ret
      exact H2.out
set_option maxHeartbeats 1600000 in
set_option maxRecDepth 100000 in
theorem rsaddr_ok (w : World) (b : RsB) (s : Sp) (r i : Nat) (I : IsRs w b s r) (hi : i < slK s.k) : Calls Tryz.prog 68 #[.pointer (some ⟨b.g, 0, none⟩), .int .i64 (i : Nat)] w (NwPost (.int .i64 (s.addr i : Nat)) w) := by
  have b0 : w.cell? ⟨b.g, 0, none⟩ = some (.int .i64 s.first) := I.hb.cellv 0 rfl
  have b1 : w.cell? ⟨b.g, 1, none⟩ = some (.int .i64 s.k) := I.hb.cellv 1 rfl
  have b2 : w.cell? ⟨b.g, 2, none⟩ = some (.slice (some ⟨b.u, 0, none⟩) (slK s.k) (slK s.k)) := I.hb.cellv 2 rfl
  have hg := I.hb.lt
  have hsl := I.sl
  have hk := I.hk
  have hf := I.f2
  obtain ⟨_, _, h3, h4, _, _, _, _, _⟩ := kF hk
  have hsz := fun (w' : World) => rsize_ok w' (s.k : Nat)
  rw [szI_nat hk] at hsz
  have hmul : i * szK s.k ≤ 64 * 256 := Nat.mul_le_mul (by omega) h4
  have ead : s.addr i = s.first * 64 + i * szK s.k := rfl
  obtain ⟨z, hz⟩ : ∃ z, z = szK s.k := ⟨_, rfl⟩
  rw [← hz] at hsz hmul ead
  obtain ⟨iz, hiz⟩ : ∃ iz, iz = i * z := ⟨_, rfl⟩
  have e1 : IntKind.i64.wrap ((i : Int) * (z : Int)) = (iz : Int) := by rw [← Int.natCast_mul, ← hiz, IntKind.wrap_i64]; omega
  have e2 : IntKind.i64.wrap ((s.first : Int) * 64) = (s.first : Int) * 64 := by rw [IntKind.wrap_i64]; omega
  have e3 : IntKind.i64.wrap ((s.first : Int) * 64 + (iz : Int)) = ((s.addr i : Nat) : Int) := by rw [ead, ← hiz, IntKind.wrap_i64]; omega
  have e4 : (i : Int) * (z : Int) = (iz : Int) := by rw [← Int.natCast_mul, ← hiz]
  have e5 : (s.first : Int) * 64 + (iz : Int) = ((s.addr i : Nat) : Int) := by rw [ead, ← hiz]; omega
  have HE := Lib.hid (And.intro e1 (And.intro e2 (And.intro e3 (And.intro e4 e5)))); clear ead hmul e3 e4 e5 hiz
  have HS := Lib.hid hsz; clear hsz hz h3 h4 I
  have hi1 : (i : Int) < (slK s.k : Int) := by omega
  have hi2 : ¬ ((slK s.k : Nat) : Int) ≤ (i : Int) := by omega
  have hi0 : (0 : Int) ≤ (i : Int) := by omega
  have hi3 : ¬ (i : Int) < 0 := by omega
  go_enter Tryz.func68, Tryz.ntmps68
  go_upto_region 3 with fail
  go_region_held3 (fun w' => w'.cell? ⟨b.g, 0, none⟩ = some (.int .i64 s.first) ∧ w'.cell? ⟨b.g, 1, none⟩ = some (.int .i64 s.k)) (go_keep)
    (first
      | (go_at_call 70; refine (HS.out _).mono ?_; rintro e w' ⟨rfl, cw⟩; have D : Chg [] w w' := Chg.trans (by repeat (first | assumption | exact Chg.refl [] w | refine Chg.drew ?_)) cw; have z0 : w'.cell? ⟨b.g, 0, none⟩ = some (.int .i64 s.first) := D.cellv hg (by simp) b0; have z1 : w'.cell? ⟨b.g, 1, none⟩ = some (.int .i64 s.k) := D.cellv hg (by simp) b1))
  rw [HE.out.2.2.1]
  have HD := Lib.hid D; clear D z0 z1 cw b0 b1 b2
  go_wp2_with fail
  go_ret
  exact ⟨rfl, HD.out⟩
def RsnPost (first q : Nat) (w : World) (e : Ending) (w' : World) : Prop := ∃ b : RsB, e = .returned (.pointer (some ⟨b.g, 0, none⟩)) ∧ IsRs w' b (spn first q) 0 ∧ Chg [] w w' ∧ ∀ j ∈ b.l, w.heap.size ≤ j
theorem bls_none (n : Nat) : zcells (.bool false) n = bls n (fun _ => false) := by
  rw [zcells_list]
  unfold bls
  congr 1
  apply List.ext_getElem?
  intro i
  by_cases h : i < n
  · simp [h]
  · simp [h]
theorem rsn_made (x : World) (first q u m : Nat) (hq : q < 16) (h1 : 1 ≤ first) (h2 : first ≤ 262144) (h : (u = x.heap.size ∧ m = x.heap.size + 1) ∨ (u = x.heap.size + 1 ∧ m = x.heap.size)) :
    IsRs (((x.alloc (.cells (zcells (.bool false) (slK q)) 4)).alloc (.cells (zcells (.bool false) (slK q)) 4)).alloc (.cells #[.int .i64 (first : Nat), .int .i64 (q : Nat), .slice (some ⟨u, 0, none⟩) (slK q) (slK q), .slice (some ⟨m, 0, none⟩) (slK q) (slK q), .int .i64 0] 96)) ⟨x.heap.size + 1 + 1, u, m⟩ (spn first q) 0 := by
  have B0 := ((Blk.new x 4 (zcells (.bool false) (slK q))).alloc (.cells (zcells (.bool false) (slK q)) 4)).alloc (.cells #[.int .i64 (first : Nat), .int .i64 (q : Nat), .slice (some ⟨u, 0, none⟩) (slK q) (slK q), .slice (some ⟨m, 0, none⟩) (slK q) (slK q), .int .i64 0] 96)
  have B1 := (Blk.new (x.alloc (.cells (zcells (.bool false) (slK q)) 4)) 4 (zcells (.bool false) (slK q))).alloc (.cells #[.int .i64 (first : Nat), .int .i64 (q : Nat), .slice (some ⟨u, 0, none⟩) (slK q) (slK q), .slice (some ⟨m, 0, none⟩) (slK q) (slK q), .int .i64 0] 96)
  have B2 := Blk.new ((x.alloc (.cells (zcells (.bool false) (slK q)) 4)).alloc (.cells (zcells (.bool false) (slK q)) 4)) 96 #[.int .i64 (first : Nat), .int .i64 (q : Nat), .slice (some ⟨u, 0, none⟩) (slK q) (slK q), .slice (some ⟨m, 0, none⟩) (slK q) (slK q), .int .i64 0]
  rw [World.size_alloc] at B1
  rw [World.size_alloc, World.size_alloc] at B2
  rw [bls_none] at B0 B1 B2 ⊢
  rcases h with ⟨rfl, rfl⟩ | ⟨rfl, rfl⟩
  · exact ⟨B2, B0, B1, hq, h1, h2, .inl rfl, Nat.zero_le _, by show x.heap.size ≠ x.heap.size + 1; omega⟩
  · exact ⟨B2, B1, B0, hq, h1, h2, .inl rfl, Nat.zero_le _, by show x.heap.size + 1 ≠ x.heap.size; omega⟩
set_option maxHeartbeats 1600000 in
set_option maxRecDepth 100000 in
theorem rsnew_ok (w : World) (first q : Nat) (hq : q < 16) (h1 : 1 ≤ first) (h2 : first ≤ 262144) : Calls Tryz.prog 102 #[.int .i64 (first : Nat), .int .i64 (q : Nat)] w (RsnPost first q w) := by
  obtain ⟨_, _, _, _, _, _, _, h5, h6⟩ := kF hq
  have hf1 : ¬ (first : Int) < 1 := by omega
  have hf2 : ¬ (262144 : Int) < (first : Int) := by omega
  have hmk := fun W => run_make_z (P := Tryz.prog) 94 4 (.bool false) 1 Tryz.underlying94 (by kernel_rfl) rfl .i64 .i64 (slK q) (by omega) (by omega) W
  have d1 : (((slK q : Nat) : Int) == 0) = false := by rw [beq_eq_false_iff_ne]; omega
  have d2 : ¬ ((slK q : Nat) : Int) = 0 := by omega
  go_enter Tryz.func102, Tryz.ntmps102
  go_wp2_with fail
  refine (rslots_ok w q hq).mono ?_
  rintro e w1 ⟨rfl, c1⟩
  have HC := Lib.hid c1; clear c1
  go_upto_region 4 with fail
  have hsz : w.heap.size ≤ w1.heap.size := HC.out.size
  have hfr : ∀ u m : Nat, ((u = w1.heap.size ∧ m = w1.heap.size + 1) ∨ (u = w1.heap.size + 1 ∧ m = w1.heap.size)) → ∀ j ∈ (⟨w1.heap.size + 1 + 1, u, m⟩ : RsB).l, w.heap.size ≤ j := fun u m h j hj => by
    simp only [RsB.l, List.mem_cons, List.not_mem_nil, or_false] at hj
    omega
  have HF := Lib.hid hfr; clear hfr
  go_region
  · go_wp2_with fail
    go_ret
    exact ⟨⟨w1.heap.size + 1 + 1, w1.heap.size, w1.heap.size + 1⟩, rfl, (rsn_made w1 first q _ _ hq h1 h2 (.inl ⟨rfl, rfl⟩)).chg0 (Chg.refl [] _).drew, (((HC.out.alloc _).alloc _).alloc _).drew, HF.out _ _ (.inl ⟨rfl, rfl⟩)⟩
  · go_wp2_with fail
    go_ret
    exact ⟨⟨w1.heap.size + 1 + 1, w1.heap.size + 1, w1.heap.size⟩, rfl, (rsn_made w1 first q _ _ hq h1 h2 (.inr ⟨rfl, rfl⟩)).chg0 (Chg.refl [] _).drew, (((HC.out.alloc _).alloc _).alloc _).drew, HF.out _ _ (.inr ⟨rfl, rfl⟩)⟩
end Go.Proofs.YtcnchgbngcnijaaGreatDoor
namespace Go.Proofs.YtcnchgbngcnijaaGreatDoor
open Go.RowKit Go.Maps

/-- What a slice type of the program is, its elements of one cell. -/
structure SlV (P : Program) (T E : TypeId) (z : Value) (by_ : Nat) : Prop where
  s : P.underlying T = some (.slice E)
  i : (P.info? E).map (fun i => (i.zero, i.size, i.bytes)) = some (some z, 1, by_)
  z1 : z.cells.size = 1
  b : by_ ≤ 64
structure OwnV (E : TypeId) (w : World) (v : Value) (xs : List Value) : Prop where
  o : w.ownsRow 0 E 1 v xs.length xs
/-- A list that is read, below the block B. -/
structure RdV (w : World) (B : Nat) (u : Value) (ys : List Value) : Prop where
  ex : ∃ A c, u = .slice A ys.length c
  at_ : ∀ A n c, u = .slice A n c → ∀ i y, ys[i]? = some y → ∃ b off, A = some ⟨b, off, none⟩ ∧ b < B ∧ w.cell? ⟨b, off + i, none⟩ = some y
  one : ∀ y ∈ ys, y.oneCell' = true
section
variable {P : Program} {T E : TypeId} {z : Value} {by_ : Nat} {w w' : World} {v u : Value} {xs ys : List Value} {B : Nat}
theorem OwnV.nil (E : TypeId) (w : World) : OwnV E w (.slice none 0 0) [] := ⟨World.ownsRow_nil _ _ _ _⟩
theorem OwnV.lt (h : OwnV E w v xs) {k : Nat} (hk : k ∈ fpv v) : k < w.heap.size := own_lt h.o (mem_fpv.1 hk)
theorem OwnV.chg {S : List Nat} (h : OwnV E w v xs) (c : Chg S w w') (hn : ∀ k ∈ fpv v, k ∉ S) : OwnV E w' v xs := ⟨own_chg h.o c fun k hk => hn k (mem_fpv.2 hk)⟩
theorem OwnV.chg0 (h : OwnV E w v xs) (c : Chg [] w w') : OwnV E w' v xs := h.chg c (by simp)
theorem OwnV.slice (h : OwnV E w v xs) : ∃ A c, v = .slice A xs.length c := by
  rcases h.o.2 with ⟨rfl, h0⟩ | ⟨g, cap, cur, rfl, _⟩
  · exact ⟨none, 0, by rw [h0]⟩
  · exact ⟨_, _, rfl⟩
theorem OwnV.cell {A : Option Addr} {n c i : Nat} {x : Value} (h : OwnV E w (.slice A n c) xs) (hx : xs[i]? = some x) : ∃ g, A = some ⟨g, 0, none⟩ ∧ w.cell? ⟨g, i, none⟩ = some x ∧ w.frozen? ⟨g, i, none⟩ = false ∧ n = xs.length ∧ n ≤ c ∧ g < w.heap.size := by
  rcases h.o.2 with ⟨_, h0⟩ | ⟨g, cap, cur, e, _, hh, hc, hm, hs, ht⟩
  · have : xs = [] := List.eq_nil_of_length_eq_zero h0
    subst this; simp at hx
  · injection e with e1 e2 e3
    refine ⟨g, e1, ?_, Blk.frozen (t := E) (cs := cur) hh i, e2, by omega, Blk.lt (t := E) (cs := cur) hh⟩
    rw [Blk.cell (t := E) (cs := cur) hh]
    have h1 : (cur.toList.take (xs.length * 1))[i]? = some x := by rw [ht]; exact hx
    rw [List.getElem?_take] at h1
    split at h1
    · simpa using h1
    · cases h1
theorem OwnV.capN {A : Option Addr} {n c : Nat} (h : OwnV E w (.slice A n c) xs) : xs.length ≤ c := by
  rcases h.o.2 with ⟨e, h0⟩ | ⟨g, cap, cur, e, _, _, hc, _⟩
  · injection e with _ _ e; omega
  · injection e with _ _ e; omega
theorem OwnV.empty (E : TypeId) (w : World) : OwnV E (w.alloc (.cells #[] E)) (.slice (some ⟨w.heap.size, 0, none⟩) 0 0) [] :=
  ⟨⟨rfl, .inr ⟨w.heap.size, 0, _, rfl, Nat.zero_le _, heap_alloc_new w _, Nat.le_refl _, by decide, rfl, rfl⟩⟩⟩
theorem RdV.chg {S : List Nat} (h : RdV w B u ys) (c : Chg S w w') (hB : B ≤ w.heap.size) (hS : ∀ k ∈ S, B ≤ k) : RdV w' B u ys := ⟨h.ex, fun A n cc e i y hy => by
  obtain ⟨b, off, h1, h2, h3⟩ := h.at_ A n cc e i y hy
  exact ⟨b, off, h1, h2, c.cellv (by omega) (fun hm => by have := hS b hm; omega) h3⟩, h.one⟩
theorem RdV.none_ (w : World) (B : Nat) (A : Option Addr) (c : Nat) : RdV w B (.slice A 0 c) [] := ⟨⟨A, c, rfl⟩, fun _ _ _ _ i x hx => by simp at hx, by simp⟩
theorem RdV.one_ {g : Nat} {x : Value} {t : TypeId} (h : Blk w g t #[x]) (hx : x.oneCell' = true) : RdV w w.heap.size (.slice (some ⟨g, 0, none⟩) 1 1) [x] :=
  ⟨⟨_, _, rfl⟩, (fun A n c e i y hy => by
    injection e with e1 e2 e3
    cases i with
    | zero =>
      have : x = y := by simpa using hy
      subst this
      exact ⟨g, 0, e1.symm, h.lt, h.cellv 0 rfl⟩
    | succ i => simp at hy), by simpa using hx⟩
theorem OwnV.take {A : Option Addr} {n c c' i : Nat} (h : OwnV E w (.slice A n c) xs) (h1 : ∀ y ∈ xs, y.oneCell' = true) (hi : i ≤ xs.length) : RdV w w.heap.size (.slice A i c') (xs.take i) :=
  ⟨⟨A, c', by rw [List.length_take, Nat.min_eq_left hi]⟩, (fun A' n' c'' e j y hy => by
    injection e with e1 e2 e3
    rw [List.getElem?_take] at hy
    split at hy
    · obtain ⟨g, h2, h3, -, -, -, h4⟩ := h.cell hy
      exact ⟨g, 0, e1.symm.trans h2, h4, by rw [Nat.zero_add]; exact h3⟩
    · cases hy), fun y hy => h1 y (List.mem_of_mem_take hy)⟩
theorem OwnV.drop {g n c c' i m : Nat} (h : OwnV E w (.slice (some ⟨g, 0, none⟩) n c) xs) (h1 : ∀ y ∈ xs, y.oneCell' = true) (hm : m = xs.length - i) : RdV w w.heap.size (.slice (some ⟨g, i, none⟩) m c') (xs.drop i) :=
  ⟨⟨some ⟨g, i, none⟩, c', by rw [List.length_drop, hm]⟩, fun A' n' c'' e j y hy => by
    injection e with e1 e2 e3
    rw [List.getElem?_drop] at hy
    obtain ⟨g', h2, h3, -, -, -, h4⟩ := h.cell hy
    injection h2 with h2
    injection h2 with h2
    subst h2
    exact ⟨g, i, e1.symm, h4, h3⟩, fun y hy => h1 y (List.mem_of_mem_drop hy)⟩
theorem run_cat_v (t : SlV P T E z by_) (ty : TypeId) (h : OwnV E w v xs) (hu : RdV w B u ys) (hl : xs.length + ys.length ≤ 1000000) :
    ∃ v' w', (Builtin.append_ #[T, T] ty #[v, u]).run P w = .ok v' w' ∧ OwnV E w' v' (xs ++ ys) ∧ Stp (fpv v) (fpv v') w w' := by
  obtain ⟨A, c, rfl⟩ := hu.ex
  have hA := hu.at_ _ _ _ rfl
  obtain ⟨i, hi, hz⟩ := Option.map_eq_some_iff.1 t.i
  simp only [Prod.mk.injEq] at hz
  obtain ⟨hz, hs, hb⟩ := hz
  have some_ : ∀ ad : Addr, A = some ad → ∃ v' w', (Builtin.append_ #[T, T] ty #[v, .slice (some ad) ys.length c]).run P w = .ok v' w' ∧ OwnV E w' v' (xs ++ ys) ∧ Stp (fpv v) (fpv v') w w' := by
    rintro ad rfl
    obtain ⟨v', w', hrun, h1, h2, h3, h4⟩ := run_append_own_at (P := P) w 0 T ty E i z 1 by_ t.s hi hz hs hb t.z1 (by decide) v xs.length xs h.o ad ys.length c ys (by simp)
      (fun j y hj => by
        obtain ⟨b, off, e1, _, hc⟩ := hA j y hj
        injection e1 with e1
        rw [e1, WideShapes.add_plain]; exact hc)
      hu.one (by unfold maxLen; omega) (by have := Nat.mul_le_mul hl t.b; omega) (Nat.zero_le _)
    refine ⟨v', w', hrun, ⟨by rw [List.length_append]; exact h1⟩, ⟨(Chg.refl (fpv v) w).grown h2 fun k hk => .inl (mem_fpv.2 hk), fun k hk => ?_⟩⟩
    rcases h4 with h4 | h4
    · rw [mem_fpv, h4] at hk; exact .inl (mem_fpv.2 hk)
    · rw [mem_fpv, h4] at hk
      injection hk with hk
      exact .inr (by omega)
  cases A with
  | some ad => exact some_ ad rfl
  | none =>
    have e : ys = [] := by
      cases ys with
      | nil => rfl
      | cons y ys =>
        obtain ⟨b, off, e1, _⟩ := hA 0 y rfl
        cases e1
    subst e
    refine ⟨v, w, ?_, by simpa using h, Stp.refl _ _⟩
    rcases h.o.2 with ⟨rfl, hx⟩ | ⟨g, cap, cur, rfl, _, hg, hc, _, _, _⟩
    · rcases (Src.ofNil (P := P) w (size := 1) t.s c).kind with ⟨e', hk⟩ | hk <;>
        simp [Builtin.append_, run_underlying t.s, sizeOf, typeInfo, hi, Builtin.lenOf, Builtin.firstCells]
    · have := run_append_room_src (P := P) w T T ty E i t.s hi g 0 xs.length cap (.slice none 0 c) 0 [] (hs ▸ Src.ofNil w t.s c) (by simpa using hc) (by simp) (by simp)
      rw [setCells_nil] at this
      exact this
theorem step_cat_v {ops : Array Oper} {o : Oper} {a : Act} {K : Act → World → Prop} {Q : Exit → Act → World → Prop} {E' : Prop} (n : Nat) (hn : xs.length + ys.length = n) (hgd : o.guard = none) (s x : Operand)
    (ho : o.op = .call { callee := .builtin .append, args := #[s, x], argTypes := #[T, T] }) (t : SlV P T E z by_) (hs : a.eval s = v) (h : OwnV E w v xs) (hx : a.eval x = u) (hu : RdV w B u ys) (hl : n ≤ 1000000)
    (hK : ∀ A' c' w', OwnV E w' (.slice A' n c') (xs ++ ys) → Stp (fpv v) (fpv (.slice A' n c')) w w' → K (a.put o.dst (.slice A' n c')) w') : if Region.wanted o (yielded ops a.tmps) = true then Oper.wp P o a w K Q else E' := by
  subst hn
  have hw : Region.wanted o (yielded ops a.tmps) = true := by simp [Region.wanted, hgd]
  rw [if_pos hw]
  obtain ⟨v', w', hr, h2, h3⟩ := run_cat_v t o.type h hu hl
  obtain ⟨A', c', e⟩ := h2.slice
  rw [List.length_append] at e
  subst e
  unfold Oper.wp execOp
  simp only [ho, resolve, invoke, builtin, Sem.run_bind, Sem.run_pure, Result.andThen_ok, List.map_toArray, List.map_cons, List.map_nil, hs, hx, hr]
  exact hK A' c' w' h2 h3
end
end Go.Proofs.YtcnchgbngcnijaaGreatDoor
