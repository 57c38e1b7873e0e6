/- Package treadmilllaw28: MachineNews. -/
import Derived.Test.YtcpljjacamibeaaGreatDoorVvAu8J
import Derived.Test.YtcpljjacamibeaaGreatDoorQh
import Derived.Test.YtcpljjacamibeaaGreatDoorQc
import Derived.Test.YtcpljjacamibeaaGreatDoorMe3J
namespace Go.Proofs.YtcpljjacamibeaaGreatDoor
set_option maxHeartbeats 16000000
set_option maxRecDepth 100000
open Go.RowKit Go.Maps
theorem decP_G {bs : List Nat} {G : Nat} {fs : List (List Ins)} (h : decP bs = .ok (G, fs)) : G ≤ 32 := by
  unfold decP at h
  cases h1 : rdN bs 0 1 16 with
  | error k => rw [h1] at h; cases h
  | ok F =>
    cases h2 : rdN bs 1 0 32 with
    | error k => rw [h1] at h; simp only [h2] at h; cases h
    | ok G' =>
      rw [h1] at h
      simp only [h2] at h
      have h3 := rdN_len h2
      cases h4 : funGo G' F bs F 2 [] with
      | error k => rw [h4] at h; cases h
      | ok x =>
        rw [h4] at h
        obtain ⟨fs', a⟩ := x
        simp only at h
        split at h
        · cases h
        · injection h with h; injection h with h _; omega
theorem new_vwOk {W : Bs} {w : World} {p : MAt} {G n P wo : Nat} {fs : List (List Ins)} {pct t g r part : Int} {on : Bool} (M : MM W w p (spawnA { mk0m G fs (wo : Nat) pct on part n P with gT := t, gG := g, gR := r } 0 0 0)) (hP : P ≤ 64) (hG : G ≤ 1000) (hN : p.N ≤ 1000000) (hb : p.b ≤ 1000000) :
    VwOk p (spawnA { mk0m G fs (wo : Nat) pct on part n P with gT := t, gG := g, gR := r } 0 0 0) := by
  refine ⟨hP, rfl, by show (1 : Nat) ≤ _; omega, fun q hq => ?_, by simp [spawnA, mk0m], by simp [spawnA, mk0m], fun x hx => ?_, ?_, fun j hj => ?_, fun x hx => ?_, wfI_0, wfI_0, wfI_0, fun x xs hx => ?_, hN, hb⟩
  · show RgOk (updV (fun _ => rg0) 0 (rgPut rg0 ((0 : Nat) : Int)) q)
    by_cases e : q = 0
    · subst e; rw [updV_same]; exact ⟨rfl, by decide, by decide⟩
    · rw [updV_other _ _ e]; exact ⟨rfl, by decide, by decide⟩
  · have hx : x ∈ List.replicate G (0 : Int) := hx
    rw [(List.mem_replicate.1 hx).2]; exact wfI_0
  · show (List.replicate G (0 : Int)).length ≤ 1000
    rw [List.length_replicate]; exact hG
  · have hj : j < 1 := hj
    have : j = 0 := by omega
    subst this
    refine ⟨wfI_0, fun i hi => ?_⟩
    show WfI (updV (fun _ => (0 : Int)) 0 0 i)
    unfold updV
    split <;> exact wfI_0
  · have hx : x ∈ [(1 : Int)] := hx
    rw [List.mem_singleton.1 hx]; exact ⟨by decide, by decide⟩
  · unfold obI at hx
    split at hx
    · cases hx
    · cases hx
theorem news_any (w : World) (ps wo : Int) (b1 b2 : Nat) (vb : Value) (bs : List Nat) (R : RdV w w.heap.size vb (u8s bs)) (hb : ∀ x ∈ bs, x < 256) : Calls Tryz.prog 5 #[.agg #[.int .i64 ps, .int .i64 wo, .float .f64 b1, .float .f64 b2], vb] w (NwPost (.bool true) w) := by
  obtain ⟨Ab, cb, hvb⟩ := R.ex
  rw [u8s_len] at hvb
  subst hvb
  have HR := Lib.hid (And.intro R hb); clear R hb
  go_enter Tryz.func5, Tryz.ntmps5
  go_upto_region 1 with fail
  obtain ⟨w1, hw1⟩ : ∃ y, y = w.alloc (.cells #[.int .i64 ps, .int .i64 wo, .float .f64 b1, .float .f64 b2] 24) := ⟨_, rfl⟩
  obtain ⟨gc, hgc⟩ : ∃ y, y = w.heap.size := ⟨_, rfl⟩
  rw [← hw1, ← hgc]
  have B1 : Blk w1 gc 24 #[.int .i64 ps, .int .i64 wo, .float .f64 b1, .float .f64 b2] := by rw [hw1, hgc]; exact Blk.new _ _ _
  have C1 : Chg [] w w1 := by rw [hw1]; exact (Chg.refl [] w).alloc _
  have hgn : w.heap.size ≤ gc := by omega
  have H1 := Lib.hid (And.intro B1 (And.intro C1 hgn)); clear B1 C1 hgn hw1 hgc
  by_cases h6 : 600 < bs.length
  · have e1 : decide ((bs.length : Int) > 600) = true := decide_eq_true (by omega)
    have e2 : (600 : Int) < (bs.length : Int) := by omega
    go_wp2_with fail
    refine (told28_yes w1).mono ?_
    rintro e w2 ⟨rfl, c2⟩
    have H2 := Lib.hid (H1.out.2.1.trans c2); clear c2
    go_wp2_with fail
    go_ret
    exact ⟨rfl, H2.out⟩
  have e1 : decide ((bs.length : Int) > 600) = false := decide_eq_false (by omega)
  have e2 : ¬ (600 : Int) < (bs.length : Int) := by omega
  have hl : bs.length ≤ 100000 := by omega
  have HL := Lib.hid hl; clear hl
  obtain ⟨wo', hwo'⟩ : ∃ y, y = if 65536 < wo ∧ wo ≤ 16777216 then (65536 : Int) else wo := ⟨_, rfl⟩
  have q1 : w1.cell? ⟨gc, 1, none⟩ = some (.int .i64 wo) := H1.out.1.cellv 1 rfl
  have z1 := H1.out.1.frozen 1
  go_upto_region 3 with fail
  obtain ⟨b26, hb26⟩ : ∃ b : Bool, b = decide (65536 < wo ∧ wo ≤ 16777216) := ⟨_, rfl⟩
  go_cut [26] from 19 to 25 (fun v26 wc => v26 = .bool b26 ∧ wc = w1)
  case first =>
    by_cases ha : 65536 < wo
    · have f1 : decide (wo > 65536) = true := decide_eq_true (by omega)
      obtain ⟨b2, hb2⟩ : ∃ b, b = decide (wo ≤ 16777216) := ⟨_, rfl⟩
      have e : b26 = b2 := by
        rw [hb26, hb2, Bool.eq_iff_iff, decide_eq_true_iff, decide_eq_true_iff]
        exact ⟨fun h => h.2, fun h => ⟨ha, h⟩⟩
      have f2 : decide (wo ≤ 16777216) = b2 := hb2.symm
      have HE := Lib.hid e; clear e hb26 hb2 hwo' ha
      go_wp2_with fail
      go_meet
      exact ⟨by rw [HE.out], rfl⟩
    · have f1 : decide (wo > 65536) = false := decide_eq_false (by omega)
      have e : b26 = false := by rw [hb26]; exact decide_eq_false (fun h => ha h.1)
      subst e
      clear hb26 hwo' ha
      go_wp2_with fail
      go_meet
      exact ⟨rfl, rfl⟩
  case rest =>
  obtain ⟨rfl, hcw⟩ := hcut
  subst hcw
  obtain ⟨w1, hw1⟩ : ∃ y, y = wc := ⟨_, rfl⟩
  subst hw1
  go_upto_if 26 with fail
  go_cut [] from 26 to 27 (fun wc => Blk wc gc 24 #[.int .i64 ps, .int .i64 wo', .float .f64 b1, .float .f64 b2] ∧ Chg [gc] w1 wc)
  case first =>
    cases hb3 : b26
    · have e : wo' = wo := by
        rw [hwo', if_neg]
        intro h
        rw [hb3] at hb26
        exact absurd (decide_eq_true h) (by rw [← hb26]; decide)
      have HE := Lib.hid e
      clear hwo' hb26 hb3 e
      go_wp2_with fail
      go_meet
      exact ⟨by rw [HE.out]; exact H1.out.1, Chg.refl _ _⟩
    · have e : wo' = 65536 := by
        rw [hwo', if_pos]
        rw [hb3] at hb26
        exact of_decide_eq_true hb26.symm
      have HE := Lib.hid e
      clear hwo' hb26 hb3 e
      go_wp2_with fail
      go_meet
      exact ⟨by rw [HE.out]; exact H1.out.1.setv 1 (.int .i64 65536) rfl, (Chg.refl [gc] _).setCell (p := ⟨gc, 1, none⟩) (.inl (by simp)) _⟩
  case rest =>
    obtain ⟨B3, c13⟩ := hcut
    have C3 : Chg [] w wc := H1.out.2.1.newS (T := [gc]) c13 (fun k hk => by rw [List.mem_singleton.1 hk]; exact H1.out.2.2)
    have R3 : RdV wc wc.heap.size (.slice Ab bs.length cb) (u8s bs) := (HR.out.1.chg C3 (Nat.le_refl _) (by simp)).mono C3.size
    have q0 : wc.cell? ⟨gc, 0, none⟩ = some (.int .i64 ps) := B3.cellv 0 rfl
    have q1 : wc.cell? ⟨gc, 1, none⟩ = some (.int .i64 wo') := B3.cellv 1 rfl
    have q2 : wc.cell? ⟨gc, 2, none⟩ = some (.float .f64 b1) := B3.cellv 2 rfl
    have q3 : wc.cell? ⟨gc, 3, none⟩ = some (.float .f64 b2) := B3.cellv 3 rfl
    have H3 := Lib.hid (And.intro B3 (And.intro C3 (And.intro R3 hwo'))); clear B3 C3 c13 R3 hwo'
    cases hm : mayB ps wo'
    · have KN := m_new_no wc ps wo' b1 b2 (.slice Ab bs.length cb) hm
      have HN := Lib.hid (And.intro KN hm); clear KN hm
      go_wp2_with fail
      refine (HN.out.1).mono ?_
      rintro e w4 ⟨rfl, c4⟩
      have HD := Lib.hid (fun w' (c : Chg [] wc w') => rdecode_ok w' (.slice Ab bs.length cb) bs ((H3.out.2.2.1.chg c (Nat.le_refl _) (by simp)).mono c.size) HL.out HR.out.2)
      have H4 := Lib.hid c4; clear c4 q0 q1 q2 q3
      go_wp2_with fail
      refine (HD.out _ H4.out).mono ?_
      rintro e w5 (⟨G, fs, Aq, nq, cq, -, rfl, c5⟩ | ⟨k, -, rfl, c5⟩)
      all_goals
        have C5 := H4.out.trans c5
        have B5 := C5.blk H3.out.1 (by simp)
        have q0 : w5.cell? ⟨gc, 0, none⟩ = some (.int .i64 ps) := B5.cellv 0 rfl
        have q1 : w5.cell? ⟨gc, 1, none⟩ = some (.int .i64 wo') := B5.cellv 1 rfl
        have q2 : w5.cell? ⟨gc, 2, none⟩ = some (.float .f64 b1) := B5.cellv 2 rfl
        have q3 : w5.cell? ⟨gc, 3, none⟩ = some (.float .f64 b2) := B5.cellv 3 rfl
        have H5 := Lib.hid C5; clear C5 B5 c5
        have hne : gc ≠ w5.heap.size := by have := H5.out.size; have := H3.out.1.lt; omega
        go_upto_region 7 with fail
        generalize hw6 : World.alloc w5 _ = w6
        have c56 : Chg [] w5 w6 := by
          rw [← hw6]
          exact (Chg.refl [] w5).alloc _
        have C6 := H5.out.trans c56
        have B6 := C6.blk H3.out.1 (by simp)
        have q0 : w6.cell? ⟨gc, 0, none⟩ = some (.int .i64 ps) := B6.cellv 0 rfl
        have q1 : w6.cell? ⟨gc, 1, none⟩ = some (.int .i64 wo') := B6.cellv 1 rfl
        have q2 : w6.cell? ⟨gc, 2, none⟩ = some (.float .f64 b1) := B6.cellv 2 rfl
        have q3 : w6.cell? ⟨gc, 3, none⟩ = some (.float .f64 b2) := B6.cellv 3 rfl
        have KR := rcf_may_any w6 ps wo' b1 b2
        rw [HN.out.2] at KR
        have H6 := Lib.hid (And.intro C6 KR); clear C6 B6 c56 KR hw6 hne
        go_wp2_with fail
        refine (H6.out.2).mono ?_
        rintro e w7 ⟨rfl, c7⟩
        have H7 := Lib.hid (H6.out.1.trans c7); clear c7 q0 q1 q2 q3
        go_wp2_with fail
        refine (told28_yes w7).mono ?_
        rintro e w8 ⟨rfl, c8⟩
        have H8 := Lib.hid (H7.out.trans c8); clear c8
        go_wp2_with fail
        go_ret
        exact ⟨rfl, H3.out.2.1.trans H8.out⟩
    · unfold mayB at hm
      have hm := of_decide_eq_true hm
      obtain ⟨P, rfl⟩ : ∃ P : Nat, ps = P := ⟨ps.toNat, by omega⟩
      obtain ⟨n, rfl⟩ : ∃ n : Nat, wo' = ((n * 64 : Nat) : Int) := ⟨(wo' / 64).toNat, by omega⟩
      have hP1 : 1 ≤ P := by omega
      have hP : P ≤ 64 := by omega
      have hn4 : 4 ≤ n := by omega
      have hn2 : n ≤ 262144 := by omega
      have hn3 : n ≤ 1024 := by
        have h := H3.out.2.2.2
        split at h <;> omega
      have HD := Lib.hid (fun w' (c : Chg [] wc w') => rdecode_ok w' (.slice Ab bs.length cb) bs ((H3.out.2.2.1.chg c (Nat.le_refl _) (by simp)).mono c.size) HL.out HR.out.2)
      have HP := Lib.hid (And.intro hP1 (And.intro hP (And.intro hn4 (And.intro hn2 hn3)))); clear hP1 hP hn4 hn2 hn3 hm
      cases hd : decP bs with
      | error k =>
        have KN := m_new_bad wc P n (n * 64) k b1 b2 (.slice Ab bs.length cb) bs HP.out.1 HP.out.2.1 HP.out.2.2.1 HP.out.2.2.2.1 H3.out.2.2.1 HL.out HR.out.2 hd rfl
        have HN := Lib.hid (And.intro KN hd); clear KN hd
        go_wp2_with fail
        refine (HN.out.1).mono ?_
        rintro e w4 ⟨rfl, c4⟩
        have H4 := Lib.hid c4; clear c4 q0 q1 q2 q3
        go_wp2_with fail
        refine (HD.out _ H4.out).mono ?_
        rintro e w5 (⟨G, fs, Aq, nq, cq, hd5, rfl, c5⟩ | ⟨k5, hd5, rfl, c5⟩)
        · rw [HN.out.2] at hd5; cases hd5
        have ek : k5 = k := by rw [HN.out.2] at hd5; injection hd5 with hd5; exact hd5.symm
        subst ek
        clear hd5
        have C5 := H4.out.trans c5
        have B5 := C5.blk H3.out.1 (by simp)
        have q0 : w5.cell? ⟨gc, 0, none⟩ = some (.int .i64 (P : Nat)) := B5.cellv 0 rfl
        have q1 : w5.cell? ⟨gc, 1, none⟩ = some (.int .i64 (n * 64 : Nat)) := B5.cellv 1 rfl
        have q2 : w5.cell? ⟨gc, 2, none⟩ = some (.float .f64 b1) := B5.cellv 2 rfl
        have q3 : w5.cell? ⟨gc, 3, none⟩ = some (.float .f64 b2) := B5.cellv 3 rfl
        have H5 := Lib.hid C5; clear C5 B5 c5
        have hne : gc ≠ w5.heap.size := by have := H5.out.size; have := H3.out.1.lt; omega
        go_upto_region 7 with fail
        generalize hw6 : World.alloc w5 _ = w6
        have c56 : Chg [] w5 w6 := by
          rw [← hw6]
          exact (Chg.refl [] w5).alloc _
        have C6 := H5.out.trans c56
        have B6 := C6.blk H3.out.1 (by simp)
        have q0 : w6.cell? ⟨gc, 0, none⟩ = some (.int .i64 (P : Nat)) := B6.cellv 0 rfl
        have q1 : w6.cell? ⟨gc, 1, none⟩ = some (.int .i64 (n * 64 : Nat)) := B6.cellv 1 rfl
        have q2 : w6.cell? ⟨gc, 2, none⟩ = some (.float .f64 b1) := B6.cellv 2 rfl
        have q3 : w6.cell? ⟨gc, 3, none⟩ = some (.float .f64 b2) := B6.cellv 3 rfl
        have KR := rcf_may_any w6 (P : Nat) (n * 64 : Nat) b1 b2
        have hmt : mayB (P : Nat) (n * 64 : Nat) = true := by unfold mayB; have := HP.out; exact decide_eq_true (by omega)
        rw [hmt] at KR
        have H6 := Lib.hid (And.intro C6 KR); clear C6 B6 c56 KR hw6 hne hmt
        go_wp2_with fail
        refine (H6.out.2).mono ?_
        rintro e w7 ⟨rfl, c7⟩
        have H7 := Lib.hid (H6.out.1.trans c7); clear c7 q0 q1 q2 q3
        go_wp2_with fail
        refine (told28_yes w7).mono ?_
        rintro e w8 ⟨rfl, c8⟩
        have H8 := Lib.hid (H7.out.trans c8); clear c8
        go_wp2_with fail
        go_ret
        exact ⟨by simp, H3.out.2.1.trans H8.out⟩
      | ok Gf =>
        obtain ⟨G, fs⟩ := Gf
        have hG := decP_G hd
        have KN := m_new wc P n G (n * 64) b1 b2 (.slice Ab bs.length cb) bs fs HP.out.1 HP.out.2.1 HP.out.2.2.1 HP.out.2.2.2.1 H3.out.2.2.1 HL.out HR.out.2 hd (by omega) rfl
        have HN := Lib.hid (And.intro KN (And.intro hd hG)); clear KN hd hG
        go_wp2_with fail
        refine (HN.out.1).mono ?_
        rintro e w4 ⟨p, pct, on, part, tt, tg, tr, rfl, ⟨hon, hgl, hpN, hpb⟩, hq, htm, hfr, hco, M⟩
        have OK := new_vwOk M HP.out.2.1 (by have := HN.out.2.2; omega) (by omega) (by omega)
        obtain ⟨m, hm⟩ : ∃ m, m = spawnA { mk0m G fs ((n * 64 : Nat) : Int) pct on part n P with gT := tt, gG := tg, gR := tr } 0 0 0 := ⟨_, rfl⟩
        rw [← hm] at M OK
        have H4 := Lib.hid (And.intro M (And.intro OK (And.intro hm (And.intro hon (And.intro hgl (And.intro hq (And.intro htm (And.intro hfr hco)))))))); clear M OK hm hon hgl hq htm hfr hco hpN hpb q0 q1 q2 q3
        go_wp2_with fail
        refine (HD.out _ H4.out.1.c).mono ?_
        rintro e w5 (⟨G', fs', Aq, nq, cq, hd5, rfl, c5⟩ | ⟨k5, hd5, rfl, c5⟩)
        rotate_left
        · rw [HN.out.2.1] at hd5; cases hd5
        have ek : G' = G := by rw [HN.out.2.1] at hd5; injection hd5 with hd5; injection hd5 with hd5 _; exact hd5.symm
        subst ek
        clear hd5
        have C5 : Chg [] wc w5 := H4.out.1.c.trans c5
        have B5 := C5.blk H3.out.1 (by simp)
        have q0 : w5.cell? ⟨gc, 0, none⟩ = some (.int .i64 (P : Nat)) := B5.cellv 0 rfl
        have q1 : w5.cell? ⟨gc, 1, none⟩ = some (.int .i64 (n * 64 : Nat)) := B5.cellv 1 rfl
        have q2 : w5.cell? ⟨gc, 2, none⟩ = some (.float .f64 b1) := B5.cellv 2 rfl
        have q3 : w5.cell? ⟨gc, 3, none⟩ = some (.float .f64 b2) := B5.cellv 3 rfl
        have H5 := Lib.hid (And.intro C5 c5); clear C5 B5 c5
        go_upto_region 7 with fail
        obtain ⟨w6, hw6⟩ : ∃ y, y = w5.alloc (.cells #[.int .i64 (G' : Nat), .slice Aq nq cq] 30) := ⟨_, rfl⟩
        obtain ⟨gq, hgq⟩ : ∃ y, y = w5.heap.size := ⟨_, rfl⟩
        rw [← hw6, ← hgq]
        have c56 : Chg [] w5 w6 := by rw [hw6]; exact (Chg.refl [] w5).alloc _
        have Bq : Blk w6 gq 30 #[.int .i64 (G' : Nat), .slice Aq nq cq] := by rw [hw6, hgq]; exact Blk.new _ _ _
        have C6 := H5.out.1.trans c56
        have M6 := H4.out.1.chg0 (H5.out.2.trans c56)
        have B6 := C6.blk H3.out.1 (by simp)
        have q0 : w6.cell? ⟨gc, 0, none⟩ = some (.int .i64 (P : Nat)) := B6.cellv 0 rfl
        have q1 : w6.cell? ⟨gc, 1, none⟩ = some (.int .i64 (n * 64 : Nat)) := B6.cellv 1 rfl
        have q2 : w6.cell? ⟨gc, 2, none⟩ = some (.float .f64 b1) := B6.cellv 2 rfl
        have q3 : w6.cell? ⟨gc, 3, none⟩ = some (.float .f64 b2) := B6.cellv 3 rfl
        have KR := rcf_may_any w6 (P : Nat) (n * 64 : Nat) b1 b2
        have hmt : mayB (P : Nat) (n * 64 : Nat) = true := by unfold mayB; have := HP.out; exact decide_eq_true (by omega)
        rw [hmt] at KR
        have H6 := Lib.hid (And.intro C6 (And.intro KR (And.intro Bq M6))); clear C6 B6 c56 KR hw6 hgq hmt Bq M6
        go_wp2_with fail
        refine (H6.out.2.1).mono ?_
        rintro e w7 ⟨rfl, c7⟩
        have M7 := H6.out.2.2.2.chg0 c7
        have B7 := (H6.out.1.trans c7).blk H3.out.1 (by simp)
        have Bq7 := c7.blk H6.out.2.2.1 (by simp)
        have KV := m_view M7 H4.out.2.1 (by rw [H4.out.2.2.1]; show ¬ (0 : Int) = 1; decide)
        have H7 := Lib.hid (And.intro (H6.out.1.trans c7) (And.intro M7 (And.intro B7 (And.intro Bq7 KV)))); clear M7 B7 Bq7 KV c7 q0 q1 q2 q3
        go_wp2_with fail
        refine (H7.out.2.2.2.2).mono ?_
        rintro e w8 ⟨v, ks, rfl, VA, hrise, hmem, c8⟩
        have hks : ks = [] := by
          cases ks with
          | nil => rfl
          | cons x r =>
            have h := (hmem x).1 (by simp)
            rw [H4.out.2.2.1] at h
            unfold obI at h
            split at h <;> cases h
        subst hks
        have hvw : vwA m [] = newV G' := by rw [H4.out.2.2.1]; exact new_view HP.out.1
        rw [hvw] at VA
        obtain ⟨vg0, A1, c1, A2, c2, hve', hSl, hGr, hOb, -, -⟩ := VA.ex
        have hve : v = .agg #[.int .i64 0, .int .i64 0, .int .i64 0, vg0, .slice A1 1 c1, .slice A2 0 c2, .int .i64 0, .int .i64 0, .int .i64 0] := hve'
        clear hve'
        obtain ⟨A0, c0, hv0'⟩ := hSl.ex
        have hv0 : vg0 = .slice A0 (List.replicate G' (0 : Int)).length c0 := hv0'
        rw [List.length_replicate] at hv0
        clear hv0'
        subst hv0
        subst hve
        obtain ⟨bg, og, sg, hA1, hbg, hg0, hg1, hg2, hSg, -, -⟩ := hGr.at_ 0 _ rfl
        subst hA1
        obtain ⟨As, cs, hvs'⟩ := hSg.ex
        have hvs : sg = .slice As 16 cs := hvs'
        clear hvs'
        subst hvs
        have hg2 : w8.cell? ⟨bg, og + 2, none⟩ = some (.slice As 16 cs) := hg2
        have H8 := Lib.hid (And.intro VA (And.intro hSl (And.intro hSg (And.intro hg2 (And.intro c8 hbg))))); clear VA hSl hGr hOb hSg hg0 hg1 hg2 hbg hrise hmem c8 hvw
        have KX := fun w' => rmodel_nw w' G' Aq nq cq (by have := HN.out.2.2; omega)
        have HX := Lib.hid KX; clear KX
        go_upto_region 14 with fail
        obtain ⟨w9, hw9⟩ : ∃ y, y = w8.alloc (.cells #[.int .i64 0, .int .i64 0, .int .i64 0, .slice A0 G' c0, .slice (some ⟨bg, og, none⟩) 1 c1, .slice A2 0 c2, .int .i64 0, .int .i64 0, .int .i64 0] 41) := ⟨_, rfl⟩
        obtain ⟨gv, hgv⟩ : ∃ y, y = w8.heap.size := ⟨_, rfl⟩
        rw [← hw9, ← hgv]
        have c89 : Chg [] w8 w9 := by rw [hw9]; exact (Chg.refl [] w8).alloc _
        have Bv : Blk w9 gv 41 #[.int .i64 0, .int .i64 0, .int .i64 0, .slice A0 G' c0, .slice (some ⟨bg, og, none⟩) 1 c1, .slice A2 0 c2, .int .i64 0, .int .i64 0, .int .i64 0] := by rw [hw9, hgv]; exact Blk.new _ _ _
        have C9 : Chg [] w7 w9 := H8.out.2.2.2.2.1.trans c89
        have Bq9 := C9.blk H7.out.2.2.2.1 (by simp)
        have q0 : w9.cell? ⟨gq, 0, none⟩ = some (.int .i64 (G' : Nat)) := Bq9.cellv 0 rfl
        have q1 : w9.cell? ⟨gq, 1, none⟩ = some (.slice Aq nq cq) := Bq9.cellv 1 rfl
        have H9 := Lib.hid (And.intro C9 (And.intro c89 Bv)); clear C9 c89 Bv Bq9 hw9 hgv
        go_wp2_with fail
        refine (HX.out w9).mono ?_
        rintro e w10 ⟨gX, gg, gs, gl, vg, rfl, NX, c10⟩
        have B10 := (H9.out.1.trans c10).blk H7.out.2.2.1 (by simp)
        have q2 : w10.cell? ⟨gc, 2, none⟩ = some (.float .f64 b1) := B10.cellv 2 rfl
        have H10 := Lib.hid (And.intro NX c10); clear NX c10 B10 q0 q1
        go_wp2_with fail
        refine (rcf_percent w10 b1).mono ?_
        rintro e w11 ⟨pn, on', rfl, hon', c11⟩
        have C11 : Chg [] w7 w11 := (H9.out.1.trans H10.out.2).trans c11
        have C911 : Chg [] w9 w11 := H10.out.2.trans c11
        have NX11 : NwX w9.heap.size w11 G' (.slice Aq nq cq) gX gg gs gl vg := H10.out.1.chg0 c11
        have eon : on' = on := by rw [hon', H4.out.2.2.2.1]
        subst eon
        obtain ⟨Ag, cg, hvg'⟩ := NX11.o.slice
        have hvg : vg = .slice Ag 1 cg := hvg'
        clear hvg'
        subst hvg
        obtain ⟨gb, hAg, hcg, -⟩ := NX11.o.cell (i := 0) rfl
        subst hAg
        have B11 := C11.blk H7.out.2.2.1 (by simp)
        have Bv11 := C911.blk H9.out.2.2 (by simp)
        have M11 := H7.out.2.1.chg0 C11
        have VA11 : VwAt w11 w11.heap.size (.agg #[.int .i64 0, .int .i64 0, .int .i64 0, .slice A0 G' c0, .slice (some ⟨bg, og, none⟩) 1 c1, .slice A2 0 c2, .int .i64 0, .int .i64 0, .int .i64 0]) (newV G') := vw_to H8.out.1 (H9.out.2.1.trans C911)
        have c811 : Chg [] w8 w11 := H9.out.2.1.trans C911
        have hgc11 := c811.cellv H8.out.2.2.2.2.2 (by simp) H8.out.2.2.2.1
        have HC11 := Lib.hid C11
        have HM9 := Lib.hid M11
        have HF := Lib.hid (fun (w' : World) (d : Chg [] w11 w') => (⟨(d.blk Bv11 (by simp)).cellv 0 rfl, (d.blk Bv11 (by simp)).cellv 1 rfl, (d.blk Bv11 (by simp)).cellv 3 rfl, (d.blk Bv11 (by simp)).cellv 4 rfl, (d.blk Bv11 (by simp)).cellv 5 rfl, (d.blk B11 (by simp)).cellv 0 rfl, (d.blk B11 (by simp)).cellv 1 rfl, (d.blk NX11.x (by simp)).cellv 2 rfl, (d.blk NX11.x (by simp)).cellv 3 rfl, (d.blk NX11.g (by simp)).cellv 4 rfl⟩ :
          w'.cell? ⟨gv, 0, none⟩ = some (.int .i64 0) ∧ w'.cell? ⟨gv, 1, none⟩ = some (.int .i64 0) ∧ w'.cell? ⟨gv, 3, none⟩ = some (.slice A0 G' c0) ∧ w'.cell? ⟨gv, 4, none⟩ = some (.slice (some ⟨bg, og, none⟩) 1 c1) ∧ w'.cell? ⟨gv, 5, none⟩ = some (.slice A2 0 c2) ∧ w'.cell? ⟨gc, 0, none⟩ = some (.int .i64 (P : Nat)) ∧ w'.cell? ⟨gc, 1, none⟩ = some (.int .i64 (n * 64 : Nat)) ∧ w'.cell? ⟨gX, 2, none⟩ = some (.slice (some ⟨gb, 0, none⟩) 1 cg) ∧ w'.cell? ⟨gX, 3, none⟩ = some (.slice (some ⟨gl, 0, none⟩) G' G') ∧ w'.cell? ⟨gg, 4, none⟩ = some (.slice (some ⟨gs, 0, none⟩) 16 16)))
        have HF2 := Lib.hid (fun (w' : World) (d : Chg [] w11 w') => (⟨d.cellv (Nat.lt_of_lt_of_le H8.out.2.2.2.2.2 c811.size) (by simp) hgc11, (by have h := d.cellv (NX11.o.lt (k := gb) (by simp [fpv, Value.ownBlock])) (by simp) hcg; exact h), (d.blk Bv11 (by simp)).cellv 2 rfl, (d.blk Bv11 (by simp)).cellv 6 rfl, (d.blk Bv11 (by simp)).cellv 7 rfl, (d.blk Bv11 (by simp)).cellv 8 rfl⟩ :
          w'.cell? ⟨bg, og + 2, none⟩ = some (.slice As 16 cs) ∧ w'.cell? ⟨gb, 0, none⟩ = some (.pointer (some ⟨gg, 0, none⟩)) ∧ w'.cell? ⟨gv, 2, none⟩ = some (.int .i64 0) ∧ w'.cell? ⟨gv, 6, none⟩ = some (.int .i64 0) ∧ w'.cell? ⟨gv, 7, none⟩ = some (.int .i64 0) ∧ w'.cell? ⟨gv, 8, none⟩ = some (.int .i64 0)))
        have HSt := Lib.hid (fun (w' : World) (d : Chg [] w11 w') => (show Calls Tryz.prog 11 #[.pointer (some ⟨p.gm, 0, none⟩)] w' (QdPost (.int .i64 0) w') by
          have K := m_status (M11.chg0 d) (by rw [H4.out.2.2.1]; show (1 : Nat) ≤ 1024; decide) (by rw [H4.out.2.2.1]; show (0 : Nat) ≤ 1024; decide)
          have e : stV m = 0 := by rw [H4.out.2.2.1]; rfl
          rwa [e] at K))
        have HCo := Lib.hid (fun (w' : World) (d : Chg [] w11 w') => (show Calls Tryz.prog 8 #[.pointer (some ⟨p.gm, 0, none⟩)] w' (QuPost (.int .i64 0) w') by
          have K := m_commits (M11.chg0 d)
          have e : m.cms.length = 0 := by rw [H4.out.2.2.1]; rfl
          rwa [e] at K))
        have HFr := Lib.hid (fun (w' : World) (d : Chg [] w11 w') => m_freed_nil (M11.chg0 d) H4.out.2.2.2.2.2.2.2.1)
        have HLi := Lib.hid (fun (w' : World) (d : Chg [] w11 w') => (show Calls Tryz.prog 22 #[.pointer (some ⟨p.gm, 0, none⟩)] w' (QuPost (.int .i64 0) w') by
          have K := m_live (M11.chg0 d)
          have e : m.A.a.live = 0 := by rw [H4.out.2.2.1]; rfl
          rwa [e] at K))
        have HSp := Lib.hid (fun (w' : World) (d : Chg [] w11 w') => (show Calls Tryz.prog 23 #[.pointer (some ⟨p.gm, 0, none⟩)] w' (QuPost (.int .i64 0) w') by
          have K := m_steps (M11.chg0 d)
          have e : m.steps = 0 := by rw [H4.out.2.2.1]; rfl
          rwa [e] at K))
        have HI1 := Lib.hid (fun (w' : World) (d : Chg [] w11 w') => (show Calls Tryz.prog 24 #[.slice A0 G' c0, .slice (some ⟨gl, 0, none⟩) G' G'] w' (BoolD true w') by
          have R1 : RdI w' (.slice A0 G' c0) (List.replicate G' 0) := by
            have h := H8.out.2.1.chg (c811.trans d) (Nat.le_refl _) (by simp)
            exact SlI.rd h
          have R2 := (OwnI.zer (d.blk NX11.l (by simp)) (by have := HN.out.2.2; omega)).rd
          have K := ints_ok w' _ _ _ _ R1 R2
          rwa [decide_eq_true rfl] at K))
        have HI2 := Lib.hid (fun (w' : World) (d : Chg [] w11 w') => (show Calls Tryz.prog 24 #[.slice As 16 cs, .slice (some ⟨gs, 0, none⟩) 16 16] w' (BoolD true w') by
          have R1 : RdI w' (.slice As 16 cs) (List.replicate 16 0) := by
            have h := H8.out.2.2.1.chg (c811.trans d) (Nat.le_refl _) (by simp)
            exact SlI.rd h
          have R2 := (OwnI.zer (d.blk NX11.s (by simp)) (by decide)).rd
          have K := ints_ok w' _ _ _ _ R1 R2
          rwa [decide_eq_true rfl] at K))
        have HAl := Lib.hid (fun (w' : World) (d : Chg [] w11 w') => (show Calls Tryz.prog 25 #[.agg #[.int .i64 0, .int .i64 0, .int .i64 0, .slice A0 G' c0, .slice (some ⟨bg, og, none⟩) 1 c1, .slice A2 0 c2, .int .i64 0, .int .i64 0, .int .i64 0], .int .i64 (P : Nat)] w' (NewI [] w') by
          have K := rall_ok w' _ (newV G') (P : Nat) (vw_to VA11 d) (newV_small G' (by have := HN.out.2.2; omega))
          unfold AllPost at K
          rwa [new_brks G' _ (by have := HP.out.1; omega)] at K))
        have HGo := Lib.hid (fun (w' : World) (d : Chg [] w11 w') => (show Calls Tryz.prog 26 #[.pointer (some ⟨p.gm, 0, none⟩)] w' (NwPost (.agg #[.int .i64 tt, .int .i64 tg, .int .i64 tr]) w') by
          have K := m_goal (M11.chg0 d)
          have e1 : m.gT = tt := by rw [H4.out.2.2.1]; rfl
          have e2 : m.gG = tg := by rw [H4.out.2.2.1]; rfl
          have e3 : m.gR = tr := by rw [H4.out.2.2.1]; rfl
          rwa [e1, e2, e3] at K))
        have HRg := Lib.hid (fun (w' : World) => rpc_goal w' (n * 64) (by have := HP.out.2.2.1; omega) (by have := HP.out.2.2.2.2; omega) pn on')
        have HGl := Lib.hid (fun (t2 g2 r2 : Int) (h : GlIs (n * 64) on' t2 g2 r2) => H4.out.2.2.2.2.1.uniq h)
        clear C11 C911 NX11 B11 Bv11 M11 VA11 c811 hgc11 hcg hon' c11 q2
        as_aux_lemma =>
          go_upto_region 16 with fail
          simp only [List.append]
          refine wp_region_takes (fuel := 94) 93 (fun w' => Chg [] w11 w') [] (by kernel_rfl) (by kernel_rfl) (fun _ _ _ _ _ h => h) ((Chg.refl [] w11).drew) ?_
          simp only [List.filterMap_cons, List.filterMap_nil, qGa, qGb]
          refine wpTake_nil ?_
          generalize hx0 : w11.drew = x0
          have D0 : Chg [] w11 x0 := by rw [← hx0]; exact (Chg.refl [] w11).drew
          clear hx0
          refine wpAnyS_ready (rs := [0]) (by kernel_rfl) (by simp) ?_
          refine AllReadyS.o (fun K hK => ?_)
          rw [if_pos (by rfl)]
          go_simp
          go_at_call 14
          refine (told28_yes x0).mono ?_
          rintro e y1 ⟨rfl, ck⟩
          dsimp only
          have E1 : Chg [] w11 y1 := D0.trans ck
          refine hK _ _ (E1) ?_
          clear hK K
          try simp only [Act.put, qSa, qSb, qSc]
          as_aux_lemma =>
            refine wpAnyS_more (fuel := 91) [1, 2] (by kernel_rfl) (fun _ _ _ _ _ h => h) E1 ?_
            simp only [List.filterMap_cons, List.filterMap_nil, qGa, qGb]
            refine wpTake_step (fun K hK => ?_)
            rw [if_pos (by rfl)]
            refine ⟨?_, fun w' hS' => ?_, ?_⟩
            rotate_left 1
            focus
              obtain ⟨s0, s1, s2, s3, s4, s5, s6, s7, s8, s9⟩ := HF.out w' hS'
              obtain ⟨u0, u1, u2, u3, u4, u5⟩ := HF2.out w' hS'
              go_simp
              try with_reducible rfl
              done
            simp only [Act.put, qSa, qSb, qSc]
            refine hK _ ?_
            clear hK K
            refine wpTake_step (fun K hK => ?_)
            rw [if_pos (by rfl)]
            refine ⟨?_, fun w' hS' => ?_, ?_⟩
            rotate_left 1
            focus
              obtain ⟨s0, s1, s2, s3, s4, s5, s6, s7, s8, s9⟩ := HF.out w' hS'
              obtain ⟨u0, u1, u2, u3, u4, u5⟩ := HF2.out w' hS'
              go_simp
              try with_reducible rfl
              done
            simp only [Act.put, qSa, qSb, qSc]
            refine hK _ ?_
            clear hK K
            refine wpTake_nil ?_
            refine wpAnyS_ready (rs := [3]) (by kernel_rfl) (by simp) ?_
            refine AllReadyS.o (fun K hK => ?_)
            rw [if_pos (by rfl)]
            go_simp
            go_at_call 11
            refine (HSt.out _ E1).mono ?_
            rintro e y2 ⟨rfl, kk, hq⟩
            dsimp only
            have E2 : Chg [] w11 y2 := E1.trans (by rw [hq]; exact (Chg.refl [] _).drewN kk)
            clear hq
            refine hK _ _ (E2) ?_
            clear hK K
            try simp only [Act.put, qSa, qSb, qSc]
            refine wpAnyS_more (fuel := 86) [4, 5, 6, 7] (by kernel_rfl) (fun _ _ _ _ _ h => h) E2 ?_
            simp only [List.filterMap_cons, List.filterMap_nil, qGa, qGb]
            refine wpTake_step (fun K hK => ?_)
            rw [if_pos (by rfl)]
            refine ⟨?_, fun w' hS' => ?_, ?_⟩
            rotate_left 1
            focus
              obtain ⟨s0, s1, s2, s3, s4, s5, s6, s7, s8, s9⟩ := HF.out w' hS'
              obtain ⟨u0, u1, u2, u3, u4, u5⟩ := HF2.out w' hS'
              go_simp
              try with_reducible rfl
              done
            simp only [Act.put, qSa, qSb, qSc]
            refine hK _ ?_
            clear hK K
            refine wpTake_step (fun K hK => ?_)
            rw [if_pos (by rfl)]
            refine ⟨?_, fun w' hS' => ?_, ?_⟩
            rotate_left 1
            focus
              obtain ⟨s0, s1, s2, s3, s4, s5, s6, s7, s8, s9⟩ := HF.out w' hS'
              obtain ⟨u0, u1, u2, u3, u4, u5⟩ := HF2.out w' hS'
              go_simp
              try with_reducible rfl
              done
            simp only [Act.put, qSa, qSb, qSc]
            refine hK _ ?_
            clear hK K
            refine wpTake_step (fun K hK => ?_)
            rw [if_pos (by rfl)]
            refine ⟨?_, fun w' hS' => ?_, ?_⟩
            rotate_left 1
            focus
              obtain ⟨s0, s1, s2, s3, s4, s5, s6, s7, s8, s9⟩ := HF.out w' hS'
              obtain ⟨u0, u1, u2, u3, u4, u5⟩ := HF2.out w' hS'
              go_simp
              try with_reducible rfl
              done
            simp only [Act.put, qSa, qSb, qSc]
            refine hK _ ?_
            clear hK K
            refine wpTake_step (fun K hK => ?_)
            rw [if_pos (by rfl)]
            refine ⟨?_, fun w' hS' => ?_, ?_⟩
            rotate_left 1
            focus
              obtain ⟨s0, s1, s2, s3, s4, s5, s6, s7, s8, s9⟩ := HF.out w' hS'
              obtain ⟨u0, u1, u2, u3, u4, u5⟩ := HF2.out w' hS'
              go_simp
              try with_reducible rfl
              done
            simp only [Act.put, qSa, qSb, qSc]
            refine hK _ ?_
            clear hK K
            refine wpTake_nil ?_
            refine wpAnyS_ready (rs := [8]) (by kernel_rfl) (by simp) ?_
            refine AllReadyS.o (fun K hK => ?_)
            rw [if_pos (by rfl)]
            go_simp
            go_at_call 8
            refine (HCo.out _ E2).mono ?_
            rintro e y3 ⟨rfl, hq⟩
            dsimp only
            have E3 : Chg [] w11 y3 := E2.trans (by rw [hq]; exact Chg.refl [] _)
            clear hq
            refine hK _ _ (E3) ?_
            clear hK K
            try simp only [Act.put, qSa, qSb, qSc]
            as_aux_lemma =>
              refine wpAnyS_more (fuel := 81) [9, 10, 11, 12] (by kernel_rfl) (fun _ _ _ _ _ h => h) E3 ?_
              simp only [List.filterMap_cons, List.filterMap_nil, qGa, qGb]
              refine wpTake_step (fun K hK => ?_)
              rw [if_pos (by rfl)]
              refine ⟨?_, fun w' hS' => ?_, ?_⟩
              rotate_left 1
              focus
                obtain ⟨s0, s1, s2, s3, s4, s5, s6, s7, s8, s9⟩ := HF.out w' hS'
                obtain ⟨u0, u1, u2, u3, u4, u5⟩ := HF2.out w' hS'
                go_simp
                try with_reducible rfl
                done
              simp only [Act.put, qSa, qSb, qSc]
              refine hK _ ?_
              clear hK K
              refine wpTake_step (fun K hK => ?_)
              rw [if_pos (by rfl)]
              refine ⟨?_, fun w' hS' => ?_, ?_⟩
              rotate_left 1
              focus
                obtain ⟨s0, s1, s2, s3, s4, s5, s6, s7, s8, s9⟩ := HF.out w' hS'
                obtain ⟨u0, u1, u2, u3, u4, u5⟩ := HF2.out w' hS'
                go_simp
                try with_reducible rfl
                done
              simp only [Act.put, qSa, qSb, qSc]
              refine hK _ ?_
              clear hK K
              refine wpTake_step (fun K hK => ?_)
              rw [if_pos (by rfl)]
              refine ⟨?_, fun w' hS' => ?_, ?_⟩
              rotate_left 1
              focus
                obtain ⟨s0, s1, s2, s3, s4, s5, s6, s7, s8, s9⟩ := HF.out w' hS'
                obtain ⟨u0, u1, u2, u3, u4, u5⟩ := HF2.out w' hS'
                go_simp
                try with_reducible rfl
                done
              simp only [Act.put, qSa, qSb, qSc]
              refine hK _ ?_
              clear hK K
              refine wpTake_step (fun K hK => ?_)
              rw [if_pos (by rfl)]
              refine ⟨?_, fun w' hS' => ?_, ?_⟩
              rotate_left 1
              focus
                obtain ⟨s0, s1, s2, s3, s4, s5, s6, s7, s8, s9⟩ := HF.out w' hS'
                obtain ⟨u0, u1, u2, u3, u4, u5⟩ := HF2.out w' hS'
                go_simp
                try with_reducible rfl
                done
              simp only [Act.put, qSa, qSb, qSc]
              refine hK _ ?_
              clear hK K
              refine wpTake_nil ?_
              refine wpAnyS_ready (rs := [13]) (by kernel_rfl) (by simp) ?_
              refine AllReadyS.o (fun K hK => ?_)
              rw [if_pos (by rfl)]
              go_simp
              go_at_call 21
              refine (HFr.out _ E3).mono ?_
              rintro e y4 ⟨rfl, ck⟩
              dsimp only
              have E4 : Chg [] w11 y4 := E3.trans ck
              refine hK _ _ (E4) ?_
              clear hK K
              try simp only [Act.put, qSa, qSb, qSc]
              refine wpAnyS_more (fuel := 75) [14, 15, 16, 17, 18] (by kernel_rfl) (fun _ _ _ _ _ h => h) E4 ?_
              simp only [List.filterMap_cons, List.filterMap_nil, qGa, qGb]
              refine wpTake_step (fun K hK => ?_)
              rw [if_pos (by rfl)]
              refine ⟨?_, fun w' hS' => ?_, ?_⟩
              rotate_left 1
              focus
                obtain ⟨s0, s1, s2, s3, s4, s5, s6, s7, s8, s9⟩ := HF.out w' hS'
                obtain ⟨u0, u1, u2, u3, u4, u5⟩ := HF2.out w' hS'
                go_simp
                try with_reducible rfl
                done
              simp only [Act.put, qSa, qSb, qSc]
              refine hK _ ?_
              clear hK K
              refine wpTake_step (fun K hK => ?_)
              rw [if_pos (by rfl)]
              refine ⟨?_, fun w' hS' => ?_, ?_⟩
              rotate_left 1
              focus
                obtain ⟨s0, s1, s2, s3, s4, s5, s6, s7, s8, s9⟩ := HF.out w' hS'
                obtain ⟨u0, u1, u2, u3, u4, u5⟩ := HF2.out w' hS'
                go_simp
                try with_reducible rfl
                done
              simp only [Act.put, qSa, qSb, qSc]
              refine hK _ ?_
              clear hK K
              refine wpTake_step (fun K hK => ?_)
              rw [if_pos (by rfl)]
              refine ⟨?_, fun w' hS' => ?_, ?_⟩
              rotate_left 1
              focus
                obtain ⟨s0, s1, s2, s3, s4, s5, s6, s7, s8, s9⟩ := HF.out w' hS'
                obtain ⟨u0, u1, u2, u3, u4, u5⟩ := HF2.out w' hS'
                go_simp
                try with_reducible rfl
                done
              simp only [Act.put, qSa, qSb, qSc]
              refine hK _ ?_
              clear hK K
              refine wpTake_step (fun K hK => ?_)
              rw [if_pos (by rfl)]
              refine ⟨?_, fun w' hS' => ?_, ?_⟩
              rotate_left 1
              focus
                obtain ⟨s0, s1, s2, s3, s4, s5, s6, s7, s8, s9⟩ := HF.out w' hS'
                obtain ⟨u0, u1, u2, u3, u4, u5⟩ := HF2.out w' hS'
                go_simp
                try with_reducible rfl
                done
              simp only [Act.put, qSa, qSb, qSc]
              refine hK _ ?_
              clear hK K
              refine wpTake_step (fun K hK => ?_)
              rw [if_pos (by rfl)]
              refine ⟨?_, fun w' hS' => ?_, ?_⟩
              rotate_left 1
              focus
                obtain ⟨s0, s1, s2, s3, s4, s5, s6, s7, s8, s9⟩ := HF.out w' hS'
                obtain ⟨u0, u1, u2, u3, u4, u5⟩ := HF2.out w' hS'
                go_simp
                try with_reducible rfl
                done
              simp only [Act.put, qSa, qSb, qSc]
              refine hK _ ?_
              clear hK K
              refine wpTake_nil ?_
              refine wpAnyS_ready (rs := [19]) (by kernel_rfl) (by simp) ?_
              refine AllReadyS.o (fun K hK => ?_)
              rw [if_pos (by rfl)]
              go_simp
              go_at_call 22
              refine (HLi.out _ E4).mono ?_
              rintro e y5 ⟨rfl, hq⟩
              dsimp only
              have E5 : Chg [] w11 y5 := E4.trans (by rw [hq]; exact Chg.refl [] _)
              clear hq
              refine hK _ _ (E5) ?_
              clear hK K
              try simp only [Act.put, qSa, qSb, qSc]
              as_aux_lemma =>
                refine wpAnyS_more (fuel := 70) [20, 21, 22, 23] (by kernel_rfl) (fun _ _ _ _ _ h => h) E5 ?_
                simp only [List.filterMap_cons, List.filterMap_nil, qGa, qGb]
                refine wpTake_step (fun K hK => ?_)
                rw [if_pos (by rfl)]
                refine ⟨?_, fun w' hS' => ?_, ?_⟩
                rotate_left 1
                focus
                  obtain ⟨s0, s1, s2, s3, s4, s5, s6, s7, s8, s9⟩ := HF.out w' hS'
                  obtain ⟨u0, u1, u2, u3, u4, u5⟩ := HF2.out w' hS'
                  go_simp
                  try with_reducible rfl
                  done
                simp only [Act.put, qSa, qSb, qSc]
                refine hK _ ?_
                clear hK K
                refine wpTake_step (fun K hK => ?_)
                rw [if_pos (by rfl)]
                refine ⟨?_, fun w' hS' => ?_, ?_⟩
                rotate_left 1
                focus
                  obtain ⟨s0, s1, s2, s3, s4, s5, s6, s7, s8, s9⟩ := HF.out w' hS'
                  obtain ⟨u0, u1, u2, u3, u4, u5⟩ := HF2.out w' hS'
                  go_simp
                  try with_reducible rfl
                  done
                simp only [Act.put, qSa, qSb, qSc]
                refine hK _ ?_
                clear hK K
                refine wpTake_step (fun K hK => ?_)
                rw [if_pos (by rfl)]
                refine ⟨?_, fun w' hS' => ?_, ?_⟩
                rotate_left 1
                focus
                  obtain ⟨s0, s1, s2, s3, s4, s5, s6, s7, s8, s9⟩ := HF.out w' hS'
                  obtain ⟨u0, u1, u2, u3, u4, u5⟩ := HF2.out w' hS'
                  go_simp
                  try with_reducible rfl
                  done
                simp only [Act.put, qSa, qSb, qSc]
                refine hK _ ?_
                clear hK K
                refine wpTake_step (fun K hK => ?_)
                rw [if_pos (by rfl)]
                refine ⟨?_, fun w' hS' => ?_, ?_⟩
                rotate_left 1
                focus
                  obtain ⟨s0, s1, s2, s3, s4, s5, s6, s7, s8, s9⟩ := HF.out w' hS'
                  obtain ⟨u0, u1, u2, u3, u4, u5⟩ := HF2.out w' hS'
                  go_simp
                  try with_reducible rfl
                  done
                simp only [Act.put, qSa, qSb, qSc]
                refine hK _ ?_
                clear hK K
                refine wpTake_nil ?_
                refine wpAnyS_ready (rs := [24]) (by kernel_rfl) (by simp) ?_
                refine AllReadyS.o (fun K hK => ?_)
                rw [if_pos (by rfl)]
                go_simp
                go_at_call 23
                refine (HSp.out _ E5).mono ?_
                rintro e y6 ⟨rfl, hq⟩
                dsimp only
                have E6 : Chg [] w11 y6 := E5.trans (by rw [hq]; exact Chg.refl [] _)
                clear hq
                refine hK _ _ (E6) ?_
                clear hK K
                try simp only [Act.put, qSa, qSb, qSc]
                as_aux_lemma =>
                  refine wpAnyS_more (fuel := 38) [25, 26, 27, 28, 29, 30, 31, 32, 33, 34, 35, 36, 37, 38, 39, 40, 41, 42, 43, 44, 45, 46, 47, 48, 49, 50, 51, 52, 53, 54, 55] (by kernel_rfl) (fun _ _ _ _ _ h => h) E6 ?_
                  simp only [List.filterMap_cons, List.filterMap_nil, qGa, qGb]
                  refine wpTake_step (fun K hK => ?_)
                  rw [if_pos (by rfl)]
                  refine ⟨?_, fun w' hS' => ?_, ?_⟩
                  rotate_left 1
                  focus
                    obtain ⟨s0, s1, s2, s3, s4, s5, s6, s7, s8, s9⟩ := HF.out w' hS'
                    obtain ⟨u0, u1, u2, u3, u4, u5⟩ := HF2.out w' hS'
                    go_simp
                    try with_reducible rfl
                    done
                  simp only [Act.put, qSa, qSb, qSc]
                  refine hK _ ?_
                  clear hK K
                  refine wpTake_step (fun K hK => ?_)
                  rw [if_pos (by rfl)]
                  refine ⟨?_, fun w' hS' => ?_, ?_⟩
                  rotate_left 1
                  focus
                    obtain ⟨s0, s1, s2, s3, s4, s5, s6, s7, s8, s9⟩ := HF.out w' hS'
                    obtain ⟨u0, u1, u2, u3, u4, u5⟩ := HF2.out w' hS'
                    go_simp
                    try with_reducible rfl
                    done
                  simp only [Act.put, qSa, qSb, qSc]
                  refine hK _ ?_
                  clear hK K
                  refine wpTake_step (fun K hK => ?_)
                  rw [if_pos (by rfl)]
                  refine ⟨?_, fun w' hS' => ?_, ?_⟩
                  rotate_left 1
                  focus
                    obtain ⟨s0, s1, s2, s3, s4, s5, s6, s7, s8, s9⟩ := HF.out w' hS'
                    obtain ⟨u0, u1, u2, u3, u4, u5⟩ := HF2.out w' hS'
                    go_simp
                    try with_reducible rfl
                    done
                  simp only [Act.put, qSa, qSb, qSc]
                  refine hK _ ?_
                  clear hK K
                  refine wpTake_step (fun K hK => ?_)
                  rw [if_pos (by rfl)]
                  refine ⟨?_, fun w' hS' => ?_, ?_⟩
                  rotate_left 1
                  focus
                    obtain ⟨s0, s1, s2, s3, s4, s5, s6, s7, s8, s9⟩ := HF.out w' hS'
                    obtain ⟨u0, u1, u2, u3, u4, u5⟩ := HF2.out w' hS'
                    go_simp
                    try with_reducible rfl
                    done
                  simp only [Act.put, qSa, qSb, qSc]
                  refine hK _ ?_
                  clear hK K
                  refine wpTake_step (fun K hK => ?_)
                  rw [if_pos (by rfl)]
                  refine ⟨?_, fun w' hS' => ?_, ?_⟩
                  rotate_left 1
                  focus
                    obtain ⟨s0, s1, s2, s3, s4, s5, s6, s7, s8, s9⟩ := HF.out w' hS'
                    obtain ⟨u0, u1, u2, u3, u4, u5⟩ := HF2.out w' hS'
                    go_simp
                    try with_reducible rfl
                    done
                  simp only [Act.put, qSa, qSb, qSc]
                  refine hK _ ?_
                  clear hK K
                  refine wpTake_step (fun K hK => ?_)
                  rw [if_pos (by rfl)]
                  refine ⟨?_, fun w' hS' => ?_, ?_⟩
                  rotate_left 1
                  focus
                    obtain ⟨s0, s1, s2, s3, s4, s5, s6, s7, s8, s9⟩ := HF.out w' hS'
                    obtain ⟨u0, u1, u2, u3, u4, u5⟩ := HF2.out w' hS'
                    go_simp
                    try with_reducible rfl
                    done
                  simp only [Act.put, qSa, qSb, qSc]
                  refine hK _ ?_
                  clear hK K
                  refine wpTake_step (fun K hK => ?_)
                  rw [if_pos (by rfl)]
                  refine ⟨?_, fun w' hS' => ?_, ?_⟩
                  rotate_left 1
                  focus
                    obtain ⟨s0, s1, s2, s3, s4, s5, s6, s7, s8, s9⟩ := HF.out w' hS'
                    obtain ⟨u0, u1, u2, u3, u4, u5⟩ := HF2.out w' hS'
                    go_simp
                    try with_reducible rfl
                    done
                  simp only [Act.put, qSa, qSb, qSc]
                  refine hK _ ?_
                  clear hK K
                  refine wpTake_step (fun K hK => ?_)
                  rw [if_pos (by rfl)]
                  refine ⟨?_, fun w' hS' => ?_, ?_⟩
                  rotate_left 1
                  focus
                    obtain ⟨s0, s1, s2, s3, s4, s5, s6, s7, s8, s9⟩ := HF.out w' hS'
                    obtain ⟨u0, u1, u2, u3, u4, u5⟩ := HF2.out w' hS'
                    go_simp
                    try with_reducible rfl
                    done
                  simp only [Act.put, qSa, qSb, qSc]
                  refine hK _ ?_
                  clear hK K
                  refine wpTake_step (fun K hK => ?_)
                  rw [if_pos (by rfl)]
                  refine ⟨?_, fun w' hS' => ?_, ?_⟩
                  rotate_left 1
                  focus
                    obtain ⟨s0, s1, s2, s3, s4, s5, s6, s7, s8, s9⟩ := HF.out w' hS'
                    obtain ⟨u0, u1, u2, u3, u4, u5⟩ := HF2.out w' hS'
                    go_simp
                    try with_reducible rfl
                    done
                  simp only [Act.put, qSa, qSb, qSc]
                  refine hK _ ?_
                  clear hK K
                  refine wpTake_step (fun K hK => ?_)
                  rw [if_pos (by rfl)]
                  refine ⟨?_, fun w' hS' => ?_, ?_⟩
                  rotate_left 1
                  focus
                    obtain ⟨s0, s1, s2, s3, s4, s5, s6, s7, s8, s9⟩ := HF.out w' hS'
                    obtain ⟨u0, u1, u2, u3, u4, u5⟩ := HF2.out w' hS'
                    go_simp
                    try with_reducible rfl
                    done
                  simp only [Act.put, qSa, qSb, qSc]
                  refine hK _ ?_
                  clear hK K
                  refine wpTake_step (fun K hK => ?_)
                  rw [if_pos (by rfl)]
                  refine ⟨?_, fun w' hS' => ?_, ?_⟩
                  rotate_left 1
                  focus
                    obtain ⟨s0, s1, s2, s3, s4, s5, s6, s7, s8, s9⟩ := HF.out w' hS'
                    obtain ⟨u0, u1, u2, u3, u4, u5⟩ := HF2.out w' hS'
                    go_simp
                    try with_reducible rfl
                    done
                  simp only [Act.put, qSa, qSb, qSc]
                  refine hK _ ?_
                  clear hK K
                  refine wpTake_step (fun K hK => ?_)
                  rw [if_pos (by rfl)]
                  refine ⟨?_, fun w' hS' => ?_, ?_⟩
                  rotate_left 1
                  focus
                    obtain ⟨s0, s1, s2, s3, s4, s5, s6, s7, s8, s9⟩ := HF.out w' hS'
                    obtain ⟨u0, u1, u2, u3, u4, u5⟩ := HF2.out w' hS'
                    go_simp
                    try with_reducible rfl
                    done
                  simp only [Act.put, qSa, qSb, qSc]
                  refine hK _ ?_
                  clear hK K
                  refine wpTake_step (fun K hK => ?_)
                  rw [if_pos (by rfl)]
                  refine ⟨?_, fun w' hS' => ?_, ?_⟩
                  rotate_left 1
                  focus
                    obtain ⟨s0, s1, s2, s3, s4, s5, s6, s7, s8, s9⟩ := HF.out w' hS'
                    obtain ⟨u0, u1, u2, u3, u4, u5⟩ := HF2.out w' hS'
                    go_simp
                    try with_reducible rfl
                    done
                  simp only [Act.put, qSa, qSb, qSc]
                  refine hK _ ?_
                  clear hK K
                  refine wpTake_step (fun K hK => ?_)
                  rw [if_pos (by rfl)]
                  refine ⟨?_, fun w' hS' => ?_, ?_⟩
                  rotate_left 1
                  focus
                    obtain ⟨s0, s1, s2, s3, s4, s5, s6, s7, s8, s9⟩ := HF.out w' hS'
                    obtain ⟨u0, u1, u2, u3, u4, u5⟩ := HF2.out w' hS'
                    go_simp
                    try with_reducible rfl
                    done
                  simp only [Act.put, qSa, qSb, qSc]
                  refine hK _ ?_
                  clear hK K
                  refine wpTake_step (fun K hK => ?_)
                  rw [if_pos (by rfl)]
                  refine ⟨?_, fun w' hS' => ?_, ?_⟩
                  rotate_left 1
                  focus
                    obtain ⟨s0, s1, s2, s3, s4, s5, s6, s7, s8, s9⟩ := HF.out w' hS'
                    obtain ⟨u0, u1, u2, u3, u4, u5⟩ := HF2.out w' hS'
                    go_simp
                    try with_reducible rfl
                    done
                  simp only [Act.put, qSa, qSb, qSc]
                  refine hK _ ?_
                  clear hK K
                  refine wpTake_step (fun K hK => ?_)
                  rw [if_pos (by rfl)]
                  refine ⟨?_, fun w' hS' => ?_, ?_⟩
                  rotate_left 1
                  focus
                    obtain ⟨s0, s1, s2, s3, s4, s5, s6, s7, s8, s9⟩ := HF.out w' hS'
                    obtain ⟨u0, u1, u2, u3, u4, u5⟩ := HF2.out w' hS'
                    go_simp
                    try with_reducible rfl
                    done
                  simp only [Act.put, qSa, qSb, qSc]
                  refine hK _ ?_
                  clear hK K
                  refine wpTake_step (fun K hK => ?_)
                  rw [if_pos (by rfl)]
                  refine ⟨?_, fun w' hS' => ?_, ?_⟩
                  rotate_left 1
                  focus
                    obtain ⟨s0, s1, s2, s3, s4, s5, s6, s7, s8, s9⟩ := HF.out w' hS'
                    obtain ⟨u0, u1, u2, u3, u4, u5⟩ := HF2.out w' hS'
                    go_simp
                    try with_reducible rfl
                    done
                  simp only [Act.put, qSa, qSb, qSc]
                  refine hK _ ?_
                  clear hK K
                  refine wpTake_step (fun K hK => ?_)
                  rw [if_pos (by rfl)]
                  refine ⟨?_, fun w' hS' => ?_, ?_⟩
                  rotate_left 1
                  focus
                    obtain ⟨s0, s1, s2, s3, s4, s5, s6, s7, s8, s9⟩ := HF.out w' hS'
                    obtain ⟨u0, u1, u2, u3, u4, u5⟩ := HF2.out w' hS'
                    go_simp
                    try with_reducible rfl
                    done
                  simp only [Act.put, qSa, qSb, qSc]
                  refine hK _ ?_
                  clear hK K
                  refine wpTake_step (fun K hK => ?_)
                  rw [if_pos (by rfl)]
                  refine ⟨?_, fun w' hS' => ?_, ?_⟩
                  rotate_left 1
                  focus
                    obtain ⟨s0, s1, s2, s3, s4, s5, s6, s7, s8, s9⟩ := HF.out w' hS'
                    obtain ⟨u0, u1, u2, u3, u4, u5⟩ := HF2.out w' hS'
                    go_simp
                    try with_reducible rfl
                    done
                  simp only [Act.put, qSa, qSb, qSc]
                  refine hK _ ?_
                  clear hK K
                  refine wpTake_step (fun K hK => ?_)
                  rw [if_pos (by rfl)]
                  refine ⟨?_, fun w' hS' => ?_, ?_⟩
                  rotate_left 1
                  focus
                    obtain ⟨s0, s1, s2, s3, s4, s5, s6, s7, s8, s9⟩ := HF.out w' hS'
                    obtain ⟨u0, u1, u2, u3, u4, u5⟩ := HF2.out w' hS'
                    go_simp
                    try with_reducible rfl
                    done
                  simp only [Act.put, qSa, qSb, qSc]
                  refine hK _ ?_
                  clear hK K
                  refine wpTake_step (fun K hK => ?_)
                  rw [if_pos (by rfl)]
                  refine ⟨?_, fun w' hS' => ?_, ?_⟩
                  rotate_left 1
                  focus
                    obtain ⟨s0, s1, s2, s3, s4, s5, s6, s7, s8, s9⟩ := HF.out w' hS'
                    obtain ⟨u0, u1, u2, u3, u4, u5⟩ := HF2.out w' hS'
                    go_simp
                    try with_reducible rfl
                    done
                  simp only [Act.put, qSa, qSb, qSc]
                  refine hK _ ?_
                  clear hK K
                  refine wpTake_step (fun K hK => ?_)
                  rw [if_pos (by rfl)]
                  refine ⟨?_, fun w' hS' => ?_, ?_⟩
                  rotate_left 1
                  focus
                    obtain ⟨s0, s1, s2, s3, s4, s5, s6, s7, s8, s9⟩ := HF.out w' hS'
                    obtain ⟨u0, u1, u2, u3, u4, u5⟩ := HF2.out w' hS'
                    go_simp
                    try with_reducible rfl
                    done
                  simp only [Act.put, qSa, qSb, qSc]
                  refine hK _ ?_
                  clear hK K
                  refine wpTake_step (fun K hK => ?_)
                  rw [if_pos (by rfl)]
                  refine ⟨?_, fun w' hS' => ?_, ?_⟩
                  rotate_left 1
                  focus
                    obtain ⟨s0, s1, s2, s3, s4, s5, s6, s7, s8, s9⟩ := HF.out w' hS'
                    obtain ⟨u0, u1, u2, u3, u4, u5⟩ := HF2.out w' hS'
                    go_simp
                    try with_reducible rfl
                    done
                  simp only [Act.put, qSa, qSb, qSc]
                  refine hK _ ?_
                  clear hK K
                  refine wpTake_step (fun K hK => ?_)
                  rw [if_pos (by rfl)]
                  refine ⟨?_, fun w' hS' => ?_, ?_⟩
                  rotate_left 1
                  focus
                    obtain ⟨s0, s1, s2, s3, s4, s5, s6, s7, s8, s9⟩ := HF.out w' hS'
                    obtain ⟨u0, u1, u2, u3, u4, u5⟩ := HF2.out w' hS'
                    go_simp
                    try with_reducible rfl
                    done
                  simp only [Act.put, qSa, qSb, qSc]
                  refine hK _ ?_
                  clear hK K
                  refine wpTake_step (fun K hK => ?_)
                  rw [if_pos (by rfl)]
                  refine ⟨?_, fun w' hS' => ?_, ?_⟩
                  rotate_left 1
                  focus
                    obtain ⟨s0, s1, s2, s3, s4, s5, s6, s7, s8, s9⟩ := HF.out w' hS'
                    obtain ⟨u0, u1, u2, u3, u4, u5⟩ := HF2.out w' hS'
                    go_simp
                    try with_reducible rfl
                    done
                  simp only [Act.put, qSa, qSb, qSc]
                  refine hK _ ?_
                  clear hK K
                  refine wpTake_step (fun K hK => ?_)
                  rw [if_pos (by rfl)]
                  refine ⟨?_, fun w' hS' => ?_, ?_⟩
                  rotate_left 1
                  focus
                    obtain ⟨s0, s1, s2, s3, s4, s5, s6, s7, s8, s9⟩ := HF.out w' hS'
                    obtain ⟨u0, u1, u2, u3, u4, u5⟩ := HF2.out w' hS'
                    go_simp
                    try with_reducible rfl
                    done
                  simp only [Act.put, qSa, qSb, qSc]
                  refine hK _ ?_
                  clear hK K
                  refine wpTake_step (fun K hK => ?_)
                  rw [if_pos (by rfl)]
                  refine ⟨?_, fun w' hS' => ?_, ?_⟩
                  rotate_left 1
                  focus
                    obtain ⟨s0, s1, s2, s3, s4, s5, s6, s7, s8, s9⟩ := HF.out w' hS'
                    obtain ⟨u0, u1, u2, u3, u4, u5⟩ := HF2.out w' hS'
                    go_simp
                    try with_reducible rfl
                    done
                  simp only [Act.put, qSa, qSb, qSc]
                  refine hK _ ?_
                  clear hK K
                  refine wpTake_step (fun K hK => ?_)
                  rw [if_pos (by rfl)]
                  refine ⟨?_, fun w' hS' => ?_, ?_⟩
                  rotate_left 1
                  focus
                    obtain ⟨s0, s1, s2, s3, s4, s5, s6, s7, s8, s9⟩ := HF.out w' hS'
                    obtain ⟨u0, u1, u2, u3, u4, u5⟩ := HF2.out w' hS'
                    go_simp
                    try with_reducible rfl
                    done
                  simp only [Act.put, qSa, qSb, qSc]
                  refine hK _ ?_
                  clear hK K
                  refine wpTake_step (fun K hK => ?_)
                  rw [if_pos (by rfl)]
                  refine ⟨?_, fun w' hS' => ?_, ?_⟩
                  rotate_left 1
                  focus
                    obtain ⟨s0, s1, s2, s3, s4, s5, s6, s7, s8, s9⟩ := HF.out w' hS'
                    obtain ⟨u0, u1, u2, u3, u4, u5⟩ := HF2.out w' hS'
                    go_simp
                    try with_reducible rfl
                    done
                  simp only [Act.put, qSa, qSb, qSc]
                  refine hK _ ?_
                  clear hK K
                  refine wpTake_step (fun K hK => ?_)
                  rw [if_pos (by rfl)]
                  refine ⟨?_, fun w' hS' => ?_, ?_⟩
                  rotate_left 1
                  focus
                    obtain ⟨s0, s1, s2, s3, s4, s5, s6, s7, s8, s9⟩ := HF.out w' hS'
                    obtain ⟨u0, u1, u2, u3, u4, u5⟩ := HF2.out w' hS'
                    go_simp
                    try with_reducible rfl
                    done
                  simp only [Act.put, qSa, qSb, qSc]
                  refine hK _ ?_
                  clear hK K
                  refine wpTake_step (fun K hK => ?_)
                  rw [if_pos (by rfl)]
                  refine ⟨?_, fun w' hS' => ?_, ?_⟩
                  rotate_left 1
                  focus
                    obtain ⟨s0, s1, s2, s3, s4, s5, s6, s7, s8, s9⟩ := HF.out w' hS'
                    obtain ⟨u0, u1, u2, u3, u4, u5⟩ := HF2.out w' hS'
                    go_simp
                    try with_reducible rfl
                    done
                  simp only [Act.put, qSa, qSb, qSc]
                  refine hK _ ?_
                  clear hK K
                  refine wpTake_nil ?_
                  refine wpAnyS_ready (rs := [56]) (by kernel_rfl) (by simp) ?_
                  refine AllReadyS.o (fun K hK => ?_)
                  rw [if_pos (by rfl)]
                  go_simp
                  go_at_call 24
                  refine (HI1.out _ E6).mono ?_
                  rintro e y7 ⟨rfl, kk, hq⟩
                  dsimp only
                  have E7 : Chg [] w11 y7 := E6.trans (by rw [hq]; exact (Chg.refl [] _).drewN kk)
                  clear hq
                  refine hK _ _ (E7) ?_
                  clear hK K
                  try simp only [Act.put, qSa, qSb, qSc]
                  as_aux_lemma =>
                    refine wpAnyS_more (fuel := 21) [57, 58, 59, 60, 61, 62, 63, 64, 65, 66, 67, 68, 69, 70, 71, 72] (by kernel_rfl) (fun _ _ _ _ _ h => h) E7 ?_
                    simp only [List.filterMap_cons, List.filterMap_nil, qGa, qGb]
                    refine wpTake_step (fun K hK => ?_)
                    rw [if_pos (by rfl)]
                    refine ⟨?_, fun w' hS' => ?_, ?_⟩
                    rotate_left 1
                    focus
                      obtain ⟨s0, s1, s2, s3, s4, s5, s6, s7, s8, s9⟩ := HF.out w' hS'
                      obtain ⟨u0, u1, u2, u3, u4, u5⟩ := HF2.out w' hS'
                      go_simp
                      try with_reducible rfl
                      done
                    simp only [Act.put, qSa, qSb, qSc]
                    refine hK _ ?_
                    clear hK K
                    refine wpTake_step (fun K hK => ?_)
                    rw [if_pos (by rfl)]
                    refine ⟨?_, fun w' hS' => ?_, ?_⟩
                    rotate_left 1
                    focus
                      obtain ⟨s0, s1, s2, s3, s4, s5, s6, s7, s8, s9⟩ := HF.out w' hS'
                      obtain ⟨u0, u1, u2, u3, u4, u5⟩ := HF2.out w' hS'
                      go_simp
                      try with_reducible rfl
                      done
                    simp only [Act.put, qSa, qSb, qSc]
                    refine hK _ ?_
                    clear hK K
                    refine wpTake_step (fun K hK => ?_)
                    rw [if_pos (by rfl)]
                    refine ⟨?_, fun w' hS' => ?_, ?_⟩
                    rotate_left 1
                    focus
                      obtain ⟨s0, s1, s2, s3, s4, s5, s6, s7, s8, s9⟩ := HF.out w' hS'
                      obtain ⟨u0, u1, u2, u3, u4, u5⟩ := HF2.out w' hS'
                      go_simp
                      try with_reducible rfl
                      done
                    simp only [Act.put, qSa, qSb, qSc]
                    refine hK _ ?_
                    clear hK K
                    refine wpTake_step (fun K hK => ?_)
                    rw [if_pos (by rfl)]
                    refine ⟨?_, fun w' hS' => ?_, ?_⟩
                    rotate_left 1
                    focus
                      obtain ⟨s0, s1, s2, s3, s4, s5, s6, s7, s8, s9⟩ := HF.out w' hS'
                      obtain ⟨u0, u1, u2, u3, u4, u5⟩ := HF2.out w' hS'
                      go_simp
                      try with_reducible rfl
                      done
                    simp only [Act.put, qSa, qSb, qSc]
                    refine hK _ ?_
                    clear hK K
                    refine wpTake_step (fun K hK => ?_)
                    rw [if_pos (by rfl)]
                    refine ⟨?_, fun w' hS' => ?_, ?_⟩
                    rotate_left 1
                    focus
                      obtain ⟨s0, s1, s2, s3, s4, s5, s6, s7, s8, s9⟩ := HF.out w' hS'
                      obtain ⟨u0, u1, u2, u3, u4, u5⟩ := HF2.out w' hS'
                      go_simp
                      try with_reducible rfl
                      done
                    simp only [Act.put, qSa, qSb, qSc]
                    refine hK _ ?_
                    clear hK K
                    refine wpTake_step (fun K hK => ?_)
                    rw [if_pos (by rfl)]
                    refine ⟨?_, fun w' hS' => ?_, ?_⟩
                    rotate_left 1
                    focus
                      obtain ⟨s0, s1, s2, s3, s4, s5, s6, s7, s8, s9⟩ := HF.out w' hS'
                      obtain ⟨u0, u1, u2, u3, u4, u5⟩ := HF2.out w' hS'
                      go_simp
                      try with_reducible rfl
                      done
                    simp only [Act.put, qSa, qSb, qSc]
                    refine hK _ ?_
                    clear hK K
                    refine wpTake_step (fun K hK => ?_)
                    rw [if_pos (by rfl)]
                    refine ⟨?_, fun w' hS' => ?_, ?_⟩
                    rotate_left 1
                    focus
                      obtain ⟨s0, s1, s2, s3, s4, s5, s6, s7, s8, s9⟩ := HF.out w' hS'
                      obtain ⟨u0, u1, u2, u3, u4, u5⟩ := HF2.out w' hS'
                      go_simp
                      try with_reducible rfl
                      done
                    simp only [Act.put, qSa, qSb, qSc]
                    refine hK _ ?_
                    clear hK K
                    refine wpTake_step (fun K hK => ?_)
                    rw [if_pos (by rfl)]
                    refine ⟨?_, fun w' hS' => ?_, ?_⟩
                    rotate_left 1
                    focus
                      obtain ⟨s0, s1, s2, s3, s4, s5, s6, s7, s8, s9⟩ := HF.out w' hS'
                      obtain ⟨u0, u1, u2, u3, u4, u5⟩ := HF2.out w' hS'
                      go_simp
                      try with_reducible rfl
                      done
                    simp only [Act.put, qSa, qSb, qSc]
                    refine hK _ ?_
                    clear hK K
                    refine wpTake_step (fun K hK => ?_)
                    rw [if_pos (by rfl)]
                    refine ⟨?_, fun w' hS' => ?_, ?_⟩
                    rotate_left 1
                    focus
                      obtain ⟨s0, s1, s2, s3, s4, s5, s6, s7, s8, s9⟩ := HF.out w' hS'
                      obtain ⟨u0, u1, u2, u3, u4, u5⟩ := HF2.out w' hS'
                      go_simp
                      try with_reducible rfl
                      done
                    simp only [Act.put, qSa, qSb, qSc]
                    refine hK _ ?_
                    clear hK K
                    refine wpTake_step (fun K hK => ?_)
                    rw [if_pos (by rfl)]
                    refine ⟨?_, fun w' hS' => ?_, ?_⟩
                    rotate_left 1
                    focus
                      obtain ⟨s0, s1, s2, s3, s4, s5, s6, s7, s8, s9⟩ := HF.out w' hS'
                      obtain ⟨u0, u1, u2, u3, u4, u5⟩ := HF2.out w' hS'
                      go_simp
                      try with_reducible rfl
                      done
                    simp only [Act.put, qSa, qSb, qSc]
                    refine hK _ ?_
                    clear hK K
                    refine wpTake_step (fun K hK => ?_)
                    rw [if_pos (by rfl)]
                    refine ⟨?_, fun w' hS' => ?_, ?_⟩
                    rotate_left 1
                    focus
                      obtain ⟨s0, s1, s2, s3, s4, s5, s6, s7, s8, s9⟩ := HF.out w' hS'
                      obtain ⟨u0, u1, u2, u3, u4, u5⟩ := HF2.out w' hS'
                      go_simp
                      try with_reducible rfl
                      done
                    simp only [Act.put, qSa, qSb, qSc]
                    refine hK _ ?_
                    clear hK K
                    refine wpTake_step (fun K hK => ?_)
                    rw [if_pos (by rfl)]
                    refine ⟨?_, fun w' hS' => ?_, ?_⟩
                    rotate_left 1
                    focus
                      obtain ⟨s0, s1, s2, s3, s4, s5, s6, s7, s8, s9⟩ := HF.out w' hS'
                      obtain ⟨u0, u1, u2, u3, u4, u5⟩ := HF2.out w' hS'
                      go_simp
                      try with_reducible rfl
                      done
                    simp only [Act.put, qSa, qSb, qSc]
                    refine hK _ ?_
                    clear hK K
                    refine wpTake_step (fun K hK => ?_)
                    rw [if_pos (by rfl)]
                    refine ⟨?_, fun w' hS' => ?_, ?_⟩
                    rotate_left 1
                    focus
                      obtain ⟨s0, s1, s2, s3, s4, s5, s6, s7, s8, s9⟩ := HF.out w' hS'
                      obtain ⟨u0, u1, u2, u3, u4, u5⟩ := HF2.out w' hS'
                      go_simp
                      try with_reducible rfl
                      done
                    simp only [Act.put, qSa, qSb, qSc]
                    refine hK _ ?_
                    clear hK K
                    refine wpTake_step (fun K hK => ?_)
                    rw [if_pos (by rfl)]
                    refine ⟨?_, fun w' hS' => ?_, ?_⟩
                    rotate_left 1
                    focus
                      obtain ⟨s0, s1, s2, s3, s4, s5, s6, s7, s8, s9⟩ := HF.out w' hS'
                      obtain ⟨u0, u1, u2, u3, u4, u5⟩ := HF2.out w' hS'
                      go_simp
                      try with_reducible rfl
                      done
                    simp only [Act.put, qSa, qSb, qSc]
                    refine hK _ ?_
                    clear hK K
                    refine wpTake_step (fun K hK => ?_)
                    rw [if_pos (by rfl)]
                    refine ⟨?_, fun w' hS' => ?_, ?_⟩
                    rotate_left 1
                    focus
                      obtain ⟨s0, s1, s2, s3, s4, s5, s6, s7, s8, s9⟩ := HF.out w' hS'
                      obtain ⟨u0, u1, u2, u3, u4, u5⟩ := HF2.out w' hS'
                      go_simp
                      try with_reducible rfl
                      done
                    simp only [Act.put, qSa, qSb, qSc]
                    refine hK _ ?_
                    clear hK K
                    refine wpTake_step (fun K hK => ?_)
                    rw [if_pos (by rfl)]
                    refine ⟨?_, fun w' hS' => ?_, ?_⟩
                    rotate_left 1
                    focus
                      obtain ⟨s0, s1, s2, s3, s4, s5, s6, s7, s8, s9⟩ := HF.out w' hS'
                      obtain ⟨u0, u1, u2, u3, u4, u5⟩ := HF2.out w' hS'
                      go_simp
                      try with_reducible rfl
                      done
                    simp only [Act.put, qSa, qSb, qSc]
                    refine hK _ ?_
                    clear hK K
                    refine wpTake_nil ?_
                    refine wpAnyS_ready (rs := [73]) (by kernel_rfl) (by simp) ?_
                    refine AllReadyS.o (fun K hK => ?_)
                    rw [if_pos (by rfl)]
                    go_simp
                    go_at_call 24
                    refine (HI2.out _ E7).mono ?_
                    rintro e y8 ⟨rfl, kk, hq⟩
                    dsimp only
                    have E8 : Chg [] w11 y8 := E7.trans (by rw [hq]; exact (Chg.refl [] _).drewN kk)
                    clear hq
                    refine hK _ _ (E8) ?_
                    clear hK K
                    try simp only [Act.put, qSa, qSb, qSc]
                    as_aux_lemma =>
                      refine wpAnyS_more (fuel := 15) [74, 75, 76, 77, 78] (by kernel_rfl) (fun _ _ _ _ _ h => h) E8 ?_
                      simp only [List.filterMap_cons, List.filterMap_nil, qGa, qGb]
                      refine wpTake_step (fun K hK => ?_)
                      rw [if_pos (by rfl)]
                      refine ⟨?_, fun w' hS' => ?_, ?_⟩
                      rotate_left 1
                      focus
                        obtain ⟨s0, s1, s2, s3, s4, s5, s6, s7, s8, s9⟩ := HF.out w' hS'
                        obtain ⟨u0, u1, u2, u3, u4, u5⟩ := HF2.out w' hS'
                        go_simp
                        try with_reducible rfl
                        done
                      simp only [Act.put, qSa, qSb, qSc]
                      refine hK _ ?_
                      clear hK K
                      refine wpTake_step (fun K hK => ?_)
                      rw [if_pos (by rfl)]
                      refine ⟨?_, fun w' hS' => ?_, ?_⟩
                      rotate_left 1
                      focus
                        obtain ⟨s0, s1, s2, s3, s4, s5, s6, s7, s8, s9⟩ := HF.out w' hS'
                        obtain ⟨u0, u1, u2, u3, u4, u5⟩ := HF2.out w' hS'
                        go_simp
                        try with_reducible rfl
                        done
                      simp only [Act.put, qSa, qSb, qSc]
                      refine hK _ ?_
                      clear hK K
                      refine wpTake_step (fun K hK => ?_)
                      rw [if_pos (by rfl)]
                      refine ⟨?_, fun w' hS' => ?_, ?_⟩
                      rotate_left 1
                      focus
                        obtain ⟨s0, s1, s2, s3, s4, s5, s6, s7, s8, s9⟩ := HF.out w' hS'
                        obtain ⟨u0, u1, u2, u3, u4, u5⟩ := HF2.out w' hS'
                        go_simp
                        try with_reducible rfl
                        done
                      simp only [Act.put, qSa, qSb, qSc]
                      refine hK _ ?_
                      clear hK K
                      refine wpTake_step (fun K hK => ?_)
                      rw [if_pos (by rfl)]
                      refine ⟨?_, fun w' hS' => ?_, ?_⟩
                      rotate_left 1
                      focus
                        obtain ⟨s0, s1, s2, s3, s4, s5, s6, s7, s8, s9⟩ := HF.out w' hS'
                        obtain ⟨u0, u1, u2, u3, u4, u5⟩ := HF2.out w' hS'
                        go_simp
                        try with_reducible rfl
                        done
                      simp only [Act.put, qSa, qSb, qSc]
                      refine hK _ ?_
                      clear hK K
                      refine wpTake_step (fun K hK => ?_)
                      rw [if_pos (by rfl)]
                      refine ⟨?_, fun w' hS' => ?_, ?_⟩
                      rotate_left 1
                      focus
                        obtain ⟨s0, s1, s2, s3, s4, s5, s6, s7, s8, s9⟩ := HF.out w' hS'
                        obtain ⟨u0, u1, u2, u3, u4, u5⟩ := HF2.out w' hS'
                        go_simp
                        try with_reducible rfl
                        done
                      simp only [Act.put, qSa, qSb, qSc]
                      refine hK _ ?_
                      clear hK K
                      refine wpTake_nil ?_
                      refine wpAnyS_ready (rs := [79]) (by kernel_rfl) (by simp) ?_
                      refine AllReadyS.o (fun K hK => ?_)
                      rw [if_pos (by rfl)]
                      go_simp
                      go_at_call 25
                      refine (HAl.out _ E8).mono ?_
                      rintro e y9 ⟨v9, rfl, Ov, ck, hfv⟩
                      dsimp only
                      have E9 : Chg [] w11 y9 := E8.trans ck
                      obtain ⟨A9, c9, hv9⟩ := Ov.slice
                      subst hv9
                      refine hK _ _ (E9) ?_
                      clear hK K
                      try simp only [Act.put, qSa, qSb, qSc]
                      as_aux_lemma =>
                        refine wpAnyS_more (fuel := 5) [80, 81, 82, 83, 84, 86, 87, 88, 89] (by kernel_rfl) (fun _ _ _ _ _ h => h) E9 ?_
                        simp only [List.filterMap_cons, List.filterMap_nil, qGa, qGb]
                        refine wpTake_step (fun K hK => ?_)
                        rw [if_pos (by rfl)]
                        refine ⟨?_, fun w' hS' => ?_, ?_⟩
                        rotate_left 1
                        focus
                          obtain ⟨s0, s1, s2, s3, s4, s5, s6, s7, s8, s9⟩ := HF.out w' hS'
                          obtain ⟨u0, u1, u2, u3, u4, u5⟩ := HF2.out w' hS'
                          go_simp
                          try with_reducible rfl
                          done
                        simp only [Act.put, qSa, qSb, qSc]
                        refine hK _ ?_
                        clear hK K
                        refine wpTake_step (fun K hK => ?_)
                        rw [if_pos (by rfl)]
                        refine ⟨?_, fun w' hS' => ?_, ?_⟩
                        rotate_left 1
                        focus
                          obtain ⟨s0, s1, s2, s3, s4, s5, s6, s7, s8, s9⟩ := HF.out w' hS'
                          obtain ⟨u0, u1, u2, u3, u4, u5⟩ := HF2.out w' hS'
                          go_simp
                          try with_reducible rfl
                          done
                        simp only [Act.put, qSa, qSb, qSc]
                        refine hK _ ?_
                        clear hK K
                        refine wpTake_step (fun K hK => ?_)
                        rw [if_pos (by rfl)]
                        refine ⟨?_, fun w' hS' => ?_, ?_⟩
                        rotate_left 1
                        focus
                          obtain ⟨s0, s1, s2, s3, s4, s5, s6, s7, s8, s9⟩ := HF.out w' hS'
                          obtain ⟨u0, u1, u2, u3, u4, u5⟩ := HF2.out w' hS'
                          go_simp
                          try with_reducible rfl
                          done
                        simp only [Act.put, qSa, qSb, qSc]
                        refine hK _ ?_
                        clear hK K
                        refine wpTake_step (fun K hK => ?_)
                        rw [if_pos (by rfl)]
                        refine ⟨?_, fun w' hS' => ?_, ?_⟩
                        rotate_left 1
                        focus
                          obtain ⟨s0, s1, s2, s3, s4, s5, s6, s7, s8, s9⟩ := HF.out w' hS'
                          obtain ⟨u0, u1, u2, u3, u4, u5⟩ := HF2.out w' hS'
                          go_simp
                          try with_reducible rfl
                          done
                        simp only [Act.put, qSa, qSb, qSc]
                        refine hK _ ?_
                        clear hK K
                        refine wpTake_step (fun K hK => ?_)
                        rw [if_pos (by rfl)]
                        refine ⟨?_, fun w' hS' => ?_, ?_⟩
                        rotate_left 1
                        focus
                          obtain ⟨s0, s1, s2, s3, s4, s5, s6, s7, s8, s9⟩ := HF.out w' hS'
                          obtain ⟨u0, u1, u2, u3, u4, u5⟩ := HF2.out w' hS'
                          go_simp
                          try with_reducible rfl
                          done
                        simp only [Act.put, qSa, qSb, qSc]
                        refine hK _ ?_
                        clear hK K
                        refine wpTake_step (fun K hK => ?_)
                        rw [if_pos (by rfl)]
                        refine ⟨?_, fun w' hS' => ?_, ?_⟩
                        rotate_left 1
                        focus
                          obtain ⟨s0, s1, s2, s3, s4, s5, s6, s7, s8, s9⟩ := HF.out w' hS'
                          obtain ⟨u0, u1, u2, u3, u4, u5⟩ := HF2.out w' hS'
                          go_simp
                          try with_reducible rfl
                          done
                        simp only [Act.put, qSa, qSb, qSc]
                        refine hK _ ?_
                        clear hK K
                        refine wpTake_step (fun K hK => ?_)
                        rw [if_pos (by rfl)]
                        refine ⟨?_, fun w' hS' => ?_, ?_⟩
                        rotate_left 1
                        focus
                          obtain ⟨s0, s1, s2, s3, s4, s5, s6, s7, s8, s9⟩ := HF.out w' hS'
                          obtain ⟨u0, u1, u2, u3, u4, u5⟩ := HF2.out w' hS'
                          go_simp
                          try with_reducible rfl
                          done
                        simp only [Act.put, qSa, qSb, qSc]
                        refine hK _ ?_
                        clear hK K
                        refine wpTake_step (fun K hK => ?_)
                        rw [if_pos (by rfl)]
                        refine ⟨?_, fun w' hS' => ?_, ?_⟩
                        rotate_left 1
                        focus
                          obtain ⟨s0, s1, s2, s3, s4, s5, s6, s7, s8, s9⟩ := HF.out w' hS'
                          obtain ⟨u0, u1, u2, u3, u4, u5⟩ := HF2.out w' hS'
                          go_simp
                          try with_reducible rfl
                          done
                        simp only [Act.put, qSa, qSb, qSc]
                        refine hK _ ?_
                        clear hK K
                        refine wpTake_step (fun K hK => ?_)
                        rw [if_pos (by rfl)]
                        refine ⟨?_, fun w' hS' => ?_, ?_⟩
                        rotate_left 1
                        focus
                          obtain ⟨s0, s1, s2, s3, s4, s5, s6, s7, s8, s9⟩ := HF.out w' hS'
                          obtain ⟨u0, u1, u2, u3, u4, u5⟩ := HF2.out w' hS'
                          go_simp
                          try with_reducible rfl
                          done
                        simp only [Act.put, qSa, qSb, qSc]
                        refine hK _ ?_
                        clear hK K
                        refine wpTake_nil ?_
                        refine wpAnyS_ready (rs := [85]) (by kernel_rfl) (by simp) ?_
                        refine AllReadyS.o (fun K hK => ?_)
                        rw [if_pos (by rfl)]
                        go_simp
                        go_at_call 26
                        refine (HGo.out _ E9).mono ?_
                        rintro e y10 ⟨rfl, ck⟩
                        dsimp only
                        have E10 : Chg [] w11 y10 := E9.trans ck
                        refine hK _ _ (E10) ?_
                        clear hK K
                        try simp only [Act.put, qSa, qSb, qSc]
                        refine wpAnyS_ready (rs := [90]) (by kernel_rfl) (by simp) ?_
                        refine AllReadyS.o (fun K hK => ?_)
                        rw [if_pos (by rfl)]
                        go_simp
                        go_at_call 27
                        refine (HRg.out _).mono ?_
                        rintro e y11 ⟨t2, g2, r2, rfl, hgl2, ck⟩
                        dsimp only
                        have E11 : Chg [] w11 y11 := E10.trans ck
                        obtain ⟨rfl, rfl, rfl⟩ := HGl.out _ _ _ hgl2
                        refine hK _ _ (E11) ?_
                        clear hK K
                        try simp only [Act.put, qSa, qSb, qSc]
                        as_aux_lemma =>
                          refine wpAnyS_more (fuel := 1) [91, 92] (by kernel_rfl) (fun _ _ _ _ _ h => h) E11 ?_
                          simp only [List.filterMap_cons, List.filterMap_nil, qGa, qGb]
                          refine wpTake_step (fun K hK => ?_)
                          rw [if_pos (by rfl)]
                          refine ⟨?_, fun w' hS' => ?_, ?_⟩
                          rotate_left 1
                          focus
                            obtain ⟨s0, s1, s2, s3, s4, s5, s6, s7, s8, s9⟩ := HF.out w' hS'
                            obtain ⟨u0, u1, u2, u3, u4, u5⟩ := HF2.out w' hS'
                            go_simp
                            try with_reducible rfl
                            done
                          simp only [Act.put, qSa, qSb, qSc]
                          refine hK _ ?_
                          clear hK K
                          refine wpTake_step (fun K hK => ?_)
                          rw [if_pos (by rfl)]
                          refine ⟨?_, fun w' hS' => ?_, ?_⟩
                          rotate_left 1
                          focus
                            obtain ⟨s0, s1, s2, s3, s4, s5, s6, s7, s8, s9⟩ := HF.out w' hS'
                            obtain ⟨u0, u1, u2, u3, u4, u5⟩ := HF2.out w' hS'
                            go_simp
                            try with_reducible rfl
                            done
                          simp only [Act.put, qSa, qSb, qSc]
                          refine hK _ ?_
                          clear hK K
                          refine wpTake_nil ?_
                          refine wpAnyS_tail 93 1 (by kernel_rfl) rfl ?_
                          simp only [qDa, qDb]
                          go_wp2_with fail
                          go_ret
                          exact ⟨by simp, H3.out.2.1.trans (H7.out.1.trans (HC11.out.trans E11))⟩
end Go.Proofs.YtcpljjacamibeaaGreatDoor
