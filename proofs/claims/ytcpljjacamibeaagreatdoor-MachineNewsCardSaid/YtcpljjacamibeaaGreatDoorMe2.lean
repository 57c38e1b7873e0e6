/- Package machine: New. -/
import Derived.Test.YtcpljjacamibeaaGreatDoorMf5J
namespace Go.Proofs.YtcpljjacamibeaaGreatDoor
set_option maxHeartbeats 16000000
set_option maxRecDepth 100000
open Go.RowKit Go.Maps
def nmC (v : Nat → Value) : Array Value := ((List.range 28).map v).toArray
theorem nmC_at (v : Nat → Value) {i : Nat} (h : i < 28) : (nmC v)[i]? = some (v i) := by unfold nmC; simp [h]
theorem nmC_set (v : Nat → Value) {i : Nat} (h : i < 28) (x : Value) : (nmC v).setIfInBounds i x = nmC (updV v i x) := by
  apply Array.ext_getElem?
  intro k
  rw [Array.getElem?_setIfInBounds]
  by_cases e : i = k
  · subst e
    rw [if_pos rfl, nmC_at _ h, updV_same, if_pos (by unfold nmC; simpa using h)]
  · rw [if_neg e]
    by_cases hk : k < 28
    · rw [nmC_at _ hk, nmC_at _ hk, updV_other _ _ (Ne.symm e)]
    · rw [Array.getElem?_eq_none (by unfold nmC; simp; omega), Array.getElem?_eq_none (by unfold nmC; simp; omega)]
def nm0 (G : Nat) (vfn : Value) (wo part : Int) (vgl : Value) (i : Nat) : Value :=
  match i with
  | 0 => .int .i64 (G : Nat)
  | 1 => vfn
  | 2 => .int .i64 wo
  | 3 => .int .i64 0
  | 4 => .bool false
  | 5 => .int .i64 part
  | 8 => .slice none 0 0
  | 9 => .slice none 0 0
  | 13 => vgl
  | 14 => .int .i64 0
  | 19 => .int .i64 0
  | 20 => .int .i64 0
  | 21 => .int .i64 0
  | 22 => .int .i64 0
  | 23 => .slice none 0 0
  | 24 => .slice none 0 0
  | 25 => .slice none 0 0
  | 26 => .int .i64 0
  | 27 => .bool false
  | _ => .pointer none
theorem wE_to {S : List Nat} {a b : World} (c : Chg S a b) : Chg [] (wE a) b := ⟨c.os, c.tape, c.output, Nat.zero_le _, fun k hk => absurd hk (Nat.not_lt_zero _)⟩
structure NbK (w6 w : World) (gc gm P wo b1 b2 : Nat) (v : Nat → Value) : Prop where
  Bc : Blk w gc 24 #[.int .i64 (P : Nat), .int .i64 (wo : Nat), .float .f64 b1, .float .f64 b2]
  Bm : Blk w gm 109 (nmC v)
  c : Chg [gm] w6 w
section
variable {w6 w w' : World} {gc gm P wo b1 b2 : Nat} {v : Nat → Value}
theorem NbK.chg0 (K : NbK w6 w gc gm P wo b1 b2 v) (c : Chg [] w w') : NbK w6 w' gc gm P wo b1 b2 v := ⟨c.blk K.Bc (by simp), c.blk K.Bm (by simp), K.c.trans (c.mono (by simp))⟩
theorem NbK.set (K : NbK w6 w gc gm P wo b1 b2 v) (i : Nat) (x : Value) (h : i < 28) : NbK w6 (w.setCell ⟨gm, i, none⟩ x) gc gm P wo b1 b2 (updV v i x) :=
  have c1 : Chg [gm] w (w.setCell ⟨gm, i, none⟩ x) := (Chg.refl _ w).setCell (.inl (by simp)) _
  ⟨c1.blk K.Bc (by simpa using K.Bc.ne_ K.Bm (by decide)), K.Bm.setv i x (nmC_set v h x), K.c.trans c1⟩
theorem NbK.at_ (K : NbK w6 w gc gm P wo b1 b2 v) (i : Nat) (h : i < 28) : w.cell? ⟨gm, i, none⟩ = some (v i) := K.Bm.cellv i (nmC_at v h)
end
theorem tyPr : SlV Tryz.prog 99 124 (.pointer none) 8 := ⟨Tryz.underlying99, by kernel_rfl, rfl, by decide⟩
def pr0 : PrcA := ⟨-1, 0, 0, false, 0, 0, 0⟩
theorem updV_selfM {α : Type} {f : Nat → α} {i : Nat} {x : α} (h : f i = x) : updV f i x = f := by
  funext k; unfold updV
  by_cases e : k = i
  · rw [if_pos e, e, h]
  · rw [if_neg e]
structure NlR (wL w : World) (gc gm P wo b1 b2 : Nat) (v : Nat → Value) (i : Nat) (vps : Value) (bp bn : Nat → Nat) : Prop where
  Bc : Blk w gc 24 #[.int .i64 (P : Nat), .int .i64 (wo : Nat), .float .f64 b1, .float .f64 b2]
  Bm : Blk w gm 109 (nmC (updV v 9 vps))
  o : OwnV 124 w vps (ptrs bp i)
  nv : ∀ k ∈ fpv vps, wL.heap.size ≤ k
  pr : ∀ q, q < i → Blk w (bp q) 128 (prcC pr0 (.pointer none) (bn q)) ∧ wL.heap.size ≤ bp q
  br : ∀ q, q < i → Blk w (bn q) 205 brC ∧ wL.heap.size ≤ bn q
  d1 : ∀ q r, q < i → r < i → q ≠ r → bp q ≠ bp r
  d2 : ∀ q r, q < i → r < i → q ≠ r → bn q ≠ bn r
  c : Chg [gm] wL w
  gl : gm < wL.heap.size
  cl : gc < wL.heap.size
theorem NlR.more {wL w w2 w3 : World} {gc gm P wo b1 b2 : Nat} {v : Nat → Value} {i : Nat} {vps vps' : Value} {bp bn : Nat → Nat} {gb gq : Nat} (L : NlR wL w gc gm P wo b1 b2 v i vps bp bn) (c2 : Chg [] w w2)
    (Bq : Blk w2 gq 128 (prcC pr0 (.pointer none) gb)) (hq : w.heap.size ≤ gq) (Bb : Blk w2 gb 205 brC) (hb : w.heap.size ≤ gb) (O : OwnV 124 w3 vps' (ptrs bp i ++ [.pointer (some ⟨gq, 0, none⟩)])) (s : Stp (fpv vps) (fpv vps') w2 w3) :
    NlR wL (w3.setCell ⟨gm, 9, none⟩ vps') gc gm P wo b1 b2 v (i + 1) vps' (updV bp i gq) (updV bn i gb) := by
  have hsz : wL.heap.size ≤ w.heap.size := L.c.size
  have ng : gm ∉ fpv vps := fun hm => by have := L.nv gm hm; have := L.gl; omega
  have nc : gc ∉ fpv vps := fun hm => by have := L.nv gc hm; have := L.cl; omega
  have nq : ∀ {j : Nat} {cs : Array Value}, Blk w2 j 128 cs → j ∉ fpv vps := fun B hm => own_ne (L.o.chg0 c2).o B (by decide) (mem_fpv.1 hm)
  have nb : ∀ {j : Nat} {cs : Array Value}, Blk w2 j 205 cs → j ∉ fpv vps := fun B hm => own_ne (L.o.chg0 c2).o B (by decide) (mem_fpv.1 hm)
  have Bm3 := s.c.blk (c2.blk L.Bm (by simp)) ng
  have Bc3 := s.c.blk (c2.blk L.Bc (by simp)) nc
  have c3 : Chg [gm] w3 (w3.setCell ⟨gm, 9, none⟩ vps') := (Chg.refl [gm] w3).setCell (.inl (by simp)) _
  have ng' : gm ∉ fpv vps' := fun hm => own_ne O.o Bm3 (by decide) (mem_fpv.1 hm)
  have up1 : ∀ {j : Nat} {cs : Array Value}, Blk w2 j 128 cs → Blk (w3.setCell ⟨gm, 9, none⟩ vps') j 128 cs := fun B => c3.blk (s.c.blk B (nq B)) (by simpa using (s.c.blk B (nq B)).ne_ Bm3 (by decide))
  have up2 : ∀ {j : Nat} {cs : Array Value}, Blk w2 j 205 cs → Blk (w3.setCell ⟨gm, 9, none⟩ vps') j 205 cs := fun B => c3.blk (s.c.blk B (nb B)) (by simpa using (s.c.blk B (nb B)).ne_ Bm3 (by decide))
  refine ⟨c3.blk Bc3 (by simpa using Bc3.ne_ Bm3 (by decide)), ?_, ?_, fun k hk => ?_, fun q hq' => ?_, fun q hq' => ?_, fun q r h1 h2 hne => ?_, fun q r h1 h2 hne => ?_, ?_, L.gl, L.cl⟩
  · have h := Bm3.setv 9 vps' (nmC_set (updV v 9 vps) (by decide) vps')
    rw [updV_updV] at h
    exact h
  · rw [ptrs_succ, updV_same, ptrs_congr (b := updV bp i gq) (b' := bp) (fun j hj => updV_other _ _ (by omega))]
    exact O.chg c3 (fun k hk hm => ng' (by have e : k = gm := (by simpa using hm); rw [← e]; exact hk))
  · rcases s.f k hk with h | h
    · exact L.nv k h
    · have := c2.size; omega
  · by_cases e : q = i
    · subst e; rw [updV_same, updV_same]; exact ⟨up1 Bq, by omega⟩
    · rw [updV_other _ _ e, updV_other _ _ e]
      exact ⟨up1 (c2.blk (L.pr q (by omega)).1 (by simp)), (L.pr q (by omega)).2⟩
  · by_cases e : q = i
    · subst e; rw [updV_same]; exact ⟨up2 Bb, by omega⟩
    · rw [updV_other _ _ e]
      exact ⟨up2 (c2.blk (L.br q (by omega)).1 (by simp)), (L.br q (by omega)).2⟩
  · have old : ∀ q, q < i → bp q < w.heap.size := fun q h => (L.pr q h).1.lt
    by_cases e1 : q = i
    · have e2 : r ≠ i := fun e => hne (by omega)
      subst e1; rw [updV_same, updV_other _ _ e2]
      have := old r (by omega); omega
    · rw [updV_other _ _ e1]
      by_cases e2 : r = i
      · subst e2; rw [updV_same]; have := old q (by omega); omega
      · rw [updV_other _ _ e2]; exact L.d1 q r (by omega) (by omega) hne
  · have old : ∀ q, q < i → bn q < w.heap.size := fun q h => (L.br q h).1.lt
    by_cases e1 : q = i
    · have e2 : r ≠ i := fun e => hne (by omega)
      subst e1; rw [updV_same, updV_other _ _ e2]
      have := old r (by omega); omega
    · rw [updV_other _ _ e1]
      by_cases e2 : r = i
      · subst e2; rw [updV_same]; have := old q (by omega); omega
      · rw [updV_other _ _ e2]; exact L.d2 q r (by omega) (by omega) hne
  · exact ⟨c3.os.trans (s.c.os.trans (c2.os.trans L.c.os)), c3.tape.trans (s.c.tape.trans (c2.tape.trans L.c.tape)), c3.output.trans (s.c.output.trans (c2.output.trans L.c.output)), Nat.le_trans hsz (Nat.le_trans c2.size (Nat.le_trans s.c.size c3.size)),
      fun k hk hn => (c3.block k (Nat.lt_of_lt_of_le hk (Nat.le_trans hsz (Nat.le_trans c2.size s.c.size))) hn).trans ((s.c.block k (Nat.lt_of_lt_of_le hk (Nat.le_trans hsz c2.size)) (fun hm => by have := L.nv k hm; omega)).trans ((c2.block k (Nat.lt_of_lt_of_le hk hsz) (by simp)).trans (L.c.block k hk hn)))⟩
def NlRel (wL : World) (gc gm P wo b1 b2 : Nat) (v : Nat → Value) (gk : Nat) (idx : Value) (w : World) : Prop :=
  ∃ (i : Nat) (vps : Value) (bp bn : Nat → Nat), gk + i = P + 1 ∧ i ≤ P ∧ idx = .int .i64 (i : Nat) ∧ NlR wL w gc gm P wo b1 b2 v i vps bp bn
def MnPost (P n G wo b1 : Nat) (fs : List (List Ins)) (w : World) (e : Ending) (w' : World) : Prop :=
  ∃ p pct on part t g r, e = .returned (.tuple #[.pointer (some ⟨p.gm, 0, none⟩), .int .i64 0, .int .i64 0]) ∧ (on = onB b1 ∧ GlIs wo on t g r ∧ p.N ≤ 1000 ∧ p.b ≤ 1000) ∧ p.vq = .slice none 0 0 ∧ p.vtm = .slice none 0 0 ∧ p.vfr = .slice none 0 0 ∧ p.vco = .slice none 0 0 ∧
    MM ⟨w, []⟩ w' p (spawnA { mk0m G fs (wo : Nat) pct on part n P with gT := t, gG := g, gR := r } 0 0 0)
theorem m_new (w : World) (P n G wo : Nat) (b1 b2 : Nat) (vb : Value) (bs : List Nat) (fs : List (List Ins)) (hP1 : 1 ≤ P) (hP : P ≤ 64) (hn : 4 ≤ n) (hn2 : n ≤ 262144) (R : RdV w w.heap.size vb (u8s bs)) (hl : bs.length ≤ 100000) (hb : ∀ x ∈ bs, x < 256) (hd : decP bs = .ok (G, fs)) (hG : G ≤ 1000) (hwo : wo = n * 64) :
    Calls Tryz.prog 16 #[.agg #[.int .i64 (P : Nat), .int .i64 (wo : Nat), .float .f64 b1, .float .f64 b2], vb] w (MnPost P n G wo b1 fs w) := by
  have hmk := fun W => run_make_z (P := Tryz.prog) 37 3 (.int .i64 0) 8 Tryz.underlying37 (by kernel_rfl) rfl .i64 .i64 G (by omega) (by omega) W
  have HR := Lib.hid R; clear R
  have KM := fun w' => cf_may w' P wo b1 b2 hP1 hP (by omega) (by omega) (by omega)
  have HKM := Lib.hid KM; clear KM
  have Hwo := Lib.hid hwo; clear hwo
  go_enter Tryz.func16, Tryz.ntmps16
  obtain ⟨gc, hgc⟩ : ∃ gc, gc = w.heap.size := ⟨_, rfl⟩
  obtain ⟨w1, hw1⟩ : ∃ w1, w1 = w.alloc (.cells #[.int .i64 (P : Nat), .int .i64 (wo : Nat), .float .f64 b1, .float .f64 b2] 24) := ⟨_, rfl⟩
  have B1 : Blk w1 gc 24 #[.int .i64 (P : Nat), .int .i64 (wo : Nat), .float .f64 b1, .float .f64 b2] := by rw [hw1, hgc]; exact Blk.new _ _ _
  have c01 : Chg [] w w1 := by rw [hw1]; exact (Chg.refl [] w).alloc _
  go_upto_region 1 with fail
  rw [← hw1, ← hgc]
  have q0 : w1.cell? ⟨gc, 0, none⟩ = some (.int .i64 (P : Nat)) := B1.cellv 0 rfl
  have q1 : w1.cell? ⟨gc, 1, none⟩ = some (.int .i64 (wo : Nat)) := B1.cellv 1 rfl
  have q2 : w1.cell? ⟨gc, 2, none⟩ = some (.float .f64 b1) := B1.cellv 2 rfl
  have q3 : w1.cell? ⟨gc, 3, none⟩ = some (.float .f64 b2) := B1.cellv 3 rfl
  have H1 := Lib.hid (And.intro B1 (And.intro c01 hgc)); clear B1 c01 hw1 hgc
  go_wp2_with fail
  refine (HKM.out w1).mono ?_
  rintro e w2 ⟨rfl, c12⟩
  have c02 := H1.out.2.1.trans c12
  have hsz2 := Lib.hid c02.size
  have R2 : RdV w2 w2.heap.size vb (u8s bs) := (HR.out.chg c02 (Nat.le_refl _) (by simp)).mono c02.size
  have B2 := c12.blk H1.out.1 (by simp)
  have H2 := Lib.hid (And.intro R2 (And.intro B2 c02)); clear R2 B2 c02 c12 q0 q1 q2 q3
  go_wp2_with fail
  refine (cd_decode w2 vb bs H2.out.1 hl hb).mono ?_
  rintro e w3 (⟨G', fs', vfn, vf, hd', rfl, If, nf, c23⟩ | ⟨k, hd', rfl, c23⟩)
  · have ee : G = G' ∧ fs = fs' := by rw [hd] at hd'; injection hd' with hd'; injection hd' with h1 h2; exact ⟨h1, h2⟩
    obtain ⟨rfl, rfl⟩ := ee
    obtain ⟨Af, cf, hvf⟩ := If.o.slice
    rw [show ((List.range fs.length).map vf).length = fs.length by simp] at hvf
    subst hvf
    obtain ⟨gp, hgp⟩ : ∃ g, g = w3.heap.size := ⟨_, rfl⟩
    obtain ⟨w4, hw4⟩ : ∃ w4, w4 = w3.alloc (.cells #[.int .i64 (G : Nat), .slice Af fs.length cf] 30) := ⟨_, rfl⟩
    have B4 : Blk w4 gp 30 #[.int .i64 (G : Nat), .slice Af fs.length cf] := by rw [hw4, hgp]; exact Blk.new _ _ _
    have c34 : Chg [] w3 w4 := by rw [hw4]; exact (Chg.refl [] w3).alloc _
    go_upto_region 6 with fail
    rw [← hw4, ← hgp]
    have Bc := (c23.trans c34).blk H2.out.2.1 (by simp)
    have c04 := H2.out.2.2.trans (c23.trans c34)
    have I4 : IsFn w4 (.slice Af fs.length cf) vf fs := ⟨If.o.chg0 c34, fun i l h => (If.f i l h).chg0 c34⟩
    have n4 : ∀ k, FnF (.slice Af fs.length cf) vf fs.length k → w2.heap.size ≤ k ∧ k < w3.heap.size := fun k hk => ⟨nf k hk, by
      rcases hk with h | ⟨i, hi, h⟩
      · exact If.o.lt h
      · exact (If.f i fs[i] (List.getElem?_eq_getElem hi)).lt h⟩
    have q0 : w4.cell? ⟨gc, 0, none⟩ = some (.int .i64 (P : Nat)) := Bc.cellv 0 rfl
    have q1 : w4.cell? ⟨gc, 1, none⟩ = some (.int .i64 (wo : Nat)) := Bc.cellv 1 rfl
    have q2 : w4.cell? ⟨gc, 2, none⟩ = some (.float .f64 b1) := Bc.cellv 2 rfl
    have q3 : w4.cell? ⟨gc, 3, none⟩ = some (.float .f64 b2) := Bc.cellv 3 rfl
    have r0 : w4.cell? ⟨gp, 0, none⟩ = some (.int .i64 (G : Nat)) := B4.cellv 0 rfl
    have r1 : w4.cell? ⟨gp, 1, none⟩ = some (.slice Af fs.length cf) := B4.cellv 1 rfl
    have lc := Bc.lt
    have lp := B4.lt
    have H4 := Lib.hid (And.intro Bc (And.intro c04 (And.intro I4 (And.intro n4 (And.intro c23 (And.intro c34 hgp)))))); clear B4 Bc c04 I4 n4 If nf hw4 hgp c23 c34 hd' H2 hd
    go_wp2_with fail
    refine wp_region_takes (fuel := 5) 9 (fun w' => Chg [] w4 w') [0, 1, 2, 3, 4, 6, 7] (by kernel_rfl) (by kernel_rfl) (fun _ _ _ _ _ h => h) ((Chg.refl [] w4).drew) ?_
    simp only [List.filterMap_cons, List.filterMap_nil, qGa, qGb]
    iterate 7
      refine wpTake_step (fun K hK => ?_)
      rw [if_pos (by rfl)]
      refine ⟨?_, fun w' hS' => ?_, ?_⟩
      rotate_left 1
      focus
        have j0 := hS'.cellv lc (by simp) q0
        have j1 := hS'.cellv lc (by simp) q1
        have j2 := hS'.cellv lc (by simp) q3
        have j3 := hS'.cellv lp (by simp) r0
        have j4 := hS'.cellv lp (by simp) r1
        go_simp
        try with_reducible rfl
        done
      simp only [Act.put, qSa, qSb, qSc]
      refine hK _ ?_
      clear hK K
    refine wpTake_nil ?_
    generalize hx0 : w4.drew = x0
    have D0 : Chg [] w4 x0 := by rw [← hx0]; exact (Chg.refl [] w4).drew
    clear hx0
    refine wpAnyS_ready (rs := [5, 8]) (by kernel_rfl) (by simp) ?_
    refine AllReadyS.cons (by simp only [qGc, qGa, qGb]; rfl) (fun K hK => ?_) ?_
    · rw [if_pos (by rfl)]
      go_simp
      go_at_call 53
      refine (cf_part x0 b2).mono ?_
      rintro e y1 ⟨part, rfl, k1⟩
      try dsimp only
      have E1 : Chg [] w4 y1 := D0.trans k1
      clear k1
      refine hK _ _ (E1) ?_
      clear hK K
      try simp only [Act.put, qSa, qSb, qSc]
      refine wpAnyS_ready (rs := [8]) (by kernel_rfl) (by simp) ?_
      refine AllReadyS.o (fun K hK => ?_)
      rw [if_pos (by rfl)]
      go_simp
      obtain ⟨gl, hgl⟩ : ∃ g, g = y1.heap.size := ⟨_, rfl⟩
      obtain ⟨y2, hy2⟩ : ∃ y, y = y1.alloc (.cells (zcells (.int .i64 0) G) 3) := ⟨_, rfl⟩
      rw [← hgl, ← hy2]
      have E2 : Chg [] w4 y2 := by rw [hy2]; exact E1.alloc _
      have ngl : w4.heap.size ≤ gl := by rw [hgl]; exact E1.size
      have Bgl : Blk y2 gl 3 (zcells (.int .i64 0) G) := by rw [hy2, hgl]; exact Blk.new _ _ _
      have HB := Lib.hid (And.intro Bgl ngl)
      clear hgl hy2 ngl Bgl
      refine hK _ _ (E2) ?_
      clear hK K
      try simp only [Act.put, qSa, qSb, qSc]
      refine wpAnyS_tail 9 3 (by kernel_rfl) rfl ?_
      simp only [qDa, qDb]
      go_upto_region 7 with fail
      obtain ⟨gm, hgm⟩ : ∃ g, g = y2.heap.size := ⟨_, rfl⟩
      obtain ⟨w6, hw6⟩ : ∃ w6, w6 = y2.alloc (.cells (nmC (nm0 G (.slice Af fs.length cf) (wo : Nat) part (.slice (some ⟨gl, 0, none⟩) G G))) 109) := ⟨_, rfl⟩
      have hw6' := hw6
      simp only [nmC, nm0, List.range, List.range.loop, List.map_cons, List.map_nil] at hw6'
      rw [← hw6', ← hgm]
      have c46 : Chg [] w4 w6 := by rw [hw6]; exact E2.alloc _
      have Bm6 : Blk w6 gm 109 (nmC (nm0 G (.slice Af fs.length cf) (wo : Nat) part (.slice (some ⟨gl, 0, none⟩) G G))) := by rw [hw6, hgm]; exact Blk.new _ _ _
      have Bg6 : Blk w6 gl 3 (zcells (.int .i64 0) G) := by rw [hw6]; exact HB.out.1.alloc _
      have hgl6 : gl < gm := by rw [hgm]; exact HB.out.1.lt
      have K6 : NbK w6 w6 gc gm P wo b1 b2 (nm0 G (.slice Af fs.length cf) (wo : Nat) part (.slice (some ⟨gl, 0, none⟩) G G)) := ⟨c46.blk H4.out.1 (by simp), Bm6, Chg.refl _ _⟩
      obtain ⟨v6, hv6⟩ : ∃ v, v = nm0 G (.slice Af fs.length cf) (wo : Nat) part (.slice (some ⟨gl, 0, none⟩) G G) := ⟨_, rfl⟩
      rw [← hv6] at K6
      have HW6 := Lib.hid (And.intro hv6 (And.intro Bg6 (And.intro hgl6 (And.intro c46 (And.intro HB.out.2 hgm))))); clear hv6 Bg6 hgl6 c46 hw6 hw6' HB hgm Bm6 q0 q1 q2 q3 r0 r1 lc lp E2
      have HK6 := Lib.hid K6; clear K6
      have q2 : w6.cell? ⟨gc, 2, none⟩ = some (.float .f64 b1) := HK6.out.Bc.cellv 2 rfl
      go_wp2_with fail
      refine (cf_percent w6 b1).mono ?_
      rintro e wa ⟨pct, on, rfl, hon, ca⟩
      have HON := Lib.hid hon; clear hon
      have Ka := HK6.out.chg0 ca
      have z3 := Ka.at_ 3 (by decide)
      have z4 := Ka.at_ 4 (by decide)
      have y3 := Ka.Bm.frozen 3
      have y4 := Ka.Bm.frozen 4
      have HKa := Lib.hid (And.intro Ka ca); clear Ka ca q2
      go_upto_region 8 with fail
      obtain ⟨w7, hw7⟩ : ∃ w', w' = (wa.setCell ⟨gm, 3, none⟩ (.int .i64 pct)).setCell ⟨gm, 4, none⟩ (.bool on) := ⟨_, rfl⟩
      rw [← hw7]
      have K7 := (HKa.out.1.set 3 (.int .i64 pct) (by decide)).set 4 (.bool on) (by decide)
      rw [← hw7] at K7
      have s7 : Chg [gm] w6 w7 := by rw [hw7]; exact ((HKa.out.2.mono (by simp)).setCell (.inl (by simp)) _).setCell (.inl (by simp)) _
      obtain ⟨v7, hv7⟩ : ∃ v, v = updV (updV v6 3 (.int .i64 pct)) 4 (.bool on) := ⟨_, rfl⟩
      rw [← hv7] at K7
      have q0 : w7.cell? ⟨gc, 0, none⟩ = some (.int .i64 (P : Nat)) := K7.Bc.cellv 0 rfl
      have q1 : w7.cell? ⟨gc, 1, none⟩ = some (.int .i64 (wo : Nat)) := K7.Bc.cellv 1 rfl
      have HK7 := Lib.hid (And.intro K7 (And.intro s7 hv7)); clear K7 s7 hv7 hw7 z3 z4 y3 y4
      go_wp2_with fail
      refine (hnew_ok w7 n P (wo : Nat) (by rw [Hwo.out]) hn hn2 hP1 hP).mono ?_
      rintro e wb ⟨H, rfl, Q⟩
      have cb : Chg [] w7 wb := Q.S.c
      have Kb := HK7.out.1.chg0 cb
      have z6 := Kb.at_ 6 (by decide)
      have y6 := Kb.Bm.frozen 6
      have HKb := Lib.hid (And.intro Kb (And.intro cb Q)); clear Kb cb Q q0 q1
      go_upto_region 9 with fail
      obtain ⟨w8, hw8⟩ : ∃ w', w' = wb.setCell ⟨gm, 6, none⟩ (.pointer (some ⟨H.gh, 0, none⟩)) := ⟨_, rfl⟩
      rw [← hw8]
      have K8 := HKb.out.1.set 6 (.pointer (some ⟨H.gh, 0, none⟩)) (by decide)
      rw [← hw8] at K8
      have e8 : Chg [gm] wb w8 := by rw [hw8]; exact (Chg.refl _ wb).setCell (.inl (by simp)) _
      have s8 : Chg [gm] w7 w8 := (HKb.out.2.1.mono (by simp)).trans e8
      have hgm7 := HK7.out.1.Bm.lt
      have c07 : Chg [gm] w w7 := ((H4.out.2.1.trans HW6.out.2.2.2.1).mono (by simp)).trans HK7.out.2.1
      have Q8 : HpS (wE w) w8 H (hp0 n P) 0 0 := HpS.far (HpS.base HKb.out.2.2 (wE_to c07)) e8 (fun k hk hF => by
        have h1 := HpS.lo HKb.out.2.2 hF
        have e : k = gm := by simpa using hk
        omega) (fun j _ => Nat.zero_le j)
      have n8 : ∀ k, HpF H (hp0 n P) k → w7.heap.size ≤ k ∧ k < w8.heap.size := fun k hF => ⟨HpS.lo HKb.out.2.2 hF, Nat.lt_of_lt_of_le (HpS.hi HKb.out.2.2 hF) e8.size⟩
      obtain ⟨v8, hv8⟩ : ∃ v, v = updV v7 6 (.pointer (some ⟨H.gh, 0, none⟩)) := ⟨_, rfl⟩
      rw [← hv8] at K8
      have q0 : w8.cell? ⟨gc, 0, none⟩ = some (.int .i64 (P : Nat)) := K8.Bc.cellv 0 rfl
      have HK8 := Lib.hid (And.intro K8 (And.intro s8 (And.intro hv8 (And.intro Q8 n8)))); clear K8 s8 hv8 Q8 n8 hw8 z6 y6 e8 hgm7 c07
      go_wp2_with fail
      refine (sc_new w8 P hP1 hP).mono ?_
      rintro e wc ⟨gsd, gq, vr, gr, rfl, Is, ns, cc⟩
      have Kc := HK8.out.1.chg0 cc
      have z10 := Kc.at_ 10 (by decide)
      have y10 := Kc.Bm.frozen 10
      have HKc := Lib.hid (And.intro Kc (And.intro cc (And.intro Is ns))); clear Kc cc Is ns q0
      go_upto_region 10 with fail
      obtain ⟨w9, hw9⟩ : ∃ w', w' = wc.setCell ⟨gm, 10, none⟩ (.pointer (some ⟨gsd, 0, none⟩)) := ⟨_, rfl⟩
      rw [← hw9]
      have K9 := HKc.out.1.set 10 (.pointer (some ⟨gsd, 0, none⟩)) (by decide)
      rw [← hw9] at K9
      have e9 : Chg [gm] wc w9 := by rw [hw9]; exact (Chg.refl _ wc).setCell (.inl (by simp)) _
      have s9 : Chg [gm] w8 w9 := (HKc.out.2.1.mono (by simp)).trans e9
      have hgm8 := HK8.out.1.Bm.lt
      have Is9 : IsSc w9 gsd gq P vr (.slice none 0 0) gr (fun _ => rg0) [] := HKc.out.2.2.1.chg e9 (fun k hk hm => by
        have h1 := HKc.out.2.2.2 k hk
        have e : k = gm := by simpa using hm
        omega)
      have n9 : ∀ k, ScF gsd gq P vr (.slice none 0 0) gr k → w8.heap.size ≤ k ∧ k < w9.heap.size := fun k hF => ⟨HKc.out.2.2.2 k hF, Is9.lt hF⟩
      obtain ⟨v9, hv9⟩ : ∃ v, v = updV v8 10 (.pointer (some ⟨gsd, 0, none⟩)) := ⟨_, rfl⟩
      rw [← hv9] at K9
      have q0 : w9.cell? ⟨gc, 0, none⟩ = some (.int .i64 (P : Nat)) := K9.Bc.cellv 0 rfl
      have HK9 := Lib.hid (And.intro K9 (And.intro s9 (And.intro hv9 (And.intro Is9 n9)))); clear K9 s9 hv9 Is9 n9 hw9 z10 y10 e9 hgm8
      go_wp2_with fail
      refine (ph_new_ok P w9 hP1 hP).mono ?_
      rintro e wd ⟨gph, bsd, rfl, Ip, cd, np1, np2⟩
      have Kd := HK9.out.1.chg0 cd
      have z15 := Kd.at_ 15 (by decide)
      have y15 := Kd.Bm.frozen 15
      have HKd := Lib.hid (And.intro Kd (And.intro cd (And.intro Ip (And.intro np1 np2)))); clear Kd cd Ip np1 np2 q0
      go_upto_region 11 with fail
      obtain ⟨w10, hw10⟩ : ∃ w', w' = wd.setCell ⟨gm, 15, none⟩ (.pointer (some ⟨gph, 0, none⟩)) := ⟨_, rfl⟩
      rw [← hw10]
      have K10 := HKd.out.1.set 15 (.pointer (some ⟨gph, 0, none⟩)) (by decide)
      rw [← hw10] at K10
      have e10 : Chg [gm] wd w10 := by rw [hw10]; exact (Chg.refl _ wd).setCell (.inl (by simp)) _
      have s10 : Chg [gm] w9 w10 := (HKd.out.2.1.mono (by simp)).trans e10
      have hgm9 := HK9.out.1.Bm.lt
      have Ip10 : IsPh w10 gph bsd { ph := 0, cyc := 0, said := List.replicate P false, cnt := 0, rs := 0 } := HKd.out.2.2.1.chg e10 (fun hm => by
        have h1 := HKd.out.2.2.2.1
        have e : gph = gm := by simpa using hm
        omega) (fun hm => by
        have h1 := HKd.out.2.2.2.2
        have e : bsd = gm := by simpa using hm
        omega)
      have n10 : ∀ k, k = gph ∨ k = bsd → w9.heap.size ≤ k ∧ k < w10.heap.size := fun k hF => by
        rcases hF with rfl | rfl
        · exact ⟨HKd.out.2.2.2.1, Ip10.g.lt⟩
        · exact ⟨HKd.out.2.2.2.2, Ip10.b.lt⟩
      obtain ⟨v10, hv10⟩ : ∃ v, v = updV v9 15 (.pointer (some ⟨gph, 0, none⟩)) := ⟨_, rfl⟩
      rw [← hv10] at K10
      have HK10 := Lib.hid (And.intro K10 (And.intro s10 (And.intro hv10 (And.intro Ip10 n10)))); clear K10 s10 hv10 Ip10 n10 hw10 z15 y15 e10 hgm9
      go_wp2_with fail
      refine (st_new w10).mono ?_
      rintro e wf ⟨gst, rfl, nst, Ist, cf1⟩
      have HKf := Lib.hid (And.intro (HK10.out.1.chg0 cf1) (And.intro cf1 (And.intro nst Ist))); clear cf1 nst Ist
      go_wp2_with fail
      refine (tm_new wf).mono ?_
      rintro e wg ⟨gtm, rfl, ntm, Btm, cg⟩
      have HKg := Lib.hid (And.intro (HKf.out.1.chg0 cg) (And.intro cg (And.intro ntm Btm))); clear cg ntm Btm
      go_wp2_with fail
      refine (wt_new wg).mono ?_
      rintro e wh ⟨gwt, rfl, nwt, Bwt, ch⟩
      have Kh := HKg.out.1.chg0 ch
      have z7 := Kh.at_ 7 (by decide)
      have z11 := Kh.at_ 11 (by decide)
      have z12 := Kh.at_ 12 (by decide)
      have y7 := Kh.Bm.frozen 7
      have y11 := Kh.Bm.frozen 11
      have y12 := Kh.Bm.frozen 12
      have HKh := Lib.hid (And.intro Kh (And.intro ch (And.intro nwt Bwt))); clear Kh ch nwt Bwt
      go_upto_region 12 with fail
      obtain ⟨wL, hwL⟩ : ∃ w', w' = ((wh.setCell ⟨gm, 7, none⟩ (.pointer (some ⟨gst, 0, none⟩))).setCell ⟨gm, 11, none⟩ (.pointer (some ⟨gtm, 0, none⟩))).setCell ⟨gm, 12, none⟩ (.pointer (some ⟨gwt, 0, none⟩)) := ⟨_, rfl⟩
      rw [← hwL]
      have KL := ((HKh.out.1.set 7 (.pointer (some ⟨gst, 0, none⟩)) (by decide)).set 11 (.pointer (some ⟨gtm, 0, none⟩)) (by decide)).set 12 (.pointer (some ⟨gwt, 0, none⟩)) (by decide)
      rw [← hwL] at KL
      have eL : Chg [gm] wh wL := by rw [hwL]; exact (((Chg.refl _ wh).setCell (.inl (by simp)) _).setCell (.inl (by simp)) _).setCell (.inl (by simp)) _
      have hgm10 := HK10.out.1.Bm.lt
      have hs1 := HKf.out.2.1.size
      have hs2 := HKg.out.2.1.size
      have IstL : IsSt wL gst (.slice none 0 0) [] := by
        have c := ((HKg.out.2.1.trans HKh.out.2.1).mono (T := [gm]) (by simp)).trans eL
        have hne : gst ∉ [gm] := fun hm => by
          have h1 := HKf.out.2.2.1
          have e : gst = gm := by simpa using hm
          omega
        exact ⟨c.blk HKf.out.2.2.2.b hne, OwnI.nil _ _, HKf.out.2.2.2.r⟩
      have BtmL : Blk wL gtm 166 #[.slice none 0 0, .int .i64 0] := ((HKh.out.2.1.mono (T := [gm]) (by simp)).trans eL).blk HKg.out.2.2.2 (fun hm => by
        have h1 := HKg.out.2.2.1
        have e : gtm = gm := by simpa using hm
        omega)
      have BwtL : Blk wL gwt 223 (wtC fun _ => .slice none 0 0) := eL.blk HKh.out.2.2.2 (fun hm => by
        have h1 := HKh.out.2.2.1
        have e : gwt = gm := by simpa using hm
        omega)
      have sL : Chg [gm] w10 wL := ((HKf.out.2.1.trans (HKg.out.2.1.trans HKh.out.2.1)).mono (by simp)).trans eL
      obtain ⟨vL, hvL⟩ : ∃ v, v = updV (updV (updV v10 7 (.pointer (some ⟨gst, 0, none⟩))) 11 (.pointer (some ⟨gtm, 0, none⟩))) 12 (.pointer (some ⟨gwt, 0, none⟩)) := ⟨_, rfl⟩
      rw [← hvL] at KL
      have n11 : w10.heap.size ≤ gst ∧ gst < wf.heap.size ∧ wf.heap.size ≤ gtm ∧ gtm < wg.heap.size ∧ wg.heap.size ≤ gwt ∧ gwt < wL.heap.size := ⟨HKf.out.2.2.1, HKf.out.2.2.2.b.lt, HKg.out.2.2.1, HKg.out.2.2.2.lt, HKh.out.2.2.1, BwtL.lt⟩
      have q0 : wL.cell? ⟨gc, 0, none⟩ = some (.int .i64 (P : Nat)) := KL.Bc.cellv 0 rfl
      have h9 : vL 9 = .slice none 0 0 := by rw [hvL, HK10.out.2.2.1, HK9.out.2.2.1, HK8.out.2.2.1, HK7.out.2.2, HW6.out.1]; rfl
      have L0 : NlR wL wL gc gm P wo b1 b2 vL 0 (.slice none 0 0) (fun _ => 0) (fun _ => 0) := ⟨KL.Bc, by
          rw [updV_selfM h9]; exact KL.Bm, OwnV.nil _ _, fun k hk => by simp [fpv, Value.ownBlock] at hk, fun q hq => by omega, fun q hq => by omega, fun q r hq => by omega, fun q r hq => by omega, Chg.refl _ _, KL.Bm.lt, KL.Bc.lt⟩
      have HL := Lib.hid (And.intro L0 (And.intro sL (And.intro hvL (And.intro IstL (And.intro BtmL (And.intro BwtL n11)))))); clear L0 KL sL hvL IstL BtmL BwtL n11 hwL eL hgm10 h9 z7 z11 z12 y7 y11 y12 hs1 hs2
      go_wp2_with fail
      go_loopg [90] (P + 1) (fun gk idx wr => NlRel wL gc gm P wo b1 b2 vL gk idx wr)
      case atStart => exact ⟨0, _, _, _, by omega, by omega, rfl, HL.out.1⟩
      case round =>
        obtain ⟨i, vps, bp, bn, hgk, hi, rfl, L⟩ := hrel
        by_cases hiP : i < P
        · have hi' : (i : Int) < (P : Int) := by omega
          obtain ⟨A, cap, hv⟩ := L.o.slice
          rw [ptrs_len] at hv
          have c9 : wr.cell? ⟨gm, 9, none⟩ = some vps := by have h := L.Bm.cellv 9 (nmC_at _ (by decide)); rw [updV_same] at h; exact h
          rw [hv] at c9
          have hgl := L.Bm.lt
          have hgv : gm ∉ fpv vps := fun hm => by have := L.nv gm hm; have := L.gl; omega
          have H3 := Lib.hid (And.intro L (And.intro hv hgk)); clear L hv hgk q0
          go_wp2_with fail
          refine wp_region_takes (fuel := 8) 10 (fun w' => Chg (fpv vps) wr w') [0, 1, 2, 3, 4] (by kernel_rfl) (by kernel_rfl) (fun _ _ _ _ _ h => h) (((Chg.refl [] wr).drew.mono (by simp))) ?_
          simp only [List.filterMap_cons, List.filterMap_nil, qGa, qGb]
          iterate 5
            refine wpTake_step (fun K hK => ?_)
            rw [if_pos (by rfl)]
            refine ⟨?_, fun w' hS' => ?_, ?_⟩
            rotate_left 1
            focus
              have y0 := hS'.cellv hgl hgv c9
              go_simp
              try with_reducible rfl
              done
            simp only [Act.put, qSa, qSb, qSc]
            refine hK _ ?_
            clear hK K
          refine wpTake_nil ?_
          generalize hx0 : wr.drew = x0
          have D0 : Chg [] wr x0 := by rw [← hx0]; exact (Chg.refl [] wr).drew
          clear hx0
          refine wpAnyS_ready (rs := [5]) (by kernel_rfl) (by simp) ?_
          refine AllReadyS.o (fun K hK => ?_)
          rw [if_pos (by rfl)]
          go_simp
          go_at_call 61
          refine (br_new x0).mono ?_
          rintro e x1 ⟨gb, rfl, hgb, B1, k1⟩
          try dsimp only
          have D1 : Chg [] wr x1 := D0.trans k1
          have F1 : Chg (fpv vps) wr x1 := D1.mono (by simp)
          refine hK _ _ (F1) ?_
          clear hK K
          try simp only [Act.put, qSa, qSb, qSc]
          refine wpAnyS_more (fuel := 6) [6] (by kernel_rfl) (fun _ _ _ _ _ h => h) F1 ?_
          simp only [List.filterMap_cons, List.filterMap_nil, qGa, qGb]
          refine wpTake_step (fun K hK => ?_)
          rw [if_pos (by rfl)]
          refine ⟨?_, fun w' hS' => ?_, ?_⟩
          rotate_left 1
          focus
            have y0 := hS'.cellv hgl hgv c9
            go_simp
            try with_reducible rfl
            done
          simp only [Act.put, qSa, qSb, qSc]
          refine hK _ ?_
          clear hK K
          refine wpTake_nil ?_
          refine wpAnyS_ready (rs := [7]) (by kernel_rfl) (by simp) ?_
          refine AllReadyS.o (fun K hK => ?_)
          rw [if_pos (by rfl)]
          go_simp
          obtain ⟨x2, hx2⟩ : ∃ x2, x2 = x1.alloc (.cells (prcC pr0 (.pointer none) gb) 128) := ⟨_, rfl⟩
          obtain ⟨gpr, hgpr⟩ : ∃ g, g = x1.heap.size := ⟨_, rfl⟩
          have B2 : Blk x2 gb 205 brC := by rw [hx2]; exact B1.alloc _
          have Q2 : Blk x2 gpr 128 (prcC pr0 (.pointer none) gb) := by rw [hx2, hgpr]; exact Blk.new _ _ _
          have D2 : Chg [] wr x2 := by rw [hx2]; exact D1.alloc _
          have hx2' := hx2
          simp only [prcC, pr0] at hx2'
          rw [← hx2', ← hgpr]
          have hq1 : wr.heap.size ≤ gpr := by rw [hgpr]; exact D1.size
          clear hx2 hgpr hx2'
          refine hK _ _ ((D2.mono (by simp))) ?_
          clear hK K
          try simp only [Act.put, qSa, qSb, qSc]
          refine wpAnyS_ready (rs := [8]) (by kernel_rfl) (by simp) ?_
          refine AllReadyS.o (fun K hK => ?_)
          rw [if_pos (by rfl)]
          go_simp
          obtain ⟨x3, hx3⟩ : ∃ x3, x3 = x2.alloc (.cells #[.pointer (some ⟨gpr, 0, none⟩)] 124) := ⟨_, rfl⟩
          obtain ⟨gs, hgs⟩ : ∃ gs, gs = x2.heap.size := ⟨_, rfl⟩
          have B3 : Blk x3 gb 205 brC := by rw [hx3]; exact B2.alloc _
          have Q3 : Blk x3 gpr 128 (prcC pr0 (.pointer none) gb) := by rw [hx3]; exact Q2.alloc _
          have S3 : Blk x3 gs 124 #[.pointer (some ⟨gpr, 0, none⟩)] := by rw [hx3, hgs]; exact Blk.new _ _ _
          have D3 : Chg [] wr x3 := by rw [hx3]; exact D2.alloc _
          rw [← hx3, ← hgs]
          clear hx3 hgs
          refine hK _ _ ((D3.mono (by simp))) ?_
          clear hK K
          try simp only [Act.put, qSa, qSb, qSc]
          refine wpAnyS_ready (rs := [9]) (by kernel_rfl) (by simp) ?_
          refine AllReadyS.o (fun K hK => ?_)
          have hN : (ptrs bp i).length + [Value.pointer (some ⟨gpr, 0, none⟩)].length = i + 1 := by rw [ptrs_len]; rfl
          refine step_cat_v (i + 1) hN (by rfl) _ _ (by rfl) tyPr (v := .slice A i cap) (by rfl) (by have := H3.out.1.o.chg0 D3; rw [H3.out.2.1] at this; exact this) (by rfl) (RdV.one_ S3 rfl) (by omega) ?_
          intro A4 c4 x4 O4 S4
          have D4 : Chg (fpv vps) wr x4 := (D3.mono (by simp)).trans (by have := S4.c; rw [H3.out.2.1]; exact this)
          refine hK _ _ (D4) ?_
          clear hK K
          try simp only [Act.put, qSa, qSb, qSc]
          refine wpAnyS_tail 10 3 (by kernel_rfl) rfl ?_
          simp only [qDa, qDb]
          have S4' : Stp (fpv vps) (fpv (.slice A4 (i + 1) c4)) x3 x4 := by rw [H3.out.2.1]; exact S4
          have hb1 : wr.heap.size ≤ gb := Nat.le_trans D0.size hgb
          have M := H3.out.1.more D3 Q3 hq1 B3 hb1 O4 S4'
          have Bg := D4.blk H3.out.1.Bm hgv
          have z0 : x4.cell? ⟨gm, 9, none⟩ = some (.slice A i cap) := by have h := Bg.cellv 9 (nmC_at _ (by decide)); rw [updV_same, H3.out.2.1] at h; exact h
          have z1 := Bg.frozen 9
          have HM := Lib.hid M
          clear F1 M S4 S4' O4 B1 B2 B3 Q2 Q3 S3 D0 D1 D2 D3 D4 Bg k1 hb1 hq1 hgb c9
          go_wp2_with fail
          go_roundg (P - i)
          case measure => have := H3.out.2.2; omega
          case rel => exact ⟨i + 1, _, _, _, by have := H3.out.2.2; omega, by omega, by go_num, HM.out⟩
        · have e : i = P := by omega
          have hi' : ¬ (i : Int) < (P : Int) := by omega
          subst e
          have H3 := Lib.hid L; clear L hgk q0
          have MK : MM ⟨w, []⟩ wr (mk0p gm H gst vps bp bn gsd gq vr gr gtm gwt gl G gph bsd (.slice Af fs.length cf) vf) (mk0m G fs (wo : Nat) pct on part n i) := by
            have L := H3.out
            have cL : Chg [gm] wL wr := L.c
            have d10 : Chg [gm] w10 wr := HL.out.2.1.trans cL
            have d9 : Chg [gm] w9 wr := HK10.out.2.1.trans d10
            have d8 : Chg [gm] w8 wr := HK9.out.2.1.trans d9
            have d7 : Chg [gm] w7 wr := HK8.out.2.1.trans d8
            have d6 : Chg [gm] w6 wr := HK7.out.2.1.trans d7
            have d4 : Chg [gm] w4 wr := (HW6.out.2.2.2.1.mono (by simp)).trans d6
            have g1 : gm < w6.heap.size := HK6.out.Bm.lt
            have g2 := HW6.out.2.2.1
            have g3 := HW6.out.2.2.2.2.1
            have z67 := HK7.out.2.1.size
            have z78 := HK8.out.2.1.size
            have z89 := HK9.out.2.1.size
            have z910 := HK10.out.2.1.size
            have zL := HL.out.2.1.size
            have z34 := H4.out.2.2.2.2.2.1.size
            have z23 := H4.out.2.2.2.2.1.size
            have zr := cL.size
            have z02 : w.heap.size ≤ w2.heap.size := hsz2.out
            have n11 := HL.out.2.2.2.2.2.2
            have n4 := H4.out.2.2.2.1
            have n8 := HK8.out.2.2.2.2
            have n9 := HK9.out.2.2.2.2
            have n10 := HK10.out.2.2.2.2
            refine mm_made (aSt w2.heap.size w4.heap.size gm w7.heap.size w8.heap.size w9.heap.size w10.heap.size wf.heap.size wg.heap.size wL.heap.size) z02 (H4.out.2.1.newS d4 (fun k hk => by have e : k = gm := (by simpa using hk); have := H4.out.2.1.size; omega)) (fun r hr => ?_) (fun k j hj => ?_) (fun k k' j hk hk' hj hj' => ?_) (fun k j hk hj => ?_) zr (fun k => ?_)
            · have : r = 0 ∨ r = 1 ∨ r = 2 ∨ r = 3 ∨ r = 4 ∨ r = 5 ∨ r = 6 ∨ r = 7 ∨ r = 8 := by omega
              rcases this with rfl | rfl | rfl | rfl | rfl | rfl | rfl | rfl | rfl <;> simp only [aSt] <;> omega
            · have nofp : ∀ {j : Nat}, j ∈ fpv (Value.slice none 0 0) → False := fun h => by simp [fpv, Value.ownBlock] at h
              cases k with
              | mach => have e : j = gm := hj; refine .inl ⟨by decide, ?_, ?_⟩ <;> simp only [rkK, aSt] <;> omega
              | heap => have := n8 j hj; refine .inl ⟨by decide, ?_, ?_⟩ <;> simp only [rkK, aSt] <;> omega
              | states => rcases hj with h | h; (have e : j = gst := h; refine .inl ⟨by decide, ?_, ?_⟩ <;> simp only [rkK, aSt] <;> omega); exact (nofp h).elim
              | gsl => exact (nofp hj).elim
              | gor g => exact absurd hj.1 (Nat.not_lt_zero _)
              | psl => exact .inr ⟨rfl, L.nv j hj⟩
              | proc q => obtain ⟨h1, rfl⟩ := hj; exact .inr ⟨rfl, (L.pr q h1).2⟩
              | notes q => obtain ⟨h1, rfl⟩ := hj; exact .inr ⟨rfl, (L.br q h1).2⟩
              | sched => have := n9 j hj; refine .inl ⟨by decide, ?_, ?_⟩ <;> simp only [rkK, aSt] <;> omega
              | timers => rcases hj with h | h; (have e : j = gtm := h; refine .inl ⟨by decide, ?_, ?_⟩ <;> simp only [rkK, aSt] <;> omega); exact (nofp h).elim
              | waits => rcases hj with h | ⟨_, _, h⟩; (have e : j = gwt := h; refine .inl ⟨by decide, ?_, ?_⟩ <;> simp only [rkK, aSt] <;> omega); exact (nofp h).elim
              | globs =>
                have e : j = gl := by
                  have h : j ∈ fpv (.slice (some ⟨gl, 0, none⟩) G G) := hj
                  simp [fpv, Value.ownBlock] at h
                  first | exact h | exact h.1 | omega
                refine .inl ⟨by decide, ?_, ?_⟩ <;> simp only [rkK, aSt] <;> omega
              | phases => have := n10 j hj; refine .inl ⟨by decide, ?_, ?_⟩ <;> simp only [rkK, aSt] <;> omega
              | commits => exact (nofp hj).elim
              | parked => exact (nofp hj).elim
              | freed => exact (nofp hj).elim
              | prog => have := n4 j hj; refine .inl ⟨by decide, ?_, ?_⟩ <;> simp only [rkK, aSt] <;> omega
            · have np : ∀ q, q < i → bp q ∉ fpv vps := fun q hq hm => own_ne L.o.o (L.pr q hq).1 (by decide) (mem_fpv.1 hm)
              have nn : ∀ q, q < i → bn q ∉ fpv vps := fun q hq hm => own_ne L.o.o (L.br q hq).1 (by decide) (mem_fpv.1 hm)
              cases k <;> first | (exfalso; revert hk; simp [rkK]; done) | skip
              · cases k' <;> first | (exfalso; revert hk'; simp [rkK]; done) | rfl | skip
                · obtain ⟨h1, h2⟩ := hj'; exact (np _ h1 (by subst h2; exact hj)).elim
                · obtain ⟨h1, h2⟩ := hj'; exact (nn _ h1 (by subst h2; exact hj)).elim
              · rename_i q
                obtain ⟨h1, h2⟩ := hj
                cases k' <;> first | (exfalso; revert hk'; simp [rkK]; done) | skip
                · exact (np _ h1 (by subst h2; exact hj')).elim
                · rename_i r
                  obtain ⟨h1', h2'⟩ := hj'
                  by_cases e : q = r
                  · rw [e]
                  · exact (L.d1 q r h1 h1' e (h2.symm.trans h2')).elim
                · obtain ⟨h1', h2'⟩ := hj'
                  exact ((L.pr _ h1).1.ne_ (L.br _ h1').1 (by decide) (h2.symm.trans h2')).elim
              · rename_i q
                obtain ⟨h1, h2⟩ := hj
                cases k' <;> first | (exfalso; revert hk'; simp [rkK]; done) | skip
                · exact (nn _ h1 (by subst h2; exact hj')).elim
                · obtain ⟨h1', h2'⟩ := hj'
                  exact ((L.pr _ h1').1.ne_ (L.br _ h1).1 (by decide) (h2'.symm.trans h2)).elim
                · rename_i r
                  obtain ⟨h1', h2'⟩ := hj'
                  by_cases e : q = r
                  · rw [e]
                  · exact (L.d2 q r h1 h1' e (h2.symm.trans h2')).elim
            · cases k <;> first | (exfalso; revert hk; simp [rkK]; done) | skip
              · exact L.o.lt hj
              · obtain ⟨h1, rfl⟩ := hj; exact (L.pr _ h1).1.lt
              · obtain ⟨h1, rfl⟩ := hj; exact (L.br _ h1).1.lt
            · cases k with
              | mach =>
                have h := L.Bm
                rw [HL.out.2.2.1, HK10.out.2.2.1, HK9.out.2.2.1, HK8.out.2.2.1, HK7.out.2.2, HW6.out.1] at h
                exact h
              | heap => exact HpS.far HK8.out.2.2.2.1 d8 (fun k hk hF => by have := n8 k hF; have e : k = gm := (by simpa using hk); omega) (fun j _ => Nat.zero_le j)
              | states => exact ⟨cL.blk HL.out.2.2.2.1.b (fun hm => by have e : gst = gm := List.mem_singleton.1 hm; omega), OwnI.nil _ _, HL.out.2.2.2.1.r⟩
              | gsl => exact OwnV.nil _ _
              | gor g => exact fun h => absurd h (Nat.not_lt_zero _)
              | psl => exact L.o
              | proc q => exact fun h => (L.pr q h).1
              | notes q => exact fun h => (L.br q h).1
              | sched => exact HK9.out.2.2.2.1.chg d9 (fun k hF hk => by have := n9 k hF; have e : k = gm := (by simpa using hk); omega)
              | timers => exact ⟨cL.blk HL.out.2.2.2.2.1 (fun hm => by have e : gtm = gm := List.mem_singleton.1 hm; omega), OwnG.nil _ _⟩
              | waits => exact ⟨cL.blk HL.out.2.2.2.2.2.1 (fun hm => by have e : gwt = gm := List.mem_singleton.1 hm; omega), fun _ _ => OwnI.nil _ _, fun i j _ _ _ k hk => absurd hk (by show k ∉ fpv (.slice none 0 0); simp [fpv, Value.ownBlock])⟩
              | globs => exact OwnI.zer (d6.blk HW6.out.2.1 (fun hm => by have e : gl = gm := (by simpa using hm); omega)) (by omega)
              | phases => exact HK10.out.2.2.2.1.chg d10 (fun hm => by have := n10 gph (.inl rfl); have e : gph = gm := (by simpa using hm); omega) (fun hm => by have := n10 bsd (.inr rfl); have e : bsd = gm := (by simpa using hm); omega)
              | commits => exact OwnG.nil _ _
              | parked => exact OwnI.nil _ _
              | freed => exact OwnI.nil _ _
              | prog => exact ⟨H4.out.2.2.1.o.chg d4 (fun k hk hm => by have := n4 k (.inl hk); have e : k = gm := (by simpa using hm); omega), fun q l hq => (H4.out.2.2.1.f q l hq).chg d4 (fun k hk hm => by have := n4 k (.inr ⟨q, (List.getElem?_eq_some_iff.1 hq).1, hk⟩); have e : k = gm := (by simpa using hm); omega)⟩
          obtain ⟨p0, hp0⟩ : ∃ p : MAt, p = mk0p gm H gst vps bp bn gsd gq vr gr gtm gwt gl G gph bsd (.slice Af fs.length cf) vf := ⟨_, rfl⟩
          obtain ⟨m0, hm0⟩ : ∃ m : Mac, m = mk0m G fs (wo : Nat) pct on part n i := ⟨_, rfl⟩
          rw [← hp0, ← hm0] at MK
          have egm : p0.gm = gm := by rw [hp0]; rfl
          have x2 : wr.cell? ⟨gm, 2, none⟩ = some (.int .i64 (wo : Nat)) := by rw [← egm]; have h : wr.cell? ⟨p0.gm, 2, none⟩ = some (.int .i64 m0.words) := MK.mb.cellv 2 rfl; rw [h, hm0]; rfl
          have x3 : wr.cell? ⟨gm, 3, none⟩ = some (.int .i64 pct) := by rw [← egm]; have h : wr.cell? ⟨p0.gm, 3, none⟩ = some (.int .i64 m0.pct) := MK.mb.cellv 3 rfl; rw [h, hm0]; rfl
          have x4 : wr.cell? ⟨gm, 4, none⟩ = some (.bool on) := by rw [← egm]; have h : wr.cell? ⟨p0.gm, 4, none⟩ = some (.bool m0.on) := MK.mb.cellv 4 rfl; rw [h, hm0]; rfl
          have HMK := Lib.hid (And.intro MK (And.intro hp0 (And.intro hm0 egm))); clear MK hp0 hm0 egm
          have lgm : gm < wr.heap.size := by rw [← HMK.out.2.2.2]; exact HMK.out.1.mb.lt
          go_wp2_with fail
          refine wp_region_takes (fuel := 4) 14 (fun w' => Chg [] wr w') [0, 1, 2, 3, 4, 5, 6, 7, 8, 9, 10, 11, 12] (by kernel_rfl) (by kernel_rfl) (fun _ _ _ _ _ h => h) ((Chg.refl [] wr).drew) ?_
          simp only [List.filterMap_cons, List.filterMap_nil, qGa, qGb]
          iterate 13
            refine wpTake_step (fun K hK => ?_)
            rw [if_pos (by rfl)]
            refine ⟨?_, fun w' hS' => ?_, ?_⟩
            rotate_left 1
            focus
              have j0 := hS'.cellv lgm (by simp) x2
              have j1 := hS'.cellv lgm (by simp) x3
              have j2 := hS'.cellv lgm (by simp) x4
              go_simp
              try with_reducible rfl
              done
            simp only [Act.put, qSa, qSb, qSc]
            refine hK _ ?_
            clear hK K
          refine wpTake_nil ?_
          generalize hx0 : wr.drew = x0
          have D0 : Chg [] wr x0 := by rw [← hx0]; exact (Chg.refl [] wr).drew
          clear hx0
          refine wpAnyS_ready (rs := [13]) (by kernel_rfl) (by simp) ?_
          refine AllReadyS.o (fun K hK => ?_)
          rw [if_pos (by rfl)]
          go_simp
          go_at_call 62
          refine (pc_goal x0 wo (by have := Hwo.out; omega) (by have := Hwo.out; omega) pct on).mono ?_
          rintro e wq ⟨tt, tg, tr, rfl, htt0, cq⟩
          have htt : on = onB b1 ∧ GlIs wo on tt tg tr := ⟨HON.out, htt0⟩
          clear htt0
          try dsimp only
          have D1 : Chg [] wr wq := D0.trans cq
          refine hK _ _ (D1) ?_
          clear hK K
          try simp only [Act.put, qSa, qSb, qSc]
          refine wpAnyS_tail 14 3 (by kernel_rfl) rfl ?_
          simp only [qDa, qDb]
          have Mq := HMK.out.1.chg0 D1
          have z19 : wq.cell? ⟨gm, 19, none⟩ = some (.int .i64 0) := by rw [← HMK.out.2.2.2]; have h : wq.cell? ⟨p0.gm, 19, none⟩ = some (.int .i64 m0.gT) := Mq.mb.cellv 19 rfl; rw [h, HMK.out.2.2.1]; rfl
          have z20 : wq.cell? ⟨gm, 20, none⟩ = some (.int .i64 0) := by rw [← HMK.out.2.2.2]; have h : wq.cell? ⟨p0.gm, 20, none⟩ = some (.int .i64 m0.gG) := Mq.mb.cellv 20 rfl; rw [h, HMK.out.2.2.1]; rfl
          have z21 : wq.cell? ⟨gm, 21, none⟩ = some (.int .i64 0) := by rw [← HMK.out.2.2.2]; have h : wq.cell? ⟨p0.gm, 21, none⟩ = some (.int .i64 m0.gR) := Mq.mb.cellv 21 rfl; rw [h, HMK.out.2.2.1]; rfl
          have y19 := Mq.mb.frozen 19
          have y20 := Mq.mb.frozen 20
          have y21 := Mq.mb.frozen 21
          rw [HMK.out.2.2.2] at y19 y20 y21
          have HMq := Lib.hid Mq; clear Mq cq x2 x3 x4 D0 D1
          go_upto_region 17 with fail
          obtain ⟨wt, hwt⟩ : ∃ w', w' = ((wq.setCell ⟨gm, 19, none⟩ (.int .i64 tt)).setCell ⟨gm, 20, none⟩ (.int .i64 tg)).setCell ⟨gm, 21, none⟩ (.int .i64 tr) := ⟨_, rfl⟩
          rw [← hwt]
          have Mt : MM ⟨w, []⟩ wt p0 { m0 with gT := tt, gG := tg, gR := tr } := by
            rw [hwt, ← HMK.out.2.2.2]
            have a1 := HMq.out.mset (p' := p0) (m' := { m0 with gT := tt }) 19 (.int .i64 tt) rfl (by unfold mC; simp) (fun k hk => by cases k <;> first | exact absurd rfl hk | exact ⟨rfl, fun _ => rfl⟩)
            have a2 := a1.mset (p' := p0) (m' := { m0 with gT := tt, gG := tg }) 20 (.int .i64 tg) rfl (by unfold mC; simp) (fun k hk => by cases k <;> first | exact absurd rfl hk | exact ⟨rfl, fun _ => rfl⟩)
            exact a2.mset (p' := p0) (m' := { m0 with gT := tt, gG := tg, gR := tr }) 21 (.int .i64 tr) rfl (by unfold mC; simp) (fun k hk => by cases k <;> first | exact absurd rfl hk | exact ⟨rfl, fun _ => rfl⟩)
          have KS := m_spawn Mt 0 0 0 (by rw [HMK.out.2.2.1]; exact hP1) (by rw [HMK.out.2.2.1]; rfl) (by rw [HMK.out.2.2.1]; show (0 : Nat) < 1024; decide) (by rw [HMK.out.2.1]; rfl) (by rw [HMK.out.2.2.1]; show rg0.fr < 256; decide) (by rw [HMK.out.2.2.1]; show rg0.n < 256; decide) (by rw [HMK.out.2.2.1]; rfl)
          rw [HMK.out.2.2.2] at KS
          have HKS := Lib.hid KS; clear KS Mt hwt z19 z20 z21 y19 y20 y21
          go_wp2_with fail
          refine (HKS.out).mono ?_
          rintro e ws ⟨vst, vgs, gn, rfl, Ms⟩
          go_wp2_with fail
          (try simp only [Exit.inBlock, Exit.then])
          refine bodyPost_ret (results_tmp3 rfl _ _ _) rfl ?_
          refine ⟨{ p0 with gm := gm, vst := vst, vgs := vgs, bg := updV p0.bg 0 gn }, pct, on, part, tt, tg, tr, ?_, ⟨htt.1, htt.2, by show p0.N ≤ 1000; rw [HMK.out.2.1]; exact Nat.zero_le _, by show p0.b ≤ 1000; rw [HMK.out.2.1]; exact Nat.zero_le _⟩, ?_, ?_, ?_, ?_, ?_⟩
          · rfl
          · rw [HMK.out.2.1]; rfl
          · rw [HMK.out.2.1]; rfl
          · rw [HMK.out.2.1]; rfl
          · rw [HMK.out.2.1]; rfl
          · have h := Ms
            rw [HMK.out.2.2.1] at h
            exact h
    refine AllReadyS.o (fun K hK => ?_)
    rw [if_pos (by rfl)]
    go_simp
    obtain ⟨gl, hgl⟩ : ∃ g, g = x0.heap.size := ⟨_, rfl⟩
    obtain ⟨y3, hy3⟩ : ∃ y, y = x0.alloc (.cells (zcells (.int .i64 0) G) 3) := ⟨_, rfl⟩
    rw [← hgl, ← hy3]
    have E3 : Chg [] w4 y3 := by rw [hy3]; exact D0.alloc _
    have ngl : w4.heap.size ≤ gl := by rw [hgl]; exact D0.size
    have Bgl : Blk y3 gl 3 (zcells (.int .i64 0) G) := by rw [hy3, hgl]; exact Blk.new _ _ _
    have HB := Lib.hid (And.intro Bgl ngl)
    clear hgl hy3 ngl Bgl
    refine hK _ _ (E3) ?_
    clear hK K
    try simp only [Act.put, qSa, qSb, qSc]
    refine wpAnyS_ready (rs := [5]) (by kernel_rfl) (by simp) ?_
    refine AllReadyS.o (fun K hK => ?_)
    rw [if_pos (by rfl)]
    go_simp
    go_at_call 53
    refine (cf_part y3 b2).mono ?_
    rintro e y4 ⟨part, rfl, k4⟩
    try dsimp only
    have E4 : Chg [] w4 y4 := E3.trans k4
    have HB := Lib.hid (And.intro (k4.blk HB.out.1 (by simp)) HB.out.2)
    clear k4
    refine hK _ _ (E4) ?_
    clear hK K
    try simp only [Act.put, qSa, qSb, qSc]
    refine wpAnyS_tail 9 3 (by kernel_rfl) rfl ?_
    simp only [qDa, qDb]
    go_upto_region 7 with fail
    obtain ⟨gm, hgm⟩ : ∃ g, g = y4.heap.size := ⟨_, rfl⟩
    obtain ⟨w6, hw6⟩ : ∃ w6, w6 = y4.alloc (.cells (nmC (nm0 G (.slice Af fs.length cf) (wo : Nat) part (.slice (some ⟨gl, 0, none⟩) G G))) 109) := ⟨_, rfl⟩
    have hw6' := hw6
    simp only [nmC, nm0, List.range, List.range.loop, List.map_cons, List.map_nil] at hw6'
    rw [← hw6', ← hgm]
    have c46 : Chg [] w4 w6 := by rw [hw6]; exact E4.alloc _
    have Bm6 : Blk w6 gm 109 (nmC (nm0 G (.slice Af fs.length cf) (wo : Nat) part (.slice (some ⟨gl, 0, none⟩) G G))) := by rw [hw6, hgm]; exact Blk.new _ _ _
    have Bg6 : Blk w6 gl 3 (zcells (.int .i64 0) G) := by rw [hw6]; exact HB.out.1.alloc _
    have hgl6 : gl < gm := by rw [hgm]; exact HB.out.1.lt
    have K6 : NbK w6 w6 gc gm P wo b1 b2 (nm0 G (.slice Af fs.length cf) (wo : Nat) part (.slice (some ⟨gl, 0, none⟩) G G)) := ⟨c46.blk H4.out.1 (by simp), Bm6, Chg.refl _ _⟩
    obtain ⟨v6, hv6⟩ : ∃ v, v = nm0 G (.slice Af fs.length cf) (wo : Nat) part (.slice (some ⟨gl, 0, none⟩) G G) := ⟨_, rfl⟩
    rw [← hv6] at K6
    have HW6 := Lib.hid (And.intro hv6 (And.intro Bg6 (And.intro hgl6 (And.intro c46 (And.intro HB.out.2 hgm))))); clear hv6 Bg6 hgl6 c46 hw6 hw6' HB hgm Bm6 q0 q1 q2 q3 r0 r1 lc lp E4
    have HK6 := Lib.hid K6; clear K6
    have q2 : w6.cell? ⟨gc, 2, none⟩ = some (.float .f64 b1) := HK6.out.Bc.cellv 2 rfl
    go_wp2_with fail
    refine (cf_percent w6 b1).mono ?_
    rintro e wa ⟨pct, on, rfl, hon, ca⟩
    have HON := Lib.hid hon; clear hon
    have Ka := HK6.out.chg0 ca
    have z3 := Ka.at_ 3 (by decide)
    have z4 := Ka.at_ 4 (by decide)
    have y3 := Ka.Bm.frozen 3
    have y4 := Ka.Bm.frozen 4
    have HKa := Lib.hid (And.intro Ka ca); clear Ka ca q2
    go_upto_region 8 with fail
    obtain ⟨w7, hw7⟩ : ∃ w', w' = (wa.setCell ⟨gm, 3, none⟩ (.int .i64 pct)).setCell ⟨gm, 4, none⟩ (.bool on) := ⟨_, rfl⟩
    rw [← hw7]
    have K7 := (HKa.out.1.set 3 (.int .i64 pct) (by decide)).set 4 (.bool on) (by decide)
    rw [← hw7] at K7
    have s7 : Chg [gm] w6 w7 := by rw [hw7]; exact ((HKa.out.2.mono (by simp)).setCell (.inl (by simp)) _).setCell (.inl (by simp)) _
    obtain ⟨v7, hv7⟩ : ∃ v, v = updV (updV v6 3 (.int .i64 pct)) 4 (.bool on) := ⟨_, rfl⟩
    rw [← hv7] at K7
    have q0 : w7.cell? ⟨gc, 0, none⟩ = some (.int .i64 (P : Nat)) := K7.Bc.cellv 0 rfl
    have q1 : w7.cell? ⟨gc, 1, none⟩ = some (.int .i64 (wo : Nat)) := K7.Bc.cellv 1 rfl
    have HK7 := Lib.hid (And.intro K7 (And.intro s7 hv7)); clear K7 s7 hv7 hw7 z3 z4 y3 y4
    go_wp2_with fail
    refine (hnew_ok w7 n P (wo : Nat) (by rw [Hwo.out]) hn hn2 hP1 hP).mono ?_
    rintro e wb ⟨H, rfl, Q⟩
    have cb : Chg [] w7 wb := Q.S.c
    have Kb := HK7.out.1.chg0 cb
    have z6 := Kb.at_ 6 (by decide)
    have y6 := Kb.Bm.frozen 6
    have HKb := Lib.hid (And.intro Kb (And.intro cb Q)); clear Kb cb Q q0 q1
    go_upto_region 9 with fail
    obtain ⟨w8, hw8⟩ : ∃ w', w' = wb.setCell ⟨gm, 6, none⟩ (.pointer (some ⟨H.gh, 0, none⟩)) := ⟨_, rfl⟩
    rw [← hw8]
    have K8 := HKb.out.1.set 6 (.pointer (some ⟨H.gh, 0, none⟩)) (by decide)
    rw [← hw8] at K8
    have e8 : Chg [gm] wb w8 := by rw [hw8]; exact (Chg.refl _ wb).setCell (.inl (by simp)) _
    have s8 : Chg [gm] w7 w8 := (HKb.out.2.1.mono (by simp)).trans e8
    have hgm7 := HK7.out.1.Bm.lt
    have c07 : Chg [gm] w w7 := ((H4.out.2.1.trans HW6.out.2.2.2.1).mono (by simp)).trans HK7.out.2.1
    have Q8 : HpS (wE w) w8 H (hp0 n P) 0 0 := HpS.far (HpS.base HKb.out.2.2 (wE_to c07)) e8 (fun k hk hF => by
      have h1 := HpS.lo HKb.out.2.2 hF
      have e : k = gm := by simpa using hk
      omega) (fun j _ => Nat.zero_le j)
    have n8 : ∀ k, HpF H (hp0 n P) k → w7.heap.size ≤ k ∧ k < w8.heap.size := fun k hF => ⟨HpS.lo HKb.out.2.2 hF, Nat.lt_of_lt_of_le (HpS.hi HKb.out.2.2 hF) e8.size⟩
    obtain ⟨v8, hv8⟩ : ∃ v, v = updV v7 6 (.pointer (some ⟨H.gh, 0, none⟩)) := ⟨_, rfl⟩
    rw [← hv8] at K8
    have q0 : w8.cell? ⟨gc, 0, none⟩ = some (.int .i64 (P : Nat)) := K8.Bc.cellv 0 rfl
    have HK8 := Lib.hid (And.intro K8 (And.intro s8 (And.intro hv8 (And.intro Q8 n8)))); clear K8 s8 hv8 Q8 n8 hw8 z6 y6 e8 hgm7 c07
    go_wp2_with fail
    refine (sc_new w8 P hP1 hP).mono ?_
    rintro e wc ⟨gsd, gq, vr, gr, rfl, Is, ns, cc⟩
    have Kc := HK8.out.1.chg0 cc
    have z10 := Kc.at_ 10 (by decide)
    have y10 := Kc.Bm.frozen 10
    have HKc := Lib.hid (And.intro Kc (And.intro cc (And.intro Is ns))); clear Kc cc Is ns q0
    go_upto_region 10 with fail
    obtain ⟨w9, hw9⟩ : ∃ w', w' = wc.setCell ⟨gm, 10, none⟩ (.pointer (some ⟨gsd, 0, none⟩)) := ⟨_, rfl⟩
    rw [← hw9]
    have K9 := HKc.out.1.set 10 (.pointer (some ⟨gsd, 0, none⟩)) (by decide)
    rw [← hw9] at K9
    have e9 : Chg [gm] wc w9 := by rw [hw9]; exact (Chg.refl _ wc).setCell (.inl (by simp)) _
    have s9 : Chg [gm] w8 w9 := (HKc.out.2.1.mono (by simp)).trans e9
    have hgm8 := HK8.out.1.Bm.lt
    have Is9 : IsSc w9 gsd gq P vr (.slice none 0 0) gr (fun _ => rg0) [] := HKc.out.2.2.1.chg e9 (fun k hk hm => by
      have h1 := HKc.out.2.2.2 k hk
      have e : k = gm := by simpa using hm
      omega)
    have n9 : ∀ k, ScF gsd gq P vr (.slice none 0 0) gr k → w8.heap.size ≤ k ∧ k < w9.heap.size := fun k hF => ⟨HKc.out.2.2.2 k hF, Is9.lt hF⟩
    obtain ⟨v9, hv9⟩ : ∃ v, v = updV v8 10 (.pointer (some ⟨gsd, 0, none⟩)) := ⟨_, rfl⟩
    rw [← hv9] at K9
    have q0 : w9.cell? ⟨gc, 0, none⟩ = some (.int .i64 (P : Nat)) := K9.Bc.cellv 0 rfl
    have HK9 := Lib.hid (And.intro K9 (And.intro s9 (And.intro hv9 (And.intro Is9 n9)))); clear K9 s9 hv9 Is9 n9 hw9 z10 y10 e9 hgm8
    go_wp2_with fail
    refine (ph_new_ok P w9 hP1 hP).mono ?_
    rintro e wd ⟨gph, bsd, rfl, Ip, cd, np1, np2⟩
    have Kd := HK9.out.1.chg0 cd
    have z15 := Kd.at_ 15 (by decide)
    have y15 := Kd.Bm.frozen 15
    have HKd := Lib.hid (And.intro Kd (And.intro cd (And.intro Ip (And.intro np1 np2)))); clear Kd cd Ip np1 np2 q0
    go_upto_region 11 with fail
    obtain ⟨w10, hw10⟩ : ∃ w', w' = wd.setCell ⟨gm, 15, none⟩ (.pointer (some ⟨gph, 0, none⟩)) := ⟨_, rfl⟩
    rw [← hw10]
    have K10 := HKd.out.1.set 15 (.pointer (some ⟨gph, 0, none⟩)) (by decide)
    rw [← hw10] at K10
    have e10 : Chg [gm] wd w10 := by rw [hw10]; exact (Chg.refl _ wd).setCell (.inl (by simp)) _
    have s10 : Chg [gm] w9 w10 := (HKd.out.2.1.mono (by simp)).trans e10
    have hgm9 := HK9.out.1.Bm.lt
    have Ip10 : IsPh w10 gph bsd { ph := 0, cyc := 0, said := List.replicate P false, cnt := 0, rs := 0 } := HKd.out.2.2.1.chg e10 (fun hm => by
      have h1 := HKd.out.2.2.2.1
      have e : gph = gm := by simpa using hm
      omega) (fun hm => by
      have h1 := HKd.out.2.2.2.2
      have e : bsd = gm := by simpa using hm
      omega)
    have n10 : ∀ k, k = gph ∨ k = bsd → w9.heap.size ≤ k ∧ k < w10.heap.size := fun k hF => by
      rcases hF with rfl | rfl
      · exact ⟨HKd.out.2.2.2.1, Ip10.g.lt⟩
      · exact ⟨HKd.out.2.2.2.2, Ip10.b.lt⟩
    obtain ⟨v10, hv10⟩ : ∃ v, v = updV v9 15 (.pointer (some ⟨gph, 0, none⟩)) := ⟨_, rfl⟩
    rw [← hv10] at K10
    have HK10 := Lib.hid (And.intro K10 (And.intro s10 (And.intro hv10 (And.intro Ip10 n10)))); clear K10 s10 hv10 Ip10 n10 hw10 z15 y15 e10 hgm9
    go_wp2_with fail
    refine (st_new w10).mono ?_
    rintro e wf ⟨gst, rfl, nst, Ist, cf1⟩
    have HKf := Lib.hid (And.intro (HK10.out.1.chg0 cf1) (And.intro cf1 (And.intro nst Ist))); clear cf1 nst Ist
    go_wp2_with fail
    refine (tm_new wf).mono ?_
    rintro e wg ⟨gtm, rfl, ntm, Btm, cg⟩
    have HKg := Lib.hid (And.intro (HKf.out.1.chg0 cg) (And.intro cg (And.intro ntm Btm))); clear cg ntm Btm
    go_wp2_with fail
    refine (wt_new wg).mono ?_
    rintro e wh ⟨gwt, rfl, nwt, Bwt, ch⟩
    have Kh := HKg.out.1.chg0 ch
    have z7 := Kh.at_ 7 (by decide)
    have z11 := Kh.at_ 11 (by decide)
    have z12 := Kh.at_ 12 (by decide)
    have y7 := Kh.Bm.frozen 7
    have y11 := Kh.Bm.frozen 11
    have y12 := Kh.Bm.frozen 12
    have HKh := Lib.hid (And.intro Kh (And.intro ch (And.intro nwt Bwt))); clear Kh ch nwt Bwt
    go_upto_region 12 with fail
    obtain ⟨wL, hwL⟩ : ∃ w', w' = ((wh.setCell ⟨gm, 7, none⟩ (.pointer (some ⟨gst, 0, none⟩))).setCell ⟨gm, 11, none⟩ (.pointer (some ⟨gtm, 0, none⟩))).setCell ⟨gm, 12, none⟩ (.pointer (some ⟨gwt, 0, none⟩)) := ⟨_, rfl⟩
    rw [← hwL]
    have KL := ((HKh.out.1.set 7 (.pointer (some ⟨gst, 0, none⟩)) (by decide)).set 11 (.pointer (some ⟨gtm, 0, none⟩)) (by decide)).set 12 (.pointer (some ⟨gwt, 0, none⟩)) (by decide)
    rw [← hwL] at KL
    have eL : Chg [gm] wh wL := by rw [hwL]; exact (((Chg.refl _ wh).setCell (.inl (by simp)) _).setCell (.inl (by simp)) _).setCell (.inl (by simp)) _
    have hgm10 := HK10.out.1.Bm.lt
    have hs1 := HKf.out.2.1.size
    have hs2 := HKg.out.2.1.size
    have IstL : IsSt wL gst (.slice none 0 0) [] := by
      have c := ((HKg.out.2.1.trans HKh.out.2.1).mono (T := [gm]) (by simp)).trans eL
      have hne : gst ∉ [gm] := fun hm => by
        have h1 := HKf.out.2.2.1
        have e : gst = gm := by simpa using hm
        omega
      exact ⟨c.blk HKf.out.2.2.2.b hne, OwnI.nil _ _, HKf.out.2.2.2.r⟩
    have BtmL : Blk wL gtm 166 #[.slice none 0 0, .int .i64 0] := ((HKh.out.2.1.mono (T := [gm]) (by simp)).trans eL).blk HKg.out.2.2.2 (fun hm => by
      have h1 := HKg.out.2.2.1
      have e : gtm = gm := by simpa using hm
      omega)
    have BwtL : Blk wL gwt 223 (wtC fun _ => .slice none 0 0) := eL.blk HKh.out.2.2.2 (fun hm => by
      have h1 := HKh.out.2.2.1
      have e : gwt = gm := by simpa using hm
      omega)
    have sL : Chg [gm] w10 wL := ((HKf.out.2.1.trans (HKg.out.2.1.trans HKh.out.2.1)).mono (by simp)).trans eL
    obtain ⟨vL, hvL⟩ : ∃ v, v = updV (updV (updV v10 7 (.pointer (some ⟨gst, 0, none⟩))) 11 (.pointer (some ⟨gtm, 0, none⟩))) 12 (.pointer (some ⟨gwt, 0, none⟩)) := ⟨_, rfl⟩
    rw [← hvL] at KL
    have n11 : w10.heap.size ≤ gst ∧ gst < wf.heap.size ∧ wf.heap.size ≤ gtm ∧ gtm < wg.heap.size ∧ wg.heap.size ≤ gwt ∧ gwt < wL.heap.size := ⟨HKf.out.2.2.1, HKf.out.2.2.2.b.lt, HKg.out.2.2.1, HKg.out.2.2.2.lt, HKh.out.2.2.1, BwtL.lt⟩
    have q0 : wL.cell? ⟨gc, 0, none⟩ = some (.int .i64 (P : Nat)) := KL.Bc.cellv 0 rfl
    have h9 : vL 9 = .slice none 0 0 := by rw [hvL, HK10.out.2.2.1, HK9.out.2.2.1, HK8.out.2.2.1, HK7.out.2.2, HW6.out.1]; rfl
    have L0 : NlR wL wL gc gm P wo b1 b2 vL 0 (.slice none 0 0) (fun _ => 0) (fun _ => 0) := ⟨KL.Bc, by
        rw [updV_selfM h9]; exact KL.Bm, OwnV.nil _ _, fun k hk => by simp [fpv, Value.ownBlock] at hk, fun q hq => by omega, fun q hq => by omega, fun q r hq => by omega, fun q r hq => by omega, Chg.refl _ _, KL.Bm.lt, KL.Bc.lt⟩
    have HL := Lib.hid (And.intro L0 (And.intro sL (And.intro hvL (And.intro IstL (And.intro BtmL (And.intro BwtL n11)))))); clear L0 KL sL hvL IstL BtmL BwtL n11 hwL eL hgm10 h9 z7 z11 z12 y7 y11 y12 hs1 hs2
    go_wp2_with fail
    go_loopg [90] (P + 1) (fun gk idx wr => NlRel wL gc gm P wo b1 b2 vL gk idx wr)
    case atStart => exact ⟨0, _, _, _, by omega, by omega, rfl, HL.out.1⟩
    case round =>
      obtain ⟨i, vps, bp, bn, hgk, hi, rfl, L⟩ := hrel
      by_cases hiP : i < P
      · have hi' : (i : Int) < (P : Int) := by omega
        obtain ⟨A, cap, hv⟩ := L.o.slice
        rw [ptrs_len] at hv
        have c9 : wr.cell? ⟨gm, 9, none⟩ = some vps := by have h := L.Bm.cellv 9 (nmC_at _ (by decide)); rw [updV_same] at h; exact h
        rw [hv] at c9
        have hgl := L.Bm.lt
        have hgv : gm ∉ fpv vps := fun hm => by have := L.nv gm hm; have := L.gl; omega
        have H3 := Lib.hid (And.intro L (And.intro hv hgk)); clear L hv hgk q0
        go_wp2_with fail
        refine wp_region_takes (fuel := 8) 10 (fun w' => Chg (fpv vps) wr w') [0, 1, 2, 3, 4] (by kernel_rfl) (by kernel_rfl) (fun _ _ _ _ _ h => h) (((Chg.refl [] wr).drew.mono (by simp))) ?_
        simp only [List.filterMap_cons, List.filterMap_nil, qGa, qGb]
        iterate 5
          refine wpTake_step (fun K hK => ?_)
          rw [if_pos (by rfl)]
          refine ⟨?_, fun w' hS' => ?_, ?_⟩
          rotate_left 1
          focus
            have y0 := hS'.cellv hgl hgv c9
            go_simp
            try with_reducible rfl
            done
          simp only [Act.put, qSa, qSb, qSc]
          refine hK _ ?_
          clear hK K
        refine wpTake_nil ?_
        generalize hx0 : wr.drew = x0
        have D0 : Chg [] wr x0 := by rw [← hx0]; exact (Chg.refl [] wr).drew
        clear hx0
        refine wpAnyS_ready (rs := [5]) (by kernel_rfl) (by simp) ?_
        refine AllReadyS.o (fun K hK => ?_)
        rw [if_pos (by rfl)]
        go_simp
        go_at_call 61
        refine (br_new x0).mono ?_
        rintro e x1 ⟨gb, rfl, hgb, B1, k1⟩
        try dsimp only
        have D1 : Chg [] wr x1 := D0.trans k1
        have F1 : Chg (fpv vps) wr x1 := D1.mono (by simp)
        refine hK _ _ (F1) ?_
        clear hK K
        try simp only [Act.put, qSa, qSb, qSc]
        refine wpAnyS_more (fuel := 6) [6] (by kernel_rfl) (fun _ _ _ _ _ h => h) F1 ?_
        simp only [List.filterMap_cons, List.filterMap_nil, qGa, qGb]
        refine wpTake_step (fun K hK => ?_)
        rw [if_pos (by rfl)]
        refine ⟨?_, fun w' hS' => ?_, ?_⟩
        rotate_left 1
        focus
          have y0 := hS'.cellv hgl hgv c9
          go_simp
          try with_reducible rfl
          done
        simp only [Act.put, qSa, qSb, qSc]
        refine hK _ ?_
        clear hK K
        refine wpTake_nil ?_
        refine wpAnyS_ready (rs := [7]) (by kernel_rfl) (by simp) ?_
        refine AllReadyS.o (fun K hK => ?_)
        rw [if_pos (by rfl)]
        go_simp
        obtain ⟨x2, hx2⟩ : ∃ x2, x2 = x1.alloc (.cells (prcC pr0 (.pointer none) gb) 128) := ⟨_, rfl⟩
        obtain ⟨gpr, hgpr⟩ : ∃ g, g = x1.heap.size := ⟨_, rfl⟩
        have B2 : Blk x2 gb 205 brC := by rw [hx2]; exact B1.alloc _
        have Q2 : Blk x2 gpr 128 (prcC pr0 (.pointer none) gb) := by rw [hx2, hgpr]; exact Blk.new _ _ _
        have D2 : Chg [] wr x2 := by rw [hx2]; exact D1.alloc _
        have hx2' := hx2
        simp only [prcC, pr0] at hx2'
        rw [← hx2', ← hgpr]
        have hq1 : wr.heap.size ≤ gpr := by rw [hgpr]; exact D1.size
        clear hx2 hgpr hx2'
        refine hK _ _ ((D2.mono (by simp))) ?_
        clear hK K
        try simp only [Act.put, qSa, qSb, qSc]
        refine wpAnyS_ready (rs := [8]) (by kernel_rfl) (by simp) ?_
        refine AllReadyS.o (fun K hK => ?_)
        rw [if_pos (by rfl)]
        go_simp
        obtain ⟨x3, hx3⟩ : ∃ x3, x3 = x2.alloc (.cells #[.pointer (some ⟨gpr, 0, none⟩)] 124) := ⟨_, rfl⟩
        obtain ⟨gs, hgs⟩ : ∃ gs, gs = x2.heap.size := ⟨_, rfl⟩
        have B3 : Blk x3 gb 205 brC := by rw [hx3]; exact B2.alloc _
        have Q3 : Blk x3 gpr 128 (prcC pr0 (.pointer none) gb) := by rw [hx3]; exact Q2.alloc _
        have S3 : Blk x3 gs 124 #[.pointer (some ⟨gpr, 0, none⟩)] := by rw [hx3, hgs]; exact Blk.new _ _ _
        have D3 : Chg [] wr x3 := by rw [hx3]; exact D2.alloc _
        rw [← hx3, ← hgs]
        clear hx3 hgs
        refine hK _ _ ((D3.mono (by simp))) ?_
        clear hK K
        try simp only [Act.put, qSa, qSb, qSc]
        refine wpAnyS_ready (rs := [9]) (by kernel_rfl) (by simp) ?_
        refine AllReadyS.o (fun K hK => ?_)
        have hN : (ptrs bp i).length + [Value.pointer (some ⟨gpr, 0, none⟩)].length = i + 1 := by rw [ptrs_len]; rfl
        refine step_cat_v (i + 1) hN (by rfl) _ _ (by rfl) tyPr (v := .slice A i cap) (by rfl) (by have := H3.out.1.o.chg0 D3; rw [H3.out.2.1] at this; exact this) (by rfl) (RdV.one_ S3 rfl) (by omega) ?_
        intro A4 c4 x4 O4 S4
        have D4 : Chg (fpv vps) wr x4 := (D3.mono (by simp)).trans (by have := S4.c; rw [H3.out.2.1]; exact this)
        refine hK _ _ (D4) ?_
        clear hK K
        try simp only [Act.put, qSa, qSb, qSc]
        refine wpAnyS_tail 10 3 (by kernel_rfl) rfl ?_
        simp only [qDa, qDb]
        have S4' : Stp (fpv vps) (fpv (.slice A4 (i + 1) c4)) x3 x4 := by rw [H3.out.2.1]; exact S4
        have hb1 : wr.heap.size ≤ gb := Nat.le_trans D0.size hgb
        have M := H3.out.1.more D3 Q3 hq1 B3 hb1 O4 S4'
        have Bg := D4.blk H3.out.1.Bm hgv
        have z0 : x4.cell? ⟨gm, 9, none⟩ = some (.slice A i cap) := by have h := Bg.cellv 9 (nmC_at _ (by decide)); rw [updV_same, H3.out.2.1] at h; exact h
        have z1 := Bg.frozen 9
        have HM := Lib.hid M
        clear F1 M S4 S4' O4 B1 B2 B3 Q2 Q3 S3 D0 D1 D2 D3 D4 Bg k1 hb1 hq1 hgb c9
        go_wp2_with fail
        go_roundg (P - i)
        case measure => have := H3.out.2.2; omega
        case rel => exact ⟨i + 1, _, _, _, by have := H3.out.2.2; omega, by omega, by go_num, HM.out⟩
      · have e : i = P := by omega
        have hi' : ¬ (i : Int) < (P : Int) := by omega
        subst e
        have H3 := Lib.hid L; clear L hgk q0
        have MK : MM ⟨w, []⟩ wr (mk0p gm H gst vps bp bn gsd gq vr gr gtm gwt gl G gph bsd (.slice Af fs.length cf) vf) (mk0m G fs (wo : Nat) pct on part n i) := by
          have L := H3.out
          have cL : Chg [gm] wL wr := L.c
          have d10 : Chg [gm] w10 wr := HL.out.2.1.trans cL
          have d9 : Chg [gm] w9 wr := HK10.out.2.1.trans d10
          have d8 : Chg [gm] w8 wr := HK9.out.2.1.trans d9
          have d7 : Chg [gm] w7 wr := HK8.out.2.1.trans d8
          have d6 : Chg [gm] w6 wr := HK7.out.2.1.trans d7
          have d4 : Chg [gm] w4 wr := (HW6.out.2.2.2.1.mono (by simp)).trans d6
          have g1 : gm < w6.heap.size := HK6.out.Bm.lt
          have g2 := HW6.out.2.2.1
          have g3 := HW6.out.2.2.2.2.1
          have z67 := HK7.out.2.1.size
          have z78 := HK8.out.2.1.size
          have z89 := HK9.out.2.1.size
          have z910 := HK10.out.2.1.size
          have zL := HL.out.2.1.size
          have z34 := H4.out.2.2.2.2.2.1.size
          have z23 := H4.out.2.2.2.2.1.size
          have zr := cL.size
          have z02 : w.heap.size ≤ w2.heap.size := hsz2.out
          have n11 := HL.out.2.2.2.2.2.2
          have n4 := H4.out.2.2.2.1
          have n8 := HK8.out.2.2.2.2
          have n9 := HK9.out.2.2.2.2
          have n10 := HK10.out.2.2.2.2
          refine mm_made (aSt w2.heap.size w4.heap.size gm w7.heap.size w8.heap.size w9.heap.size w10.heap.size wf.heap.size wg.heap.size wL.heap.size) z02 (H4.out.2.1.newS d4 (fun k hk => by have e : k = gm := (by simpa using hk); have := H4.out.2.1.size; omega)) (fun r hr => ?_) (fun k j hj => ?_) (fun k k' j hk hk' hj hj' => ?_) (fun k j hk hj => ?_) zr (fun k => ?_)
          · have : r = 0 ∨ r = 1 ∨ r = 2 ∨ r = 3 ∨ r = 4 ∨ r = 5 ∨ r = 6 ∨ r = 7 ∨ r = 8 := by omega
            rcases this with rfl | rfl | rfl | rfl | rfl | rfl | rfl | rfl | rfl <;> simp only [aSt] <;> omega
          · have nofp : ∀ {j : Nat}, j ∈ fpv (Value.slice none 0 0) → False := fun h => by simp [fpv, Value.ownBlock] at h
            cases k with
            | mach => have e : j = gm := hj; refine .inl ⟨by decide, ?_, ?_⟩ <;> simp only [rkK, aSt] <;> omega
            | heap => have := n8 j hj; refine .inl ⟨by decide, ?_, ?_⟩ <;> simp only [rkK, aSt] <;> omega
            | states => rcases hj with h | h; (have e : j = gst := h; refine .inl ⟨by decide, ?_, ?_⟩ <;> simp only [rkK, aSt] <;> omega); exact (nofp h).elim
            | gsl => exact (nofp hj).elim
            | gor g => exact absurd hj.1 (Nat.not_lt_zero _)
            | psl => exact .inr ⟨rfl, L.nv j hj⟩
            | proc q => obtain ⟨h1, rfl⟩ := hj; exact .inr ⟨rfl, (L.pr q h1).2⟩
            | notes q => obtain ⟨h1, rfl⟩ := hj; exact .inr ⟨rfl, (L.br q h1).2⟩
            | sched => have := n9 j hj; refine .inl ⟨by decide, ?_, ?_⟩ <;> simp only [rkK, aSt] <;> omega
            | timers => rcases hj with h | h; (have e : j = gtm := h; refine .inl ⟨by decide, ?_, ?_⟩ <;> simp only [rkK, aSt] <;> omega); exact (nofp h).elim
            | waits => rcases hj with h | ⟨_, _, h⟩; (have e : j = gwt := h; refine .inl ⟨by decide, ?_, ?_⟩ <;> simp only [rkK, aSt] <;> omega); exact (nofp h).elim
            | globs =>
              have e : j = gl := by
                have h : j ∈ fpv (.slice (some ⟨gl, 0, none⟩) G G) := hj
                simp [fpv, Value.ownBlock] at h
                first | exact h | exact h.1 | omega
              refine .inl ⟨by decide, ?_, ?_⟩ <;> simp only [rkK, aSt] <;> omega
            | phases => have := n10 j hj; refine .inl ⟨by decide, ?_, ?_⟩ <;> simp only [rkK, aSt] <;> omega
            | commits => exact (nofp hj).elim
            | parked => exact (nofp hj).elim
            | freed => exact (nofp hj).elim
            | prog => have := n4 j hj; refine .inl ⟨by decide, ?_, ?_⟩ <;> simp only [rkK, aSt] <;> omega
          · have np : ∀ q, q < i → bp q ∉ fpv vps := fun q hq hm => own_ne L.o.o (L.pr q hq).1 (by decide) (mem_fpv.1 hm)
            have nn : ∀ q, q < i → bn q ∉ fpv vps := fun q hq hm => own_ne L.o.o (L.br q hq).1 (by decide) (mem_fpv.1 hm)
            cases k <;> first | (exfalso; revert hk; simp [rkK]; done) | skip
            · cases k' <;> first | (exfalso; revert hk'; simp [rkK]; done) | rfl | skip
              · obtain ⟨h1, h2⟩ := hj'; exact (np _ h1 (by subst h2; exact hj)).elim
              · obtain ⟨h1, h2⟩ := hj'; exact (nn _ h1 (by subst h2; exact hj)).elim
            · rename_i q
              obtain ⟨h1, h2⟩ := hj
              cases k' <;> first | (exfalso; revert hk'; simp [rkK]; done) | skip
              · exact (np _ h1 (by subst h2; exact hj')).elim
              · rename_i r
                obtain ⟨h1', h2'⟩ := hj'
                by_cases e : q = r
                · rw [e]
                · exact (L.d1 q r h1 h1' e (h2.symm.trans h2')).elim
              · obtain ⟨h1', h2'⟩ := hj'
                exact ((L.pr _ h1).1.ne_ (L.br _ h1').1 (by decide) (h2.symm.trans h2')).elim
            · rename_i q
              obtain ⟨h1, h2⟩ := hj
              cases k' <;> first | (exfalso; revert hk'; simp [rkK]; done) | skip
              · exact (nn _ h1 (by subst h2; exact hj')).elim
              · obtain ⟨h1', h2'⟩ := hj'
                exact ((L.pr _ h1').1.ne_ (L.br _ h1).1 (by decide) (h2'.symm.trans h2)).elim
              · rename_i r
                obtain ⟨h1', h2'⟩ := hj'
                by_cases e : q = r
                · rw [e]
                · exact (L.d2 q r h1 h1' e (h2.symm.trans h2')).elim
          · cases k <;> first | (exfalso; revert hk; simp [rkK]; done) | skip
            · exact L.o.lt hj
            · obtain ⟨h1, rfl⟩ := hj; exact (L.pr _ h1).1.lt
            · obtain ⟨h1, rfl⟩ := hj; exact (L.br _ h1).1.lt
          · cases k with
            | mach =>
              have h := L.Bm
              rw [HL.out.2.2.1, HK10.out.2.2.1, HK9.out.2.2.1, HK8.out.2.2.1, HK7.out.2.2, HW6.out.1] at h
              exact h
            | heap => exact HpS.far HK8.out.2.2.2.1 d8 (fun k hk hF => by have := n8 k hF; have e : k = gm := (by simpa using hk); omega) (fun j _ => Nat.zero_le j)
            | states => exact ⟨cL.blk HL.out.2.2.2.1.b (fun hm => by have e : gst = gm := List.mem_singleton.1 hm; omega), OwnI.nil _ _, HL.out.2.2.2.1.r⟩
            | gsl => exact OwnV.nil _ _
            | gor g => exact fun h => absurd h (Nat.not_lt_zero _)
            | psl => exact L.o
            | proc q => exact fun h => (L.pr q h).1
            | notes q => exact fun h => (L.br q h).1
            | sched => exact HK9.out.2.2.2.1.chg d9 (fun k hF hk => by have := n9 k hF; have e : k = gm := (by simpa using hk); omega)
            | timers => exact ⟨cL.blk HL.out.2.2.2.2.1 (fun hm => by have e : gtm = gm := List.mem_singleton.1 hm; omega), OwnG.nil _ _⟩
            | waits => exact ⟨cL.blk HL.out.2.2.2.2.2.1 (fun hm => by have e : gwt = gm := List.mem_singleton.1 hm; omega), fun _ _ => OwnI.nil _ _, fun i j _ _ _ k hk => absurd hk (by show k ∉ fpv (.slice none 0 0); simp [fpv, Value.ownBlock])⟩
            | globs => exact OwnI.zer (d6.blk HW6.out.2.1 (fun hm => by have e : gl = gm := (by simpa using hm); omega)) (by omega)
            | phases => exact HK10.out.2.2.2.1.chg d10 (fun hm => by have := n10 gph (.inl rfl); have e : gph = gm := (by simpa using hm); omega) (fun hm => by have := n10 bsd (.inr rfl); have e : bsd = gm := (by simpa using hm); omega)
            | commits => exact OwnG.nil _ _
            | parked => exact OwnI.nil _ _
            | freed => exact OwnI.nil _ _
            | prog => exact ⟨H4.out.2.2.1.o.chg d4 (fun k hk hm => by have := n4 k (.inl hk); have e : k = gm := (by simpa using hm); omega), fun q l hq => (H4.out.2.2.1.f q l hq).chg d4 (fun k hk hm => by have := n4 k (.inr ⟨q, (List.getElem?_eq_some_iff.1 hq).1, hk⟩); have e : k = gm := (by simpa using hm); omega)⟩
        obtain ⟨p0, hp0⟩ : ∃ p : MAt, p = mk0p gm H gst vps bp bn gsd gq vr gr gtm gwt gl G gph bsd (.slice Af fs.length cf) vf := ⟨_, rfl⟩
        obtain ⟨m0, hm0⟩ : ∃ m : Mac, m = mk0m G fs (wo : Nat) pct on part n i := ⟨_, rfl⟩
        rw [← hp0, ← hm0] at MK
        have egm : p0.gm = gm := by rw [hp0]; rfl
        have x2 : wr.cell? ⟨gm, 2, none⟩ = some (.int .i64 (wo : Nat)) := by rw [← egm]; have h : wr.cell? ⟨p0.gm, 2, none⟩ = some (.int .i64 m0.words) := MK.mb.cellv 2 rfl; rw [h, hm0]; rfl
        have x3 : wr.cell? ⟨gm, 3, none⟩ = some (.int .i64 pct) := by rw [← egm]; have h : wr.cell? ⟨p0.gm, 3, none⟩ = some (.int .i64 m0.pct) := MK.mb.cellv 3 rfl; rw [h, hm0]; rfl
        have x4 : wr.cell? ⟨gm, 4, none⟩ = some (.bool on) := by rw [← egm]; have h : wr.cell? ⟨p0.gm, 4, none⟩ = some (.bool m0.on) := MK.mb.cellv 4 rfl; rw [h, hm0]; rfl
        have HMK := Lib.hid (And.intro MK (And.intro hp0 (And.intro hm0 egm))); clear MK hp0 hm0 egm
        have lgm : gm < wr.heap.size := by rw [← HMK.out.2.2.2]; exact HMK.out.1.mb.lt
        go_wp2_with fail
        refine wp_region_takes (fuel := 4) 14 (fun w' => Chg [] wr w') [0, 1, 2, 3, 4, 5, 6, 7, 8, 9, 10, 11, 12] (by kernel_rfl) (by kernel_rfl) (fun _ _ _ _ _ h => h) ((Chg.refl [] wr).drew) ?_
        simp only [List.filterMap_cons, List.filterMap_nil, qGa, qGb]
        iterate 13
          refine wpTake_step (fun K hK => ?_)
          rw [if_pos (by rfl)]
          refine ⟨?_, fun w' hS' => ?_, ?_⟩
          rotate_left 1
          focus
            have j0 := hS'.cellv lgm (by simp) x2
            have j1 := hS'.cellv lgm (by simp) x3
            have j2 := hS'.cellv lgm (by simp) x4
            go_simp
            try with_reducible rfl
            done
          simp only [Act.put, qSa, qSb, qSc]
          refine hK _ ?_
          clear hK K
        refine wpTake_nil ?_
        generalize hx0 : wr.drew = x0
        have D0 : Chg [] wr x0 := by rw [← hx0]; exact (Chg.refl [] wr).drew
        clear hx0
        refine wpAnyS_ready (rs := [13]) (by kernel_rfl) (by simp) ?_
        refine AllReadyS.o (fun K hK => ?_)
        rw [if_pos (by rfl)]
        go_simp
        go_at_call 62
        refine (pc_goal x0 wo (by have := Hwo.out; omega) (by have := Hwo.out; omega) pct on).mono ?_
        rintro e wq ⟨tt, tg, tr, rfl, htt0, cq⟩
        have htt : on = onB b1 ∧ GlIs wo on tt tg tr := ⟨HON.out, htt0⟩
        clear htt0
        try dsimp only
        have D1 : Chg [] wr wq := D0.trans cq
        refine hK _ _ (D1) ?_
        clear hK K
        try simp only [Act.put, qSa, qSb, qSc]
        refine wpAnyS_tail 14 3 (by kernel_rfl) rfl ?_
        simp only [qDa, qDb]
        have Mq := HMK.out.1.chg0 D1
        have z19 : wq.cell? ⟨gm, 19, none⟩ = some (.int .i64 0) := by rw [← HMK.out.2.2.2]; have h : wq.cell? ⟨p0.gm, 19, none⟩ = some (.int .i64 m0.gT) := Mq.mb.cellv 19 rfl; rw [h, HMK.out.2.2.1]; rfl
        have z20 : wq.cell? ⟨gm, 20, none⟩ = some (.int .i64 0) := by rw [← HMK.out.2.2.2]; have h : wq.cell? ⟨p0.gm, 20, none⟩ = some (.int .i64 m0.gG) := Mq.mb.cellv 20 rfl; rw [h, HMK.out.2.2.1]; rfl
        have z21 : wq.cell? ⟨gm, 21, none⟩ = some (.int .i64 0) := by rw [← HMK.out.2.2.2]; have h : wq.cell? ⟨p0.gm, 21, none⟩ = some (.int .i64 m0.gR) := Mq.mb.cellv 21 rfl; rw [h, HMK.out.2.2.1]; rfl
        have y19 := Mq.mb.frozen 19
        have y20 := Mq.mb.frozen 20
        have y21 := Mq.mb.frozen 21
        rw [HMK.out.2.2.2] at y19 y20 y21
        have HMq := Lib.hid Mq; clear Mq cq x2 x3 x4 D0 D1
        go_upto_region 17 with fail
        obtain ⟨wt, hwt⟩ : ∃ w', w' = ((wq.setCell ⟨gm, 19, none⟩ (.int .i64 tt)).setCell ⟨gm, 20, none⟩ (.int .i64 tg)).setCell ⟨gm, 21, none⟩ (.int .i64 tr) := ⟨_, rfl⟩
        rw [← hwt]
        have Mt : MM ⟨w, []⟩ wt p0 { m0 with gT := tt, gG := tg, gR := tr } := by
          rw [hwt, ← HMK.out.2.2.2]
          have a1 := HMq.out.mset (p' := p0) (m' := { m0 with gT := tt }) 19 (.int .i64 tt) rfl (by unfold mC; simp) (fun k hk => by cases k <;> first | exact absurd rfl hk | exact ⟨rfl, fun _ => rfl⟩)
          have a2 := a1.mset (p' := p0) (m' := { m0 with gT := tt, gG := tg }) 20 (.int .i64 tg) rfl (by unfold mC; simp) (fun k hk => by cases k <;> first | exact absurd rfl hk | exact ⟨rfl, fun _ => rfl⟩)
          exact a2.mset (p' := p0) (m' := { m0 with gT := tt, gG := tg, gR := tr }) 21 (.int .i64 tr) rfl (by unfold mC; simp) (fun k hk => by cases k <;> first | exact absurd rfl hk | exact ⟨rfl, fun _ => rfl⟩)
        have KS := m_spawn Mt 0 0 0 (by rw [HMK.out.2.2.1]; exact hP1) (by rw [HMK.out.2.2.1]; rfl) (by rw [HMK.out.2.2.1]; show (0 : Nat) < 1024; decide) (by rw [HMK.out.2.1]; rfl) (by rw [HMK.out.2.2.1]; show rg0.fr < 256; decide) (by rw [HMK.out.2.2.1]; show rg0.n < 256; decide) (by rw [HMK.out.2.2.1]; rfl)
        rw [HMK.out.2.2.2] at KS
        have HKS := Lib.hid KS; clear KS Mt hwt z19 z20 z21 y19 y20 y21
        go_wp2_with fail
        refine (HKS.out).mono ?_
        rintro e ws ⟨vst, vgs, gn, rfl, Ms⟩
        go_wp2_with fail
        (try simp only [Exit.inBlock, Exit.then])
        refine bodyPost_ret (results_tmp3 rfl _ _ _) rfl ?_
        refine ⟨{ p0 with gm := gm, vst := vst, vgs := vgs, bg := updV p0.bg 0 gn }, pct, on, part, tt, tg, tr, ?_, ⟨htt.1, htt.2, by show p0.N ≤ 1000; rw [HMK.out.2.1]; exact Nat.zero_le _, by show p0.b ≤ 1000; rw [HMK.out.2.1]; exact Nat.zero_le _⟩, ?_, ?_, ?_, ?_, ?_⟩
        · rfl
        · rw [HMK.out.2.1]; rfl
        · rw [HMK.out.2.1]; rfl
        · rw [HMK.out.2.1]; rfl
        · rw [HMK.out.2.1]; rfl
        · have h := Ms
          rw [HMK.out.2.2.1] at h
          exact h
  · rw [hd] at hd'; cases hd'
end Go.Proofs.YtcpljjacamibeaaGreatDoor
