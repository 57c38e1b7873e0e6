/- Package sched: New. -/
/- Package sched: Pick, where the queue in common is empty and the P's own ring is not. -/
import Derived.Test.YtcpljjacamibeaaGreatDoorMm2J
import Derived.Laws.EntriesVeiled
namespace Go.Proofs.YtcpljjacamibeaaGreatDoor
set_option maxHeartbeats 16000000
set_option maxRecDepth 100000
open Go.RowKit Go.Maps
theorem tyRg : SlV Tryz.prog 169 173 (.pointer none) 8 := ⟨Tryz.underlying169, by kernel_rfl, rfl, by decide⟩
theorem IsSc.more {w0 w w2 : World} {g gq i : Nat} {vr vr' : Value} {gp : Nat → Nat} {gr : Nat} (I : IsSc w g gq i vr (.slice none 0 0) gp (fun _ => rg0) []) (hn : ∀ k, ScF g gq i vr (.slice none 0 0) gp k → w0.heap.size ≤ k)
    (B : Blk w gr 263 (rgC rg0)) (hgr : w0.heap.size ≤ gr) (hne : ∀ p, p < i → gp p ≠ gr) (O : OwnV 173 w2 vr' (ptrs gp i ++ [.pointer (some ⟨gr, 0, none⟩)])) (s : Stp (fpv vr) (fpv vr') w w2) (h0 : w0.heap.size ≤ w.heap.size) :
    IsSc (w2.setCell ⟨g, 0, none⟩ vr') g gq (i + 1) vr' (.slice none 0 0) (updV gp i gr) (fun _ => rg0) [] ∧ (∀ k, ScF g gq (i + 1) vr' (.slice none 0 0) (updV gp i gr) k → w0.heap.size ≤ k) ∧ Chg (g :: fpv vr) w (w2.setCell ⟨g, 0, none⟩ vr') := by
  have ng : g ∉ fpv vr := fun hm => own_ne I.o.o I.b (by decide) (mem_fpv.1 hm)
  have nq : gq ∉ fpv vr := fun hm => own_ne I.o.o I.q (by decide) (mem_fpv.1 hm)
  have nr : gr ∉ fpv vr := fun hm => own_ne I.o.o B (by decide) (mem_fpv.1 hm)
  have np : ∀ p, p < i → gp p ∉ fpv vr := fun p hp hm => own_ne I.o.o (I.r p hp) (by decide) (mem_fpv.1 hm)
  have B2 := s.c.blk I.b ng
  have ng' : g ∉ fpv vr' := fun hm => own_ne O.o B2 (by decide) (mem_fpv.1 hm)
  have c3 : Chg [g] w2 (w2.setCell ⟨g, 0, none⟩ vr') := (Chg.refl [g] w2).setCell (.inl (by simp)) _
  have hv : ∀ k ∈ fpv vr', w0.heap.size ≤ k := fun k hk => by
    rcases s.f k hk with h | h
    · exact hn k (.inr (.inr (.inl h)))
    · omega
  refine ⟨⟨B2.setv 0 _ rfl, c3.blk (s.c.blk I.q nq) (by simpa using I.q.ne_ I.b (by decide)), OwnI.nil _ _, ?_, fun p hp => ?_, fun p q hp hq hpq => ?_⟩, fun k hk => ?_, ?_⟩
  · rw [ptrs_succ, updV_same, ptrs_congr (b := updV gp i gr) (b' := gp) (fun j hj => updV_other _ _ (by omega))]
    exact O.chg c3 (fun k hk hm => ng' (by have e : k = g := (by simpa using hm); rw [← e]; exact hk))
  · by_cases e : p = i
    · subst e; rw [updV_same]
      exact c3.blk (s.c.blk B nr) (by simpa using B.ne_ I.b (by decide))
    · rw [updV_other _ _ e]
      exact c3.blk (s.c.blk (I.r p (by omega)) (np p (by omega))) (by simpa using (I.r p (by omega)).ne_ I.b (by decide))
  · by_cases e1 : p = i
    · subst e1; rw [updV_same, updV_other _ _ (Ne.symm hpq)]; exact (hne q (by omega)).symm
    · rw [updV_other _ _ e1]
      by_cases e2 : q = i
      · subst e2; rw [updV_same]; exact hne p (by omega)
      · rw [updV_other _ _ e2]; exact I.d p q (by omega) (by omega) hpq
  · rcases hk with h | h | h | h | ⟨p, hp, h⟩
    · exact hn k (.inl h)
    · exact hn k (.inr (.inl h))
    · exact hv k h
    · simp [fpv, Value.ownBlock] at h
    · by_cases e : p = i
      · subst e; rw [updV_same] at h; omega
      · rw [updV_other _ _ e] at h; exact hn k (.inr (.inr (.inr (.inr ⟨p, by omega, h⟩))))
  · exact (s.c.mono (fun k hk => .inl (List.mem_cons_of_mem _ hk))).trans (c3.mono (by simp))
def SnRel (w0 : World) (g gq P : Nat) (gk : Nat) (idx : Value) (w : World) : Prop :=
  ∃ (i : Nat) (vr : Value) (gp : Nat → Nat), gk + i = P + 1 ∧ i ≤ P ∧ idx = .int .i64 (i : Nat) ∧ IsSc w g gq i vr (.slice none 0 0) gp (fun _ => rg0) [] ∧ (∀ k, ScF g gq i vr (.slice none 0 0) gp k → w0.heap.size ≤ k) ∧ Chg [] w0 w
def ScnPost (P : Nat) (w : World) (e : Ending) (w' : World) : Prop :=
  ∃ g gq vr gp, e = .returned (.tuple #[.pointer (some ⟨g, 0, none⟩), .int .i64 0]) ∧ IsSc w' g gq P vr (.slice none 0 0) gp (fun _ => rg0) [] ∧ (∀ k, ScF g gq P vr (.slice none 0 0) gp k → w.heap.size ≤ k) ∧ Chg [] w w'
theorem sc_new (w : World) (P : Nat) (h1 : 1 ≤ P) (h2 : P ≤ 64) : Calls Tryz.prog 56 #[.int .i64 (P : Nat)] w (ScnPost P w) := by
  have d1 : decide ((P : Int) < 1) = false := decide_eq_false (by omega)
  have d2 : decide ((P : Int) > 64) = false := decide_eq_false (by omega)
  have d3 : ¬ (P : Int) < 1 := by omega
  have d4 : ¬ (P : Int) > 64 := by omega
  go_enter Tryz.func56, Tryz.ntmps56
  go_wp2_with fail
  refine (q_new w).mono ?_
  rintro e w1 ⟨gq, rfl, hq, Bq, c1⟩
  clear d1 d2 d3 d4
  go_upto_region 5 with fail
  obtain ⟨g, hg⟩ : ∃ g, g = w1.heap.size := ⟨_, rfl⟩
  obtain ⟨w2, hw2⟩ : ∃ w2, w2 = w1.alloc (.cells #[.slice none 0 0, .pointer (some ⟨gq, 0, none⟩)] 172) := ⟨_, rfl⟩
  have I2 : IsSc w2 g gq 0 (.slice none 0 0) (.slice none 0 0) (fun _ => 0) (fun _ => rg0) [] := by
    rw [hw2, hg]
    exact ⟨Blk.new _ _ _, Bq.alloc _, OwnI.nil _ _, OwnV.nil _ _, fun p hp => by omega, fun p q hp => by omega⟩
  have n2 : ∀ k, ScF g gq 0 (.slice none 0 0) (.slice none 0 0) (fun _ => 0) k → w.heap.size ≤ k := fun k hk => by
    rcases hk with h | h | h | h | ⟨p, hp, _⟩
    · have := c1.size; omega
    · omega
    · simp [fpv, Value.ownBlock] at h
    · simp [fpv, Value.ownBlock] at h
    · omega
  have c2 : Chg [] w w2 := by rw [hw2]; exact c1.alloc _
  rw [← hg, ← hw2]
  clear hg hw2 Bq c1 hq
  have H2 := Lib.hid (And.intro I2 (And.intro n2 c2)); clear I2 n2 c2
  go_wp2_with fail
  go_loopg [15] (P + 1) (fun gk idx wr => SnRel w g gq P gk idx wr)
  case atStart => exact ⟨0, _, _, by omega, by omega, rfl, H2.out.1, H2.out.2.1, H2.out.2.2⟩
  case round =>
    obtain ⟨i, vr, gp, hgk, hi, rfl, I, hn, c⟩ := hrel
    by_cases hiP : i < P
    · have hi' : (i : Int) < (P : Int) := by omega
      obtain ⟨A, cap, hv⟩ := I.o.slice
      rw [ptrs_len] at hv
      have c0 : wr.cell? ⟨g, 0, none⟩ = some vr := I.b.cellv 0 rfl
      rw [hv] at c0
      have hgl := I.b.lt
      have hgv : g ∉ fpv vr := fun hm => own_ne I.o.o I.b (by decide) (mem_fpv.1 hm)
      have H3 := Lib.hid (And.intro I (And.intro hn (And.intro c (And.intro hv hgk)))); clear I hn c hv hgk H2
      go_wp2_with fail
      refine wp_region_takes (fuel := 6) 8 (fun w' => Chg (fpv vr) wr w') [0, 1, 2, 3, 4] (by kernel_rfl) (by kernel_rfl) (fun _ _ _ _ _ h => h) (((Chg.refl [] wr).drew.mono (by simp))) ?_
      simp only [List.filterMap_cons, List.filterMap_nil, qGa, qGb]
      iterate 5
        refine wpTake_step (fun K hK => ?_)
        rw [if_pos (by rfl)]
        refine ⟨?_, fun w' hS' => ?_, ?_⟩
        rotate_left 1
        focus
          have y0 := hS'.cellv hgl hgv c0
          go_simp
          try with_reducible rfl
          done
        simp only [Act.put, qSa, qSb, qSc]
        refine hK _ ?_
        clear hK K
      refine wpTake_nil ?_
      generalize hx0 : wr.drew = x0
      have D0 : Chg [] wr x0 := by rw [← hx0]; exact (Chg.refl [] wr).drew
      clear hx0
      refine wpAnyS_ready (rs := [5]) (by kernel_rfl) (by simp) ?_
      refine AllReadyS.o (fun K hK => ?_)
      rw [if_pos (by rfl)]
      go_simp
      go_at_call 111
      refine (rg_new x0).mono ?_
      rintro e x1 ⟨gr, rfl, hgr, B1, k1⟩
      dsimp only
      have D1 : Chg [] wr x1 := D0.trans k1
      refine hK _ _ ((D1.mono (by simp))) ?_
      clear hK K
      try simp only [Act.put, qSa, qSb, qSc]
      refine wpAnyS_ready (rs := [6]) (by kernel_rfl) (by simp) ?_
      refine AllReadyS.o (fun K hK => ?_)
      rw [if_pos (by rfl)]
      go_simp
      obtain ⟨x2, hx2⟩ : ∃ x2, x2 = x1.alloc (.cells #[.pointer (some ⟨gr, 0, none⟩)] 173) := ⟨_, rfl⟩
      obtain ⟨gs, hgs⟩ : ∃ gs, gs = x1.heap.size := ⟨_, rfl⟩
      have B2 : Blk x2 gr 263 (rgC rg0) := by rw [hx2]; exact B1.alloc _
      have S2 : Blk x2 gs 173 #[.pointer (some ⟨gr, 0, none⟩)] := by rw [hx2, hgs]; exact Blk.new _ _ _
      have D2 : Chg [] wr x2 := by rw [hx2]; exact D1.alloc _
      rw [← hx2, ← hgs]
      clear hx2 hgs
      refine hK _ _ ((D2.mono (by simp))) ?_
      clear hK K
      try simp only [Act.put, qSa, qSb, qSc]
      refine wpAnyS_ready (rs := [7]) (by kernel_rfl) (by simp) ?_
      refine AllReadyS.o (fun K hK => ?_)
      have hN : (ptrs gp i).length + [Value.pointer (some ⟨gr, 0, none⟩)].length = i + 1 := by rw [ptrs_len]; rfl
      refine step_cat_v (i + 1) hN (by rfl) _ _ (by rfl) tyRg (v := .slice A i cap) (by rfl) (by have := (H3.out.1.chg0 D2).o; rw [H3.out.2.2.2.1] at this; exact this) (by rfl) (RdV.one_ S2 rfl) (by omega) ?_
      intro A3 c3 x3 O3 S3
      have hge : w.heap.size ≤ gr := by have := H3.out.2.2.1.size; have := D0.size; omega
      have hnep : ∀ p, p < i → gp p ≠ gr := fun p hp e => by have := (H3.out.1.r p hp).lt; have := D0.size; omega
      have D3 : Chg (fpv vr) wr x3 := (D2.mono (by simp)).trans (by have := S3.c; rw [H3.out.2.2.2.1]; exact this)
      refine hK _ _ (D3) ?_
      clear hK K
      try simp only [Act.put, qSa, qSb, qSc]
      refine wpAnyS_tail 8 3 (by kernel_rfl) rfl ?_
      simp only [qDa, qDb]
      have S3' : Stp (fpv vr) (fpv (.slice A3 (i + 1) c3)) x2 x3 := by rw [H3.out.2.2.2.1]; exact S3
      have hsz : w.heap.size ≤ x2.heap.size := Nat.le_trans H3.out.2.2.1.size D2.size
      have M := (H3.out.1.chg0 D2).more (w0 := w) H3.out.2.1 B2 hge hnep O3 S3' hsz
      have ngv : g ∉ fpv vr := fun hm => own_ne H3.out.1.o.o H3.out.1.b (by decide) (mem_fpv.1 hm)
      have Bg := D3.blk H3.out.1.b ngv
      have z0 : x3.cell? ⟨g, 0, none⟩ = some vr := Bg.cellv 0 rfl
      have z1 := Bg.frozen 0
      have cM := (H3.out.2.2.1.trans D2).newS M.2.2 (fun k hk => by
        rcases List.mem_cons.1 hk with h | h
        · exact H3.out.2.1 k (.inl h)
        · exact H3.out.2.1 k (.inr (.inr (.inl h))))
      have HM := Lib.hid (And.intro M.1 (And.intro M.2.1 cM))
      clear M S3 S3' O3 B1 B2 S2 D0 D1 D2 D3 Bg k1 hnep cM
      go_wp2_with fail
      go_roundg (P - i)
      case measure => have := H3.out.2.2.2.2; omega
      case rel => exact ⟨i + 1, _, _, by have := H3.out.2.2.2.2; omega, by omega, by go_num, HM.out.1, HM.out.2.1, HM.out.2.2⟩
    · have e : i = P := by omega
      have hi' : ¬ (i : Int) < (P : Int) := by omega
      have H3 := Lib.hid (And.intro I (And.intro hn (And.intro c e))); clear I hn c hgk H2 e
      go_wp2_with fail
      go_ret2
      have h := H3.out
      rw [h.2.2.2] at h
      exact ⟨g, gq, vr, gp, rfl, h.1, h.2.1, h.2.2.1⟩
structure PkW (w0 : World) (gs gk gt gv g p : Nat) (tick vic : Int) (w : World) : Prop where
  s : Blk w gs 100 #[.pointer (some ⟨g, 0, none⟩)]
  p : Blk w gk 3 #[.int .i64 (p : Nat)]
  t : Blk w gt 3 #[.int .i64 tick]
  v : Blk w gv 3 #[.int .i64 vic]
  c : Chg [] w0 w
theorem PkW.chg0 {w0 w w' : World} {gs gk gt gv g p : Nat} {tick vic : Int} (h : PkW w0 gs gk gt gv g p tick vic w) (c : Chg [] w w') : PkW w0 gs gk gt gv g p tick vic w' := ⟨c.blk h.s (by simp), c.blk h.p (by simp), c.blk h.t (by simp), c.blk h.v (by simp), h.c.trans c⟩
def PkRel (w0 : World) (gs gk gt gv g p : Nat) (tick vic : Int) (gf gr gq P : Nat) (vr vq : Value) (gp : Nat → Nat) (r : Nat → RgR) (com : List Int) (gn : Nat) (idx : Value) (w : World) : Prop :=
  Blk w gf 311 #[.func (Fn.func 208) #[] #[.pointer (some ⟨gt, 0, none⟩), .pointer (some ⟨gs, 0, none⟩)], .func (Fn.func 214) #[.pointer (some ⟨gp p, 0, none⟩)] #[],
    .func (Fn.func 211) #[] #[.pointer (some ⟨gs, 0, none⟩), .pointer (some ⟨gr, 0, none⟩)], .func (Fn.func 212) #[] #[.pointer (some ⟨gs, 0, none⟩), .pointer (some ⟨gv, 0, none⟩), .pointer (some ⟨gk, 0, none⟩), .pointer (some ⟨gr, 0, none⟩)]] ∧
  PkW w0 gs gk gt gv g p tick vic w ∧ IsSc w g gq P vr vq gp r com ∧ ((gn = 2 ∧ idx = .int .i64 0) ∨ (gn = 1 ∧ idx = .int .i64 1))
section
variable {w : World} {g gq P : Nat} {vr vq : Value} {gp : Nat → Nat} {r : Nat → RgR} {com : List Int} (I : IsSc w g gq P vr vq gp r com)
include I
theorem sc_fair0 (hq : vq = .slice none 0 0) (gt gs : Nat) (tick : Int) (ht : tick = 1 ∨ tick = 61) (ct : w.cell? ⟨gt, 0, none⟩ = some (.int .i64 tick)) (cs : w.cell? ⟨gs, 0, none⟩ = some (.pointer (some ⟨g, 0, none⟩))) :
    Calls Tryz.prog 208 #[.pointer (some ⟨gt, 0, none⟩), .pointer (some ⟨gs, 0, none⟩)] w (QuPost (.tuple #[.int .i64 0, .bool false]) w) := by
  have c1 : w.cell? ⟨g, 1, none⟩ = some (.pointer (some ⟨gq, 0, none⟩)) := I.b.cellv 1 rfl
  have K := q_len0 w gq (by rw [← hq]; exact I.q)
  have HK := Lib.hid K; clear K I
  rcases ht with rfl | rfl
  · go_enter Tryz.func208, Tryz.ntmps208
    go_wp2_with fail
    go_ret2
    exact ⟨rfl, rfl⟩
  · go_enter Tryz.func208, Tryz.ntmps208
    go_wp2_with fail
    refine HK.out.mono ?_
    rintro e w1 ⟨rfl, rfl⟩
    go_wp2_with fail
    go_ret2
    exact ⟨rfl, rfl⟩
def PkPost (g gq P : Nat) (vr vq : Value) (gp : Nat → Nat) (r : Nat → RgR) (com : List Int) (p : Nat) (x : Int) (w : World) (e : Ending) (w' : World) : Prop :=
  e = .returned (.tuple #[.int .i64 x, .bool true]) ∧ IsSc w' g gq P vr vq gp (updV r p (rgPop (r p))) com ∧ Chg [gp p] w w'
theorem sc_pick_own (hq : vq = .slice none 0 0) (p : Nat) (hp : p < P) (tick vic : Int) (ht : tick = 1 ∨ tick = 61) (hs : (r p).hs = false) (hf : (r p).fr < 256) (h0 : 0 < (r p).n) (hn : (r p).n ≤ 256) :
    Calls Tryz.prog 142 #[.pointer (some ⟨g, 0, none⟩), .int .i64 (p : Nat), .int .i64 tick, .int .i64 vic] w (PkPost g gq P vr vq gp r com p ((r p).l (r p).fr) w) := by
  have hmf : ∀ (fn : Fn) (first cap : Array Value) (w : World), (Instr.makeFunc fn first cap).run Tryz.prog w = .ok (.func fn first cap) w := fun _ _ _ _ => rfl
  obtain ⟨A, c, hv⟩ := I.o.slice
  rw [ptrs_len] at hv
  have HI := Lib.hid (And.intro I (And.intro hq (And.intro hv (And.intro hs (And.intro hf (And.intro h0 hn)))))); clear I hq hs hf h0 hn
  go_enter Tryz.func142, Tryz.ntmps142
  go_upto_region 1 with fail
  generalize hw1 : World.alloc (World.alloc (World.alloc (World.alloc w _) _) _) _ = w1
  have W1 : PkW w w.heap.size (w.heap.size + 1) (w.heap.size + 1 + 1) (w.heap.size + 1 + 1 + 1) g p tick vic w1 := by
    rw [← hw1]
    have b1 := Blk.new w 100 #[.pointer (some ⟨g, 0, none⟩)]
    have b2 := Blk.new (w.alloc (.cells #[.pointer (some ⟨g, 0, none⟩)] 100)) 3 #[.int .i64 (p : Nat)]
    have b3 := Blk.new ((w.alloc (.cells #[.pointer (some ⟨g, 0, none⟩)] 100)).alloc (.cells #[.int .i64 (p : Nat)] 3)) 3 #[.int .i64 tick]
    have b4 := Blk.new (((w.alloc (.cells #[.pointer (some ⟨g, 0, none⟩)] 100)).alloc (.cells #[.int .i64 (p : Nat)] 3)).alloc (.cells #[.int .i64 tick] 3)) 3 #[.int .i64 vic]
    simp only [World.size_alloc] at b2 b3 b4
    exact ⟨((b1.alloc _).alloc _).alloc _, (b2.alloc _).alloc _, b3.alloc _, b4, ((((Chg.refl [] w).alloc _).alloc _).alloc _).alloc _⟩
  clear hw1
  generalize w.heap.size + 1 + 1 + 1 = gv at W1 ⊢
  generalize w.heap.size + 1 + 1 = gt at W1 ⊢
  generalize w.heap.size + 1 = gk0 at W1 ⊢
  generalize w.heap.size = gs at W1 ⊢
  have s0 : w1.cell? ⟨gs, 0, none⟩ = some (.pointer (some ⟨g, 0, none⟩)) := W1.s.cellv 0 rfl
  have s1 : w1.cell? ⟨gk0, 0, none⟩ = some (.int .i64 (p : Nat)) := W1.p.cellv 0 rfl
  have I1 := HI.out.1.chg0 W1.c
  have c0 : w1.cell? ⟨g, 0, none⟩ = some vr := I1.b.cellv 0 rfl
  rw [hv] at c0
  have o := I1.o
  rw [hv] at o
  obtain ⟨b, hA, hc, -, -⟩ := o.cell (ptrs_at gp hp)
  subst hA
  have l0 := W1.s.lt
  have l1 := W1.p.lt
  have l2 := I1.b.lt
  have l3 := lt_of_cellM hc
  have d1 : (0 : Int) ≤ p := by omega
  have d2 : (p : Int) < P := by omega
  have H1 := Lib.hid (And.intro W1 I1); clear W1 I1 o hv
  go_wp2_with fail
  refine (sc_has H1.out.2 p hp).mono ?_
  rintro e w1 ⟨rfl, rfl⟩
  go_wp2_with fail
  refine wp_region_takes (fuel := 2) 8 (fun w' => Chg [] w1 w') [0, 1, 2, 3, 4, 5, 6] (by kernel_rfl) (by kernel_rfl) (fun _ _ _ _ _ h => h) ((Chg.refl [] w1).drew) ?_
  simp only [List.filterMap_cons, List.filterMap_nil, qGa, qGb]
  iterate 7
    refine wpTake_step (fun K hK => ?_)
    rw [if_pos (by rfl)]
    refine ⟨?_, fun w' hS' => ?_, ?_⟩
    rotate_left 1
    focus
      have y0 := hS'.cellv l0 (by simp) s0
      have y1 := hS'.cellv l1 (by simp) s1
      have y2 := hS'.cellv l2 (by simp) c0
      have y3 := hS'.cellv l3 (by simp) hc
      go_simp
      try with_reducible rfl
      done
    simp only [Act.put, qSa, qSb, qSc]
    refine hK _ ?_
    clear hK K
  refine wpTake_nil ?_
  generalize hx0 : w1.drew = x0
  have D0 : Chg [] w1 x0 := by rw [← hx0]; exact (Chg.refl [] w1).drew
  clear hx0
  refine wpAnyS_ready (rs := [7]) (by kernel_rfl) (by simp) ?_
  refine AllReadyS.o (fun K hK => ?_)
  rw [if_pos (by rfl)]
  go_simp
  refine hK _ _ ((D0.alloc _)) ?_
  clear hK K
  try simp only [Act.put, qSa, qSb, qSc]
  refine wpAnyS_tail 8 1 (by kernel_rfl) rfl ?_
  simp only [qDa, qDb]
  go_wp2_with fail
  obtain ⟨gr, hgr⟩ : ∃ gr, gr = x0.heap.size := ⟨_, rfl⟩
  obtain ⟨gf, hgf⟩ : ∃ gf, gf = x0.heap.size + 1 := ⟨_, rfl⟩
  rw [← hgf, ← hgr]
  generalize hx3 : World.alloc (World.alloc x0 _) _ = x3
  have F3 : Blk x3 gf 311 #[.func (Fn.func 208) #[] #[.pointer (some ⟨gt, 0, none⟩), .pointer (some ⟨gs, 0, none⟩)], .func (Fn.func 214) #[.pointer (some ⟨gp p, 0, none⟩)] #[],
      .func (Fn.func 211) #[] #[.pointer (some ⟨gs, 0, none⟩), .pointer (some ⟨gr, 0, none⟩)], .func (Fn.func 212) #[] #[.pointer (some ⟨gs, 0, none⟩), .pointer (some ⟨gv, 0, none⟩), .pointer (some ⟨gk0, 0, none⟩), .pointer (some ⟨gr, 0, none⟩)]] := by
    rw [← hx3, hgf, hgr]
    have h := Blk.new (x0.alloc (.cells #[.pointer (some ⟨gp p, 0, none⟩)] 173)) 311 #[.func (Fn.func 208) #[] #[.pointer (some ⟨gt, 0, none⟩), .pointer (some ⟨gs, 0, none⟩)], .func (Fn.func 214) #[.pointer (some ⟨gp p, 0, none⟩)] #[], .func (Fn.func 211) #[] #[.pointer (some ⟨gs, 0, none⟩), .pointer (some ⟨x0.heap.size, 0, none⟩)], .func (Fn.func 212) #[] #[.pointer (some ⟨gs, 0, none⟩), .pointer (some ⟨gv, 0, none⟩), .pointer (some ⟨gk0, 0, none⟩), .pointer (some ⟨x0.heap.size, 0, none⟩)]]
    rw [World.size_alloc] at h
    exact h
  have D3 : Chg [] w1 x3 := by rw [← hx3]; exact (D0.alloc _).alloc _
  clear hx3 hgr hgf
  have H3 := Lib.hid (And.intro F3 (And.intro (H1.out.1.chg0 D3) (H1.out.2.chg0 D3))); clear F3 D3 D0
  go_loopg [39] 2 (fun gk idx wr => PkRel w gs gk0 gt gv g p tick vic gf gr gq P vr vq gp r com gk idx wr)
  case atStart => exact ⟨H3.out.1, H3.out.2.1, H3.out.2.2, .inl ⟨rfl, rfl⟩⟩
  case round =>
    obtain ⟨Bf, Wk, Ik, hk⟩ := hrel
    rcases hk with ⟨rfl, rfl⟩ | ⟨rfl, rfl⟩
    · have f0 := Bf.cellv 0 rfl
      have K := sc_fair0 Ik HI.out.2.1 gt gs tick ht (Wk.t.cellv 0 rfl) (Wk.s.cellv 0 rfl)
      have HK := Lib.hid (And.intro K (And.intro Bf (And.intro Wk Ik))); clear K Bf Wk Ik H3
      go_wp2_with fail
      refine HK.out.1.mono ?_
      rintro e wr ⟨rfl, rfl⟩
      go_wp2_with fail
      go_roundg 1
      case measure => omega
      case rel => exact ⟨HK.out.2.1, HK.out.2.2.1, HK.out.2.2.2, .inr ⟨rfl, rfl⟩⟩
    · have f1 := Bf.cellv 1 rfl
      have K := rg_get1 wr (gp p) (r p) (Ik.r p hp) HI.out.2.2.2.1 HI.out.2.2.2.2.1 HI.out.2.2.2.2.2.1 HI.out.2.2.2.2.2.2
      have HK := Lib.hid (And.intro K (And.intro Bf (And.intro Wk Ik))); clear K Bf Wk Ik H3
      go_wp2_with fail
      refine HK.out.1.mono ?_
      rintro e w6 ⟨rfl, B6, c6⟩
      have I6 := HK.out.2.2.2.ring hp B6 c6
      have c7 := (HK.out.2.2.1.c.mono (T := [gp p]) (by simp)).trans c6
      have HL := Lib.hid (And.intro I6 c7); clear I6 c7 B6 c6
      go_wp2_with fail
      go_ret2
      exact ⟨rfl, HL.out.1, HL.out.2⟩
end
end Go.Proofs.YtcpljjacamibeaaGreatDoor
