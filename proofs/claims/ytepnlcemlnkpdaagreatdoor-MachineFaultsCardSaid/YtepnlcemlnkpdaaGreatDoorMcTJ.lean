/- A script in memory. -/
/- Package phase: its functions' contracts. -/
/- Package state: Spawn. -/
/- A machine in memory: its parts, where they lie, what they are; that parts that did not turn stay. -/
import Derived.Test.YtepnlcemlnkpdaaGreatDoorMcUJ
import Derived.Test.YtepnlcemlnkpdaaGreatDoorMcCJ
import Derived.Test.YtepnlcemlnkpdaaGreatDoorMemJ
import Derived.Test.YtepnlcemlnkpdaaGreatDoorMHpJ
import Derived.Test.YtepnlcemlnkpdaaGreatDoorMcQJ
import Derived.Test.YtepnlcemlnkpdaaGreatDoorMcR2J
namespace Go.Proofs.YtepnlcemlnkpdaaGreatDoor
set_option maxHeartbeats 16000000
set_option maxRecDepth 100000
open Go.RowKit Go.Maps
def insC (i : Ins) : List Value := [.int .i64 (i.o : Nat), .int .i64 (i.a : Nat), .int .i64 (i.b : Nat), .int .i64 (i.c : Nat)]
theorem insC_len (i : Ins) : (insC i).length = 4 := rfl
theorem insC_one (i : Ins) : ∀ u ∈ insC i, u.oneCell' = true := by
  intro u hu
  simp [insC] at hu
  rcases hu with rfl | rfl | rfl | rfl <;> rfl
structure IsFn (w : World) (v : Value) (vf : Nat → Value) (fs : List (List Ins)) : Prop where
  o : OwnV 28 w v ((List.range fs.length).map vf)
  f : ∀ i l, fs[i]? = some l → OwnG insC 4 27 w (vf i) l
def FnF (v : Value) (vf : Nat → Value) (n : Nat) (k : Nat) : Prop := k ∈ fpv v ∨ ∃ i, i < n ∧ k ∈ fpv (vf i)
open Go.RowKit
structure PhA where
  ph : Int
  cyc : Int
  said : List Bool
  cnt : Int
  rs : Int
structure IsPh (w : World) (g b : Nat) (s : PhA) : Prop where
  g : Blk w g 190 #[.int .i64 s.ph, .int .i64 s.cyc, .slice (some ⟨b, 0, none⟩) s.said.length s.said.length, .int .i64 s.cnt, .int .i64 s.rs]
  b : Blk w b 4 (s.said.map Value.bool).toArray
theorem IsPh.chg {S : List Nat} {a w : World} {g b : Nat} {s : PhA} (h : IsPh a g b s) (hc : Chg S a w) (hg : g ∉ S) (hb : b ∉ S) : IsPh w g b s :=
  ⟨hc.blk h.g hg, hc.blk h.b hb⟩
structure PhA.ok (s : PhA) : Prop where
  p0 : 0 ≤ s.ph
  p3 : s.ph ≤ 3
  l1 : 1 ≤ s.said.length
  l2 : s.said.length ≤ 64
  c0 : 0 ≤ s.cnt
  c1 : s.cnt ≤ 1000000
  y0 : 0 ≤ s.cyc
  r0 : 0 ≤ s.rs
def ph_nxt (ph : Int) : Int := if ph = 3 then 0 else ph + 1
def ph_none_said (l : List Bool) : List Bool := List.replicate l.length false
def PhA.zero (s : PhA) : PhA := { s with said := ph_none_said s.said, cnt := 0 }
def PhA.quiet (s : PhA) : Bool := s.ph == 1 && s.cnt == (s.said.length : Int)
theorem ph_phase_ok (g b : Nat) (s : PhA) (w : World) (h : IsPh w g b s) :
    Calls Tryz.prog 51 #[.pointer (some ⟨g, 0, none⟩)] w fun e w' => e = .returned (.int .i64 s.ph) ∧ w = w' := by
  have c0 := h.g.cellv 0 rfl
  clear h
  go_enter Tryz.func51, Tryz.ntmps51
  go_wp2
  go_ret
  exact ⟨rfl, rfl⟩
theorem ph_cycle_ok (g b : Nat) (s : PhA) (w : World) (h : IsPh w g b s) :
    Calls Tryz.prog 52 #[.pointer (some ⟨g, 0, none⟩)] w fun e w' => e = .returned (.int .i64 s.cyc) ∧ w = w' := by
  have c0 := h.g.cellv 1 rfl
  clear h
  go_enter Tryz.func52, Tryz.ntmps52
  go_wp2
  go_ret
  exact ⟨rfl, rfl⟩
def PhA.say (s : PhA) (p : Nat) (empty flushed : Bool) : PhA :=
  if empty && !flushed then
    if s.said.getD p false then s else { s with said := s.said.set p true, cnt := s.cnt + 1 }
  else { s with said := ph_none_said s.said, cnt := 0, rs := if 0 < s.cnt then s.rs + 1 else s.rs }
def ph_NewPost (n : Nat) (w : World) (e : Ending) (w' : World) : Prop :=
  ∃ g b, e = .returned (.tuple #[.pointer (some ⟨g, 0, none⟩), .int .i64 0]) ∧ IsPh w' g b { ph := 0, cyc := 0, said := List.replicate n false, cnt := 0, rs := 0 } ∧ Chg [] w w' ∧ w.heap.size ≤ g ∧ w.heap.size ≤ b
theorem ph_new_ok (n : Nat) (w : World) (h1 : 1 ≤ n) (h2 : n ≤ 64) :
    Calls Tryz.prog 42 #[.int .i64 n] w (ph_NewPost n w) := by
  have n1 : ¬ ((n : Int) < 1) := by omega
  have n2 : ¬ (64 < (n : Int)) := by omega
  have hmk := fun W => run_make_z (P := Tryz.prog) 146 4 (.bool false) 1 Tryz.underlying146 (by kernel_rfl) rfl .i64 .i64 n (by omega) (by omega) W
  go_enter Tryz.func42, Tryz.ntmps42
  go_wp2
  go_ret2
  refine ⟨w.heap.size + 1, w.heap.size, rfl, ⟨?_, ?_⟩, ((Chg.refl _ w).alloc _).alloc _, ?_, ?_⟩
  · simpa using Blk.new (w.alloc _) _ _
  · simpa [zcells_list] using (Blk.new w _ _).alloc _
  · simp
  · simp
def StSpPost (g : Nat) (v : Value) (xs : List Int) (w : World) (e : Ending) (w' : World) : Prop := ∃ v', e = .returned (.tuple #[.int .i64 (xs.length : Nat), .int .i64 0]) ∧ IsSt w' g v' (xs ++ [1]) ∧ Stp (g :: fpv v) (g :: fpv v') w w'
theorem slS : SlTy Tryz.prog 37 3 := ⟨Tryz.underlying37, by kernel_rfl⟩
theorem st_spawn (w : World) (g : Nat) (v : Value) (xs : List Int) (I : IsSt w g v xs) (hl : xs.length < 1024) : Calls Tryz.prog 101 #[.pointer (some ⟨g, 0, none⟩)] w (StSpPost g v xs w) := by
  obtain ⟨A, c, hv⟩ := I.o.slice
  have c0 : w.cell? ⟨g, 0, none⟩ = some v := I.b.cellv 0 rfl
  obtain ⟨n, hn⟩ : ∃ n, n = xs.length := ⟨_, rfl⟩
  rw [hv, ← hn] at c0
  have d1 : decide ((n : Int) ≥ 1024) = false := decide_eq_false (by omega)
  have d2 : ¬ ((n : Int) ≥ 1024) := by omega
  have O := I.o
  rw [hv, ← hn] at O
  have HI := Lib.hid (And.intro I (And.intro O (And.intro hn hv))); clear I O hn hv
  have hll : xs.length + 1 ≤ 1000000000000 := by omega
  go_enter Tryz.func101, Tryz.ntmps101
  go_upto_region 5 with fail
  go_wp2_with (at_builtin; refine wpList_push_int rfl _ _ rfl slS rfl HI.out.2.1 rfl hll ?_)
  intro A' c' w5 O5 S5
  have hgv : g ∉ fpv v := fun hm => own_ne HI.out.1.o.o HI.out.1.b (by decide) (mem_fpv.1 hm)
  have S6 : Stp (fpv v) (fpv (.slice A' (xs.length + 1) c')) w w5 := by
    have h5 := S5
    rw [HI.out.2.2.1] at h5
    rw [HI.out.2.2.2]
    exact h5
  have B5 := S6.c.blk HI.out.1.b hgv
  have f5 := B5.frozen 0
  have e5 : w5.cell? ⟨g, 0, none⟩ = some v := B5.cellv 0 rfl
  obtain ⟨m, hvN⟩ : ∃ m, m = xs.length + 1 := ⟨_, rfl⟩
  rw [← hvN] at O5 S6 ⊢
  have HJ := Lib.hid (And.intro O5 (And.intro S6 (And.intro B5 (And.intro hgv hvN)))); clear O5 S6 B5 hgv hvN S5
  go_upto_region 6 with fail
  obtain ⟨w6, hw6⟩ : ∃ w6, w6 = w5.setCell ⟨g, 0, none⟩ (.slice A' m c') := ⟨_, rfl⟩
  rw [← hw6]
  have B6 : Blk w6 g 153 (stC (.slice A' m c') fun i => cntI xs i) := by rw [hw6]; exact HJ.out.2.2.1.setv 0 (.slice A' m c') (stC_set0 _ _ _)
  have C6 : Chg [g] w5 w6 := by rw [hw6]; exact (Chg.refl _ _).setCell (.inl (by simp)) _
  have e6 : w6.cell? ⟨g, 2, none⟩ = some (.int .i64 (cntI xs 1 : Nat)) := B6.cellv 2 rfl
  have f6 := B6.frozen 2
  have HL := Lib.hid (And.intro B6 (And.intro C6 (cntI_le xs 1))); clear B6 C6 hw6
  generalize hk : cntI xs 1 = k at e6
  go_still_tail 8, (by kernel_rfl)
  change wpList _ _ _ _ _ w6.drew
  have f6' : w6.drew.frozen? ⟨g, 2, none⟩ = false := f6
  have e6' : w6.drew.cell? ⟨g, 2, none⟩ = some (.int .i64 (k : Nat)) := e6
  have hk2 : (k : Int) ≤ 1024 := by have := HL.out.2.2; omega
  go_upto_region 7 with fail
  obtain ⟨w7, hw7⟩ : ∃ w7, w7 = (w6.setCell ⟨g, 2, none⟩ (.int .i64 ((k : Int) + 1))).drew := ⟨_, rfl⟩
  rw [← hw7]
  have ek : (k : Int) + 1 = ((k + 1 : Nat) : Int) := by omega
  rw [ek] at hw7
  clear ek
  have B7 : Blk w7 g 153 (stC (.slice A' m c') fun i => cntI (xs ++ [1]) i) := by
    rw [hw7]
    refine Blk.drew (HL.out.1.setv 2 _ ?_)
    rw [← hk, show (2 : Nat) = 1 + 1 from rfl, stC_set _ _ (by decide)]
    congr 1; funext i
    rw [cntI_push]
    by_cases e : i = 1
    · subst e; simp
    · rw [if_neg e, if_neg (by omega)]; rfl
  have C7 : Chg [g] w5 w7 := by rw [hw7]; exact (HL.out.2.1.setCell (.inl (by simp)) _).drew
  have e7 : w7.cell? ⟨g, 0, none⟩ = some (.slice A' m c') := B7.cellv 0 rfl
  have HM := Lib.hid (And.intro B7 C7); clear B7 C7 hw7
  go_wp2_with fail
  have em : wrap64 ((m : Int) - 1) = (xs.length : Int) := by have := HJ.out.2.2.2.2; unfold wrap64; omega
  rw [em]
  go_ret2
  have hg' : g ∉ fpv (.slice A' m c') := fun hm => by
    rcases HJ.out.2.1.f g hm with h | h
    · exact HJ.out.2.2.2.1 h
    · have := HI.out.1.b.lt; omega
  refine ⟨.slice A' m c', rfl, ⟨HM.out.1, HJ.out.1.chg HM.out.2 (fun k hk hm => hg' (by simp at hm; exact hm ▸ hk)), fun x hx => ?_⟩, ⟨(HJ.out.2.1.c.mono (fun k hk => .inl (List.mem_cons_of_mem _ hk))).trans (HM.out.2.mono (by simp)), fun k hk => ?_⟩⟩
  · rcases List.mem_append.1 hx with h | h
    · exact HI.out.1.r x h
    · simp at h; omega
  · rcases List.mem_cons.1 hk with rfl | h
    · exact .inl (by simp)
    · rcases HJ.out.2.1.f k h with h | h
      · exact .inl (List.mem_cons_of_mem _ h)
      · exact .inr h
structure GorA where
  f : Int
  pc : Int
  cnt : Int
  st : Nat → Int
  p : Int
  cyc : Int
structure PrcA where
  g : Int
  row : Int
  picks : Int
  said : Bool
  due : Int
  worked : Int
  all : Int
structure ComA where
  g : Int
  f : Int
  pc : Int
  op : Int
  v : Int
  flt : Bool
structure TmA where
  at_ : Int
  g : Int
  seq : Int
def comC (c : ComA) : List Value := [.int .i64 c.g, .int .i64 c.f, .int .i64 c.pc, .int .i64 c.op, .int .i64 c.v, .bool c.flt]
def tmC (t : TmA) : List Value := [.int .i64 t.at_, .int .i64 t.g, .int .i64 t.seq]
def gorC (x : GorA) : Array Value := (([.int .i64 x.f, .int .i64 x.pc, .int .i64 x.cnt] : List Value) ++ ((List.range 16).map fun i => Value.int .i64 (x.st i)) ++ ([.int .i64 x.p, .int .i64 x.cyc] : List Value)).toArray
def prcC (x : PrcA) (sc : Value) (bn : Nat) : Array Value := #[.int .i64 x.g, .int .i64 x.row, .int .i64 x.picks, sc, .pointer (some ⟨bn, 0, none⟩), .bool x.said, .int .i64 x.due, .int .i64 x.worked, .int .i64 x.all]
def ntC (l : Nat → Int) (n : Nat) : Array Value := (((List.range 32).map fun i => Value.int .i64 (l i)) ++ ([.int .i64 (n : Nat)] : List Value)).toArray
def ptrs (b : Nat → Nat) (n : Nat) : List Value := (List.range n).map fun i => Value.pointer (some ⟨b i, 0, none⟩)
theorem ptrs_len (b : Nat → Nat) (n : Nat) : (ptrs b n).length = n := by unfold ptrs; simp
theorem ptrs_at (b : Nat → Nat) {n i : Nat} (h : i < n) : (ptrs b n)[i]? = some (.pointer (some ⟨b i, 0, none⟩)) := by unfold ptrs; simp [h]
theorem ptrs_succ (b : Nat → Nat) (n : Nat) : ptrs b (n + 1) = ptrs b n ++ [.pointer (some ⟨b n, 0, none⟩)] := by unfold ptrs; rw [List.range_succ, List.map_append]; rfl
theorem ptrs_congr {b b' : Nat → Nat} {n : Nat} (h : ∀ i, i < n → b i = b' i) : ptrs b n = ptrs b' n := by
  unfold ptrs
  refine List.map_congr_left fun i hi => ?_
  rw [h i (List.mem_range.1 hi)]
structure IsSc (w : World) (g gq P : Nat) (vr vq : Value) (gp : Nat → Nat) (r : Nat → RgR) (com : List Int) : Prop where
  b : Blk w g 186 #[vr, .pointer (some ⟨gq, 0, none⟩)]
  q : Blk w gq 261 #[vq]
  oq : OwnI 3 w vq com
  o : OwnV 187 w vr (ptrs gp P)
  r : ∀ p, p < P → Blk w (gp p) 264 (rgC (r p))
  d : ∀ p q, p < P → q < P → p ≠ q → gp p ≠ gp q
def ScF (g gq P : Nat) (vr vq : Value) (gp : Nat → Nat) (k : Nat) : Prop := k = g ∨ k = gq ∨ k ∈ fpv vr ∨ k ∈ fpv vq ∨ ∃ p, p < P ∧ k = gp p
section
variable {w w' : World} {g gq P : Nat} {vr vq : Value} {gp : Nat → Nat} {r : Nat → RgR} {com : List Int}
theorem IsSc.lt (I : IsSc w g gq P vr vq gp r com) {k : Nat} (h : ScF g gq P vr vq gp k) : k < w.heap.size := by
  rcases h with rfl | rfl | h | h | ⟨p, hp, rfl⟩
  · exact I.b.lt
  · exact I.q.lt
  · exact I.o.lt h
  · exact I.oq.lt h
  · exact (I.r p hp).lt
theorem IsSc.chg {S : List Nat} (I : IsSc w g gq P vr vq gp r com) (c : Chg S w w') (hn : ∀ k, ScF g gq P vr vq gp k → k ∉ S) : IsSc w' g gq P vr vq gp r com :=
  ⟨c.blk I.b (hn _ (.inl rfl)), c.blk I.q (hn _ (.inr (.inl rfl))), I.oq.chg c (fun k hk => hn k (.inr (.inr (.inr (.inl hk))))), I.o.chg c (fun k hk => hn k (.inr (.inr (.inl hk)))), fun p hp => c.blk (I.r p hp) (hn _ (.inr (.inr (.inr (.inr ⟨p, hp, rfl⟩))))), I.d⟩
end
structure MAt where
  gm : Nat
  H : HpH
  N : Nat
  b : Nat
  gst : Nat
  vst : Value
  vgs : Value
  bg : Nat → Nat
  vps : Value
  bp : Nat → Nat
  bn : Nat → Nat
  gsd : Nat
  gq : Nat
  vr : Value
  vq : Value
  gr : Nat → Nat
  gtm : Nat
  vtm : Value
  gwt : Nat
  vwt : Nat → Value
  vgl : Value
  gph : Nat
  bsd : Nat
  vco : Value
  vpk : Value
  vfr : Value
  vfn : Value
  vf : Nat → Value
  vpo : Value
  vro : Value
  vcr : Value
  vsc : Nat → Value
structure Mac where
  nglob : Int
  fs : List (List Ins)
  words : Int
  pct : Int
  on : Bool
  part : Int
  A : HpA
  sts : List Int
  ng : Nat
  gs : Nat → GorA
  np : Nat
  ps : Nat → PrcA
  ntl : Nat → Nat → Int
  ntn : Nat → Nat
  rg : Nat → RgR
  com : List Int
  made : Int
  tm : List TmA
  wt : Nat → List Int
  gl : List Int
  clock : Int
  ph : PhA
  gT : Int
  gG : Int
  gR : Int
  force : Int
  pk : List Int
  cms : List ComA
  fr : List Int
  steps : Int
  out : Bool
def mC (p : MAt) (m : Mac) : Array Value := #[.int .i64 m.nglob, p.vfn, .int .i64 m.words, .int .i64 m.pct, .bool m.on, .int .i64 m.part,
  .pointer (some ⟨p.H.gh, 0, none⟩), .pointer (some ⟨p.gst, 0, none⟩), p.vgs, p.vps, .pointer (some ⟨p.gsd, 0, none⟩), .pointer (some ⟨p.gtm, 0, none⟩), .pointer (some ⟨p.gwt, 0, none⟩), p.vgl, .int .i64 m.clock,
  .pointer (some ⟨p.gph, 0, none⟩), p.vpo, p.vro, p.vcr, .int .i64 m.gT, .int .i64 m.gG, .int .i64 m.gR, .int .i64 m.force, p.vpk, p.vco, p.vfr, .int .i64 m.steps, .bool m.out]
inductive Kd where
  | mach | heap | states | gsl | gor (g : Nat) | psl | proc (p : Nat) | notes (p : Nat) | sched | timers | waits | globs | phases | commits | parked | freed | prog
def MF (p : MAt) (m : Mac) : Kd → Nat → Prop
  | .mach, k => k = p.gm
  | .heap, k => HpF p.H m.A k
  | .states, k => k = p.gst ∨ k ∈ fpv p.vst
  | .gsl, k => k ∈ fpv p.vgs
  | .gor g, k => g < m.ng ∧ k = p.bg g
  | .psl, k => k ∈ fpv p.vps
  | .proc q, k => q < m.np ∧ k = p.bp q
  | .notes q, k => q < m.np ∧ k = p.bn q
  | .sched, k => ScF p.gsd p.gq m.np p.vr p.vq p.gr k
  | .timers, k => k = p.gtm ∨ k ∈ fpv p.vtm
  | .waits, k => k = p.gwt ∨ ∃ i, i < 32 ∧ k ∈ fpv (p.vwt i)
  | .globs, k => k ∈ fpv p.vgl
  | .phases, k => k = p.gph ∨ k = p.bsd
  | .commits, k => k ∈ fpv p.vco
  | .parked, k => k ∈ fpv p.vpk
  | .freed, k => k ∈ fpv p.vfr
  | .prog, k => FnF p.vfn p.vf m.fs.length k
structure Bs where
  w : World
  D : List Nat
abbrev Bs.heap (B : Bs) := B.w.heap
def wE (w : World) : World := { w with heap := #[] }
theorem wE_chg {S : List Nat} {a b : World} (c : Chg S a b) : Chg [] (wE a) (wE b) := ⟨c.os, c.tape, c.output, Nat.le_refl _, fun _ _ h => rfl⟩
theorem wE_chg' {S : List Nat} {a b : World} (c : Chg S a b) : Chg [] (wE b) (wE a) := ⟨c.os.symm, c.tape.symm, c.output.symm, Nat.le_refl _, fun _ _ h => rfl⟩
theorem HpS.base {W0 W w : World} {H : HpH} {A : HpA} {N b : Nat} (Q : HpS W w H A N b) (c : Chg [] W0 W) : HpS W0 w H A N b :=
  have hs := c.size
  ⟨Q.hb, ⟨Q.S.M, Q.S.I, fun k hk => Nat.le_trans hs (Q.S.far k hk), c.trans Q.S.c, Q.S.ga, Q.S.m⟩, Q.C, Q.o, Q.g, Q.inj, Q.d1, Q.d2, fun k hk => Nat.le_trans hs (Q.n1 k hk), fun k hk => Nat.le_trans hs (Q.n2 k hk)⟩
def MC (W : Bs) (p : MAt) (m : Mac) (w : World) : Kd → Prop
  | .mach => Blk w p.gm 110 (mC p m)
  | .heap => HpS (wE W.w) w p.H m.A p.N p.b
  | .states => IsSt w p.gst p.vst m.sts
  | .gsl => OwnV 132 w p.vgs (ptrs p.bg m.ng)
  | .gor g => g < m.ng → Blk w (p.bg g) 135 (gorC (m.gs g))
  | .psl => OwnV 122 w p.vps (ptrs p.bp m.np)
  | .proc q => q < m.np → Blk w (p.bp q) 127 (prcC (m.ps q) (p.vsc q) (p.bn q))
  | .notes q => q < m.np → Blk w (p.bn q) 197 (ntC (m.ntl q) (m.ntn q))
  | .sched => IsSc w p.gsd p.gq m.np p.vr p.vq p.gr m.rg m.com
  | .timers => Blk w p.gtm 157 #[p.vtm, .int .i64 m.made] ∧ OwnG tmC 3 237 w p.vtm m.tm
  | .waits => Blk w p.gwt 192 (wtC p.vwt) ∧ (∀ i, i < 32 → OwnI 3 w (p.vwt i) (m.wt i)) ∧ ∀ i j, i < 32 → j < 32 → i ≠ j → ∀ k ∈ fpv (p.vwt i), k ∉ fpv (p.vwt j)
  | .globs => OwnI 3 w p.vgl m.gl
  | .phases => IsPh w p.gph p.bsd m.ph
  | .commits => OwnG comC 6 50 w p.vco m.cms
  | .parked => OwnI 3 w p.vpk m.pk
  | .freed => OwnI 3 w p.vfr m.fr
  | .prog => IsFn w p.vfn p.vf m.fs
section
variable {W : Bs} {w w' : World} {p p' : MAt} {m m' : Mac}
theorem MC.chg {S : List Nat} (k : Kd) (h : MC W p m w k) (c : Chg S w w') (hn : ∀ j, MF p m k j → j ∉ S) : MC W p m w' k := by
  cases k with
  | mach => exact c.blk h (hn _ rfl)
  | heap => exact HpS.far h c (fun j hj hF => hn j hF hj) (fun j _ => Nat.zero_le j)
  | states => exact ⟨c.blk h.b (hn _ (.inl rfl)), h.o.chg c (fun j hj => hn j (.inr hj)), h.r⟩
  | gsl => exact OwnV.chg h c hn
  | gor g => exact fun hg => c.blk (h hg) (hn _ ⟨hg, rfl⟩)
  | psl => exact OwnV.chg h c hn
  | proc q => exact fun hg => c.blk (h hg) (hn _ ⟨hg, rfl⟩)
  | notes q => exact fun hg => c.blk (h hg) (hn _ ⟨hg, rfl⟩)
  | sched => exact IsSc.chg h c hn
  | timers => exact ⟨c.blk h.1 (hn _ (.inl rfl)), OwnG.chg h.2 c (fun j hj => hn j (.inr hj))⟩
  | waits => exact ⟨c.blk h.1 (hn _ (.inl rfl)), fun i hi => (h.2.1 i hi).chg c (fun j hj => hn j (.inr ⟨i, hi, hj⟩)), h.2.2⟩
  | globs => exact OwnI.chg h c hn
  | phases => exact IsPh.chg h c (hn _ (.inl rfl)) (hn _ (.inr rfl))
  | commits => exact OwnG.chg h c hn
  | parked => exact OwnI.chg h c hn
  | freed => exact OwnI.chg h c hn
  | prog => exact ⟨h.o.chg c (fun j hj => hn j (.inl hj)), fun i l hl => (h.f i l hl).chg c (fun j hj => hn j (.inr ⟨i, (List.getElem?_eq_some_iff.1 hl).1, hj⟩))⟩
structure MM (W : Bs) (w : World) (p : MAt) (m : Mac) : Prop where
  c : Chg W.D W.w w
  lo : ∀ k j, MF p m k j → j ∈ W.D ∨ W.heap.size ≤ j
  hi : ∀ k j, MF p m k j → j < w.heap.size
  ap : ∀ k k' j, MF p m k j → MF p m k' j → k = k'
  k : ∀ k, MC W p m w k
theorem MM.chg {S : List Nat} (M : MM W w p m) (c : Chg S w w') (hn : ∀ k j, MF p m k j → j ∉ S) (hS : ∀ j ∈ S, W.heap.size ≤ j) : MM W w' p m :=
  ⟨⟨c.os.trans M.c.os, c.tape.trans M.c.tape, c.output.trans M.c.output, Nat.le_trans M.c.size c.size, fun i hi hd => (c.block i (Nat.lt_of_lt_of_le hi M.c.size) (fun hm => by have : W.w.heap.size ≤ i := hS i hm; omega)).trans (M.c.block i hi hd)⟩,
    M.lo, fun k j h => Nat.lt_of_lt_of_le (M.hi k j h) c.size, M.ap, fun k => MC.chg k (M.k k) c (hn k)⟩
theorem MM.chg0 (M : MM W w p m) (c : Chg [] w w') : MM W w' p m := M.chg c (by simp) (by simp)
theorem MM.turns {T : List Nat} (M : MM W w p m) (K : Kd → Prop) (c : Chg T w w') (hT : ∀ j ∈ T, (∃ k, K k ∧ MF p m k j) ∨ w.heap.size ≤ j) (hF : ∀ k, K k → ∀ j, MF p' m' k j → (MF p m k j ∨ w.heap.size ≤ j) ∧ j < w'.heap.size)
    (hA : ∀ k k' j, K k → K k' → w.heap.size ≤ j → MF p' m' k j → MF p' m' k' j → k = k') (hC : ∀ k, K k → MC W p' m' w' k)
    (hO : ∀ k, ¬ K k → MF p' m' k = MF p m k ∧ ∀ w, MC W p' m' w k = MC W p m w k) : MM W w' p' m' := by
  have hnew : ∀ j ∈ T, j ∈ W.D ∨ W.heap.size ≤ j := fun j hj => by
    rcases hT j hj with ⟨k, _, h⟩ | h
    · exact M.lo _ _ h
    · exact .inr (Nat.le_trans M.c.size h)
  have hfar : ∀ k, ¬ K k → ∀ j, MF p m k j → j ∉ T := fun k hk j hj hm => by
    rcases hT j hm with ⟨k', hk', h⟩ | h
    · exact hk (by rw [M.ap _ _ _ hj h]; exact hk')
    · have := M.hi _ _ hj; omega
  have hlo : ∀ k j, MF p' m' k j → j ∈ W.D ∨ W.heap.size ≤ j := fun k j hj => by
    by_cases e : K k
    · rcases (hF k e j hj).1 with h | h
      · exact M.lo _ _ h
      · exact .inr (Nat.le_trans M.c.size h)
    · rw [(hO k e).1] at hj; exact M.lo _ _ hj
  refine ⟨⟨c.os.trans M.c.os, c.tape.trans M.c.tape, c.output.trans M.c.output, Nat.le_trans M.c.size c.size, fun i hi hd => (c.block i (Nat.lt_of_lt_of_le hi M.c.size) (fun hm => by rcases hnew i hm with h | h; exact hd h; have : W.w.heap.size ≤ i := h; omega)).trans (M.c.block i hi hd)⟩,
    hlo, fun k j hj => ?_, fun k k' j hj hj' => ?_, fun k => ?_⟩
  · by_cases e : K k
    · exact (hF k e j hj).2
    · rw [(hO k e).1] at hj; exact Nat.lt_of_lt_of_le (M.hi _ _ hj) c.size
  · by_cases hw : w.heap.size ≤ j
    · by_cases e : K k
      · by_cases e' : K k'
        · exact hA k k' j e e' hw hj hj'
        · rw [(hO k' e').1] at hj'; have := M.hi _ _ hj'; omega
      · rw [(hO k e).1] at hj; have := M.hi _ _ hj; omega
    · have old : ∀ k, MF p' m' k j → MF p m k j := fun k h => by
        by_cases e : K k
        · rcases (hF k e j h).1 with h | h
          · exact h
          · exact absurd h hw
        · rw [(hO k e).1] at h; exact h
      exact M.ap _ _ _ (old _ hj) (old _ hj')
  · by_cases e : K k
    · exact hC k e
    · rw [(hO k e).2]
      exact MC.chg k (M.k k) c (hfar k e)
theorem MM.turn {T : List Nat} (M : MM W w p m) (k0 : Kd) (c : Chg T w w') (hT : ∀ j ∈ T, MF p m k0 j ∨ w.heap.size ≤ j) (hF : ∀ j, MF p' m' k0 j → (MF p m k0 j ∨ w.heap.size ≤ j) ∧ j < w'.heap.size) (hC : MC W p' m' w' k0)
    (hO : ∀ k, k ≠ k0 → MF p' m' k = MF p m k ∧ ∀ w, MC W p' m' w k = MC W p m w k) : MM W w' p' m' :=
  M.turns (fun k => k = k0) c (fun j hj => (hT j hj).imp (fun h => ⟨k0, rfl, h⟩) id) (fun k e j hj => by subst e; exact hF j hj) (fun _ _ _ e e' _ _ _ => e.trans e'.symm) (fun k e => by subst e; exact hC) hO
open Classical in
theorem MM.re (M : MM W w p m) : ∃ D : List Nat, MM ⟨w, D⟩ w p m ∧ ∀ j ∈ D, ∃ k, MF p m k j := by
  refine ⟨(List.range w.heap.size).filter (fun j => decide (∃ k, MF p m k j)), ⟨Chg.refl _ w, fun k j h => .inl ?_, M.hi, M.ap, fun k => ?_⟩, fun j hj => ?_⟩
  · rw [List.mem_filter]
    exact ⟨List.mem_range.2 (M.hi k j h), by simpa using ⟨k, h⟩⟩
  · cases k
    case heap => exact HpS.base (M.k .heap) (wE_chg' M.c)
    case mach => exact M.k .mach
    case states => exact M.k .states
    case gsl => exact M.k .gsl
    case gor g => exact M.k (.gor g)
    case psl => exact M.k .psl
    case proc q => exact M.k (.proc q)
    case notes q => exact M.k (.notes q)
    case sched => exact M.k .sched
    case timers => exact M.k .timers
    case waits => exact M.k .waits
    case globs => exact M.k .globs
    case phases => exact M.k .phases
    case commits => exact M.k .commits
    case parked => exact M.k .parked
    case freed => exact M.k .freed
    case prog => exact M.k .prog
  · rw [List.mem_filter] at hj
    simpa using hj.2
theorem MM.back {D : List Nat} (M : MM W w p m) (hD : ∀ j ∈ D, ∃ k, MF p m k j) (M' : MM ⟨w, D⟩ w' p' m') : MM W w' p' m' := by
  have c' : Chg D w w' := M'.c
  refine ⟨⟨c'.os.trans M.c.os, c'.tape.trans M.c.tape, c'.output.trans M.c.output, Nat.le_trans M.c.size c'.size, fun i hi hd => (c'.block i (Nat.lt_of_lt_of_le hi M.c.size) (fun hm => ?_)).trans (M.c.block i hi hd)⟩, fun k j h => ?_, M'.hi, M'.ap, fun k => ?_⟩
  · obtain ⟨k, h⟩ := hD i hm
    rcases M.lo k i h with h | h
    · exact hd h
    · have : W.w.heap.size ≤ i := h
      omega
  · rcases M'.lo k j h with h | h
    · obtain ⟨k', h'⟩ := hD j h
      exact M.lo k' j h'
    · exact .inr (Nat.le_trans M.c.size h)
  · cases k
    case heap => exact HpS.base (M'.k .heap) (wE_chg M.c)
    case mach => exact M'.k .mach
    case states => exact M'.k .states
    case gsl => exact M'.k .gsl
    case gor g => exact M'.k (.gor g)
    case psl => exact M'.k .psl
    case proc q => exact M'.k (.proc q)
    case notes q => exact M'.k (.notes q)
    case sched => exact M'.k .sched
    case timers => exact M'.k .timers
    case waits => exact M'.k .waits
    case globs => exact M'.k .globs
    case phases => exact M'.k .phases
    case commits => exact M'.k .commits
    case parked => exact M'.k .parked
    case freed => exact M'.k .freed
    case prog => exact M'.k .prog
end
end Go.Proofs.YtepnlcemlnkpdaaGreatDoor
