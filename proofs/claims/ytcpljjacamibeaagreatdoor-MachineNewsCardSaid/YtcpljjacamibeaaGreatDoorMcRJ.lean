/- Package ring: a P's goroutines, as long as its row is not full and nobody is told to be next. -/
/- Package ring: Put, Get, where nobody is told to be next. -/
/- A machine in memory: its parts, where they lie, what they are; that parts that did not turn stay. -/
import Derived.Test.YtcpljjacamibeaaGreatDoorMcOJ
import Derived.Test.YtcpljjacamibeaaGreatDoorMOw
import Derived.Test.YtcpljjacamibeaaGreatDoorMClJ
import Derived.Test.YtcpljjacamibeaaGreatDoorMemJ
import Derived.Test.YtcpljjacamibeaaGreatDoorHnw
namespace Go.Proofs.YtcpljjacamibeaaGreatDoor
set_option maxHeartbeats 16000000
set_option maxRecDepth 100000
open Go.RowKit Go.Maps
def RgPost (g : Nat) (v : Value) (r : RgR) (w : World) (e : Ending) (w' : World) : Prop := e = .returned v ∧ Blk w' g 263 (rgC r) ∧ Chg [g] w w'
theorem rg_new (w : World) : Calls Tryz.prog 111 #[] w fun e w' => ∃ g, e = .returned (.pointer (some ⟨g, 0, none⟩)) ∧ w.heap.size ≤ g ∧ Blk w' g 263 (rgC rg0) ∧ Chg [] w w' := by
  go_enter Tryz.func111, Tryz.ntmps111
  go_wp2_with fail
  go_ret
  exact ⟨w.heap.size, rfl, Nat.le_refl _, Blk.new _ _ _, (Chg.refl _ _).alloc _⟩
section
variable (w : World) (g : Nat) (r : RgR) (hB : Blk w g 263 (rgC r))
include hB
theorem rg_at (i : Nat) (hf : r.fr < 256) (hi : i ≤ 256) : Calls Tryz.prog 157 #[.pointer (some ⟨g, 0, none⟩), .int .i64 (i : Nat)] w (NwPost (.pointer (some ⟨g, (r.fr + i) % 256, none⟩)) w) := by
  have c0 := hB.cellv 256 (rgC_fr r)
  have d0 : (0 : Int) ≤ (((r.fr + i) % 256 : Nat) : Int) := by omega
  have d1 : (((r.fr + i) % 256 : Nat) : Int) < 256 := by omega
  have e1 : ((r.fr : Int) + (i : Int)).tmod 256 = (((r.fr + i) % 256 : Nat) : Int) := by rw [Int.tmod_eq_emod_of_nonneg (by omega)]; omega
  go_enter Tryz.func157, Tryz.ntmps157
  go_wp2_with fail
  go_quiet (fail)
  go_wp2_with fail
  go_ret
  exact ⟨rfl, (Chg.refl _ _).drewN _⟩
theorem rg_first (hf : r.fr < 256) (h0 : 0 < r.n) (hn : r.n ≤ 256) : Calls Tryz.prog 267 #[.pointer (some ⟨g, 0, none⟩)] w (RgPost g (.int .i64 (r.l r.fr)) { r with fr := (r.fr + 1) % 256, n := r.n - 1 } w) := by
  have K := rg_at w g r hB 0 hf (by omega)
  rw [Nat.add_zero, Nat.mod_eq_of_lt hf] at K
  have HB := Lib.hid (And.intro K hB); clear hB K
  go_enter Tryz.func267, Tryz.ntmps267
  go_wp2_with fail
  refine HB.out.1.mono ?_
  rintro e w1 ⟨rfl, c1⟩
  have B1 := c1.blk HB.out.2 (by simp)
  have c0 := B1.cellv r.fr (rgC_at r hf)
  have ca := B1.cellv 256 (rgC_fr r)
  have cb := B1.cellv 257 (rgC_n r)
  have fa := B1.frozen 256
  have fb := B1.frozen 257
  have HC := Lib.hid (And.intro c1 B1); clear c1 B1
  have e1 : ((r.fr : Int) + 1).tmod 256 = (((r.fr + 1) % 256 : Nat) : Int) := by rw [Int.tmod_eq_emod_of_nonneg (by omega)]; omega
  have e2 : (r.n : Int) - 1 = ((r.n - 1 : Nat) : Int) := by omega
  go_wp2_with fail
  have hgl : g < w1.heap.size := HC.out.2.lt
  refine wp_region_takes (fuel := 9) 16 (fun w' => Chg [g] w1 w' ∧ w'.cell? ⟨g, 257, none⟩ = some (.int .i64 (r.n : Nat))) [0, 1, 2, 3, 4, 8, 9, 10, 11, 12] (by kernel_rfl) (by kernel_rfl) (fun _ _ _ _ _ h => h) (⟨((Chg.refl [] w1).drew).mono (by simp), cb⟩) ?_
  simp only [List.filterMap_cons, List.filterMap_nil, qGa, qGb]
  iterate 10
    refine wpTake_step (fun K hK => ?_)
    rw [if_pos (by rfl)]
    refine ⟨?_, fun w' hS' => ?_, ?_⟩
    rotate_left 1
    focus
      have yb := hS'.2
      go_simp
      try with_reducible rfl
      done
    simp only [Act.put, qSa, qSb, qSc]
    refine hK _ ?_
    clear hK K
  refine wpTake_nil ?_
  generalize hx0 : w1.drew = x0
  have D0 : Chg [] w1 x0 := by rw [← hx0]; exact (Chg.refl [] w1).drew
  clear hx0
  refine wpAnyS_ready (rs := [5]) (by kernel_rfl) (by simp) ?_
  refine AllReadyS.o (fun K hK => ?_)
  have y1 := D0.cellv hgl (by simp) ca
  rw [if_pos (by rfl)]
  go_simp
  refine hK _ _ (⟨D0.mono (by simp), D0.cellv hgl (by simp) cb⟩) ?_
  clear hK K
  try simp only [Act.put, qSa, qSb, qSc]
  refine wpAnyS_more (fuel := 4) [6, 7, 13, 14] (by kernel_rfl) (fun _ _ _ _ _ h => h) ⟨D0.mono (by simp), D0.cellv hgl (by simp) cb⟩ ?_
  simp only [List.filterMap_cons, List.filterMap_nil, qGa, qGb]
  iterate 4
    refine wpTake_step (fun K hK => ?_)
    rw [if_pos (by rfl)]
    refine ⟨?_, fun w' hS' => ?_, ?_⟩
    rotate_left 1
    focus
      have yb := hS'.2
      go_simp
      try with_reducible rfl
      done
    simp only [Act.put, qSa, qSb, qSc]
    refine hK _ ?_
    clear hK K
  refine wpTake_nil ?_
  refine wpAnyS_ready (rs := [15]) (by kernel_rfl) (by simp) ?_
  refine AllReadyS.o (fun K hK => ?_)
  have y2 : x0.frozen? ⟨g, 256, none⟩ = false := (D0.blk HC.out.2 (by simp)).frozen 256
  rw [if_pos (by rfl)]
  go_simp
  refine hK _ _ (⟨(D0.mono (by simp)).setCell (.inl (by simp)) _, by rw [World.cell?_setCell_other _ _ _ _ (by simp)]; exact D0.cellv hgl (by simp) cb⟩) ?_
  clear hK K
  try simp only [Act.put, qSa, qSb, qSc]
  refine wpAnyS_tail 16 3 (by kernel_rfl) rfl ?_
  simp only [qDa, qDb]
  have y3 := D0.cellv hgl (by simp) cb
  have y4 : x0.frozen? ⟨g, 257, none⟩ = false := (D0.blk HC.out.2 (by simp)).frozen 257
  have HD := Lib.hid (And.intro D0 HC.out); clear D0 HC HB
  go_wp2_with fail
  have z1 : ((r.fr : Int) + 1) % 256 = (((r.fr + 1) % 256 : Nat) : Int) := by omega
  rw [z1]
  go_ret
  have B2 := ((HD.out.1.blk HD.out.2.2 (by simp)).setv 256 _ (rgC_setfr r ((r.fr + 1) % 256))).setv 257 _ (rgC_setn _ (r.n - 1))
  exact ⟨rfl, B2, (((HD.out.2.1.trans HD.out.1).mono (by simp)).setCell (.inl (by simp)) _).setCell (.inl (by simp)) _⟩
theorem rg_behind (x : Int) (hf : r.fr < 256) (h1 : r.n < 256) : Calls Tryz.prog 185 #[.pointer (some ⟨g, 0, none⟩), .int .i64 x] w (RgPost g (.slice none 0 0) { r with l := fun k => if k = (r.fr + r.n) % 256 then x else r.l k, n := r.n + 1 } w) := by
  have cb := hB.cellv 257 (rgC_n r)
  have d0 : decide ((r.n : Int) < 256) = true := decide_eq_true (by omega)
  have d1 : (r.n : Int) < 256 := by omega
  go_enter Tryz.func185, Tryz.ntmps185
  have KA := rg_at w g r hB r.n hf (by omega)
  have HB := Lib.hid (And.intro hB KA); clear hB KA
  go_wp2_with fail
  refine HB.out.2.mono ?_
  rintro e x1 ⟨rfl, D1⟩
  have B1 := D1.blk HB.out.1 (by simp)
  have f1 := B1.frozen ((r.fr + r.n) % 256)
  have c9 := B1.cellv ((r.fr + r.n) % 256) (rgC_at r (by omega))
  have HD := Lib.hid (And.intro D1 B1)
  clear D1 B1 HB
  go_upto_region 3 with fail
  obtain ⟨x2, hx2⟩ : ∃ x2, x2 = x1.setCell ⟨g, (r.fr + r.n) % 256, none⟩ (.int .i64 x) := ⟨_, rfl⟩
  rw [← hx2]
  have B2 : Blk x2 g 263 (rgC { r with l := fun k => if k = (r.fr + r.n) % 256 then x else r.l k }) := by rw [hx2]; exact HD.out.2.setv _ _ (rgC_setl r (by omega) x)
  have C2 : Chg [g] w x2 := by rw [hx2]; exact (HD.out.1.mono (by simp)).setCell (.inl (by simp)) _
  have c2 : x2.cell? ⟨g, 257, none⟩ = some (.int .i64 (r.n : Nat)) := B2.cellv 257 (rgC_n _)
  have f2 := B2.frozen 257
  have HE := Lib.hid (And.intro B2 C2)
  clear B2 C2 hx2 HD
  go_wp2_with fail
  have e9 : (r.n : Int) + 1 = ((r.n + 1 : Nat) : Int) := by omega
  rw [e9]
  go_ret
  exact ⟨rfl, HE.out.1.setv 257 _ (rgC_setn _ (r.n + 1)), HE.out.2.setCell (.inl (by simp)) _⟩
end
section
variable (w : World) (g : Nat) (r : RgR) (hB : Blk w g 263 (rgC r))
include hB
theorem rg_put (x : Int) (hf : r.fr < 256) (h1 : r.n < 256) : Calls Tryz.prog 128 #[.pointer (some ⟨g, 0, none⟩), .int .i64 x, .bool false] w (RgPost g (.slice none 0 0) { r with l := fun k => if k = (r.fr + r.n) % 256 then x else r.l k, n := r.n + 1 } w) := by
  have K := rg_behind w g r hB x hf h1
  have HB := Lib.hid K; clear K hB
  go_enter Tryz.func128, Tryz.ntmps128
  go_wp2_with fail
  refine HB.out.mono ?_
  rintro e w1 ⟨rfl, B1, c1⟩
  have HC := Lib.hid (And.intro B1 c1); clear B1 c1
  go_wp2_with fail
  go_ret
  exact ⟨rfl, HC.out.1, HC.out.2⟩
theorem rg_get1 (hs : r.hs = false) (hf : r.fr < 256) (h0 : 0 < r.n) (hn : r.n ≤ 256) : Calls Tryz.prog 214 #[.pointer (some ⟨g, 0, none⟩)] w (RgPost g (.tuple #[.int .i64 (r.l r.fr), .bool true]) { r with fr := (r.fr + 1) % 256, n := r.n - 1 } w) := by
  have c0 : w.cell? ⟨g, 259, none⟩ = some (.bool r.hs) := hB.cellv 259 (rgC_hs r)
  have c1 : w.cell? ⟨g, 257, none⟩ = some (.int .i64 (r.n : Nat)) := hB.cellv 257 (rgC_n r)
  rw [hs] at c0
  have d1 : ((r.n : Int) == 0) = false := by rw [beq_eq_false_iff_ne]; omega
  have d2 : ¬ (r.n : Int) = 0 := by omega
  have K := rg_first w g r hB hf h0 hn
  have HB := Lib.hid K; clear K hB
  go_enter Tryz.func214, Tryz.ntmps214
  go_wp2_with fail
  refine HB.out.mono ?_
  rintro e w1 ⟨rfl, B1, c1⟩
  have HC := Lib.hid (And.intro B1 c1); clear B1 c1
  go_wp2_with fail
  go_ret2
  exact ⟨rfl, HC.out.1, HC.out.2⟩
end
structure GorA where
  f : Int
  pc : Int
  cnt : Int
  st : Nat → Int
  p : Int
  cyc : Int
structure PrcA where
  g : Int
  row : Int
  picks : Int
  said : Bool
  due : Int
  worked : Int
  all : Int
structure ComA where
  g : Int
  f : Int
  pc : Int
  op : Int
  v : Int
  flt : Bool
structure TmA where
  at_ : Int
  g : Int
  seq : Int
def comC (c : ComA) : List Value := [.int .i64 c.g, .int .i64 c.f, .int .i64 c.pc, .int .i64 c.op, .int .i64 c.v, .bool c.flt]
def tmC (t : TmA) : List Value := [.int .i64 t.at_, .int .i64 t.g, .int .i64 t.seq]
def gorC (x : GorA) : Array Value := (([.int .i64 x.f, .int .i64 x.pc, .int .i64 x.cnt] : List Value) ++ ((List.range 16).map fun i => Value.int .i64 (x.st i)) ++ ([.int .i64 x.p, .int .i64 x.cyc] : List Value)).toArray
def prcC (x : PrcA) (sc : Value) (bn : Nat) : Array Value := #[.int .i64 x.g, .int .i64 x.row, .int .i64 x.picks, sc, .pointer (some ⟨bn, 0, none⟩), .bool x.said, .int .i64 x.due, .int .i64 x.worked, .int .i64 x.all]
def ntC (l : Nat → Int) (n : Nat) : Array Value := (((List.range 32).map fun i => Value.int .i64 (l i)) ++ ([.int .i64 (n : Nat)] : List Value)).toArray
def ptrs (b : Nat → Nat) (n : Nat) : List Value := (List.range n).map fun i => Value.pointer (some ⟨b i, 0, none⟩)
theorem ptrs_len (b : Nat → Nat) (n : Nat) : (ptrs b n).length = n := by unfold ptrs; simp
theorem ptrs_at (b : Nat → Nat) {n i : Nat} (h : i < n) : (ptrs b n)[i]? = some (.pointer (some ⟨b i, 0, none⟩)) := by unfold ptrs; simp [h]
theorem ptrs_succ (b : Nat → Nat) (n : Nat) : ptrs b (n + 1) = ptrs b n ++ [.pointer (some ⟨b n, 0, none⟩)] := by unfold ptrs; rw [List.range_succ, List.map_append]; rfl
theorem ptrs_congr {b b' : Nat → Nat} {n : Nat} (h : ∀ i, i < n → b i = b' i) : ptrs b n = ptrs b' n := by
  unfold ptrs
  refine List.map_congr_left fun i hi => ?_
  rw [h i (List.mem_range.1 hi)]
structure IsSc (w : World) (g gq P : Nat) (vr vq : Value) (gp : Nat → Nat) (r : Nat → RgR) (com : List Int) : Prop where
  b : Blk w g 172 #[vr, .pointer (some ⟨gq, 0, none⟩)]
  q : Blk w gq 267 #[vq]
  oq : OwnI 3 w vq com
  o : OwnV 173 w vr (ptrs gp P)
  r : ∀ p, p < P → Blk w (gp p) 263 (rgC (r p))
  d : ∀ p q, p < P → q < P → p ≠ q → gp p ≠ gp q
def ScF (g gq P : Nat) (vr vq : Value) (gp : Nat → Nat) (k : Nat) : Prop := k = g ∨ k = gq ∨ k ∈ fpv vr ∨ k ∈ fpv vq ∨ ∃ p, p < P ∧ k = gp p
section
variable {w w' : World} {g gq P : Nat} {vr vq : Value} {gp : Nat → Nat} {r : Nat → RgR} {com : List Int}
theorem IsSc.lt (I : IsSc w g gq P vr vq gp r com) {k : Nat} (h : ScF g gq P vr vq gp k) : k < w.heap.size := by
  rcases h with rfl | rfl | h | h | ⟨p, hp, rfl⟩
  · exact I.b.lt
  · exact I.q.lt
  · exact I.o.lt h
  · exact I.oq.lt h
  · exact (I.r p hp).lt
theorem IsSc.chg {S : List Nat} (I : IsSc w g gq P vr vq gp r com) (c : Chg S w w') (hn : ∀ k, ScF g gq P vr vq gp k → k ∉ S) : IsSc w' g gq P vr vq gp r com :=
  ⟨c.blk I.b (hn _ (.inl rfl)), c.blk I.q (hn _ (.inr (.inl rfl))), I.oq.chg c (fun k hk => hn k (.inr (.inr (.inr (.inl hk))))), I.o.chg c (fun k hk => hn k (.inr (.inr (.inl hk)))), fun p hp => c.blk (I.r p hp) (hn _ (.inr (.inr (.inr (.inr ⟨p, hp, rfl⟩))))), I.d⟩
end
structure MAt where
  gm : Nat
  H : HpH
  N : Nat
  b : Nat
  gst : Nat
  vst : Value
  vgs : Value
  bg : Nat → Nat
  vps : Value
  bp : Nat → Nat
  bn : Nat → Nat
  gsd : Nat
  gq : Nat
  vr : Value
  vq : Value
  gr : Nat → Nat
  gtm : Nat
  vtm : Value
  gwt : Nat
  vwt : Nat → Value
  vgl : Value
  gph : Nat
  bsd : Nat
  vco : Value
  vpk : Value
  vfr : Value
  vfn : Value
  vf : Nat → Value
  vpo : Value
  vro : Value
  vcr : Value
  vsc : Nat → Value
structure Mac where
  nglob : Int
  fs : List (List Ins)
  words : Int
  pct : Int
  on : Bool
  part : Int
  A : HpA
  sts : List Int
  ng : Nat
  gs : Nat → GorA
  np : Nat
  ps : Nat → PrcA
  ntl : Nat → Nat → Int
  ntn : Nat → Nat
  rg : Nat → RgR
  com : List Int
  made : Int
  tm : List TmA
  wt : Nat → List Int
  gl : List Int
  clock : Int
  ph : PhA
  gT : Int
  gG : Int
  gR : Int
  force : Int
  pk : List Int
  cms : List ComA
  fr : List Int
  steps : Int
  out : Bool
def mC (p : MAt) (m : Mac) : Array Value := #[.int .i64 m.nglob, p.vfn, .int .i64 m.words, .int .i64 m.pct, .bool m.on, .int .i64 m.part,
  .pointer (some ⟨p.H.gh, 0, none⟩), .pointer (some ⟨p.gst, 0, none⟩), p.vgs, p.vps, .pointer (some ⟨p.gsd, 0, none⟩), .pointer (some ⟨p.gtm, 0, none⟩), .pointer (some ⟨p.gwt, 0, none⟩), p.vgl, .int .i64 m.clock,
  .pointer (some ⟨p.gph, 0, none⟩), p.vpo, p.vro, p.vcr, .int .i64 m.gT, .int .i64 m.gG, .int .i64 m.gR, .int .i64 m.force, p.vpk, p.vco, p.vfr, .int .i64 m.steps, .bool m.out]
inductive Kd where
  | mach | heap | states | gsl | gor (g : Nat) | psl | proc (p : Nat) | notes (p : Nat) | sched | timers | waits | globs | phases | commits | parked | freed | prog
def MF (p : MAt) (m : Mac) : Kd → Nat → Prop
  | .mach, k => k = p.gm
  | .heap, k => HpF p.H m.A k
  | .states, k => k = p.gst ∨ k ∈ fpv p.vst
  | .gsl, k => k ∈ fpv p.vgs
  | .gor g, k => g < m.ng ∧ k = p.bg g
  | .psl, k => k ∈ fpv p.vps
  | .proc q, k => q < m.np ∧ k = p.bp q
  | .notes q, k => q < m.np ∧ k = p.bn q
  | .sched, k => ScF p.gsd p.gq m.np p.vr p.vq p.gr k
  | .timers, k => k = p.gtm ∨ k ∈ fpv p.vtm
  | .waits, k => k = p.gwt ∨ ∃ i, i < 32 ∧ k ∈ fpv (p.vwt i)
  | .globs, k => k ∈ fpv p.vgl
  | .phases, k => k = p.gph ∨ k = p.bsd
  | .commits, k => k ∈ fpv p.vco
  | .parked, k => k ∈ fpv p.vpk
  | .freed, k => k ∈ fpv p.vfr
  | .prog, k => FnF p.vfn p.vf m.fs.length k
structure Bs where
  w : World
  D : List Nat
abbrev Bs.heap (B : Bs) := B.w.heap
def wE (w : World) : World := { w with heap := #[] }
theorem wE_chg {S : List Nat} {a b : World} (c : Chg S a b) : Chg [] (wE a) (wE b) := ⟨c.os, c.tape, c.output, Nat.le_refl _, fun _ _ h => rfl⟩
theorem wE_chg' {S : List Nat} {a b : World} (c : Chg S a b) : Chg [] (wE b) (wE a) := ⟨c.os.symm, c.tape.symm, c.output.symm, Nat.le_refl _, fun _ _ h => rfl⟩
theorem HpS.base {W0 W w : World} {H : HpH} {A : HpA} {N b : Nat} (Q : HpS W w H A N b) (c : Chg [] W0 W) : HpS W0 w H A N b :=
  have hs := c.size
  ⟨Q.hb, ⟨Q.S.M, Q.S.I, fun k hk => Nat.le_trans hs (Q.S.far k hk), c.trans Q.S.c, Q.S.ga, Q.S.m⟩, Q.C, Q.o, Q.g, Q.inj, Q.d1, Q.d2, fun k hk => Nat.le_trans hs (Q.n1 k hk), fun k hk => Nat.le_trans hs (Q.n2 k hk)⟩
def MC (W : Bs) (p : MAt) (m : Mac) (w : World) : Kd → Prop
  | .mach => Blk w p.gm 109 (mC p m)
  | .heap => HpS (wE W.w) w p.H m.A p.N p.b
  | .states => IsSt w p.gst p.vst m.sts
  | .gsl => OwnV 115 w p.vgs (ptrs p.bg m.ng)
  | .gor g => g < m.ng → Blk w (p.bg g) 118 (gorC (m.gs g))
  | .psl => OwnV 124 w p.vps (ptrs p.bp m.np)
  | .proc q => q < m.np → Blk w (p.bp q) 128 (prcC (m.ps q) (p.vsc q) (p.bn q))
  | .notes q => q < m.np → Blk w (p.bn q) 205 (ntC (m.ntl q) (m.ntn q))
  | .sched => IsSc w p.gsd p.gq m.np p.vr p.vq p.gr m.rg m.com
  | .timers => Blk w p.gtm 166 #[p.vtm, .int .i64 m.made] ∧ OwnG tmC 3 237 w p.vtm m.tm
  | .waits => Blk w p.gwt 223 (wtC p.vwt) ∧ (∀ i, i < 32 → OwnI 3 w (p.vwt i) (m.wt i)) ∧ ∀ i j, i < 32 → j < 32 → i ≠ j → ∀ k ∈ fpv (p.vwt i), k ∉ fpv (p.vwt j)
  | .globs => OwnI 3 w p.vgl m.gl
  | .phases => IsPh w p.gph p.bsd m.ph
  | .commits => OwnG comC 6 59 w p.vco m.cms
  | .parked => OwnI 3 w p.vpk m.pk
  | .freed => OwnI 3 w p.vfr m.fr
  | .prog => IsFn w p.vfn p.vf m.fs
section
variable {W : Bs} {w w' : World} {p p' : MAt} {m m' : Mac}
theorem MC.chg {S : List Nat} (k : Kd) (h : MC W p m w k) (c : Chg S w w') (hn : ∀ j, MF p m k j → j ∉ S) : MC W p m w' k := by
  cases k with
  | mach => exact c.blk h (hn _ rfl)
  | heap => exact HpS.far h c (fun j hj hF => hn j hF hj) (fun j _ => Nat.zero_le j)
  | states => exact ⟨c.blk h.b (hn _ (.inl rfl)), h.o.chg c (fun j hj => hn j (.inr hj)), h.r⟩
  | gsl => exact OwnV.chg h c hn
  | gor g => exact fun hg => c.blk (h hg) (hn _ ⟨hg, rfl⟩)
  | psl => exact OwnV.chg h c hn
  | proc q => exact fun hg => c.blk (h hg) (hn _ ⟨hg, rfl⟩)
  | notes q => exact fun hg => c.blk (h hg) (hn _ ⟨hg, rfl⟩)
  | sched => exact IsSc.chg h c hn
  | timers => exact ⟨c.blk h.1 (hn _ (.inl rfl)), OwnG.chg h.2 c (fun j hj => hn j (.inr hj))⟩
  | waits => exact ⟨c.blk h.1 (hn _ (.inl rfl)), fun i hi => (h.2.1 i hi).chg c (fun j hj => hn j (.inr ⟨i, hi, hj⟩)), h.2.2⟩
  | globs => exact OwnI.chg h c hn
  | phases => exact IsPh.chg h c (hn _ (.inl rfl)) (hn _ (.inr rfl))
  | commits => exact OwnG.chg h c hn
  | parked => exact OwnI.chg h c hn
  | freed => exact OwnI.chg h c hn
  | prog => exact ⟨h.o.chg c (fun j hj => hn j (.inl hj)), fun i l hl => (h.f i l hl).chg c (fun j hj => hn j (.inr ⟨i, (List.getElem?_eq_some_iff.1 hl).1, hj⟩))⟩
structure MM (W : Bs) (w : World) (p : MAt) (m : Mac) : Prop where
  c : Chg W.D W.w w
  lo : ∀ k j, MF p m k j → j ∈ W.D ∨ W.heap.size ≤ j
  hi : ∀ k j, MF p m k j → j < w.heap.size
  ap : ∀ k k' j, MF p m k j → MF p m k' j → k = k'
  k : ∀ k, MC W p m w k
theorem MM.chg {S : List Nat} (M : MM W w p m) (c : Chg S w w') (hn : ∀ k j, MF p m k j → j ∉ S) (hS : ∀ j ∈ S, W.heap.size ≤ j) : MM W w' p m :=
  ⟨⟨c.os.trans M.c.os, c.tape.trans M.c.tape, c.output.trans M.c.output, Nat.le_trans M.c.size c.size, fun i hi hd => (c.block i (Nat.lt_of_lt_of_le hi M.c.size) (fun hm => by have : W.w.heap.size ≤ i := hS i hm; omega)).trans (M.c.block i hi hd)⟩,
    M.lo, fun k j h => Nat.lt_of_lt_of_le (M.hi k j h) c.size, M.ap, fun k => MC.chg k (M.k k) c (hn k)⟩
theorem MM.chg0 (M : MM W w p m) (c : Chg [] w w') : MM W w' p m := M.chg c (by simp) (by simp)
theorem MM.turns {T : List Nat} (M : MM W w p m) (K : Kd → Prop) (c : Chg T w w') (hT : ∀ j ∈ T, (∃ k, K k ∧ MF p m k j) ∨ w.heap.size ≤ j) (hF : ∀ k, K k → ∀ j, MF p' m' k j → (MF p m k j ∨ w.heap.size ≤ j) ∧ j < w'.heap.size)
    (hA : ∀ k k' j, K k → K k' → w.heap.size ≤ j → MF p' m' k j → MF p' m' k' j → k = k') (hC : ∀ k, K k → MC W p' m' w' k)
    (hO : ∀ k, ¬ K k → MF p' m' k = MF p m k ∧ ∀ w, MC W p' m' w k = MC W p m w k) : MM W w' p' m' := by
  have hnew : ∀ j ∈ T, j ∈ W.D ∨ W.heap.size ≤ j := fun j hj => by
    rcases hT j hj with ⟨k, _, h⟩ | h
    · exact M.lo _ _ h
    · exact .inr (Nat.le_trans M.c.size h)
  have hfar : ∀ k, ¬ K k → ∀ j, MF p m k j → j ∉ T := fun k hk j hj hm => by
    rcases hT j hm with ⟨k', hk', h⟩ | h
    · exact hk (by rw [M.ap _ _ _ hj h]; exact hk')
    · have := M.hi _ _ hj; omega
  have hlo : ∀ k j, MF p' m' k j → j ∈ W.D ∨ W.heap.size ≤ j := fun k j hj => by
    by_cases e : K k
    · rcases (hF k e j hj).1 with h | h
      · exact M.lo _ _ h
      · exact .inr (Nat.le_trans M.c.size h)
    · rw [(hO k e).1] at hj; exact M.lo _ _ hj
  refine ⟨⟨c.os.trans M.c.os, c.tape.trans M.c.tape, c.output.trans M.c.output, Nat.le_trans M.c.size c.size, fun i hi hd => (c.block i (Nat.lt_of_lt_of_le hi M.c.size) (fun hm => by rcases hnew i hm with h | h; exact hd h; have : W.w.heap.size ≤ i := h; omega)).trans (M.c.block i hi hd)⟩,
    hlo, fun k j hj => ?_, fun k k' j hj hj' => ?_, fun k => ?_⟩
  · by_cases e : K k
    · exact (hF k e j hj).2
    · rw [(hO k e).1] at hj; exact Nat.lt_of_lt_of_le (M.hi _ _ hj) c.size
  · by_cases hw : w.heap.size ≤ j
    · by_cases e : K k
      · by_cases e' : K k'
        · exact hA k k' j e e' hw hj hj'
        · rw [(hO k' e').1] at hj'; have := M.hi _ _ hj'; omega
      · rw [(hO k e).1] at hj; have := M.hi _ _ hj; omega
    · have old : ∀ k, MF p' m' k j → MF p m k j := fun k h => by
        by_cases e : K k
        · rcases (hF k e j h).1 with h | h
          · exact h
          · exact absurd h hw
        · rw [(hO k e).1] at h; exact h
      exact M.ap _ _ _ (old _ hj) (old _ hj')
  · by_cases e : K k
    · exact hC k e
    · rw [(hO k e).2]
      exact MC.chg k (M.k k) c (hfar k e)
theorem MM.turn {T : List Nat} (M : MM W w p m) (k0 : Kd) (c : Chg T w w') (hT : ∀ j ∈ T, MF p m k0 j ∨ w.heap.size ≤ j) (hF : ∀ j, MF p' m' k0 j → (MF p m k0 j ∨ w.heap.size ≤ j) ∧ j < w'.heap.size) (hC : MC W p' m' w' k0)
    (hO : ∀ k, k ≠ k0 → MF p' m' k = MF p m k ∧ ∀ w, MC W p' m' w k = MC W p m w k) : MM W w' p' m' :=
  M.turns (fun k => k = k0) c (fun j hj => (hT j hj).imp (fun h => ⟨k0, rfl, h⟩) id) (fun k e j hj => by subst e; exact hF j hj) (fun _ _ _ e e' _ _ _ => e.trans e'.symm) (fun k e => by subst e; exact hC) hO
open Classical in
theorem MM.re (M : MM W w p m) : ∃ D : List Nat, MM ⟨w, D⟩ w p m ∧ ∀ j ∈ D, ∃ k, MF p m k j := by
  refine ⟨(List.range w.heap.size).filter (fun j => decide (∃ k, MF p m k j)), ⟨Chg.refl _ w, fun k j h => .inl ?_, M.hi, M.ap, fun k => ?_⟩, fun j hj => ?_⟩
  · rw [List.mem_filter]
    exact ⟨List.mem_range.2 (M.hi k j h), by simpa using ⟨k, h⟩⟩
  · cases k
    case heap => exact HpS.base (M.k .heap) (wE_chg' M.c)
    case mach => exact M.k .mach
    case states => exact M.k .states
    case gsl => exact M.k .gsl
    case gor g => exact M.k (.gor g)
    case psl => exact M.k .psl
    case proc q => exact M.k (.proc q)
    case notes q => exact M.k (.notes q)
    case sched => exact M.k .sched
    case timers => exact M.k .timers
    case waits => exact M.k .waits
    case globs => exact M.k .globs
    case phases => exact M.k .phases
    case commits => exact M.k .commits
    case parked => exact M.k .parked
    case freed => exact M.k .freed
    case prog => exact M.k .prog
  · rw [List.mem_filter] at hj
    simpa using hj.2
theorem MM.back {D : List Nat} (M : MM W w p m) (hD : ∀ j ∈ D, ∃ k, MF p m k j) (M' : MM ⟨w, D⟩ w' p' m') : MM W w' p' m' := by
  have c' : Chg D w w' := M'.c
  refine ⟨⟨c'.os.trans M.c.os, c'.tape.trans M.c.tape, c'.output.trans M.c.output, Nat.le_trans M.c.size c'.size, fun i hi hd => (c'.block i (Nat.lt_of_lt_of_le hi M.c.size) (fun hm => ?_)).trans (M.c.block i hi hd)⟩, fun k j h => ?_, M'.hi, M'.ap, fun k => ?_⟩
  · obtain ⟨k, h⟩ := hD i hm
    rcases M.lo k i h with h | h
    · exact hd h
    · have : W.w.heap.size ≤ i := h
      omega
  · rcases M'.lo k j h with h | h
    · obtain ⟨k', h'⟩ := hD j h
      exact M.lo k' j h'
    · exact .inr (Nat.le_trans M.c.size h)
  · cases k
    case heap => exact HpS.base (M'.k .heap) (wE_chg M.c)
    case mach => exact M'.k .mach
    case states => exact M'.k .states
    case gsl => exact M'.k .gsl
    case gor g => exact M'.k (.gor g)
    case psl => exact M'.k .psl
    case proc q => exact M'.k (.proc q)
    case notes q => exact M'.k (.notes q)
    case sched => exact M'.k .sched
    case timers => exact M'.k .timers
    case waits => exact M'.k .waits
    case globs => exact M'.k .globs
    case phases => exact M'.k .phases
    case commits => exact M'.k .commits
    case parked => exact M'.k .parked
    case freed => exact M'.k .freed
    case prog => exact M'.k .prog
end
end Go.Proofs.YtcpljjacamibeaaGreatDoor
