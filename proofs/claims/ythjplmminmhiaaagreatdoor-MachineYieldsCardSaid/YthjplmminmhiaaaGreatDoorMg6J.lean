/- Package machine: run, of Exit, Yield, Set, Dec, Jump, Spawn: one function on machines tells what it does. -/
/- Package machine: one Step of a P that has something of its own, of Exit, Yield, Set, Dec, Jump, Spawn: one function on machines tells what it does. -/
import Derived.Test.YthjplmminmhiaaaGreatDoorMg5
namespace Go.Proofs.YthjplmminmhiaaaGreatDoor
open Go.RowKit Go.Maps

/-- A commit of an instruction that touches no object, no timer, no waiting place. -/
def cmt (m : Mac) (q g : Nat) (i : Ins) : Mac :=
  if i.o = 0 then finA (preA m q g) q g ⟨(g : Nat), (m.gs g).f, (m.gs g).pc, (i.o : Nat), 0, false⟩ 5
  else if i.o = 9 then finA (preA m q g) q g ⟨(g : Nat), (m.gs g).f, (m.gs g).pc, (i.o : Nat), 0, false⟩ 1
  else if i.o = 16 then finA (setGor (preA m q g) g { (preA m q g).gs g with cnt := 256 * (i.a : Nat) + (i.b : Nat) }) q g ⟨(g : Nat), (m.gs g).f, (m.gs g).pc, (i.o : Nat), 0, false⟩ 2
  else if i.o = 14 then finA (setGor (preA m q g) g { (preA m q g).gs g with pc := (i.a : Nat) }) q g ⟨(g : Nat), (m.gs g).f, (m.gs g).pc, (i.o : Nat), 0, false⟩ 2
  else if i.o = 17 then
    if (m.gs g).cnt = 0 then finA (preA m q g) q g ⟨(g : Nat), (m.gs g).f, (m.gs g).pc, (i.o : Nat), 0, false⟩ 2
    else finA (setGor (preA m q g) g { (preA m q g).gs g with cnt := (m.gs g).cnt - 1, pc := (i.a : Nat) }) q g ⟨(g : Nat), (m.gs g).f, (m.gs g).pc, (i.o : Nat), 0, false⟩ 2
  else finA (spawnA (preA m q g) q (i.a : Nat) ((m.gs g).st i.b)) q g ⟨(g : Nat), (m.gs g).f, (m.gs g).pc, (i.o : Nat), (m.ng : Nat), false⟩ 2
/-- What a place keeps. -/
def Keeps (p p2 : MAt) : Prop := p2.gm = p.gm ∧ p2.bp = p.bp ∧ p2.vq = .slice none 0 0 ∧ p2.vtm = p.vtm ∧ p2.vfr = p.vfr
theorem Keeps.co {p p2 : MAt} (h : Keeps p p2) (v : Value) : Keeps p { p2 with vco := v } := h
section
variable {W : Bs} {w : World} {p : MAt} {m : Mac} (M : MM W w p m)
include M
theorem m_commit_cmt (q g : Nat) (i : Ins) (hio : i.o = 0 ∨ i.o = 8 ∨ i.o = 9 ∨ i.o = 14 ∨ i.o = 16 ∨ i.o = 17) (ha : i.a < 256) (hb : i.b < 256) (hb8 : i.o = 8 → i.b < 16 ∧ m.ng < 1024) (hq : q < m.np) (hg : g < m.ng) (hxg : (m.ps q).g = (g : Nat)) (rw_ : Nat) (hrow : (m.ps q).row = rw_) (brow : rw_ ≤ 1000000) (pc : Nat) (hpc : (m.gs g).pc = pc) (bpc : pc ≤ 1000000)
    (hvq : p.vq = .slice none 0 0) (hst : m.sts[g]? = some 2) (hsl : m.sts.length = m.ng) (hng : m.ng ≤ 1024) (hcl : m.cms.length ≤ 100000000) (hfr : (m.rg q).fr < 256) (hn : (m.rg q).n < 256) (h0 : m.ph.ph = 0) (hcn : 0 ≤ (m.gs g).cnt ∧ (m.gs g).cnt ≤ 1000000) :
    Calls Tryz.prog 105 #[.pointer (some ⟨p.gm, 0, none⟩), .int .i64 (q : Nat), insV i, .int .i64 0] w (RunPost W (Keeps p) (cmt m q g i) g) := by
  have hgs : (preA m q g).gs g = { m.gs g with pc := (m.gs g).pc + 1 } := updV_same _ _ _
  have hKp : Keeps p p := ⟨rfl, rfl, hvq, rfl, rfl⟩
  have fin : ∀ (m2 : Mac) (c : ComA) (tz : Nat), (tz = 1 ∨ tz = 2 ∨ tz = 3 ∨ tz = 5) → c.g = (g : Nat) → m2.np = m.np → m2.sts[g]? = some 2 → m2.sts.length ≤ 1000000 → m2.cms = m.cms → (tz = 1 → m2.rg = m.rg) → finA m2 q g c tz = cmt m q g i →
      (∀ (w7 : World) (D : List Nat) (gC gT gI gA gY gM gp gg : Nat), CmW w gC gT gI gA gY gM gp gg ⟨(g : Nat), (m.gs g).f, (pc : Nat), (i.o : Nat), 0, false⟩ 2 i 0 (p.bg g) p.gm q g w7 → MM ⟨w7, D⟩ w7 p (preA m q g) → (∀ k ∈ [gC, gT, gI, gA, gY, gM, gp, gg], k ∉ D) →
        Calls Tryz.prog 179 #[.pointer (some ⟨gC, 0, none⟩), .pointer (some ⟨gT, 0, none⟩), .pointer (some ⟨gI, 0, none⟩), .pointer (some ⟨gA, 0, none⟩), .pointer (some ⟨gY, 0, none⟩), .pointer (some ⟨gM, 0, none⟩), .pointer (some ⟨gp, 0, none⟩), .pointer (some ⟨gg, 0, none⟩)] w7 (InnrPost D w7 gC gT (Keeps p) m2 c tz)) →
      Calls Tryz.prog 105 #[.pointer (some ⟨p.gm, 0, none⟩), .int .i64 (q : Nat), insV i, .int .i64 0] w (RunPost W (Keeps p) (cmt m q g i) g) := fun m2 c tz htz hcg hnp hst2 hsl2 hcm hrg hfin hIn => by
    refine (m_commit_gen M q g 0 i hq hg hxg rw_ hrow brow pc hpc bpc (Keeps p) m2 c tz htz (fun p2 h => ⟨h.1, h.2.1, h.2.2.1⟩) hcg hnp hst2 hsl2 (by rw [hcm]; exact hcl) (fun e => by rw [hrg e]; exact ⟨hfr, hn⟩) hIn).mono ?_
    rintro e w' ⟨p2, v, rfl, hQ, M'⟩
    exact ⟨{ p2 with vco := v }, rfl, hQ.co v, by rw [← hfin]; exact M'⟩
  have hst1 : (preA m q g).sts[g]? = some 2 := hst
  have hsl1 : (preA m q g).sts.length ≤ 1000000 := by show m.sts.length ≤ _; omega
  have hcE : (⟨(g : Nat), (m.gs g).f, (pc : Nat), (i.o : Nat), 0, false⟩ : ComA) = ⟨(g : Nat), (m.gs g).f, (m.gs g).pc, (i.o : Nat), 0, false⟩ := by rw [hpc]
  rcases hio with ho | ho | ho | ho | ho | ho
  · -- Exit
    refine fin (preA m q g) ⟨(g : Nat), (m.gs g).f, (pc : Nat), (i.o : Nat), 0, false⟩ 5 (by omega) rfl rfl hst1 hsl1 rfl (fun e => by omega) (by unfold cmt; rw [if_pos ho, hpc]) ?_
    intro w7 D gC gT gI gA gY gM gp gg K M7 hD
    exact in_exit K ho M7 hKp
  · -- Spawn
    obtain ⟨hb16, hng8⟩ := hb8 ho
    refine fin (spawnA (preA m q g) q (i.a : Nat) ((m.gs g).st i.b)) ⟨(g : Nat), (m.gs g).f, (pc : Nat), (i.o : Nat), (m.ng : Nat), false⟩ 2 (by omega) rfl rfl ?_ ?_ rfl (fun e => by omega) (by unfold cmt; rw [if_neg (by omega), if_neg (by omega), if_neg (by omega), if_neg (by omega), if_neg (by omega), hpc]) ?_
    · show (m.sts ++ [1])[g]? = some 2
      rw [List.getElem?_append_left (by omega)]; exact hst
    · show (m.sts ++ [1]).length ≤ _
      simp; omega
    · intro w7 D gC gT gI gA gY gM gp gg K M7 hD
      refine in_ctl K (.inl ho) hD _ (m.ng : Nat) ?_
      refine (ctl_spawn M7 q g i ho hg ha hb hb16 hq hsl hng8 hvq hfr hn h0).mono ?_
      rintro e w' ⟨vst, vgs, gn, rfl, M8⟩
      refine ⟨rfl, { p with vst := vst, vgs := vgs, bg := updV p.bg m.ng gn }, hKp, ?_⟩
      have e : ((preA m q g).gs g).st = (m.gs g).st := by rw [hgs]
      rw [e] at M8
      exact M8
  · -- Yield
    refine fin (preA m q g) ⟨(g : Nat), (m.gs g).f, (pc : Nat), (i.o : Nat), 0, false⟩ 1 (by omega) rfl rfl hst1 hsl1 rfl (fun e => rfl) (by unfold cmt; rw [if_neg (by omega), if_pos ho, hpc]) ?_
    intro w7 D gC gT gI gA gY gM gp gg K M7 hD
    exact in_yield K ho M7 hKp
  · -- Jump
    refine fin (setGor (preA m q g) g { (preA m q g).gs g with pc := (i.a : Nat) }) ⟨(g : Nat), (m.gs g).f, (pc : Nat), (i.o : Nat), 0, false⟩ 2 (by omega) rfl rfl hst1 hsl1 rfl (fun e => by omega) (by unfold cmt; rw [if_neg (by omega), if_neg (by omega), if_neg (by omega), if_pos ho, hpc]) ?_
    intro w7 D gC gT gI gA gY gM gp gg K M7 hD
    refine in_ctl K (.inr (.inr (.inl ho))) hD _ 0 ?_
    exact (ctl_jump M7 q g i ho hg ha hb).mono fun e w' ⟨he, M8⟩ => ⟨he, p, hKp, M8⟩
  · -- Set
    refine fin (setGor (preA m q g) g { (preA m q g).gs g with cnt := 256 * (i.a : Nat) + (i.b : Nat) }) ⟨(g : Nat), (m.gs g).f, (pc : Nat), (i.o : Nat), 0, false⟩ 2 (by omega) rfl rfl hst1 hsl1 rfl (fun e => by omega) (by unfold cmt; rw [if_neg (by omega), if_neg (by omega), if_pos ho, hpc]) ?_
    intro w7 D gC gT gI gA gY gM gp gg K M7 hD
    refine in_ctl K (.inr (.inr (.inr (.inl ho)))) hD _ 0 ?_
    exact (ctl_set M7 q g i ho hg ha hb).mono fun e w' ⟨he, M8⟩ => ⟨he, p, hKp, M8⟩
  · -- Dec
    have hcnt : ((preA m q g).gs g).cnt = (m.gs g).cnt := by rw [hgs]
    by_cases hz : (m.gs g).cnt = 0
    · refine fin (preA m q g) ⟨(g : Nat), (m.gs g).f, (pc : Nat), (i.o : Nat), 0, false⟩ 2 (by omega) rfl rfl hst1 hsl1 rfl (fun e => by omega) (by unfold cmt; rw [if_neg (by omega), if_neg (by omega), if_neg (by omega), if_neg (by omega), if_pos ho, if_pos hz, hpc]) ?_
      intro w7 D gC gT gI gA gY gM gp gg K M7 hD
      refine in_ctl K (.inr (.inr (.inr (.inr ho)))) hD _ 0 ?_
      exact (ctl_dec0 M7 q g i ho hg ha hb (by rw [hcnt]; exact hz)).mono fun e w' ⟨he, M8⟩ => ⟨he, p, hKp, M8⟩
    · obtain ⟨n, hn'⟩ : ∃ n : Nat, (m.gs g).cnt = n := ⟨(m.gs g).cnt.toNat, by omega⟩
      refine fin (setGor (preA m q g) g { (preA m q g).gs g with cnt := (n : Int) - 1, pc := (i.a : Nat) }) ⟨(g : Nat), (m.gs g).f, (pc : Nat), (i.o : Nat), 0, false⟩ 2 (by omega) rfl rfl hst1 hsl1 rfl (fun e => by omega) (by unfold cmt; rw [if_neg (by omega), if_neg (by omega), if_neg (by omega), if_neg (by omega), if_pos ho, if_neg hz, hpc, hn']) ?_
      intro w7 D gC gT gI gA gY gM gp gg K M7 hD
      refine in_ctl K (.inr (.inr (.inr (.inr ho)))) hD _ 0 ?_
      exact (ctl_dec M7 q g i ho hg ha hb n (by rw [hcnt]; exact hn') (by omega) (by omega)).mono fun e w' ⟨he, M8⟩ => ⟨he, p, hKp, M8⟩
end
end Go.Proofs.YthjplmminmhiaaaGreatDoor
namespace Go.Proofs.YthjplmminmhiaaaGreatDoor
open Go.RowKit Go.Maps

/-- What a P does ahead of the instruction. -/
def serve (m : Mac) (q g : Nat) : Mac := if (m.ps q).g = -1 then takeA (tickA m q) q g else tickA m q
/-- One step. -/
def stepA (m : Mac) (q g : Nat) (i : Ins) : Mac := cmt (serve m q g) q g i
/-- Nothing of the collector, no timer, nobody asks for anything. -/
structure Calm (m : Mac) : Prop where
  P : m.np ≤ 64
  tm : m.tm = []
  made : m.made = 0
  out : m.out = false
  h0 : m.ph.ph = 0
  fo : m.force = 0
  cy : 0 ≤ m.ph.cyc
  lv : m.A.a.live = 0
  T : 0 < m.gT
  sl : m.sts.length = m.ng
  ng : m.ng ≤ 1024
  cl : m.cms.length ≤ 100000000
/-- Which instruction comes next. -/
structure Nxt (m : Mac) (g : Nat) (i : Ins) : Prop where
  o : i.o = 0 ∨ i.o = 8 ∨ i.o = 9 ∨ i.o = 14 ∨ i.o = 16 ∨ i.o = 17
  a : i.a < 256
  b : i.b < 256
  b8 : i.o = 8 → i.b < 16 ∧ m.ng < 1024
  c0 : 0 ≤ (m.gs g).cnt
  c1 : (m.gs g).cnt ≤ 1000000
  at_ : ∃ (F pc : Nat) (l : List Ins), (m.gs g).f = F ∧ (m.gs g).pc = pc ∧ pc ≤ 1000000 ∧ m.fs[F]? = some l ∧ (l[pc]? = some i ∨ (pc = l.length ∧ i = ⟨0, 0, 0, 0⟩)) ∧ l ≠ []
/-- What a P's numbers may be. -/
structure Cnts (m : Mac) (q : Nat) : Prop where
  wk : ∃ n : Nat, (m.ps q).worked = n ∧ n ≤ 1000000
  al : ∃ n : Nat, (m.ps q).all = n ∧ n + 1 ≤ 1000000
  pk : ∃ n : Nat, (m.ps q).picks = n ∧ n ≤ 1000000
  sp : ∃ n : Nat, m.steps = n ∧ n ≤ 1000000
  ck : ∃ n : Nat, m.clock = n ∧ n ≤ 1000000
/-- Whom a P goes on with. -/
def Serves (m : Mac) (q g : Nat) : Prop :=
  ((m.ps q).g = -1 ∧ (m.rg q).hs = false ∧ (m.rg q).fr < 256 ∧ 0 < (m.rg q).n ∧ (m.rg q).n ≤ 256 ∧ (m.rg q).l (m.rg q).fr = (g : Nat) ∧ m.sts[g]? = some 1) ∨
  ((m.ps q).g = (g : Nat) ∧ m.sts[g]? = some 2 ∧ (∃ rw : Nat, (m.ps q).row = rw ∧ rw < 16) ∧ (m.rg q).fr < 256 ∧ (m.rg q).n < 256)
section
variable {W : Bs} {w : World} {p : MAt} {m : Mac} (M : MM W w p m)
include M
theorem m_run_cmt (q g : Nat) (i : Ins) (N : Nxt m g i) (hq : q < m.np) (hg : g < m.ng) (hxg : (m.ps q).g = (g : Nat)) (hst : m.sts[g]? = some 2) (hrow : ∃ rw : Nat, (m.ps q).row = rw ∧ rw < 16) (hfr : (m.rg q).fr < 256) (hn : (m.rg q).n < 256)
    (hvq : p.vq = .slice none 0 0) (hsl : m.sts.length = m.ng) (hng : m.ng ≤ 1024) (hcl : m.cms.length ≤ 100000000) (h0 : m.ph.ph = 0) :
    Calls Tryz.prog 52 #[.pointer (some ⟨p.gm, 0, none⟩), .int .i64 (q : Nat)] w (RunPost W (Keeps p) (cmt m q g i) g) := by
  obtain ⟨F, pc, l, hF, hpc, bpc, hl, hi, hl0⟩ := N.at_
  obtain ⟨rw_, hrw, brw⟩ := hrow
  have ho1 : i.o ≠ 1 := by have := N.o; omega
  exact m_run_gen M q g F l i ho1 hq hg hxg rw_ hrw brw hvq hF pc hpc bpc hl hi hl0 (Keeps p) (cmt m q g i) fun w6 D M6 =>
    m_commit_cmt M6 q g i N.o N.a N.b N.b8 hq hg hxg rw_ hrw (by omega) pc hpc bpc hvq hst hsl hng hcl hfr hn h0 ⟨N.c0, N.c1⟩
theorem m_step_cmt (C : Calm m) (q g : Nat) (vic : Int) (i : Ins) (N : Nxt m g i) (K : Cnts m q) (S : Serves m q g) (hq : q < m.np) (hg : g < m.ng) (hs0 : stV m = 0) (hvq : p.vq = .slice none 0 0) (hvt : p.vtm = .slice none 0 0) (hvf : p.vfr = .slice none 0 0) :
    Calls Tryz.prog 22 #[.pointer (some ⟨p.gm, 0, none⟩), .agg #[.int .i64 (q : Nat), .int .i64 vic, .bool false, .int .i64 0]] w (RunPost W (Keeps p) (stepA m q g i) g) := by
  obtain ⟨wk, hwk, bwk⟩ := K.wk
  obtain ⟨al, hal, bal⟩ := K.al
  obtain ⟨pk, hpk, bpk⟩ := K.pk
  obtain ⟨sp, hsp, bsp⟩ := K.sp
  obtain ⟨ck, hck, bck⟩ := K.ck
  have hsl := C.sl
  have hng := C.ng
  rcases S with ⟨hpg, hs, hfr, hn0, hn, hgr, hst⟩ | ⟨hpg, hst, hrow, hfr, hn⟩
  · unfold stepA serve
    rw [if_pos hpg]
    refine m_step_take M q g vic hq C.P hg hpg hvq hvt C.tm C.made hvf C.out hs0 C.h0 C.fo C.cy C.lv C.T wk al pk sp ck hwk hal hpk hsp hck bwk bal bpk bsp bck hs hfr hn0 hn hgr hst (by omega) (Keeps p) _ fun B w' M' => ?_
    have eg : ((takeA (tickA m q) q g).gs g).cnt = (m.gs g).cnt ∧ ((takeA (tickA m q) q g).gs g).f = (m.gs g).f ∧ ((takeA (tickA m q) q g).gs g).pc = (m.gs g).pc := by
      simp [takeA, tickA, updV_same]
    have ep : ((takeA (tickA m q) q g).ps q).g = (g : Nat) ∧ ((takeA (tickA m q) q g).ps q).row = 0 := by simp [takeA, updV_same]
    have er : (takeA (tickA m q) q g).rg q = rgPop (m.rg q) := by simp [takeA, tickA, updV_same]
    have es : (takeA (tickA m q) q g).sts = m.sts.set g 2 := rfl
    refine m_run_cmt M' q g i ⟨N.o, N.a, N.b, N.b8, by rw [eg.1]; exact N.c0, by rw [eg.1]; exact N.c1, ?_⟩ hq hg ep.1 ?_ ⟨0, ep.2, by omega⟩ ?_ ?_ hvq ?_ hng C.cl C.h0
    · rw [eg.2.1, eg.2.2]; exact N.at_
    · rw [es, List.getElem?_set_self (by omega)]
    · rw [er]; unfold rgPop; dsimp only; omega
    · rw [er]; unfold rgPop; dsimp only; omega
    · rw [es, List.length_set]; exact hsl
  · have hne : ¬ (m.ps q).g = -1 := by rw [hpg]; omega
    unfold stepA serve
    rw [if_neg hne]
    refine m_step_go M q g vic hq C.P hg hpg hvq hvt C.tm C.made hvf C.out hs0 C.h0 C.fo C.cy C.lv C.T wk al pk sp ck hwk hal hpk hsp hck bwk bal bpk bsp bck (by omega) (Keeps p) _ fun B w' M' => ?_
    have ep : ((tickA m q).ps q).g = (m.ps q).g ∧ ((tickA m q).ps q).row = (m.ps q).row := by simp [tickA, updV_same]
    exact m_run_cmt M' q g i ⟨N.o, N.a, N.b, N.b8, N.c0, N.c1, N.at_⟩ hq hg (by rw [ep.1]; exact hpg) hst (by rw [ep.2]; exact hrow) hfr hn hvq hsl hng C.cl C.h0
end
end Go.Proofs.YthjplmminmhiaaaGreatDoor
