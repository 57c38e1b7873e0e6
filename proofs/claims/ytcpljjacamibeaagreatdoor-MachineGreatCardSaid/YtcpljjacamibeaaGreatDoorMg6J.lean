/- Package machine: run, of Exit, Yield, Set, Dec, Jump, Spawn: one function on machines tells what it does. -/
/- Package machine: one Step of a P that has something of its own, of Exit, Yield, Set, Dec, Jump, Spawn: one function on machines tells what it does. -/
/- Package ring: All; package sched: Local; package machine: away. -/
import Derived.Test.YtcpljjacamibeaaGreatDoorMg5J
import Derived.Test.YtcpljjacamibeaaGreatDoorMj5
namespace Go.Proofs.YtcpljjacamibeaaGreatDoor
set_option maxHeartbeats 16000000
set_option maxRecDepth 100000
open Go.RowKit Go.Maps
def cmt (m : Mac) (q g : Nat) (i : Ins) : Mac :=
  if i.o = 0 then finA (preA m q g) q g ⟨(g : Nat), (m.gs g).f, (m.gs g).pc, (i.o : Nat), 0, false⟩ 5
  else if i.o = 9 then finA (preA m q g) q g ⟨(g : Nat), (m.gs g).f, (m.gs g).pc, (i.o : Nat), 0, false⟩ 1
  else if i.o = 16 then finA (setGor (preA m q g) g { (preA m q g).gs g with cnt := 256 * (i.a : Nat) + (i.b : Nat) }) q g ⟨(g : Nat), (m.gs g).f, (m.gs g).pc, (i.o : Nat), 0, false⟩ 2
  else if i.o = 14 then finA (setGor (preA m q g) g { (preA m q g).gs g with pc := (i.a : Nat) }) q g ⟨(g : Nat), (m.gs g).f, (m.gs g).pc, (i.o : Nat), 0, false⟩ 2
  else if i.o = 17 then
    if (m.gs g).cnt = 0 then finA (preA m q g) q g ⟨(g : Nat), (m.gs g).f, (m.gs g).pc, (i.o : Nat), 0, false⟩ 2
    else finA (setGor (preA m q g) g { (preA m q g).gs g with cnt := (m.gs g).cnt - 1, pc := (i.a : Nat) }) q g ⟨(g : Nat), (m.gs g).f, (m.gs g).pc, (i.o : Nat), 0, false⟩ 2
  else finA (spawnA (preA m q g) q (i.a : Nat) ((m.gs g).st i.b)) q g ⟨(g : Nat), (m.gs g).f, (m.gs g).pc, (i.o : Nat), (m.ng : Nat), false⟩ 2
def Keeps (p p2 : MAt) : Prop := p2.gm = p.gm ∧ p2.bp = p.bp ∧ p2.vq = .slice none 0 0 ∧ p2.vtm = p.vtm ∧ p2.vfr = p.vfr
theorem Keeps.co {p p2 : MAt} (h : Keeps p p2) (v : Value) : Keeps p { p2 with vco := v } := h
section
variable {W : Bs} {w : World} {p : MAt} {m : Mac} (M : MM W w p m)
include M
theorem m_commit_cmt (q g : Nat) (i : Ins) (hio : i.o = 0 ∨ i.o = 8 ∨ i.o = 9 ∨ i.o = 14 ∨ i.o = 16 ∨ i.o = 17) (ha : i.a < 256) (hb : i.b < 256) (hb8 : i.o = 8 → i.b < 16 ∧ m.ng < 1024) (hq : q < m.np) (hg : g < m.ng) (hxg : (m.ps q).g = (g : Nat)) (rw_ : Nat) (hrow : (m.ps q).row = rw_) (brow : rw_ ≤ 1000000) (pc : Nat) (hpc : (m.gs g).pc = pc) (bpc : pc ≤ 1000000)
    (hvq : p.vq = .slice none 0 0) (hst : m.sts[g]? = some 2) (hsl : m.sts.length = m.ng) (hng : m.ng ≤ 1024) (hcl : m.cms.length ≤ 100000000) (hfr : (m.rg q).fr < 256) (hn : (m.rg q).n < 256) (h0 : m.ph.ph = 0) (hcn : 0 ≤ (m.gs g).cnt ∧ (m.gs g).cnt ≤ 1000000) :
    Calls Tryz.prog 146 #[.pointer (some ⟨p.gm, 0, none⟩), .int .i64 (q : Nat), insV i, .int .i64 0] w (RunPost W (Keeps p) (cmt m q g i) g) := by
  have hgs : (preA m q g).gs g = { m.gs g with pc := (m.gs g).pc + 1 } := updV_same _ _ _
  have hKp : Keeps p p := ⟨rfl, rfl, hvq, rfl, rfl⟩
  have fin : ∀ (m2 : Mac) (c : ComA) (tz : Nat), (tz = 1 ∨ tz = 2 ∨ tz = 3 ∨ tz = 5) → c.g = (g : Nat) → m2.np = m.np → m2.sts[g]? = some 2 → m2.sts.length ≤ 1000000 → m2.cms = m.cms → (tz = 1 → m2.rg = m.rg) → finA m2 q g c tz = cmt m q g i →
      (∀ (w7 : World) (D : List Nat) (gC gT gI gA gY gM gp gg : Nat), CmW w gC gT gI gA gY gM gp gg ⟨(g : Nat), (m.gs g).f, (pc : Nat), (i.o : Nat), 0, false⟩ 2 i 0 (p.bg g) p.gm q g w7 → MM ⟨w7, D⟩ w7 p (preA m q g) → (∀ k ∈ [gC, gT, gI, gA, gY, gM, gp, gg], k ∉ D) →
        Calls Tryz.prog 223 #[.pointer (some ⟨gC, 0, none⟩), .pointer (some ⟨gT, 0, none⟩), .pointer (some ⟨gI, 0, none⟩), .pointer (some ⟨gA, 0, none⟩), .pointer (some ⟨gY, 0, none⟩), .pointer (some ⟨gM, 0, none⟩), .pointer (some ⟨gp, 0, none⟩), .pointer (some ⟨gg, 0, none⟩)] w7 (InnrPost D w7 gC gT (Keeps p) m2 c tz)) →
      Calls Tryz.prog 146 #[.pointer (some ⟨p.gm, 0, none⟩), .int .i64 (q : Nat), insV i, .int .i64 0] w (RunPost W (Keeps p) (cmt m q g i) g) := fun m2 c tz htz hcg hnp hst2 hsl2 hcm hrg hfin hIn => by
    refine (m_commit_gen M q g 0 i hq hg hxg rw_ hrow brow pc hpc bpc (Keeps p) m2 c tz htz (fun p2 h => ⟨h.1, h.2.1, h.2.2.1⟩) hcg hnp hst2 hsl2 (by rw [hcm]; exact hcl) (fun e => by rw [hrg e]; exact ⟨hfr, hn⟩) hIn).mono ?_
    rintro e w' ⟨p2, v, rfl, hQ, M'⟩
    exact ⟨{ p2 with vco := v }, rfl, hQ.co v, by rw [← hfin]; exact M'⟩
  have hst1 : (preA m q g).sts[g]? = some 2 := hst
  have hsl1 : (preA m q g).sts.length ≤ 1000000 := by show m.sts.length ≤ _; omega
  have hcE : (⟨(g : Nat), (m.gs g).f, (pc : Nat), (i.o : Nat), 0, false⟩ : ComA) = ⟨(g : Nat), (m.gs g).f, (m.gs g).pc, (i.o : Nat), 0, false⟩ := by rw [hpc]
  rcases hio with ho | ho | ho | ho | ho | ho
  · -- Exit
    refine fin (preA m q g) ⟨(g : Nat), (m.gs g).f, (pc : Nat), (i.o : Nat), 0, false⟩ 5 (by omega) rfl rfl hst1 hsl1 rfl (fun e => by omega) (by unfold cmt; rw [if_pos ho, hpc]) ?_
    intro w7 D gC gT gI gA gY gM gp gg K M7 hD
    exact in_exit K ho M7 hKp
  · -- Spawn
    obtain ⟨hb16, hng8⟩ := hb8 ho
    refine fin (spawnA (preA m q g) q (i.a : Nat) ((m.gs g).st i.b)) ⟨(g : Nat), (m.gs g).f, (pc : Nat), (i.o : Nat), (m.ng : Nat), false⟩ 2 (by omega) rfl rfl ?_ ?_ rfl (fun e => by omega) (by unfold cmt; rw [if_neg (by omega), if_neg (by omega), if_neg (by omega), if_neg (by omega), if_neg (by omega), hpc]) ?_
    · show (m.sts ++ [1])[g]? = some 2
      rw [List.getElem?_append_left (by omega)]; exact hst
    · show (m.sts ++ [1]).length ≤ _
      simp; omega
    · intro w7 D gC gT gI gA gY gM gp gg K M7 hD
      refine in_ctl K (.inl ho) hD _ (m.ng : Nat) ?_
      refine (ctl_spawn M7 q g i ho hg ha hb hb16 hq hsl hng8 hvq hfr hn h0).mono ?_
      rintro e w' ⟨vst, vgs, gn, rfl, M8⟩
      refine ⟨rfl, { p with vst := vst, vgs := vgs, bg := updV p.bg m.ng gn }, hKp, ?_⟩
      have e : ((preA m q g).gs g).st = (m.gs g).st := by rw [hgs]
      rw [e] at M8
      exact M8
  · -- Yield
    refine fin (preA m q g) ⟨(g : Nat), (m.gs g).f, (pc : Nat), (i.o : Nat), 0, false⟩ 1 (by omega) rfl rfl hst1 hsl1 rfl (fun e => rfl) (by unfold cmt; rw [if_neg (by omega), if_pos ho, hpc]) ?_
    intro w7 D gC gT gI gA gY gM gp gg K M7 hD
    exact in_yield K ho M7 hKp
  · -- Jump
    refine fin (setGor (preA m q g) g { (preA m q g).gs g with pc := (i.a : Nat) }) ⟨(g : Nat), (m.gs g).f, (pc : Nat), (i.o : Nat), 0, false⟩ 2 (by omega) rfl rfl hst1 hsl1 rfl (fun e => by omega) (by unfold cmt; rw [if_neg (by omega), if_neg (by omega), if_neg (by omega), if_pos ho, hpc]) ?_
    intro w7 D gC gT gI gA gY gM gp gg K M7 hD
    refine in_ctl K (.inr (.inr (.inl ho))) hD _ 0 ?_
    exact (ctl_jump M7 q g i ho hg ha hb).mono fun e w' ⟨he, M8⟩ => ⟨he, p, hKp, M8⟩
  · -- Set
    refine fin (setGor (preA m q g) g { (preA m q g).gs g with cnt := 256 * (i.a : Nat) + (i.b : Nat) }) ⟨(g : Nat), (m.gs g).f, (pc : Nat), (i.o : Nat), 0, false⟩ 2 (by omega) rfl rfl hst1 hsl1 rfl (fun e => by omega) (by unfold cmt; rw [if_neg (by omega), if_neg (by omega), if_pos ho, hpc]) ?_
    intro w7 D gC gT gI gA gY gM gp gg K M7 hD
    refine in_ctl K (.inr (.inr (.inr (.inl ho)))) hD _ 0 ?_
    exact (ctl_set M7 q g i ho hg ha hb).mono fun e w' ⟨he, M8⟩ => ⟨he, p, hKp, M8⟩
  · -- Dec
    have hcnt : ((preA m q g).gs g).cnt = (m.gs g).cnt := by rw [hgs]
    by_cases hz : (m.gs g).cnt = 0
    · refine fin (preA m q g) ⟨(g : Nat), (m.gs g).f, (pc : Nat), (i.o : Nat), 0, false⟩ 2 (by omega) rfl rfl hst1 hsl1 rfl (fun e => by omega) (by unfold cmt; rw [if_neg (by omega), if_neg (by omega), if_neg (by omega), if_neg (by omega), if_pos ho, if_pos hz, hpc]) ?_
      intro w7 D gC gT gI gA gY gM gp gg K M7 hD
      refine in_ctl K (.inr (.inr (.inr (.inr ho)))) hD _ 0 ?_
      exact (ctl_dec0 M7 q g i ho hg ha hb (by rw [hcnt]; exact hz)).mono fun e w' ⟨he, M8⟩ => ⟨he, p, hKp, M8⟩
    · obtain ⟨n, hn'⟩ : ∃ n : Nat, (m.gs g).cnt = n := ⟨(m.gs g).cnt.toNat, by omega⟩
      refine fin (setGor (preA m q g) g { (preA m q g).gs g with cnt := (n : Int) - 1, pc := (i.a : Nat) }) ⟨(g : Nat), (m.gs g).f, (pc : Nat), (i.o : Nat), 0, false⟩ 2 (by omega) rfl rfl hst1 hsl1 rfl (fun e => by omega) (by unfold cmt; rw [if_neg (by omega), if_neg (by omega), if_neg (by omega), if_neg (by omega), if_pos ho, if_neg hz, hpc, hn']) ?_
      intro w7 D gC gT gI gA gY gM gp gg K M7 hD
      refine in_ctl K (.inr (.inr (.inr (.inr ho)))) hD _ 0 ?_
      exact (ctl_dec M7 q g i ho hg ha hb n (by rw [hcnt]; exact hn') (by omega) (by omega)).mono fun e w' ⟨he, M8⟩ => ⟨he, p, hKp, M8⟩
end
def serve (m : Mac) (q g : Nat) : Mac := if (m.ps q).g = -1 then takeA (tickA m q) q g else tickA m q
def stepA (m : Mac) (q g : Nat) (i : Ins) : Mac := cmt (serve m q g) q g i
structure Calm (m : Mac) : Prop where
  P : m.np ≤ 64
  tm : m.tm = []
  made : m.made = 0
  out : m.out = false
  h0 : m.ph.ph = 0
  fo : m.force = 0
  cy : 0 ≤ m.ph.cyc
  lv : m.A.a.live = 0
  T : 0 < m.gT
  sl : m.sts.length = m.ng
  ng : m.ng ≤ 1024
  cl : m.cms.length ≤ 100000000
  ob : ∀ x, m.A.a.ob x = none
structure Nxt (m : Mac) (g : Nat) (i : Ins) : Prop where
  o : i.o = 0 ∨ i.o = 8 ∨ i.o = 9 ∨ i.o = 14 ∨ i.o = 16 ∨ i.o = 17
  a : i.a < 256
  b : i.b < 256
  b8 : i.o = 8 → i.b < 16 ∧ m.ng < 1024
  c0 : 0 ≤ (m.gs g).cnt
  c1 : (m.gs g).cnt ≤ 1000000
  at_ : ∃ (F pc : Nat) (l : List Ins), (m.gs g).f = F ∧ (m.gs g).pc = pc ∧ pc ≤ 1000000 ∧ m.fs[F]? = some l ∧ (l[pc]? = some i ∨ (pc = l.length ∧ i = ⟨0, 0, 0, 0⟩)) ∧ l ≠ []
structure Cnts (m : Mac) (q : Nat) : Prop where
  wk : ∃ n : Nat, (m.ps q).worked = n ∧ n ≤ 1000000
  al : ∃ n : Nat, (m.ps q).all = n ∧ n + 1 ≤ 1000000
  pk : ∃ n : Nat, (m.ps q).picks = n ∧ n ≤ 1000000
  sp : ∃ n : Nat, m.steps = n ∧ n ≤ 1000000
  ck : ∃ n : Nat, m.clock = n ∧ n ≤ 1000000
def Serves (m : Mac) (q g : Nat) : Prop :=
  ((m.ps q).g = -1 ∧ (m.rg q).hs = false ∧ (m.rg q).fr < 256 ∧ 0 < (m.rg q).n ∧ (m.rg q).n ≤ 256 ∧ (m.rg q).l (m.rg q).fr = (g : Nat) ∧ m.sts[g]? = some 1) ∨
  ((m.ps q).g = (g : Nat) ∧ m.sts[g]? = some 2 ∧ (∃ rw : Nat, (m.ps q).row = rw ∧ rw < 16) ∧ (m.rg q).fr < 256 ∧ (m.rg q).n < 256)
section
variable {W : Bs} {w : World} {p : MAt} {m : Mac} (M : MM W w p m)
include M
end
def AllRel (w0 : World) (n gk : Nat) (v idx : Value) (w : World) : Prop := ∃ (j : Nat) (A : Option Addr) (c : Nat) (xs : List Int), gk + j = n + 1 ∧ j ≤ n ∧ idx = .int .i64 (j : Nat) ∧ v = .slice A j c ∧ xs.length = j ∧ OwnI 3 w (.slice A j c) xs ∧ (∀ b ∈ fpv (.slice A j c), w0.heap.size ≤ b) ∧ Chg [] w0 w
def LcPost (n : Nat) (w : World) (e : Ending) (w' : World) : Prop := ∃ A c, e = .returned (.slice A n c) ∧ Chg [] w w'
theorem rg_all (w : World) (g : Nat) (r : RgR) (B : Blk w g 263 (rgC r)) (hs : r.hs = false) (hf : r.fr < 256) (hn : r.n ≤ 256) : Calls Tryz.prog 93 #[.pointer (some ⟨g, 0, none⟩)] w (LcPost r.n w) := by
  have c0 : w.cell? ⟨g, 259, none⟩ = some (.bool false) := by rw [← hs]; exact B.cellv 259 (rgC_hs r)
  have c1 : w.cell? ⟨g, 257, none⟩ = some (.int .i64 (r.n : Nat)) := B.cellv 257 (rgC_n r)
  have HB := Lib.hid B; clear B
  go_enter Tryz.func93, Tryz.ntmps93
  go_wp2_with fail
  go_loopg [3, 22] (r.n + 1) (fun gk v idx wr => AllRel w r.n gk v idx wr)
  case atStart => exact ⟨0, none, 0, [], by omega, by omega, rfl, rfl, rfl, OwnI.nil _ _, fun b hb => by simp [fpv, Value.ownBlock] at hb, Chg.refl [] w⟩
  case round =>
    obtain ⟨j, A, c, xs, hgk, hj, rfl, rfl, hxs, O, hF, cW⟩ := hrel
    have HO := Lib.hid (And.intro hF (And.intro cW (And.intro hxs O))); clear hF cW hxs O
    by_cases hlt : j < r.n
    · have d1 : (j : Int) < (r.n : Int) := by omega
      have Br := HO.out.2.1.blk HB.out (by simp)
      have KA := rg_at wr g r Br j hf (by omega)
      have HA := Lib.hid (And.intro Br KA); clear Br KA
      go_wp2_with fail
      refine (HA.out.2).mono ?_
      rintro e w2 ⟨rfl, c2⟩
      have B2 := c2.blk HA.out.1 (by simp)
      have k0 : w2.cell? ⟨g, (r.fr + j) % 256, none⟩ = some (.int .i64 (r.l ((r.fr + j) % 256))) := B2.cellv _ (rgC_at r (by omega))
      have O2 := HO.out.2.2.2.chg0 c2
      have hl := HO.out.2.2.1
      have H2 := Lib.hid c2; clear c2 B2
      go_wp2_with (at_builtin; refine wpList_push_int rfl _ _ rfl slZ rfl O2 rfl (by omega) ?_; rw [hl]; intro A' c' w9 O9 S9)
      have D9 := (HO.out.2.1.trans H2.out).newS S9.c HO.out.1
      have F9 : ∀ b ∈ fpv (.slice A' (j + 1) c'), w.heap.size ≤ b := fun b hb => by
        rcases S9.f b hb with h | h
        · exact HO.out.1 b h
        · exact Nat.le_trans (HO.out.2.1.trans H2.out).size h
      have H9 := Lib.hid (And.intro O9 (And.intro F9 (And.intro D9 hl))); clear O9 F9 D9 S9 O2 hl
      go_roundg (r.n - j)
      case measure => omega
      case rel => exact ⟨j + 1, A', c', _, by omega, by omega, by go_num, by go_num, by rw [List.length_append, H9.out.2.2.2]; rfl, H9.out.1, H9.out.2.1, H9.out.2.2.1⟩
    · have d1 : ¬ (j : Int) < (r.n : Int) := by omega
      have ej : j = r.n := by omega
      subst ej
      go_wp2_with fail
      go_ret
      exact ⟨A, c, rfl, HO.out.2.1⟩
section
variable {w : World} {g gq P : Nat} {vr vq : Value} {gp : Nat → Nat} {r : Nat → RgR} {com : List Int} (I : IsSc w g gq P vr vq gp r com)
include I
theorem sc_local (p : Nat) (hp : p < P) (hs : (r p).hs = false) (hf : (r p).fr < 256) (hn : (r p).n ≤ 256) : Calls Tryz.prog 144 #[.pointer (some ⟨g, 0, none⟩), .int .i64 (p : Nat)] w (LcPost (r p).n w) := by
  obtain ⟨A, c, hv⟩ := I.o.slice
  rw [ptrs_len] at hv
  have c0 : w.cell? ⟨g, 0, none⟩ = some vr := I.b.cellv 0 rfl
  rw [hv] at c0
  have o := I.o
  rw [hv] at o
  obtain ⟨b, hA, hc, -, -⟩ := o.cell (ptrs_at gp hp)
  subst hA
  have d1 : (0 : Int) ≤ p := by omega
  have d2 : (p : Int) < P := by omega
  have K := sc_has I p hp
  have K2 := rg_all w (gp p) (r p) (I.r p hp) hs hf hn
  have HK := Lib.hid (And.intro K K2); clear K K2 o hv I
  go_enter Tryz.func144, Tryz.ntmps144
  go_wp2_with fail
  refine HK.out.1.mono ?_
  rintro e w1 ⟨rfl, rfl⟩
  go_wp2_with fail
  refine HK.out.2.mono ?_
  rintro e w2 ⟨A, c, rfl, c2⟩
  have H2 := Lib.hid c2; clear c2
  go_wp2_with fail
  go_ret
  exact ⟨A, c, rfl, H2.out⟩
end
def awayA (m : Mac) (q g : Nat) : Mac := { m with sts := m.sts.set g 1, rg := updV m.rg q (rgPut (m.rg q) (g : Nat)), ps := updV m.ps q { m.ps q with g := -1 } }
section
variable {W : Bs} {w : World} {p : MAt} {m : Mac} (M : MM W w p m)
include M
theorem m_away (q g : Nat) (hq : q < m.np) (hxg : (m.ps q).g = (g : Nat)) (hvq : p.vq = .slice none 0 0) (hst : m.sts[g]? = some 2) (hsl : m.sts.length ≤ 1000000) (hfr : (m.rg q).fr < 256) (hn : (m.rg q).n < 256) :
    Calls Tryz.prog 84 #[.pointer (some ⟨p.gm, 0, none⟩), .int .i64 (q : Nat)] w (RunE W (Keeps p) (awayA m q g) 2 (g : Nat)) := by
  have HM := Lib.hid M; clear M
  go_enter Tryz.func84, Tryz.ntmps84
  go_upto_region 1 with fail
  obtain ⟨w1, hw1⟩ : ∃ w1, w1 = w.alloc (.cells #[.int .i64 0, .int .i64 0, .int .i64 0] 48) := ⟨_, rfl⟩
  obtain ⟨gE, hgE⟩ : ∃ gE, gE = w.heap.size := ⟨_, rfl⟩
  rw [← hw1, ← hgE]
  have BE : Blk w1 gE 48 #[.int .i64 0, .int .i64 0, .int .i64 0] := by rw [hw1, hgE]; exact Blk.new _ _ _
  have c01 : Chg [] w w1 := by rw [hw1]; exact (Chg.refl [] w).alloc _
  have M1 := HM.out.chg0 c01
  have hnE : ∀ k j, MF p m k j → j ≠ gE := fun k j hj e => by have := HM.out.hi k j hj; omega
  have hE0 : W.heap.size ≤ gE := by have : W.heap.size ≤ w.heap.size := HM.out.c.size; omega
  clear hw1 hgE
  obtain ⟨b9, cap9, c9, hps⟩ := M1.psl
  obtain ⟨hv9, hb9, -⟩ := hps q hq
  rw [hv9] at c9
  have e1 : (0 : Int) ≤ q := by omega
  have e2 : (q : Int) < (m.np : Int) := by omega
  have x0 : w1.cell? ⟨p.bp q, 0, none⟩ = some (.int .i64 (g : Nat)) := by rw [← hxg]; exact (M1.pb hq).cellv 0 rfl
  have c7 : w1.cell? ⟨p.gm, 7, none⟩ = some (.pointer (some ⟨p.gst, 0, none⟩)) := M1.mb.cellv 7 rfl
  have KM := st_move w1 p.gst p.vst m.sts M1.st g 2 1 hst (.inr (.inl ⟨rfl, rfl⟩)) hsl
  obtain ⟨D, MR, hD⟩ := M1.re
  have nED : gE ∉ D := fun hm => by obtain ⟨k, hk⟩ := hD gE hm; exact hnE k gE hk rfl
  have H1 := Lib.hid (And.intro M1 (And.intro BE (And.intro KM (And.intro MR (And.intro hD (And.intro nED (And.intro hnE hE0))))))); clear M1 BE KM MR hD nED hnE hE0 hps hv9 c01
  go_wp2_with fail
  refine (H1.out.2.2.1).mono ?_
  rintro e w2 ⟨rfl, I2, S2⟩
  have M2 := H1.out.2.2.2.1.stT I2 rfl S2
  obtain ⟨m2, hm2⟩ : ∃ m2, m2 = { m with sts := m.sts.set g ((1 : Nat) : Int) } := ⟨_, rfl⟩
  rw [← hm2] at M2
  have hq2 : q < m2.np := by rw [hm2]; exact hq
  have hrg : m2.rg q = m.rg q := by rw [hm2]
  have c10 : w2.cell? ⟨p.gm, 10, none⟩ = some (.pointer (some ⟨p.gsd, 0, none⟩)) := M2.mb.cellv 10 rfl
  have KR := sc_ready M2.sc hvq q hq2 (g : Nat) (by rw [hrg]; exact hfr) (by rw [hrg]; exact hn)
  have H2 := Lib.hid (And.intro M2 (And.intro hm2 KR)); clear M2 hm2 KR I2 S2 c9 hb9 x0 c7 hrg
  go_wp2_with fail
  refine (H2.out.2.2).mono ?_
  rintro e w3 ⟨rfl, I3, c23⟩
  have M3 := H2.out.1.scT (vq' := p.vq) (by exact I3) c23 (fun j hj => by
    rcases List.mem_cons.1 hj with e | e
    · exact .inl (.inr (.inr (.inr (.inr ⟨q, hq2, e⟩))))
    · exact .inl (.inr (.inl (List.mem_singleton.1 e)))) (fun j hj => .inl hj)
  obtain ⟨m3, hm3⟩ : ∃ m3, m3 = { m2 with rg := updV m2.rg q (rgPut (m2.rg q) (g : Nat)), com := m2.com } := ⟨_, rfl⟩
  have M3 : MM ⟨w1, D⟩ w3 p m3 := by rw [hm3]; exact M3
  have hq3 : q < m3.np := by rw [hm3]; exact hq2
  have z0 := (M3.pb hq3).cellv 0 rfl
  have y0 := (M3.pb hq3).frozen 0
  have H3 := Lib.hid (And.intro M3 hm3); clear M3 I3 c23 hm3 c10
  go_upto_region 6 with fail
  have M4 := H3.out.1.pset hq3 0 (.int .i64 (-1)) { m3.ps q with g := -1 } rfl
  obtain ⟨w4, hw4⟩ : ∃ w4, w4 = w3.setCell ⟨p.bp q, 0, none⟩ (.int .i64 (-1)) := ⟨_, rfl⟩
  rw [← hw4] at M4 ⊢
  have H4 := Lib.hid M4; clear M4 hw4 z0 y0
  go_wp2_with fail
  refine (m_event w4 2 (g : Nat)).mono ?_
  rintro e w5 ⟨rfl, c45⟩
  have M5 := H4.out.chg0 c45
  have E5 : Blk w5 gE 48 _ := M5.c.blk H1.out.2.1 H1.out.2.2.2.2.2.1
  have z0 : w5.cell? ⟨gE, 0, none⟩ = some (.int .i64 0) := E5.cellv 0 rfl
  have z1 : w5.cell? ⟨gE, 1, none⟩ = some (.int .i64 0) := E5.cellv 1 rfl
  have z2 : w5.cell? ⟨gE, 2, none⟩ = some (.int .i64 0) := E5.cellv 2 rfl
  have y0 := E5.frozen 0
  have y1 := E5.frozen 1
  have y2 := E5.frozen 2
  have H5 := Lib.hid (And.intro M5 E5); clear M5 E5 c45
  unfold evV
  go_wp2_with fail
  have B6 := ((H5.out.2.setv 0 (.int .i64 2) rfl).setv 1 (.int .i64 (g : Nat)) rfl).setv 2 (.int .i64 0) (cs' := #[.int .i64 2, .int .i64 (g : Nat), .int .i64 0]) rfl
  have c56 : Chg [gE] w5 (((w5.setCell ⟨gE, 0, none⟩ (.int .i64 2)).setCell ⟨gE, 1, none⟩ (.int .i64 (g : Nat))).setCell ⟨gE, 2, none⟩ (.int .i64 0)) := (((Chg.refl [gE] w5).setCell (.inl (by simp)) _).setCell (.inl (by simp)) _).setCell (.inl (by simp)) _
  have MB := H1.out.1.back H1.out.2.2.2.2.1 H5.out.1
  have M6 := MB.chg c56 (fun k j hj hm => by
    have e : j = gE := by simpa using hm
    subst e
    rcases H5.out.1.lo k j hj with h | h
    · exact H1.out.2.2.2.2.2.1 h
    · have h : w1.heap.size ≤ j := h
      have := H1.out.2.1.lt
      omega) (by simpa using H1.out.2.2.2.2.2.2.2)
  refine ⟨rfl, _, results_cell_row (P := Tryz.prog) (fn := Tryz.f84) rfl _ _ gE 48 _ _ _ rfl B6 Tryz.underlying48 rfl (by kernel_rfl), p, rfl, ⟨rfl, rfl, hvq, rfl, rfl⟩, ?_⟩
  rw [H3.out.2, H2.out.2.1] at M6
  exact M6
end
end Go.Proofs.YtcpljjacamibeaaGreatDoor
