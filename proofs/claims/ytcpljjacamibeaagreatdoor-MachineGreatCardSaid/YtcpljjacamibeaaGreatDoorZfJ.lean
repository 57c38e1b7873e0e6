/- Exit, Move, Spawn (and one too many), Jump: machine and model in step, whatever the number of goroutines. (Printed by wip/genzf.py.) -/
/- The document's Do of Exit, Move, Spawn (and one too many), Jump; a run of such a program, told by what holds of model and rings. -/
/- MachineGreat, plain: how long the rings are: who begins the others is the last of its ring. -/
import Derived.Test.YtcpljjacamibeaaGreatDoorZbJ
import Derived.Test.YtcpljjacamibeaaGreatDoorMn3J
namespace Go.Proofs.YtcpljjacamibeaaGreatDoor
set_option maxHeartbeats 16000000
set_option maxRecDepth 100000
open Go.RowKit Go.Maps
def cmtZ (m : Mac) (q g : Nat) (i : Ins) : Mac :=
  if i.o = 8 ∧ m.ng = 1024 then finA (preA m q g) q g ⟨(g : Nat), (m.gs g).f, (m.gs g).pc, (i.o : Nat), 0, true⟩ 5
  else if i.o = 4 then finA (setGor (preA m q g) g { (preA m q g).gs g with st := updV (m.gs g).st i.a ((m.gs g).st i.b) }) q g ⟨(g : Nat), (m.gs g).f, (m.gs g).pc, (i.o : Nat), 0, false⟩ 2
  else cmt m q g i
def doZ (X : Mdl) (g : Nat) (i : Ins) : Mdl :=
  if i.o = 8 ∧ X.n = 1024 then { X with gs := updV X.gs g { X.gs g with pc := (X.gs g).pc + 1, st := 5 } }
  else if i.o = 4 then { X with gs := updV X.gs g { X.gs g with pc := (X.gs g).pc + 1, sk := updV (X.gs g).sk i.a ((X.gs g).sk i.b) } }
  else doX X g i
def tellZ (X : Mdl) (g : Nat) (i : Ins) : ComA :=
  if i.o = 8 ∧ X.n = 1024 then ⟨(g : Nat), (X.gs g).f, (X.gs g).pc, (i.o : Nat), 0, true⟩ else tellX X g i
structure FineZ (X : Mdl) (g : Nat) (i : Ins) : Prop where
  o : i.o = 0 ∨ i.o = 4 ∨ i.o = 8 ∨ i.o = 14
  a : i.a < 256
  b : i.b < 256
  b8 : i.o = 8 → i.b < 16
  ab : i.o = 4 → i.a < 16 ∧ i.b < 16
  c : 0 ≤ (X.gs g).cnt ∧ (X.gs g).cnt ≤ 1000000
section
variable {P : Nat} {fs : List (List Ins)} {J : Mdl → List ComA → Prop} {Z : Mac → Prop} {m : Mac} {X : Mdl} {loc : Nat → Nat × Nat} {q g : Nat} {i : Ins}
theorem AtZ.st1 (A : AtZ P fs J Z m X loc q g) : (X.gs g).st = 1 := by
  rw [WF.stX A.R A.h A.hg, A.l]; rfl
theorem AtZ.sts (A : AtZ P fs J Z m X loc q g) : m.sts[g]? = some 2 := by
  have := A.h.st g A.hg
  rw [A.l] at this
  exact this
theorem m_commit_z (A : AtZ P fs J Z m X loc q g) (hrl : (m.rg q).n < 256) (F : FineZ X g i) (hpc : ∃ pc : Nat, (m.gs g).pc = pc ∧ pc ≤ 1000000) (p : MAt) (hvq : p.vq = .slice none 0 0) (B : Bs) (w : World) (M : MM B w p m) :
    Calls Tryz.prog 146 #[.pointer (some ⟨p.gm, 0, none⟩), .int .i64 (q : Nat), insV i, .int .i64 0] w (RunPost B (Keeps p) (cmtZ m q g i) g) := by
  obtain ⟨pc, hpc, bpc⟩ := hpc
  obtain ⟨rw_, hrow, brow⟩ := A.row
  have hg := A.hg
  have hq := A.hq
  have hxg := A.pg
  have hst := A.sts
  have hsl : m.sts.length = m.ng := A.h.sl
  have hng := A.ng
  obtain ⟨L, hL, hN, hm⟩ := A.h.rg q hq
  have hfr := hL.fr
  have hn := hrl
  have hcnt : 0 ≤ (m.gs g).cnt ∧ (m.gs g).cnt ≤ 1000000 := by rw [← (A.R.g g hg).2.2.1]; exact F.c
  have hgs : (preA m q g).gs g = { m.gs g with pc := (m.gs g).pc + 1 } := updV_same _ _ _
  have fin : ∀ (m2 : Mac) (c : ComA) (tz : Nat), (tz = 1 ∨ tz = 2 ∨ tz = 3 ∨ tz = 5) → c.g = (g : Nat) → m2.np = m.np → m2.sts[g]? = some 2 → m2.sts.length ≤ 1000000 → m2.cms = m.cms → (tz = 1 → m2.rg = m.rg) → finA m2 q g c tz = cmtZ m q g i →
      (∀ (w7 : World) (D : List Nat) (gC gT gI gA gY gM gp gg : Nat), CmW w gC gT gI gA gY gM gp gg ⟨(g : Nat), (m.gs g).f, (pc : Nat), (i.o : Nat), 0, false⟩ 2 i 0 (p.bg g) p.gm q g w7 → MM ⟨w7, D⟩ w7 p (preA m q g) → (∀ k ∈ [gC, gT, gI, gA, gY, gM, gp, gg], k ∉ D) →
        Calls Tryz.prog 223 #[.pointer (some ⟨gC, 0, none⟩), .pointer (some ⟨gT, 0, none⟩), .pointer (some ⟨gI, 0, none⟩), .pointer (some ⟨gA, 0, none⟩), .pointer (some ⟨gY, 0, none⟩), .pointer (some ⟨gM, 0, none⟩), .pointer (some ⟨gp, 0, none⟩), .pointer (some ⟨gg, 0, none⟩)] w7 (InnrPost D w7 gC gT (Keeps p) m2 c tz)) →
      Calls Tryz.prog 146 #[.pointer (some ⟨p.gm, 0, none⟩), .int .i64 (q : Nat), insV i, .int .i64 0] w (RunPost B (Keeps p) (cmtZ m q g i) g) := fun m2 c tz htz hcg hnp hst2 hsl2 hcm hrg hfin hIn => by
    refine (m_commit_gen M q g 0 i hq hg hxg rw_ hrow brow pc hpc bpc (Keeps p) m2 c tz htz (fun p2 h => ⟨h.1, h.2.1, h.2.2.1⟩) hcg hnp hst2 hsl2 (by rw [hcm]; exact A.cl) (fun e => by rw [hrg e]; exact ⟨hfr, hn⟩) hIn).mono ?_
    rintro e w' ⟨p2, v, rfl, hQ, M'⟩
    exact ⟨{ p2 with vco := v }, rfl, hQ.co v, by rw [← hfin]; exact M'⟩
  by_cases h8 : i.o = 8 ∧ m.ng = 1024
  · obtain ⟨h8a, h8b⟩ := h8
    have hb := F.b8 h8a
    have h8 : i.o = 8 ∧ m.ng = 1024 := ⟨h8a, h8b⟩
    refine fin (preA m q g) ⟨(g : Nat), (m.gs g).f, (pc : Nat), (i.o : Nat), 0, true⟩ 5 (by omega) rfl rfl hst (by show m.sts.length ≤ _; omega) rfl (fun e => by omega) (by unfold cmtZ; rw [if_pos h8, hpc]) ?_
    intro w7 D gC gT gI gA gY gM gp gg K M7 hD
    refine in_fault8 K h8a M7 ⟨rfl, rfl, hvq, rfl, rfl⟩ ?_
    exact ctl_full M7 q g i h8a hg F.a F.b hb (by show m.sts.length = 1024; omega)
  by_cases h4 : i.o = 4
  · obtain ⟨ha, hb⟩ := F.ab h4
    refine fin (setGor (preA m q g) g { (preA m q g).gs g with st := updV (m.gs g).st i.a ((m.gs g).st i.b) }) ⟨(g : Nat), (m.gs g).f, (pc : Nat), (i.o : Nat), 0, false⟩ 2 (by omega) rfl rfl hst (by show m.sts.length ≤ _; omega) rfl (fun e => by omega) (by unfold cmtZ; rw [if_neg h8, if_pos h4, hpc]) ?_
    intro w7 D gC gT gI gA gY gM gp gg K M7 hD
    refine in_data K h4 hD _ 0 ?_
    refine (dat_move M7 q g i h4 hg ha hb).mono ?_
    rintro e w' ⟨he, M8⟩
    have e : ((preA m q g).gs g).st = (m.gs g).st := by rw [hgs]
    rw [e] at M8
    exact ⟨he, p, ⟨rfl, rfl, hvq, rfl, rfl⟩, M8⟩
  · have ec : cmtZ m q g i = cmt m q g i := by unfold cmtZ; rw [if_neg h8, if_neg h4]
    rw [ec]
    have ho : i.o = 0 ∨ i.o = 8 ∨ i.o = 9 ∨ i.o = 14 ∨ i.o = 16 ∨ i.o = 17 := by have := F.o; omega
    exact m_commit_cmt M q g i ho F.a F.b (fun h => ⟨F.b8 h, by have : ¬ m.ng = 1024 := fun e => h8 ⟨h, e⟩; omega⟩) hq hg hxg rw_ hrow brow pc hpc bpc hvq hst hsl (by omega) A.cl hfr hn A.h0 hcnt
theorem after_z (A : AtZ P fs J Z m X loc q g) (hrl : (m.rg q).n < 256) (F : FineZ X g i) :
    ∃ loc3, WF (cmtZ m q g i) loc3 ∧ Rel (cmtZ m q g i) (doZ X g i) ∧ (cmtZ m q g i).cms = m.cms ++ [tellZ X g i] ∧ Stays m (cmtZ m q g i) q := by
  have hg := A.hg
  have hq := A.hq
  have hxg := A.pg
  have hst := A.sts
  have hsl : m.sts.length = m.ng := A.h.sl
  have hng := A.ng
  have hXn := A.R.n
  obtain ⟨gf, gp, gc, gk⟩ := A.R.g g hg
  have h := A.h
  by_cases h8 : i.o = 8 ∧ m.ng = 1024
  · have ec : cmtZ m q g i = finA (preA m q g) q g ⟨(g : Nat), (m.gs g).f, (m.gs g).pc, (i.o : Nat), 0, true⟩ 5 := by unfold cmtZ; rw [if_pos h8]
    have ex : doZ X g i = { X with gs := updV X.gs g { X.gs g with pc := (X.gs g).pc + 1, st := 5 } } := by unfold doZ; rw [if_pos (by rw [hXn]; exact h8)]
    have et : tellZ X g i = ⟨(g : Nat), (m.gs g).f, (m.gs g).pc, (i.o : Nat), 0, true⟩ := by unfold tellZ; rw [if_pos (by rw [hXn]; exact h8), gf, gp]
    rw [ec, ex, et]
    refine ⟨updV loc g (5, 0), ?_, Rel.set A.R g hg (x := { m.gs g with pc := (m.gs g).pc + 1 }) (st' := m.sts.set g 5) rfl rfl (by simp [finA, preA]) (by simp [finA, preA]) rfl ⟨gf, by show (X.gs g).pc + 1 = (m.gs g).pc + 1; rw [gp], gc, gk⟩ (fun j s hj => ?_), rfl, Stays.fin ⟨rfl, rfl, rfl, rfl, rfl, rfl, rfl, rfl, rfl, rfl, rfl⟩ rfl⟩
    · have := (h.off hq hxg 5 0 (.inr rfl)).2.2
      show WFc m.ng m.np (m.sts.set g ((5 : Nat) : Int)) (fun q' => (updV (preA m q g).ps q { (preA m q g).ps q with g := -1 } q').g) m.rg _
      rw [off_pg]; exact this
    · rw [List.getElem?_set] at hj
      by_cases e : j = g
      · subst e
        rw [if_pos rfl, if_pos (by omega)] at hj
        rw [if_pos rfl, ← Option.some.inj hj]
        show (5 : Int) = stX 5
        decide
      · rw [if_neg (fun h => e h.symm)] at hj
        rw [if_neg e]; exact hj
  have h8X : ¬ (i.o = 8 ∧ X.n = 1024) := by rw [hXn]; exact h8
  by_cases h4 : i.o = 4
  · have ec : cmtZ m q g i = finA (setGor (preA m q g) g { (preA m q g).gs g with st := updV (m.gs g).st i.a ((m.gs g).st i.b) }) q g ⟨(g : Nat), (m.gs g).f, (m.gs g).pc, (i.o : Nat), 0, false⟩ 2 := by unfold cmtZ; rw [if_neg h8, if_pos h4]
    have ex : doZ X g i = { X with gs := updV X.gs g { X.gs g with pc := (X.gs g).pc + 1, sk := updV (X.gs g).sk i.a ((X.gs g).sk i.b) } } := by unfold doZ; rw [if_neg h8X, if_pos h4]
    have et : tellZ X g i = ⟨(g : Nat), (m.gs g).f, (m.gs g).pc, (i.o : Nat), 0, false⟩ := by unfold tellZ tellX; rw [if_neg h8X, if_neg (by omega), gf, gp]
    rw [ec, ex, et]
    refine ⟨loc, WF.fin2 (m := m) (q := q) (g := g) h, Rel.set A.R g hg (x := { m.gs g with pc := (m.gs g).pc + 1, st := updV (m.gs g).st i.a ((m.gs g).st i.b) }) (st' := m.sts) rfl rfl rfl (by simp [finA, preA, setGor, updV_updV, updV_same]) rfl ⟨gf, by show (X.gs g).pc + 1 = (m.gs g).pc + 1; rw [gp], gc, by show updV (X.gs g).sk i.a _ = updV (m.gs g).st i.a _; rw [gk]⟩ (fun j s hj => ?_), rfl, Stays.fin ⟨rfl, rfl, rfl, rfl, rfl, rfl, rfl, rfl, rfl, rfl, rfl⟩ rfl⟩
    by_cases e : j = g
    · subst e; rw [if_pos rfl]; exact A.R.st j s hj
    · rw [if_neg e]; exact hj
  · have ec : cmtZ m q g i = cmt m q g i := by unfold cmtZ; rw [if_neg h8, if_neg h4]
    have ex : doZ X g i = doX X g i := by unfold doZ; rw [if_neg h8X, if_neg h4]
    have et : tellZ X g i = tellX X g i := by unfold tellZ; rw [if_neg h8X]
    have ho : i.o = 0 ∨ i.o = 8 ∨ i.o = 9 ∨ i.o = 14 ∨ i.o = 16 ∨ i.o = 17 := by have := F.o; omega
    rw [ec, ex, et]
    obtain ⟨hR, hc⟩ := Rel.cmt A.R q g hg i hst hsl ho
    have key : ∃ loc3, WF (cmt m q g i) loc3 ∧ Stays m (cmt m q g i) q := by
      rcases ho with ho | ho | ho | ho
      · rw [cmt0 ho]
        refine ⟨updV loc g (5, 0), ?_, Stays.fin ⟨rfl, rfl, rfl, rfl, rfl, rfl, rfl, rfl, rfl, rfl, rfl⟩ rfl⟩
        have := (h.off hq hxg 5 0 (.inr rfl)).2.2
        show WFc m.ng m.np (m.sts.set g ((5 : Nat) : Int)) (fun q' => (updV (preA m q g).ps q { (preA m q g).ps q with g := -1 } q').g) m.rg _
        rw [off_pg]; exact this
      · rw [cmt8 ho]
        refine ⟨updV loc m.ng (1, q), ?_, Stays.fin ⟨rfl, rfl, rfl, rfl, rfl, rfl, rfl, rfl, rfl, rfl, rfl⟩ rfl⟩
        have := h.spawn_r hq hrl
        show WFc (m.ng + 1) m.np (m.sts ++ [1]) (fun q' => ((preA m q g).ps q').g) (updV m.rg q (rgPut (m.rg q) (m.ng : Nat))) _
        rw [pre_pg]; exact this
      · rw [cmt9 ho]
        refine ⟨updV loc g (1, q), ?_, Stays.fin ⟨rfl, rfl, rfl, rfl, rfl, rfl, rfl, rfl, rfl, rfl, rfl⟩ rfl⟩
        have := (h.away_r hq hxg hrl).2.2
        show WFc m.ng m.np (m.sts.set g ((1 : Nat) : Int)) (fun q' => (updV (preA m q g).ps q { (preA m q g).ps q with g := -1 } q').g) (updV m.rg q (rgPut (m.rg q) (g : Nat))) _
        rw [off_pg]; exact this
      · obtain ⟨y, c, e⟩ := cmt2 (m := m) (q := q) (g := g) ho
        rw [e]
        exact ⟨loc, WF.fin2 h, Stays.fin ⟨rfl, rfl, rfl, rfl, rfl, rfl, rfl, rfl, rfl, rfl, rfl⟩ rfl⟩
    obtain ⟨l3, k1, k2⟩ := key
    exact ⟨l3, k1, hR, hc, k2⟩
end
theorem do_z (w : World) (a : XAt) (X : Mdl) (B : Nat) (vs : List Value) (h : XM w a X) (PR : PrR w B a.vf vs X.fs) (hB : B ≤ w.heap.size) (g : Nat) (i : Ins) (hg : g < X.n) (hn : X.n ≤ 1024) (hst : (X.gs g).st = 1) (hA : AtP X.fs X g i) (Fn : FineZ X g i) :
    Calls Tryz.prog 91 #[.pointer (some ⟨a.gX, 0, none⟩), .int .i64 (g : Nat)] w (FolPost a (doZ X g i) X (.tuple #[.agg (comC (tellZ X g i)).toArray, .int .i64 0]) w) := by
  obtain ⟨F, pc, l, hF, hpc, bpc, hl, hi, -⟩ := hA
  have e1 : (pcX X g).gs g = { X.gs g with pc := (X.gs g).pc + 1 } := updV_same _ _ _
  by_cases h8 : i.o = 8 ∧ X.n = 1024
  · obtain ⟨h8a, h8b⟩ := h8
    have h8 : i.o = 8 ∧ X.n = 1024 := ⟨h8a, h8b⟩
    have h3 := rdo_end w a X (pcX X g) { (⟨(g : Nat), (X.gs g).f, (X.gs g).pc, (i.o : Nat), 0, false⟩ : ComA) with flt := true } B vs h PR hB g F pc l i hg hn hst hF hpc bpc hl hi (fun w' gc h' hc =>
      ⟨.inr ⟨rplain_spawn w' a _ h' g gc i h8a hg Fn.a Fn.b, fun w2 c2 => rother_full w2 a _ (h'.chg0 c2) g gc i h8a hg Fn.a (Fn.b8 h8a) h8b _ (c2.blk hc (by simp))⟩⟩) (Nat.le_refl _)
    have eX : endX (pcX X g) g { (⟨(g : Nat), (X.gs g).f, (X.gs g).pc, (i.o : Nat), 0, false⟩ : ComA) with flt := true } = doZ X g i := by
      unfold endX doZ
      rw [if_pos rfl, if_pos h8, e1]
      simp [pcX, updV_updV]
    have eC : endC { (⟨(g : Nat), (X.gs g).f, (X.gs g).pc, (i.o : Nat), 0, false⟩ : ComA) with flt := true } = tellZ X g i := by
      unfold endC tellZ
      rw [if_pos rfl, if_pos h8]
    rw [eX, eC] at h3
    exact h3.mono fun e w2 h => h.fol
  have et : tellZ X g i = tellX X g i := by unfold tellZ; rw [if_neg h8]
  by_cases h4 : i.o = 4
  · obtain ⟨ha, hb⟩ := Fn.ab h4
    have ex : doZ X g i = { pcX X g with gs := updV (pcX X g).gs g { (pcX X g).gs g with sk := updV ((pcX X g).gs g).sk i.a (((pcX X g).gs g).sk i.b) } } := by
      unfold doZ; rw [if_neg h8, if_pos h4, e1]; simp [pcX, updV_updV]
    have et4 : tellX X g i = ⟨(g : Nat), (X.gs g).f, (X.gs g).pc, (i.o : Nat), 0, false⟩ := by unfold tellX; rw [if_neg (by omega)]
    rw [ex, et, et4]
    exact (rdo_gen w a X _ ⟨(g : Nat), (X.gs g).f, (X.gs g).pc, (i.o : Nat), 0, false⟩ rfl B vs h PR hB g F pc l i hg hn hst hF hpc bpc hl hi (fun w' gc h' hc => ⟨.inl (rplain_move w' a _ h' g gc i h4 hg ha hb _ hc)⟩) (Nat.le_refl _)).mono fun e w2 h => h.fol
  · have ex : doZ X g i = doX X g i := by unfold doZ; rw [if_neg h8, if_neg h4]
    have ho : i.o = 0 ∨ i.o = 8 ∨ i.o = 9 ∨ i.o = 14 ∨ i.o = 16 ∨ i.o = 17 := by have := Fn.o; omega
    rw [ex, et]
    have hflt : (tellX X g i).flt = false := by unfold tellX; rfl
    exact (rdo_gen w a X (doX X g i) (tellX X g i) hflt B vs h PR hB g F pc l i hg hn hst hF hpc bpc hl hi (fun w' gc h' hc => steps_ok h' hg gc i ho Fn.a Fn.b (fun e => ⟨Fn.b8 e, by have : ¬ X.n = 1024 := fun e2 => h8 ⟨e, e2⟩; omega⟩) Fn.c.1 Fn.c.2 hc) doX_n).mono fun e w2 h => h.fol
theorem OpsZ.fine {P : Nat} {fs : List (List Ins)} {vf : Value} {vs : List Value} {wB : World} {J : Mdl → List ComA → Prop} {Z : Mac → Prop} {nx : Mdl → Nat → Ins} (PR : PrR wB wB.heap.size vf vs fs)
    (hsm : ∀ X cms, J X cms → X.n ≤ 1024 ∧ X.fs = fs) (hnx : ∀ X cms g, J X cms → g < X.n → (X.gs g).st = 1 → AtP fs X g (nx X g) ∧ FineZ X g (nx X g))
    (hk : ∀ X cms g, J X cms → g < X.n → (X.gs g).st = 1 → J (doZ X g (nx X g)) (cms ++ [tellZ X g (nx X g)]))
    (zn : ∀ (m : Mac) (X : Mdl) (loc : Nat → Nat × Nat), J X m.cms → Rel m X → WF m loc → Z m → ∀ k, k < m.np → (m.rg k).n ≤ 255)
    (zno : ∀ (m : Mac) (q : Nat), Z m → q < m.np → (m.ps q).g = -1 → Z (takeN (tickA m q) q m.rg))
    (zsrv : ∀ (m m1 : Mac) (loc loc1 : Nat → Nat × Nat) (q g : Nat) (vic : Int), Z m → WF m loc → WF m1 loc1 → q < m.np → SrvR m m1 q g vic → Z m1)
    (zaw : ∀ (m : Mac) (X : Mdl) (loc : Nat → Nat × Nat) (q g : Nat), J X m.cms → Rel m X → WF m loc → Z m → q < m.np → g < m.ng → (m.ps q).g = (g : Nat) → 16 ≤ (m.ps q).row → ¬ (m.rg q).n = 0 → Z (awayA m q g))
    (zcm : ∀ (m : Mac) (X : Mdl) (loc : Nat → Nat × Nat) (q g : Nat), AtZ P fs J Z m X loc q g → Z (cmtZ m q g (nx X g))) : OpsZ P fs vf wB J Z nx (fun m q g i => cmtZ m q g i) doZ tellZ := by
  refine ⟨fun X cms h => (hsm X cms h).1, zn, zno, zsrv, zaw, fun m X hJ R hfs g hg hst => ?_, fun m X loc q g A p hvq B w' M => ?_, fun m X loc q g A => ?_, fun X g i => ?_, fun w a X cms g h hJ hfs hvf c hg hst => ?_, hk⟩
  · obtain ⟨⟨F, pc, l, hF, hpc, bpc, hl, hi, hl0⟩, hFn⟩ := hnx X m.cms g hJ (by rw [R.n]; exact hg) hst
    obtain ⟨gf, gp, -, -⟩ := R.g g hg
    have ho := hFn.o
    exact ⟨⟨F, pc, l, by rw [← gf]; exact hF, by rw [← gp]; exact hpc, bpc, by rw [hfs]; exact hl, hi, hl0⟩, by omega⟩
  · obtain ⟨hA, hFn⟩ := hnx X m.cms g A.hJ (by rw [A.R.n]; exact A.hg) A.st1
    obtain ⟨F, pc, l, -, hpc, bpc, -⟩ := hA
    have hr := zn m X loc A.hJ A.R A.h A.z q A.hq
    exact m_commit_z A (by omega) hFn ⟨pc, by rw [← (A.R.g g A.hg).2.1]; exact hpc, bpc⟩ p hvq B w' M
  · obtain ⟨hA, hFn⟩ := hnx X m.cms g A.hJ (by rw [A.R.n]; exact A.hg) A.st1
    have hr := zn m X loc A.hJ A.R A.h A.z q A.hq
    obtain ⟨l3, k1, k2, k3, k4⟩ := after_z A (by omega) hFn
    exact ⟨l3, k1, k2, k3, k4, zcm m X loc q g A⟩
  · unfold tellZ tellX
    split
    · exact ⟨rfl, rfl, fun _ => rfl⟩
    · exact ⟨rfl, rfl, fun e => if_neg (by omega)⟩
  · obtain ⟨hA, hFn⟩ := hnx X cms g hJ hg hst
    obtain ⟨h1, h2⟩ := hsm X cms hJ
    exact do_z w a X wB.heap.size vs h (by rw [hfs, hvf]; exact PR.chg0 c (Nat.le_refl _)) c.size g (nx X g) hg h1 hst (by rw [hfs]; exact hA) hFn
structure GrZ (m : Mac) : Prop where
  z1 : ∀ q, q < m.np → (m.rg q).n ≤ 17
  z2 : ∀ q, q < m.np → ∀ L, RingIs (m.rg q) L → ∀ i, L[i]? = some 0 → i + 1 = L.length
  z3 : ∀ q, q < m.np → (m.ps q).g = 0 → (m.rg q).n ≤ 16 ∧ ((m.rg q).n : Int) ≤ (m.ps q).row
  z4 : ∀ q, q < m.np → ∀ g : Nat, 1 ≤ g → (m.ps q).g = (g : Nat) → (m.ps q).row ≤ (m.gs g).pc
  z5 : ∀ j, j < m.ng → 0 ≤ (m.gs j).pc
theorem GrZ.step {m m' : Mac} (h : GrZ m) {q g : Nat} (hpg : (m.ps q).g = (g : Nat) ∨ (m.ps q).g = -1) (h1 : m'.np = m.np) (h2 : m'.rg = m.rg) (h3 : m'.ng = m.ng)
    (h4 : ∀ q', (m'.ps q').g = -1 ∨ ((m'.ps q').g = (m.ps q').g ∧ ((m'.ps q').row = (m.ps q').row ∨ (q' = q ∧ (m'.ps q').row = (m.ps q').row + 1))))
    (h5 : ∀ j, j < m.ng → 0 ≤ (m'.gs j).pc) (h6 : ∀ j, 1 ≤ j → (m.gs j).pc ≤ (m'.gs j).pc ∧ (j = g → (m'.gs j).pc = (m.gs j).pc + 1 ∨ ∀ q', (m'.ps q').row = (m.ps q').row)) : GrZ m' := by
  refine ⟨fun k hk => by rw [h2]; exact h.z1 k (by omega), fun k hk => by rw [h2]; exact h.z2 k (by omega), fun k hk e => ?_, fun k hk j hj e => ?_, fun j hj => h5 j (by omega)⟩
  · rcases h4 k with e1 | ⟨e1, e2⟩
    · rw [e] at e1; omega
    · rw [e] at e1
      obtain ⟨a, b⟩ := h.z3 k (by omega) e1.symm
      rw [h2]
      refine ⟨a, ?_⟩
      rcases e2 with e2 | ⟨-, e2⟩ <;> omega
  · rcases h4 k with e1 | ⟨e1, e2⟩
    · rw [e] at e1; omega
    · rw [e] at e1
      have b := h.z4 k (by omega) j hj e1.symm
      obtain ⟨c1, c2⟩ := h6 j hj
      rcases e2 with e2 | ⟨e3, e2⟩
      · omega
      · subst e3
        have ej : j = g := by
          rcases hpg with e | e <;> omega
        rcases c2 ej with e | e
        · omega
        · have := e k
          omega
theorem GrZ.no {m : Mac} (h : GrZ m) (q : Nat) (hp : (m.ps q).g = -1) : GrZ (takeN (tickA m q) q m.rg) := by
  have e : ∀ q', ((takeN (tickA m q) q m.rg).ps q').g = (m.ps q').g ∧ ((takeN (tickA m q) q m.rg).ps q').row = (m.ps q').row := fun q' => by
    show (updV (updV m.ps q _) q _ q').g = _ ∧ (updV (updV m.ps q _) q _ q').row = _
    rw [updV_updV]
    by_cases e : q' = q
    · subst e; rw [updV_same]; simp [tickA, updV_same]
    · rw [updV_other _ _ e]; exact ⟨rfl, rfl⟩
  exact h.step (q := q) (g := 0) (.inr hp) rfl rfl rfl (fun q' => .inr ⟨(e q').1, .inl (e q').2⟩) (fun j hj => h.z5 j hj) (fun j _ => ⟨Int.le_refl _, fun _ => .inr fun q' => (e q').2⟩)
theorem GrZ.srv {m m1 : Mac} {loc : Nat → Nat × Nat} {q g : Nat} {vic : Int} (h : GrZ m) (W : WF m loc) (hq : q < m.np) (S : SrvR m m1 q g vic) : GrZ m1 := by
  rcases S with ⟨hp, rfl⟩ | ⟨hp, r2, G, rfl⟩
  · have e : ∀ q', ((tickA m q).ps q').g = (m.ps q').g ∧ ((tickA m q).ps q').row = (m.ps q').row := fun q' => by
      show (updV m.ps q _ q').g = _ ∧ (updV m.ps q _ q').row = _
      by_cases e : q' = q
      · subst e; rw [updV_same]; exact ⟨rfl, rfl⟩
      · rw [updV_other _ _ e]; exact ⟨rfl, rfl⟩
    exact h.step (q := q) (g := g) (.inl hp) rfl rfl rfl (fun q' => .inr ⟨(e q').1, .inl (e q').2⟩) (fun j hj => h.z5 j hj) (fun j _ => ⟨Int.le_refl _, fun _ => .inr fun q' => (e q').2⟩)
  · have eq_ : ((takeG (tickA m q) q g r2).ps q).g = (g : Nat) ∧ ((takeG (tickA m q) q g r2).ps q).row = 0 := by simp [takeG, updV_same]
    have eo : ∀ q', q' ≠ q → (takeG (tickA m q) q g r2).ps q' = m.ps q' := fun q' e => by simp [takeG, tickA, updV_other _ _ e]
    have ep : ∀ j, ((takeG (tickA m q) q g r2).gs j).pc = (m.gs j).pc := fun j => by
      show (updV m.gs g _ j).pc = _
      by_cases e : j = g
      · subst e; rw [updV_same]; rfl
      · rw [updV_other _ _ e]
    obtain ⟨hg, -⟩ := W.gets_r hq (fun k hk => by have := h.z1 k hk; omega) hp G
    -- the rings
    have key : (∀ k, k < m.np → ∀ L, RingIs (r2 k) L → ∀ i, L[i]? = some 0 → i + 1 = L.length) ∧ (g = 0 → (r2 q).n = 0) ∧ ∀ k, k ≠ q → (r2 k).n ≤ (m.rg k).n := by
      cases G with
      | own _ L hL =>
        have hz := h.z2 q hq _ hL
        refine ⟨fun k hk L' hL' i hi => ?_, fun e => ?_, fun k hk => by rw [updV_other _ _ hk]; exact Nat.le_refl _⟩
        · by_cases e : k = q
          · subst e
            rw [updV_same] at hL'
            rw [hL'.uniq hL.pop] at hi ⊢
            have := hz (i + 1) (by rw [List.getElem?_cons_succ]; exact hi)
            rw [List.length_cons] at this
            omega
          · rw [updV_other _ _ e] at hL'
            exact h.z2 k hk L' hL' i hi
        · subst e
          have := hz 0 rfl
          rw [List.length_cons] at this
          rw [updV_same, hL.pop.n]
          omega
      | stolen v _ L h0 hv hne hvic hL =>
        have hz := h.z2 v hv _ hL
        obtain ⟨k0, hk0⟩ : ∃ k, k = (g :: L).length - (g :: L).length / 2 := ⟨_, rfl⟩
        have hkn : (m.rg v).n - (m.rg v).n / 2 = k0 := by rw [hL.n, hk0]
        have hlv := h.z1 v hv
        have hLl : (g :: L).length ≤ 17 := by rw [← hL.n]; exact hlv
        rw [List.length_cons] at hk0 hLl
        obtain ⟨m1, m2⟩ := h0.mvN hL k0 (by rw [List.length_cons]; omega) (by rw [List.length_nil]; omega)
        rw [List.nil_append] at m1
        have eq1 : stealR m.rg q v q = (rgMvN k0 (m.rg q, m.rg v)).1 := by unfold stealR; rw [updV_same, hkn]
        have ev : stealR m.rg q v v = (rgMvN k0 (m.rg q, m.rg v)).2 := by unfold stealR; rw [updV_other _ _ hne, updV_same, hkn]
        have eo2 : ∀ q', q' ≠ q → q' ≠ v → stealR m.rg q v q' = m.rg q' := fun q' e1 e2 => by unfold stealR; rw [updV_other _ _ e1, updV_other _ _ e2]
        have hk1 : k0 = (k0 - 1) + 1 := by omega
        have m1' := m1
        rw [hk1, List.take_succ_cons] at m1'
        have hp1 : RingIs (rgPop (stealR m.rg q v q)) (L.take (k0 - 1)) := by
          rw [eq1, hk1]; exact m1'.pop
        refine ⟨fun k hk L' hL' i hi => ?_, fun e => ?_, fun k hk => ?_⟩
        · by_cases e : k = q
          · subst e
            rw [updV_same] at hL'
            rw [hL'.uniq hp1] at hi
            have hlt : i < k0 - 1 := by
              have := (List.getElem?_eq_some_iff.1 hi).1
              rw [List.length_take] at this
              omega
            rw [List.getElem?_take_of_lt hlt] at hi
            have := hz (i + 1) (by rw [List.getElem?_cons_succ]; exact hi)
            rw [List.length_cons] at this
            omega
          · rw [updV_other _ _ e] at hL'
            by_cases e2 : k = v
            · subst e2
              rw [ev] at hL'
              rw [hL'.uniq m2] at hi ⊢
              rw [List.getElem?_drop] at hi
              have := hz _ hi
              rw [List.length_drop]
              omega
            · rw [eo2 k e e2] at hL'
              exact h.z2 k hk L' hL' i hi
        · subst e
          have := hz 0 rfl
          rw [List.length_cons] at this
          rw [updV_same, hp1.n, List.length_take]
          omega
        · rw [updV_other _ _ hk]
          by_cases e2 : k = v
          · subst e2
            rw [ev, m2.n, hL.n, List.length_drop]
            omega
          · rw [eo2 k hk e2]; exact Nat.le_refl _
    obtain ⟨k1, k2, k3⟩ := key
    refine ⟨fun k hk => G.le h.z1 k hk, fun k hk => k1 k hk, fun k hk e => ?_, fun k hk j hj e => ?_, fun j hj => by rw [ep]; exact h.z5 j hj⟩
    · show (r2 k).n ≤ 16 ∧ ((r2 k).n : Int) ≤ _
      by_cases e1 : k = q
      · subst e1
        rw [eq_.1] at e
        rw [k2 (by omega), eq_.2]
        omega
      · rw [eo k e1] at e ⊢
        obtain ⟨a, b⟩ := h.z3 k hk e
        have := k3 k e1
        omega
    · by_cases e1 : k = q
      · subst e1
        rw [eq_.1] at e
        have ej : j = g := by omega
        rw [eq_.2, ep, ej]
        exact h.z5 g hg
      · rw [eo k e1] at e ⊢
        rw [ep]
        exact h.z4 k hk j hj e
theorem GrZ.away {m : Mac} {loc : Nat → Nat × Nat} {q g : Nat} (h : GrZ m) (W : WF m loc) (hq : q < m.np) (hp : (m.ps q).g = (g : Nat)) (hr : 16 ≤ (m.ps q).row) (hpc : 1 ≤ g → (m.gs g).pc ≤ 15) : GrZ (awayA m q g) := by
  have hg0 : g = 0 := by
    rcases Nat.eq_zero_or_pos g with e | e
    · exact e
    · have := h.z4 q hq g e hp
      have := hpc e
      omega
  subst hg0
  obtain ⟨n16, -⟩ := h.z3 q hq hp
  obtain ⟨L, hL, hN, hm⟩ := W.rg q hq
  have hl0 : loc 0 = (2, q) := by
    rcases W.rn q hq with ⟨e, -⟩ | ⟨g0, hg0, e, h2⟩
    · have e : (m.ps q).g = -1 := e
      omega
    · have e : (m.ps q).g = (g0 : Nat) := e
      have e0 : g0 = 0 := by omega
      subst e0
      exact (h2 0 hg0).2 rfl
  have h0L : 0 ∉ L := fun hm0 => by
    have := ((hm 0).1 hm0).2
    rw [hl0] at this
    injection this with e; omega
  have hLn : L.length ≤ 16 := by rw [← hL.n]; exact n16
  have hput := hL.put 0 (by omega)
  have er : (awayA m q 0).rg = updV m.rg q (rgPut (m.rg q) ((0 : Nat) : Int)) := rfl
  have eg : ∀ k, ((awayA m q 0).ps k).g = -1 ∨ (k ≠ q ∧ (awayA m q 0).ps k = m.ps k) := fun k => by
    by_cases e : k = q
    · subst e; exact .inl (by simp [awayA, updV_same])
    · exact .inr ⟨e, by simp [awayA, updV_other _ _ e]⟩
  refine ⟨fun k hk => ?_, fun k hk L' hL' i hi => ?_, fun k hk e => ?_, fun k hk j hj e => ?_, h.z5⟩
  · rw [er]
    by_cases e : k = q
    · subst e; rw [updV_same, hput.n, List.length_append, List.length_singleton]; omega
    · rw [updV_other _ _ e]; exact h.z1 k hk
  · rw [er] at hL'
    by_cases e : k = q
    · subst e
      rw [updV_same] at hL'
      rw [hL'.uniq hput] at hi ⊢
      rw [List.length_append, List.length_singleton]
      by_cases hlt : i < L.length
      · rw [List.getElem?_append_left hlt] at hi
        exact absurd (List.mem_of_getElem? hi) h0L
      · have := (List.getElem?_eq_some_iff.1 hi).1
        rw [List.length_append, List.length_singleton] at this
        omega
    · rw [updV_other _ _ e] at hL'
      exact h.z2 k hk L' hL' i hi
  · rcases eg k with e1 | ⟨e1, e2⟩
    · rw [e] at e1; omega
    · rw [e2] at e ⊢
      rw [er, updV_other _ _ e1]
      exact h.z3 k hk e
  · rcases eg k with e1 | ⟨e1, e2⟩
    · rw [e] at e1; omega
    · rw [e2] at e ⊢
      exact h.z4 k hk j hj e
end Go.Proofs.YtcpljjacamibeaaGreatDoor
