/- The document's model: plain, of Move, of a Load of nothing. (Printed by wip/genmn3.py.) -/
/- The document's model: a Spawn too many. -/
/- Package wait: Wait, Wake, of lists that are owned; what they need of package slices. -/
/- Package wait: Wait, of lists that are owned and lie apart. (Printed by wip/genml2.py.) -/
/- Package wait: Wake. (Printed by wip/genml3.py.) -/
/- Package machine: Block and Wake. -/
/- The commit of any instruction that touches no object and no timer: the machine, the model, both in step. -/
/- The document's waiting places: Has, Wait, Wake. (Printed by wip/genml6.py.) -/
/- The document's model: plain and other, of Block and Wake. (Printed by wip/genml7.py.) -/
/- Any instruction that touches no object and no timer: the model's Do; what the waiting places keep; a run of such a program, told by what holds of the model. -/
import Derived.Test.YtcpljjacamibeaaGreatDoorMi4
import Derived.Test.YtcpljjacamibeaaGreatDoorMcEJ
import Derived.Test.YtcpljjacamibeaaGreatDoorMcTJ
import Derived.Test.YtcpljjacamibeaaGreatDoorMm2J
import Derived.Test.YtcpljjacamibeaaGreatDoorMg2J
import Derived.Test.YtcpljjacamibeaaGreatDoorMcIJ
import Derived.Test.YtcpljjacamibeaaGreatDoorZbJ
import Derived.Test.YtcpljjacamibeaaGreatDoorMi7J
namespace Go.Proofs.YtcpljjacamibeaaGreatDoor
set_option maxHeartbeats 16000000
set_option maxRecDepth 100000
open Go.RowKit Go.Maps
theorem skC_at (s : Nat → Int) {j : Nat} (hj : j < 16) : (skC s)[j]? = some (.int .i64 (s j)) := by unfold skC; simp [hj]
theorem skC_set (s : Nat → Int) {j : Nat} (hj : j < 16) (v : Int) : (skC s).setIfInBounds j (.int .i64 v) = skC (updV s j v) := by
  apply Array.ext_getElem?
  intro i
  rw [Array.getElem?_setIfInBounds]
  by_cases hi : i < 16
  · rw [skC_at _ hi]
    by_cases e : j = i
    · subst e; rw [if_pos rfl, if_pos (by unfold skC; simpa using hi), skC_at _ hi, updV_same]
    · rw [if_neg e, skC_at _ hi, updV_other _ _ (fun h => e h.symm)]
  · have h1 : (skC (updV s j v)).size ≤ i := by unfold skC; simpa using hi
    have h2 : (skC s).size ≤ i := by unfold skC; simpa using hi
    rw [Array.getElem?_eq_none h1]
    by_cases e : j = i
    · omega
    · rw [if_neg e, Array.getElem?_eq_none h2]
theorem XM.sset {w w' : World} {a : XAt} {X : Mdl} (h : XM w a X) {i : Nat} (hi : i < X.n) (s : Nat → Int) (c : Chg [a.gs i] w w') (B : Blk w' (a.gs i) 3 (skC s)) : XM w' a { X with gs := updV X.gs i { X.gs i with sk := s } } := by
  have n1 : a.gX ∉ [a.gs i] := by simpa using h.x.ne_ (h.s i hi) (by decide)
  have n2 : a.gs i ∉ fpv a.vg := h.o.ne_blkV (h.s i hi) (by decide)
  have nw : ∀ j ∈ a.wb, j ∉ [a.gs i] := fun j hj hm => (h.wb j hj).2 i hi (List.mem_singleton.1 hm)
  refine ⟨c.blk h.x n1, h.o.chg c (fun k hk hm => n2 (by rw [← List.mem_singleton.1 hm]; exact hk)), fun j hj => ?_, fun j hj => ?_, h.ig, h.is, (h.wbs c nw).1, ⟨h.ad.1, c.blk h.ad.2 (nw _ h.ad.1)⟩, (h.wbs c nw).2⟩
  · have hb := c.blk (h.g j hj) (by simpa using (h.g j hj).ne_ (h.s i hi) (by decide))
    show Blk w' (a.gg j) _ (mgC (updV X.gs i _ j).st (updV X.gs i _ j).f (updV X.gs i _ j).pc (updV X.gs i _ j).cnt (.slice (some ⟨a.gs j, 0, none⟩) 16 16))
    by_cases e : j = i
    · subst e; rw [updV_same]; exact hb
    · rw [updV_other _ _ e]; exact hb
  · show Blk w' (a.gs j) _ (skC (updV X.gs i _ j).sk)
    by_cases e : j = i
    · subst e; rw [updV_same]; exact B
    · rw [updV_other _ _ e]
      exact c.blk (h.s j hj) (by simpa using fun e2 => e (h.is j i hj hi e2))
theorem rplain_move (w : World) (a : XAt) (X : Mdl) (h : XM w a X) (g gc : Nat) (i : Ins) (hi : i.o = 4) (hg : g < X.n) (ha : i.a < 16) (hb : i.b < 16) (c : ComA) (hc : Blk w gc 59 (comC c).toArray) :
    Calls Tryz.prog 154 #[.pointer (some ⟨a.gX, 0, none⟩), .int .i64 (g : Nat), insV i, .pointer (some ⟨gc, 0, none⟩)] w (DstPost a X { X with gs := updV X.gs g { X.gs g with sk := updV (X.gs g).sk i.a ((X.gs g).sk i.b) } } g gc c c (.bool true) w) := by
  obtain ⟨io, ia, ib, ic⟩ := i
  have hi : io = 4 := hi
  subst hi
  have ha : ia < 16 := ha
  have hb : ib < 16 := hb
  have a0 : (0 : Int) ≤ ia := by omega
  have a1 : (ia : Int) < 16 := by omega
  have b0 : (0 : Int) ≤ ib := by omega
  have b1 : (ib : Int) < 16 := by omega
  have e3 : (0 : Int) ≤ g := by omega
  have e4 : (g : Int) < (X.n : Int) := by omega
  have HH := Lib.hid (And.intro h hc); clear h hc
  unfold insV
  go_enter Tryz.func154, Tryz.ntmps154
  go_upto_region 1 with fail
  obtain ⟨gI, hgI⟩ : ∃ g', g' = w.heap.size := ⟨_, rfl⟩
  obtain ⟨w1, hw1⟩ : ∃ w1, w1 = w.alloc (.cells #[.int .i64 4, .int .i64 (ia : Nat), .int .i64 (ib : Nat), .int .i64 (ic : Nat)] 33) := ⟨_, rfl⟩
  rw [← hw1, ← hgI]
  have BI : Blk w1 gI 33 #[.int .i64 4, .int .i64 (ia : Nat), .int .i64 (ib : Nat), .int .i64 (ic : Nat)] := by rw [hw1, hgI]; exact Blk.new _ _ _
  have c01 : Chg [] w w1 := by rw [hw1]; exact (Chg.refl [] w).alloc _
  have X1 := HH.out.1.chg0 c01
  have i0 : w1.cell? ⟨gI, 0, none⟩ = some (.int .i64 4) := BI.cellv 0 rfl
  have i1 : w1.cell? ⟨gI, 1, none⟩ = some (.int .i64 (ia : Nat)) := BI.cellv 1 rfl
  have i2 : w1.cell? ⟨gI, 2, none⟩ = some (.int .i64 (ib : Nat)) := BI.cellv 2 rfl
  obtain ⟨b, cap, hvg, x2, y, hb', s0, s1, s2, s3, s4⟩ := X1.at_ hg
  have sb : w1.cell? ⟨a.gs g, ib, none⟩ = some (.int .i64 ((X.gs g).sk ib)) := (X1.s g hg).cellv ib (skC_at _ hb)
  have sa : w1.cell? ⟨a.gs g, ia, none⟩ = some (.int .i64 ((X.gs g).sk ia)) := (X1.s g hg).cellv ia (skC_at _ ha)
  have lI := BI.lt
  have lS := (X1.s g hg).lt
  have H1 := Lib.hid (And.intro X1 (And.intro c01 BI)); clear X1 c01 BI hw1 hgI hvg
  go_upto_region 23 with fail
  refine wp_region_takes (fuel := 2) 8 (fun w' => Chg [] w1 w') [0, 1, 2, 3, 4, 5, 6, 7] (by kernel_rfl) (by kernel_rfl) (fun _ _ _ _ _ h => h) ((Chg.refl [] w1).drew) ?_
  simp only [List.filterMap_cons, List.filterMap_nil, qGa, qGb]
  iterate 8
    refine wpTake_step (fun K hK => ?_)
    rw [if_pos (by rfl)]
    refine ⟨?_, fun w' hS' => ?_, ?_⟩
    rotate_left 1
    focus
      have j0 := hS'.cellv lI (by simp) i1
      have j1 := hS'.cellv lI (by simp) i2
      have j2 := hS'.cellv lS (by simp) sb
      go_simp
      try with_reducible rfl
      done
    simp only [Act.put, qSa, qSb, qSc]
    refine hK _ ?_
    clear hK K
  refine wpTake_nil ?_
  generalize hx0 : w1.drew = x0
  have D0 : Chg [] w1 x0 := by rw [← hx0]; exact (Chg.refl [] w1).drew
  clear hx0
  refine wpAnyS_tail 8 2 (by kernel_rfl) rfl ?_
  simp only [qDa, qDb]
  have X2 := H1.out.1.chg0 D0
  have sa2 := D0.cellv lS (by simp) sa
  have fz := (X2.s g hg).frozen ia
  have cc := H1.out.2.1.trans D0
  have C2 := cc.blk HH.out.2 (by simp)
  have ngX := HH.out.1.ngc HH.out.2
  have BS := (X2.s g hg).setv ia (.int .i64 ((X.gs g).sk ib)) (skC_set _ ha _)
  have H2 := Lib.hid (And.intro X2 (And.intro cc (And.intro C2 BS))); clear X2 cc C2 BS D0 sa sb i0 i1 i2
  go_wp2_with fail
  go_ret
  have cS : Chg [a.gs g] x0 (x0.setCell ⟨a.gs g, ia, none⟩ (.int .i64 ((X.gs g).sk ib))) := (Chg.refl [a.gs g] x0).setCell (.inl (by simp)) _
  exact ⟨a, rfl, H2.out.1.sset hg _ cS H2.out.2.2.2, rfl, rfl, ⟨rfl, rfl, rfl⟩, rfl, cS.blk H2.out.2.2.1 (fun hm => ngX (.inr (.inr ⟨g, hg, .inr (List.mem_singleton.1 hm)⟩))), fun j hj => .inl hj, [a.gs g], (H2.out.2.1.mono (by simp)).trans cS, fun j hj => .inl (.inr (.inr ⟨g, hg, .inr (by simpa using hj)⟩))⟩
theorem rother_full (w : World) (a : XAt) (X : Mdl) (h : XM w a X) (g gc : Nat) (i : Ins) (hi : i.o = 8) (hg : g < X.n) (ha : i.a < 256) (hb : i.b < 16) (hn : X.n = 1024) (c : ComA) (hc : Blk w gc 59 (comC c).toArray) :
    Calls Tryz.prog 155 #[.pointer (some ⟨a.gX, 0, none⟩), .int .i64 (g : Nat), insV i, .pointer (some ⟨gc, 0, none⟩)] w (DstPost a X X g gc c { c with flt := true } (.tuple #[]) w) := by
  obtain ⟨io, ia, ib, ic⟩ := i
  have hi : io = 8 := hi
  subst hi
  have ha : (ia : Int) < 256 := by have h : ia < 256 := ha; omega
  have hb16 : ib < 16 := hb
  have hb : (ib : Int) < 16 := by omega
  have hb0 : (0 : Int) ≤ ib := by omega
  have e3 : (0 : Int) ≤ g := by omega
  have e4 : (g : Int) < (X.n : Int) := by omega
  have e5 : (X.n : Int) ≥ 1024 := by omega
  have HH := Lib.hid (And.intro h hc); clear h hc
  have HN := Lib.hid hn; clear hn
  unfold insV
  go_enter Tryz.func155, Tryz.ntmps155
  go_upto_region 1 with fail
  obtain ⟨gI, hgI⟩ : ∃ g', g' = w.heap.size := ⟨_, rfl⟩
  obtain ⟨w1, hw1⟩ : ∃ w1, w1 = w.alloc (.cells #[.int .i64 8, .int .i64 (ia : Nat), .int .i64 (ib : Nat), .int .i64 (ic : Nat)] 33) := ⟨_, rfl⟩
  rw [← hw1, ← hgI]
  have BI : Blk w1 gI 33 #[.int .i64 8, .int .i64 (ia : Nat), .int .i64 (ib : Nat), .int .i64 (ic : Nat)] := by rw [hw1, hgI]; exact Blk.new _ _ _
  have c01 : Chg [] w w1 := by rw [hw1]; exact (Chg.refl [] w).alloc _
  have X1 := HH.out.1.chg0 c01
  have i0 : w1.cell? ⟨gI, 0, none⟩ = some (.int .i64 8) := BI.cellv 0 rfl
  have i1 : w1.cell? ⟨gI, 1, none⟩ = some (.int .i64 (ia : Nat)) := BI.cellv 1 rfl
  have i2 : w1.cell? ⟨gI, 2, none⟩ = some (.int .i64 (ib : Nat)) := BI.cellv 2 rfl
  obtain ⟨b, cap, hvg, x2, y, hb', s0, s1, s2, s3, s4⟩ := X1.at_ hg
  have H1 := Lib.hid (And.intro X1 (And.intro c01 BI)); clear X1 c01 BI hw1 hgI hvg
  have ngX := HH.out.1.ngc HH.out.2
  have C1 := H1.out.2.1.blk HH.out.2 (by simp)
  have fz := C1.frozen 5
  have vz : w1.cell? ⟨gc, 5, none⟩ = some (.bool c.flt) := C1.cellv 5 rfl
  have BC := C1.setv 5 (.bool true) (cs' := (comC { c with flt := true }).toArray) rfl
  have HC := Lib.hid (And.intro BC ngX); clear BC C1 ngX
  go_wp2_with fail
  have c12 : Chg [gc] w1 (w1.setCell ⟨gc, 5, none⟩ (.bool true)) := (Chg.refl [gc] w1).setCell (.inl (by simp)) _
  exact ⟨rfl, _, results_none rfl _ _ _, a, rfl, H1.out.1.chg c12 (fun j hj hx => HC.out.2 (by have e : j = gc := (by simpa using hj); rw [← e]; exact hx)), rfl, rfl, ⟨rfl, rfl, rfl⟩, rfl, HC.out.1, fun j hj => .inl hj, [gc], (H1.out.2.1.mono (by simp)).trans c12, fun j hj => .inr (by simpa using hj)⟩
def IxRelL (w0 : World) (n gk : Nat) (idx : Value) (w : World) : Prop := ∃ j : Nat, gk + j = n + 1 ∧ j ≤ n ∧ idx = .int .i64 (j : Nat) ∧ w = w0
structure IsWt (w : World) (gw : Nat) (vw : Nat → Value) (wt : Nat → List Int) : Prop where
  b : Blk w gw 223 (wtC vw)
  o : ∀ i, i < 32 → OwnI 3 w (vw i) (wt i)
  d : ∀ i j, i < 32 → j < 32 → i ≠ j → ∀ k ∈ fpv (vw i), k ∉ fpv (vw j)
def WtPost (gw : Nat) (vw : Nat → Value) (a : Nat) (wt' : Nat → List Int) (r : Value) (w : World) (e : Ending) (w' : World) : Prop :=
  ∃ v', e = .returned r ∧ IsWt w' gw (updV vw a v') wt' ∧ Chg (gw :: fpv (vw a)) w w' ∧ ∀ k ∈ fpv v', k ∈ fpv (vw a) ∨ w.heap.size ≤ k
section
variable {W : Bs} {w w' : World} {p : MAt} {m : Mac} (M : MM W w p m)
include M
end
section
variable {w0 w : World} {gC gT gI gA gY gM gp gg : Nat} {c : ComA} {i : Ins} {addr : Int} {yb q g : Nat} {D : List Nat} {p : MAt} {m : Mac} {Q : MAt → Prop}
end
def wkA (m : Mac) (q a x : Nat) (r : List Int) : Mac := { m with wt := updV m.wt a r, sts := m.sts.set x 1, rg := updV m.rg q (rgPut (m.rg q) (x : Nat)) }
def cmtW (m : Mac) (q g : Nat) (i : Ins) : Mac :=
  if i.o = 11 then finA { preA m q g with wt := updV m.wt i.a (m.wt i.a ++ [(g : Int)]) } q g ⟨(g : Nat), (m.gs g).f, (m.gs g).pc, (i.o : Nat), 0, false⟩ 3
  else if i.o = 12 then
    match m.wt i.a with
    | [] => finA (preA m q g) q g ⟨(g : Nat), (m.gs g).f, (m.gs g).pc, (i.o : Nat), -1, false⟩ 2
    | x :: r => finA (wkA (preA m q g) q i.a x.toNat r) q g ⟨(g : Nat), (m.gs g).f, (m.gs g).pc, (i.o : Nat), (x.toNat : Nat), false⟩ 2
  else if i.o = 4 then finA (setGor (preA m q g) g { (preA m q g).gs g with st := updV (m.gs g).st i.a ((m.gs g).st i.b) }) q g ⟨(g : Nat), (m.gs g).f, (m.gs g).pc, (i.o : Nat), 0, false⟩ 2
  else if i.o = 2 then finA (preA m q g) q g ⟨(g : Nat), (m.gs g).f, (m.gs g).pc, (i.o : Nat), 0, true⟩ 5
  else cmt m q g i
def doW (X : Mdl) (g : Nat) (i : Ins) : Mdl :=
  if i.o = 11 then { X with gs := updV X.gs g { X.gs g with pc := (X.gs g).pc + 1, st := 3 }, wt := updV X.wt i.a (X.wt i.a ++ [(g : Int)]) }
  else if i.o = 12 then
    match X.wt i.a with
    | [] => { X with gs := updV X.gs g { X.gs g with pc := (X.gs g).pc + 1 } }
    | x :: r => { X with gs := updV (updV X.gs g { X.gs g with pc := (X.gs g).pc + 1 }) x.toNat { X.gs x.toNat with st := 1 }, wt := updV X.wt i.a r }
  else if i.o = 4 then { X with gs := updV X.gs g { X.gs g with pc := (X.gs g).pc + 1, sk := updV (X.gs g).sk i.a ((X.gs g).sk i.b) } }
  else if i.o = 2 then { X with gs := updV X.gs g { X.gs g with pc := (X.gs g).pc + 1, st := 5 } }
  else doX X g i
def tellW (X : Mdl) (g : Nat) (i : Ins) : ComA :=
  if i.o = 12 then ⟨(g : Nat), (X.gs g).f, (X.gs g).pc, (i.o : Nat), (match X.wt i.a with | [] => -1 | x :: _ => (x.toNat : Nat)), false⟩ else if i.o = 2 then ⟨(g : Nat), (X.gs g).f, (X.gs g).pc, (i.o : Nat), 0, true⟩ else tellX X g i
structure WtX (X : Mdl) : Prop where
  m : ∀ a, a < 32 → ∀ y ∈ X.wt a, ∃ j : Nat, y = (j : Nat) ∧ j < X.n ∧ (X.gs j).st = 3
  nd : ∀ a, a < 32 → (X.wt a).Nodup
  dj : ∀ a b, a < 32 → b < 32 → a ≠ b → ∀ y ∈ X.wt a, y ∉ X.wt b
structure Fine (X : Mdl) (g : Nat) (i : Ins) : Prop where
  o : i.o = 0 ∨ i.o = 2 ∨ i.o = 4 ∨ i.o = 8 ∨ i.o = 9 ∨ i.o = 11 ∨ i.o = 12 ∨ i.o = 14 ∨ i.o = 16 ∨ i.o = 17
  a : i.a < 256
  b : i.b < 256
  b8 : i.o = 8 → i.b < 16 ∧ X.n < 255
  aw : i.o = 11 ∨ i.o = 12 → i.a < 32
  c : 0 ≤ (X.gs g).cnt ∧ (X.gs g).cnt ≤ 1000000
  ab : i.o = 2 ∨ i.o = 4 → i.a < 16 ∧ i.b < 16
  z : i.o = 2 → (X.gs g).sk i.b = 0
theorem loc3 {m : Mac} {X : Mdl} {loc : Nat → Nat × Nat} (R : Rel m X) (h : WF m loc) {j : Nat} (hj : j < m.ng) (hs : (X.gs j).st = 3) : (loc j).1 = 3 := by
  have h1 := WF.stX R h hj
  rw [hs] at h1
  rcases h.kd j hj with ⟨e, -⟩ | ⟨e, -⟩ | e | e
  · rw [e] at h1; exact absurd h1 (by decide)
  · rw [e] at h1; exact absurd h1 (by decide)
  · exact e
  · rw [e] at h1; exact absurd h1 (by decide)
section
variable {P : Nat} {fs : List (List Ins)} {J : Mdl → List ComA → Prop} {m : Mac} {X : Mdl} {loc : Nat → Nat × Nat} {q g : Nat} {i : Ins}
theorem pre_pg : (fun q' => ((preA m q g).ps q').g) = fun q' => (m.ps q').g := by
  show (fun q' => (updV m.ps q { m.ps q with row := (m.ps q).row + 1 } q').g) = _
  rw [pg_upd]
  exact updV_self (fun q' => (m.ps q').g) q
theorem off_pg : (fun q' => (updV (preA m q g).ps q { (preA m q g).ps q with g := -1 } q').g) = updV (fun q' => (m.ps q').g) q (-1) := by
  rw [pg_upd, pre_pg]
theorem Stays.fin {m2 : Mac} {c : ComA} {tz : Nat} (h : m2.np = m.np ∧ m2.fs = m.fs ∧ m2.tm = m.tm ∧ m2.made = m.made ∧ m2.out = m.out ∧ m2.ph = m.ph ∧ m2.force = m.force ∧ m2.A = m.A ∧ m2.gT = m.gT ∧ m2.steps = m.steps ∧ m2.clock = m.clock) (hp : m2.ps = (preA m q g).ps) : Stays m (finA m2 q g c tz) q := by
  obtain ⟨h1, h2, h3, h4, h5, h6, h7, h8, h9, h10, h11⟩ := h
  refine ⟨h1, h2, h3, h4, h5, h6, h7, h8, h9, h10, h11, fun q' => ?_⟩
  have e : ∀ q', ((preA m q g).ps q').worked = (m.ps q').worked ∧ ((preA m q g).ps q').all = (m.ps q').all ∧ ((preA m q g).ps q').picks = (m.ps q').picks ∧ (((preA m q g).ps q').row = (m.ps q').row ∨ ((preA m q g).ps q').row = (m.ps q').row + 1) := fun q' => by
    have hx : (preA m q g).ps q' = if q' = q then { m.ps q with row := (m.ps q).row + 1 } else m.ps q' := rfl
    rw [hx]
    by_cases e : q' = q
    · subst e; rw [if_pos rfl]; exact ⟨rfl, rfl, rfl, .inr rfl⟩
    · rw [if_neg e]; exact ⟨rfl, rfl, rfl, .inl rfl⟩
  have hx : (finA m2 q g c tz).ps = if tz = 2 then m2.ps else updV m2.ps q { m2.ps q with g := -1 } := rfl
  rw [hx, hp]
  by_cases t : tz = 2
  · rw [if_pos t]; exact e q'
  · rw [if_neg t]
    by_cases e2 : q' = q
    · subst e2; rw [updV_same]; exact e q'
    · rw [updV_other _ _ e2]; exact e q'
theorem cmt0 (h : i.o = 0) : cmt m q g i = finA (preA m q g) q g ⟨(g : Nat), (m.gs g).f, (m.gs g).pc, (i.o : Nat), 0, false⟩ 5 := by unfold cmt; rw [if_pos h]
theorem cmt8 (h : i.o = 8) : cmt m q g i = finA (spawnA (preA m q g) q (i.a : Nat) ((m.gs g).st i.b)) q g ⟨(g : Nat), (m.gs g).f, (m.gs g).pc, (i.o : Nat), (m.ng : Nat), false⟩ 2 := by unfold cmt; rw [if_neg (by omega), if_neg (by omega), if_neg (by omega), if_neg (by omega), if_neg (by omega)]
theorem cmt9 (h : i.o = 9) : cmt m q g i = finA (preA m q g) q g ⟨(g : Nat), (m.gs g).f, (m.gs g).pc, (i.o : Nat), 0, false⟩ 1 := by unfold cmt; rw [if_neg (by omega), if_pos h]
theorem cmt2 (h : i.o = 14 ∨ i.o = 16 ∨ i.o = 17) : ∃ y c, cmt m q g i = finA { preA m q g with gs := y } q g c 2 := by
  rcases h with h | h | h
  · exact ⟨_, _, by unfold cmt; rw [if_neg (by omega), if_neg (by omega), if_neg (by omega), if_pos h]; rfl⟩
  · exact ⟨_, _, by unfold cmt; rw [if_neg (by omega), if_neg (by omega), if_pos h]; rfl⟩
  · by_cases hz : (m.gs g).cnt = 0
    · exact ⟨(preA m q g).gs, _, by unfold cmt; rw [if_neg (by omega), if_neg (by omega), if_neg (by omega), if_neg (by omega), if_pos h, if_pos hz]⟩
    · exact ⟨_, _, by unfold cmt; rw [if_neg (by omega), if_neg (by omega), if_neg (by omega), if_neg (by omega), if_pos h, if_neg hz]; rfl⟩
theorem WF.fin2 (h : WF m loc) {y : Nat → GorA} {c : ComA} : WF (finA { preA m q g with gs := y } q g c 2) loc := by
  show WFc m.ng m.np m.sts (fun q' => ((preA m q g).ps q').g) m.rg loc
  rw [pre_pg]; exact h
end
def RwPost (a : XAt) (X : Mdl) (p : Nat) (l : List Int) (v : Value) (w : World) (e : Ending) (w' : World) : Prop :=
  ∃ v' nb, e = .returned v ∧ XM w' { a with vw := updV a.vw p v', wb := nb ++ a.wb } { X with wt := updV X.wt p l } ∧ (∀ j ∈ nb, w.heap.size ≤ j) ∧ Chg [a.gX] w w'
def AtP (fs : List (List Ins)) (X : Mdl) (g : Nat) (i : Ins) : Prop := ∃ (F pc : Nat) (l : List Ins), (X.gs g).f = (F : Nat) ∧ (X.gs g).pc = (pc : Nat) ∧ pc ≤ 1000000 ∧ fs[F]? = some l ∧ (l[pc]? = some i ∨ (pc = l.length ∧ i = ⟨0, 0, 0, 0⟩)) ∧ l ≠ []
end Go.Proofs.YtcpljjacamibeaaGreatDoor
