/- The document's model: plain, of Move, of a Load of nothing. (Printed by wip/genmn3.py.) -/
/- Any instruction that touches no object and no timer: the model's Do; what the waiting places keep; a run of such a program, told by what holds of the model. -/
/- MachineWaits, plain: two goroutines that wake one another; how the run begins; the model that is stuck. -/
import Derived.Test.YtepnlcemlnkpdaaGreatDoorMi4
import Derived.Test.YtepnlcemlnkpdaaGreatDoorMl7
namespace Go.Proofs.YtepnlcemlnkpdaaGreatDoor
set_option maxHeartbeats 16000000
set_option maxRecDepth 100000
open Go.RowKit Go.Maps
theorem skC_at (s : Nat → Int) {j : Nat} (hj : j < 16) : (skC s)[j]? = some (.int .i64 (s j)) := by unfold skC; simp [hj]
theorem skC_set (s : Nat → Int) {j : Nat} (hj : j < 16) (v : Int) : (skC s).setIfInBounds j (.int .i64 v) = skC (updV s j v) := by
  apply Array.ext_getElem?
  intro i
  rw [Array.getElem?_setIfInBounds]
  by_cases hi : i < 16
  · rw [skC_at _ hi]
    by_cases e : j = i
    · subst e; rw [if_pos rfl, if_pos (by unfold skC; simpa using hi), skC_at _ hi, updV_same]
    · rw [if_neg e, skC_at _ hi, updV_other _ _ (fun h => e h.symm)]
  · have h1 : (skC (updV s j v)).size ≤ i := by unfold skC; simpa using hi
    have h2 : (skC s).size ≤ i := by unfold skC; simpa using hi
    rw [Array.getElem?_eq_none h1]
    by_cases e : j = i
    · omega
    · rw [if_neg e, Array.getElem?_eq_none h2]
theorem XM.sset {w w' : World} {a : XAt} {X : Mdl} (h : XM w a X) {i : Nat} (hi : i < X.n) (s : Nat → Int) (c : Chg [a.gs i] w w') (B : Blk w' (a.gs i) 3 (skC s)) : XM w' a { X with gs := updV X.gs i { X.gs i with sk := s } } := by
  have n1 : a.gX ∉ [a.gs i] := by simpa using h.x.ne_ (h.s i hi) (by decide)
  have n2 : a.gs i ∉ fpv a.vg := h.o.ne_blkV (h.s i hi) (by decide)
  have nw : ∀ j ∈ a.wb, j ∉ [a.gs i] := fun j hj hm => (h.wb j hj).2 i hi (List.mem_singleton.1 hm)
  refine ⟨c.blk h.x n1, h.o.chg c (fun k hk hm => n2 (by rw [← List.mem_singleton.1 hm]; exact hk)), fun j hj => ?_, fun j hj => ?_, h.ig, h.is, (h.wbs c nw).1, ⟨h.ad.1, c.blk h.ad.2 (nw _ h.ad.1)⟩, (h.wbs c nw).2⟩
  · have hb := c.blk (h.g j hj) (by simpa using (h.g j hj).ne_ (h.s i hi) (by decide))
    show Blk w' (a.gg j) _ (mgC (updV X.gs i _ j).st (updV X.gs i _ j).f (updV X.gs i _ j).pc (updV X.gs i _ j).cnt (.slice (some ⟨a.gs j, 0, none⟩) 16 16))
    by_cases e : j = i
    · subst e; rw [updV_same]; exact hb
    · rw [updV_other _ _ e]; exact hb
  · show Blk w' (a.gs j) _ (skC (updV X.gs i _ j).sk)
    by_cases e : j = i
    · subst e; rw [updV_same]; exact B
    · rw [updV_other _ _ e]
      exact c.blk (h.s j hj) (by simpa using fun e2 => e (h.is j i hj hi e2))
theorem rslots_none (w : World) (gX : Nat) : Calls Tryz.prog 263 #[.pointer (some ⟨gX, 0, none⟩), .int .i64 0] w (QuPost (.slice none 0 0) w) := by
  go_enter Tryz.func263, Tryz.ntmps263
  go_wp2_with fail
  go_ret
  exact ⟨rfl, rfl⟩
theorem rplain_move (w : World) (a : XAt) (X : Mdl) (h : XM w a X) (g gc : Nat) (i : Ins) (hi : i.o = 4) (hg : g < X.n) (ha : i.a < 16) (hb : i.b < 16) (c : ComA) (hc : Blk w gc 50 (comC c).toArray) :
    Calls Tryz.prog 181 #[.pointer (some ⟨a.gX, 0, none⟩), .int .i64 (g : Nat), insV i, .pointer (some ⟨gc, 0, none⟩)] w (DstPost a X { X with gs := updV X.gs g { X.gs g with sk := updV (X.gs g).sk i.a ((X.gs g).sk i.b) } } g gc c c (.bool true) w) := by
  obtain ⟨io, ia, ib, ic⟩ := i
  have hi : io = 4 := hi
  subst hi
  have ha : ia < 16 := ha
  have hb : ib < 16 := hb
  have a0 : (0 : Int) ≤ ia := by omega
  have a1 : (ia : Int) < 16 := by omega
  have b0 : (0 : Int) ≤ ib := by omega
  have b1 : (ib : Int) < 16 := by omega
  have e3 : (0 : Int) ≤ g := by omega
  have e4 : (g : Int) < (X.n : Int) := by omega
  have HH := Lib.hid (And.intro h hc); clear h hc
  unfold insV
  go_enter Tryz.func181, Tryz.ntmps181
  go_upto_region 1 with fail
  obtain ⟨gI, hgI⟩ : ∃ g', g' = w.heap.size := ⟨_, rfl⟩
  obtain ⟨w1, hw1⟩ : ∃ w1, w1 = w.alloc (.cells #[.int .i64 4, .int .i64 (ia : Nat), .int .i64 (ib : Nat), .int .i64 (ic : Nat)] 27) := ⟨_, rfl⟩
  rw [← hw1, ← hgI]
  have BI : Blk w1 gI 27 #[.int .i64 4, .int .i64 (ia : Nat), .int .i64 (ib : Nat), .int .i64 (ic : Nat)] := by rw [hw1, hgI]; exact Blk.new _ _ _
  have c01 : Chg [] w w1 := by rw [hw1]; exact (Chg.refl [] w).alloc _
  have X1 := HH.out.1.chg0 c01
  have i0 : w1.cell? ⟨gI, 0, none⟩ = some (.int .i64 4) := BI.cellv 0 rfl
  have i1 : w1.cell? ⟨gI, 1, none⟩ = some (.int .i64 (ia : Nat)) := BI.cellv 1 rfl
  have i2 : w1.cell? ⟨gI, 2, none⟩ = some (.int .i64 (ib : Nat)) := BI.cellv 2 rfl
  obtain ⟨b, cap, hvg, x2, y, hb', s0, s1, s2, s3, s4⟩ := X1.at_ hg
  have sb : w1.cell? ⟨a.gs g, ib, none⟩ = some (.int .i64 ((X.gs g).sk ib)) := (X1.s g hg).cellv ib (skC_at _ hb)
  have sa : w1.cell? ⟨a.gs g, ia, none⟩ = some (.int .i64 ((X.gs g).sk ia)) := (X1.s g hg).cellv ia (skC_at _ ha)
  have lI := BI.lt
  have lS := (X1.s g hg).lt
  have H1 := Lib.hid (And.intro X1 (And.intro c01 BI)); clear X1 c01 BI hw1 hgI hvg
  go_upto_region 23 with fail
  refine wp_region_takes (fuel := 2) 8 (fun w' => Chg [] w1 w') [0, 1, 2, 3, 4, 5, 6, 7] (by kernel_rfl) (by kernel_rfl) (fun _ _ _ _ _ h => h) ((Chg.refl [] w1).drew) ?_
  simp only [List.filterMap_cons, List.filterMap_nil, qGa, qGb]
  iterate 8
    refine wpTake_step (fun K hK => ?_)
    rw [if_pos (by rfl)]
    refine ⟨?_, fun w' hS' => ?_, ?_⟩
    rotate_left 1
    focus
      have j0 := hS'.cellv lI (by simp) i1
      have j1 := hS'.cellv lI (by simp) i2
      have j2 := hS'.cellv lS (by simp) sb
      go_simp
      try with_reducible rfl
      done
    simp only [Act.put, qSa, qSb, qSc]
    refine hK _ ?_
    clear hK K
  refine wpTake_nil ?_
  generalize hx0 : w1.drew = x0
  have D0 : Chg [] w1 x0 := by rw [← hx0]; exact (Chg.refl [] w1).drew
  clear hx0
  refine wpAnyS_tail 8 2 (by kernel_rfl) rfl ?_
  simp only [qDa, qDb]
  have X2 := H1.out.1.chg0 D0
  have sa2 := D0.cellv lS (by simp) sa
  have fz := (X2.s g hg).frozen ia
  have cc := H1.out.2.1.trans D0
  have C2 := cc.blk HH.out.2 (by simp)
  have ngX := HH.out.1.ngc HH.out.2
  have BS := (X2.s g hg).setv ia (.int .i64 ((X.gs g).sk ib)) (skC_set _ ha _)
  have H2 := Lib.hid (And.intro X2 (And.intro cc (And.intro C2 BS))); clear X2 cc C2 BS D0 sa sb i0 i1 i2
  go_wp2_with fail
  go_ret
  have cS : Chg [a.gs g] x0 (x0.setCell ⟨a.gs g, ia, none⟩ (.int .i64 ((X.gs g).sk ib))) := (Chg.refl [a.gs g] x0).setCell (.inl (by simp)) _
  exact ⟨a, rfl, H2.out.1.sset hg _ cS H2.out.2.2.2, rfl, rfl, ⟨rfl, rfl, rfl⟩, rfl, cS.blk H2.out.2.2.1 (fun hm => ngX (.inr (.inr ⟨g, hg, .inr (List.mem_singleton.1 hm)⟩))), fun j hj => .inl hj, [a.gs g], (H2.out.2.1.mono (by simp)).trans cS, fun j hj => .inl (.inr (.inr ⟨g, hg, .inr (by simpa using hj)⟩))⟩
theorem rplain_fault (w : World) (a : XAt) (X : Mdl) (h : XM w a X) (g gc : Nat) (i : Ins) (hi : i.o = 2) (hg : g < X.n) (ha : i.a < 16) (hb : i.b < 16) (h0 : (X.gs g).sk i.b = 0) (c : ComA) (hc : Blk w gc 50 (comC c).toArray) :
    Calls Tryz.prog 181 #[.pointer (some ⟨a.gX, 0, none⟩), .int .i64 (g : Nat), insV i, .pointer (some ⟨gc, 0, none⟩)] w (DstPost a X X g gc c { c with flt := true } (.bool true) w) := by
  obtain ⟨io, ia, ib, ic⟩ := i
  have hi : io = 2 := hi
  subst hi
  have ha : ia < 16 := ha
  have hb : ib < 16 := hb
  have a0 : (0 : Int) ≤ ia := by omega
  have a1 : (ia : Int) < 16 := by omega
  have b0 : (0 : Int) ≤ ib := by omega
  have b1 : (ib : Int) < 16 := by omega
  have e3 : (0 : Int) ≤ g := by omega
  have e4 : (g : Int) < (X.n : Int) := by omega
  have HH := Lib.hid (And.intro h hc); clear h hc
  unfold insV
  go_enter Tryz.func181, Tryz.ntmps181
  go_upto_region 1 with fail
  obtain ⟨gI, hgI⟩ : ∃ g', g' = w.heap.size := ⟨_, rfl⟩
  obtain ⟨w1, hw1⟩ : ∃ w1, w1 = w.alloc (.cells #[.int .i64 2, .int .i64 (ia : Nat), .int .i64 (ib : Nat), .int .i64 (ic : Nat)] 27) := ⟨_, rfl⟩
  rw [← hw1, ← hgI]
  have BI : Blk w1 gI 27 #[.int .i64 2, .int .i64 (ia : Nat), .int .i64 (ib : Nat), .int .i64 (ic : Nat)] := by rw [hw1, hgI]; exact Blk.new _ _ _
  have c01 : Chg [] w w1 := by rw [hw1]; exact (Chg.refl [] w).alloc _
  have X1 := HH.out.1.chg0 c01
  have i0 : w1.cell? ⟨gI, 0, none⟩ = some (.int .i64 2) := BI.cellv 0 rfl
  have i1 : w1.cell? ⟨gI, 1, none⟩ = some (.int .i64 (ia : Nat)) := BI.cellv 1 rfl
  have i2 : w1.cell? ⟨gI, 2, none⟩ = some (.int .i64 (ib : Nat)) := BI.cellv 2 rfl
  obtain ⟨b, cap, hvg, x2, y, hb', s0, s1, s2, s3, s4⟩ := X1.at_ hg
  have sb : w1.cell? ⟨a.gs g, ib, none⟩ = some (.int .i64 ((X.gs g).sk ib)) := (X1.s g hg).cellv ib (skC_at _ hb)
  have sa : w1.cell? ⟨a.gs g, ia, none⟩ = some (.int .i64 ((X.gs g).sk ia)) := (X1.s g hg).cellv ia (skC_at _ ha)
  have lI := BI.lt
  have lS := (X1.s g hg).lt
  have H1 := Lib.hid (And.intro X1 (And.intro c01 BI)); clear X1 c01 BI hw1 hgI hvg
  have h0 : (X.gs g).sk ib = 0 := h0
  rw [h0] at sb
  have i3 : w1.cell? ⟨gI, 3, none⟩ = some (.int .i64 (ic : Nat)) := H1.out.2.2.cellv 3 rfl
  have d0 : (0 : Int) ≤ (ic : Int) := by omega
  have ngX := HH.out.1.ngc HH.out.2
  have C1 := H1.out.2.1.blk HH.out.2 (by simp)
  have fz := C1.frozen 5
  have vz : w1.cell? ⟨gc, 5, none⟩ = some (.bool c.flt) := C1.cellv 5 rfl
  have BC := C1.setv 5 (.bool true) (cs' := (comC { c with flt := true }).toArray) rfl
  have HC := Lib.hid BC; clear BC C1
  go_wp2_with fail
  refine (rslots_none _ _).mono ?_
  rintro e w2 ⟨rfl, rfl⟩
  go_wp2_with fail
  go_ret
  have c12 : Chg [gc] w2 (w2.setCell ⟨gc, 5, none⟩ (.bool true)) := (Chg.refl [gc] w2).setCell (.inl (by simp)) _
  exact ⟨a, rfl, H1.out.1.chg c12 (fun j hj hx => ngX (by have e : j = gc := (by simpa using hj); rw [← e]; exact hx)), rfl, rfl, ⟨rfl, rfl, rfl⟩, rfl, HC.out, fun j hj => .inl hj, [gc], (H1.out.2.1.mono (by simp)).trans c12, fun j hj => .inr (by simpa using hj)⟩
theorem stepsW_ok {w : World} {a : XAt} {X : Mdl} {g : Nat} (h : XM w a (pcX X g)) (hg : g < X.n) (hn : X.n ≤ 1000) (hst : (X.gs g).st = 1) (W : WtX X) (gc : Nat) (i : Ins) (F : Fine X g i) (h2 : ¬ i.o = 2)
    (hc : Blk w gc 50 (comC ⟨(g : Nat), (X.gs g).f, (X.gs g).pc, (i.o : Nat), 0, false⟩).toArray) : RSteps a (pcX X g) (doW X g i) g gc i ⟨(g : Nat), (X.gs g).f, (X.gs g).pc, (i.o : Nat), 0, false⟩ (tellW X g i) w := by
  have e1 : (pcX X g).gs g = { X.gs g with pc := (X.gs g).pc + 1 } := updV_same _ _ _
  have hlen : ∀ a, a < 32 → (X.wt a).length ≤ 100000 := fun a ha => by have := W.len a ha; omega
  by_cases h11 : i.o = 11
  · have ha := F.aw (.inl h11)
    have hw : ∀ a, a < 32 → (g : Int) ∉ X.wt a := fun a ha hm => by
      obtain ⟨j, ej, -, hj⟩ := W.m a ha _ hm
      have e : g = j := by omega
      rw [← e, hst] at hj; omega
    have ex : doW X g i = { pcX X g with gs := updV (pcX X g).gs g { (pcX X g).gs g with st := 3 }, wt := updV (pcX X g).wt i.a ((pcX X g).wt i.a ++ [(g : Int)]) } := by
      unfold doW; rw [if_pos h11, e1]; simp [pcX, updV_updV]
    have et : tellW X g i = ⟨(g : Nat), (X.gs g).f, (X.gs g).pc, (i.o : Nat), 0, false⟩ := by unfold tellW tellX; rw [if_neg (by omega), if_neg (by omega), if_neg (by omega)]
    rw [ex, et]
    exact ⟨.inr ⟨rplain_block w a _ h g gc i h11 hg F.a F.b, fun w' c' => rother_block w' a _ (h.chg0 c') g gc i h11 hg ha hw hlen _ (c'.blk hc (by simp))⟩⟩
  by_cases h12 : i.o = 12
  · have ha := F.aw (.inr h12)
    cases hx : X.wt i.a with
    | nil =>
      have ex : doW X g i = pcX X g := by unfold doW; rw [if_neg h11, if_pos h12, hx]; rfl
      have et : tellW X g i = { (⟨(g : Nat), (X.gs g).f, (X.gs g).pc, (i.o : Nat), 0, false⟩ : ComA) with v := -1 } := by unfold tellW; rw [if_pos h12, hx]
      rw [ex, et]
      exact ⟨.inr ⟨rplain_wake w a _ h g gc i h12 hg F.a F.b, fun w' c' => rother_wake_no w' a _ (h.chg0 c') g gc i h12 hg ha hx _ (c'.blk hc (by simp))⟩⟩
    | cons x r =>
      obtain ⟨j, rfl, hj, hs⟩ := W.m i.a ha x (by rw [hx]; simp)
      have hjg : j ≠ g := fun e => by rw [e, hst] at hs; omega
      have ej : (pcX X g).gs j = X.gs j := updV_other _ _ hjg
      have ex : doW X g i = { pcX X g with gs := updV (pcX X g).gs j { (pcX X g).gs j with st := 1 }, wt := updV (pcX X g).wt i.a r } := by
        unfold doW; rw [if_neg h11, if_pos h12, hx, ej]; rfl
      have et : tellW X g i = { (⟨(g : Nat), (X.gs g).f, (X.gs g).pc, (i.o : Nat), 0, false⟩ : ComA) with v := (j : Nat) } := by unfold tellW; rw [if_pos h12, hx]; rfl
      have hr : r.length ≤ 100000 := by have := hlen i.a ha; rw [hx, List.length_cons] at this; omega
      rw [ex, et]
      exact ⟨.inr ⟨rplain_wake w a _ h g gc i h12 hg F.a F.b, fun w' c' => rother_wake w' a _ (h.chg0 c') g gc i h12 hg ha j r hx hj hr _ (c'.blk hc (by simp))⟩⟩
  by_cases h4 : i.o = 4
  · obtain ⟨ha, hb⟩ := F.ab (.inr h4)
    have ex : doW X g i = { pcX X g with gs := updV (pcX X g).gs g { (pcX X g).gs g with sk := updV ((pcX X g).gs g).sk i.a (((pcX X g).gs g).sk i.b) } } := by
      unfold doW; rw [if_neg h11, if_neg h12, if_pos h4, e1]; simp [pcX, updV_updV]
    have et : tellW X g i = ⟨(g : Nat), (X.gs g).f, (X.gs g).pc, (i.o : Nat), 0, false⟩ := by unfold tellW tellX; rw [if_neg (by omega), if_neg (by omega), if_neg (by omega)]
    rw [ex, et]
    exact ⟨.inl (rplain_move w a _ h g gc i h4 hg ha hb _ hc)⟩
  · have ex : doW X g i = doX X g i := by unfold doW; rw [if_neg h11, if_neg h12, if_neg h4, if_neg h2]
    have et : tellW X g i = tellX X g i := by unfold tellW; rw [if_neg h12, if_neg h2]
    have ho : i.o = 0 ∨ i.o = 8 ∨ i.o = 9 ∨ i.o = 14 ∨ i.o = 16 ∨ i.o = 17 := by have := F.o; omega
    rw [ex, et]
    exact steps_ok h hg gc i ho F.a F.b (fun e => ⟨(F.b8 e).1, by have := (F.b8 e).2; omega⟩) F.c.1 F.c.2 hc
theorem stepsF_ok {w : World} {a : XAt} {X : Mdl} {g : Nat} (h : XM w a (pcX X g)) (hg : g < X.n) (gc : Nat) (i : Ins) (F : Fine X g i) (h2 : i.o = 2)
    (hc : Blk w gc 50 (comC ⟨(g : Nat), (X.gs g).f, (X.gs g).pc, (i.o : Nat), 0, false⟩).toArray) : RSteps a (pcX X g) (pcX X g) g gc i ⟨(g : Nat), (X.gs g).f, (X.gs g).pc, (i.o : Nat), 0, false⟩ { (⟨(g : Nat), (X.gs g).f, (X.gs g).pc, (i.o : Nat), 0, false⟩ : ComA) with flt := true } w := by
  have e1 : (pcX X g).gs g = { X.gs g with pc := (X.gs g).pc + 1 } := updV_same _ _ _
  obtain ⟨ha, hb⟩ := F.ab (.inl h2)
  exact ⟨.inl (rplain_fault w a _ h g gc i h2 hg ha hb (by rw [e1]; exact F.z h2) _ hc)⟩
def AtP (fs : List (List Ins)) (X : Mdl) (g : Nat) (i : Ins) : Prop := ∃ (F pc : Nat) (l : List Ins), (X.gs g).f = (F : Nat) ∧ (X.gs g).pc = (pc : Nat) ∧ pc ≤ 1000000 ∧ fs[F]? = some l ∧ (l[pc]? = some i ∨ (pc = l.length ∧ i = ⟨0, 0, 0, 0⟩)) ∧ l ≠ []
theorem doW_n {X : Mdl} {g : Nat} {i : Ins} : X.n ≤ (doW X g i).n := by
  unfold doW
  split
  · exact Nat.le_refl _
  split
  · split <;> exact Nat.le_refl _
  split
  · exact Nat.le_refl _
  split
  · exact Nat.le_refl _
  · exact doX_n
theorem do_fine (w : World) (a : XAt) (X : Mdl) (B : Nat) (vs : List Value) (h : XM w a X) (PR : PrR w B a.vf vs X.fs) (hB : B ≤ w.heap.size) (g : Nat) (i : Ins) (hg : g < X.n) (hn : X.n ≤ 255) (hst : (X.gs g).st = 1) (hA : AtP X.fs X g i) (W : WtX X) (Fn : Fine X g i) :
    Calls Tryz.prog 123 #[.pointer (some ⟨a.gX, 0, none⟩), .int .i64 (g : Nat)] w (FolPost a (doW X g i) X (.tuple #[.agg (comC (tellW X g i)).toArray, .int .i64 0]) w) := by
  obtain ⟨F, pc, l, hF, hpc, bpc, hl, hi, -⟩ := hA
  by_cases h2 : i.o = 2
  · have e1 : (pcX X g).gs g = { X.gs g with pc := (X.gs g).pc + 1 } := updV_same _ _ _
    have h3 := rdo_end w a X (pcX X g) { (⟨(g : Nat), (X.gs g).f, (X.gs g).pc, (i.o : Nat), 0, false⟩ : ComA) with flt := true } B vs h PR hB g F pc l i hg (by omega) hst hF hpc bpc hl hi (fun w' gc h' hc => stepsF_ok h' hg gc i Fn h2 hc) (Nat.le_refl _)
    have eX : endX (pcX X g) g { (⟨(g : Nat), (X.gs g).f, (X.gs g).pc, (i.o : Nat), 0, false⟩ : ComA) with flt := true } = doW X g i := by
      unfold endX doW
      rw [if_pos rfl, if_neg (by omega), if_neg (by omega), if_neg (by omega), if_pos h2, e1]
      simp [pcX, updV_updV]
    have eC : endC { (⟨(g : Nat), (X.gs g).f, (X.gs g).pc, (i.o : Nat), 0, false⟩ : ComA) with flt := true } = tellW X g i := by
      unfold endC tellW
      rw [if_pos rfl, if_neg (by omega), if_pos h2]
    rw [eX, eC] at h3
    exact h3.mono fun e w2 h => h.fol
  have hflt : (tellW X g i).flt = false := by
    unfold tellW
    split
    · rfl
    · first | rfl | (rw [if_neg h2]; rfl)
  exact (rdo_gen w a X (doW X g i) (tellW X g i) hflt B vs h PR hB g F pc l i hg (by omega) hst hF hpc bpc hl hi (fun w' gc h' hc => stepsW_ok h' hg (by omega) hst W gc i Fn h2 hc) doW_n).mono fun e w2 h => h.fol
theorem Ops.fine {P : Nat} {fs : List (List Ins)} {vf : Value} {vs : List Value} {wB : World} {J : Mdl → List ComA → Prop} {nx : Mdl → Nat → Ins} (PR : PrR wB wB.heap.size vf vs fs)
    (hsm : ∀ X cms, J X cms → X.n ≤ 255 ∧ WtX X ∧ X.fs = fs) (hnx : ∀ X cms g, J X cms → g < X.n → (X.gs g).st = 1 → AtP fs X g (nx X g) ∧ Fine X g (nx X g))
    (hk : ∀ X cms g, J X cms → g < X.n → (X.gs g).st = 1 → J (doW X g (nx X g)) (cms ++ [tellW X g (nx X g)])) : Ops P fs vf wB J nx (fun m q g i => cmtW m q g i) doW tellW := by
  refine ⟨fun X cms h => (hsm X cms h).1, fun m X hJ R hfs g hg hst => ?_, fun m X loc q g A p hvq B w' M => ?_, fun m X loc q g A => ?_, fun X g i => ?_, fun w a X cms g h hJ hfs hvf c hg hst => ?_, hk⟩
  · obtain ⟨⟨F, pc, l, hF, hpc, bpc, hl, hi, hl0⟩, hFn⟩ := hnx X m.cms g hJ (by rw [R.n]; exact hg) hst
    obtain ⟨gf, gp, -, -⟩ := R.g g hg
    have ho := hFn.o
    exact ⟨⟨F, pc, l, by rw [← gf]; exact hF, by rw [← gp]; exact hpc, bpc, by rw [hfs]; exact hl, hi, hl0⟩, by omega⟩
  · obtain ⟨hA, hFn⟩ := hnx X m.cms g A.hJ (by rw [A.R.n]; exact A.hg) A.st1
    obtain ⟨F, pc, l, -, hpc, bpc, -⟩ := hA
    exact m_commit_fine A (hsm X _ A.hJ).2.1 hFn ⟨pc, by rw [← (A.R.g g A.hg).2.1]; exact hpc, bpc⟩ p hvq B w' M
  · obtain ⟨hA, hFn⟩ := hnx X m.cms g A.hJ (by rw [A.R.n]; exact A.hg) A.st1
    exact after_fine A (hsm X _ A.hJ).2.1 hFn
  · unfold tellW tellX
    split
    · exact ⟨rfl, rfl, fun e => by omega⟩
    split
    · exact ⟨rfl, rfl, fun _ => rfl⟩
    · exact ⟨rfl, rfl, fun e => if_neg (by omega)⟩
  · obtain ⟨hA, hFn⟩ := hnx X cms g hJ hg hst
    obtain ⟨h1, h2, -⟩ := hsm X cms hJ
    exact do_fine w a X wB.heap.size vs h (by rw [hfs, hvf]; exact PR.chg0 c (Nat.le_refl _)) c.size g (nx X g) hg h1 hst (by rw [hfs]; exact hA) h2 hFn
def wFirst (k : Nat) : List Ins := [⟨8, 1, 0, 0⟩, ⟨16, 0, k, 0⟩, ⟨11, 1, 0, 0⟩, ⟨12, 2, 0, 0⟩, ⟨17, 2, 0, 0⟩, ⟨0, 0, 0, 0⟩]
def wOther : List Ins := [⟨9, 0, 0, 0⟩, ⟨12, 1, 0, 0⟩, ⟨11, 2, 0, 0⟩, ⟨14, 1, 0, 0⟩]
def wNx (k : Nat) (X : Mdl) (g : Nat) : Ins := ((if g = 0 then wFirst k else wOther)[(X.gs g).pc.toNat]?).getD ⟨0, 0, 0, 0⟩
def WG0 (k n : Nat) (z : MdG) : Prop := ∃ pc cnt : Nat, z.f = 0 ∧ z.pc = pc ∧ z.cnt = cnt ∧ cnt ≤ k ∧ ((pc ≤ 5 ∧ (z.st = 1 ∨ z.st = 3)) ∨ z.st = 5) ∧ (n = 1 ↔ pc = 0) ∧ (n = 1 → z.st = 1)
def WG1 (z : MdG) : Prop := ∃ pc : Nat, z.f = 1 ∧ z.pc = pc ∧ pc ≤ 3 ∧ z.cnt = 0 ∧ (z.st = 1 ∨ z.st = 3)
structure WJ (k : Nat) (X : Mdl) (cms : List ComA) : Prop where
  fs : X.fs = [wFirst k, wOther]
  W : WtX X
  n : X.n = 1 ∨ X.n = 2
  g0 : WG0 k X.n (X.gs 0)
  g1 : X.n = 2 → WG1 (X.gs 1)
section
variable {k : Nat} {X : Mdl} {cms : List ComA}
end
theorem GJ.start {P n G b1 b2 : Nat} {fs : List (List Ins)} {J : Mdl → List ComA → Prop} {wB w' : World} {gW gA gX gg gs gl : Nat} {vg vf : Value} {p : MAt} {m : Mac} (h : FrS P n G (n * 64) b1 b2 fs vf wB w' gW gA gX gg gs gl vg p m) (h1 : 1 ≤ P) (hP : P ≤ 64)
    (hJ : ∀ X : Mdl, X.fs = fs → X.n = 1 → (X.gs 0).st = 1 → (X.gs 0).f = 0 → (X.gs 0).pc = 0 → (X.gs 0).cnt = 0 → X.wt = (fun _ => []) → (X.gs 0).sk = (fun _ => 0) → J X []) :
    ∃ s, GJ P fs wB gW ((n * 64 : Nat) : Int) b1 b2 (.slice (some ⟨gA, 0, none⟩) 1 1) vf J 0 s w' := by
  have h0 := h
  obtain ⟨⟨pct, on, part, t, g, r, ht, hm⟩, vq, vt, vr, -, -⟩ := h0
  have hfs : m.fs = fs := by rw [hm]; rfl
  obtain ⟨a, X, B, R, -, hvf, -, hck, hgA⟩ := FrS.both h hfs
  have hng : m.ng = 1 := by rw [hm]; rfl
  have hsts : m.sts = [1] := by rw [hm]; rfl
  have hcms : m.cms = [] := by rw [hm]; rfl
  have hnp : m.np = P := by rw [hm]; rfl
  have hps : m.ps = fun _ => ⟨-1, 0, 0, false, 0, 0, 0⟩ := by rw [hm]; rfl
  have hrg : m.rg = updV (fun _ => rg0) 0 (rgPut rg0 ((0 : Nat) : Int)) := by rw [hm]; rfl
  have hgs : m.gs 0 = ⟨0, 0, 0, updV (fun _ => 0) 0 0, 0, 0⟩ := by rw [hm]; rfl
  have r0 : RingIs rg0 [] := ⟨rfl, by decide, rfl, fun j x h => by simp at h⟩
  obtain ⟨e1, e2, e3, e4⟩ := R.g 0 (by omega)
  rw [hgs] at e1 e2 e3 e4
  refine ⟨_, p, m, a, X, fun _ => (1, 0), 0, 0, B, R, ?_, ?_, ⟨?_, ?_, ?_⟩, hnp, hfs, ?_, by rw [hcms]; simp, rfl, ⟨vq, vt, vr⟩, hvf, hck, by rw [hgA]⟩
  · show WFc m.ng m.np m.sts (fun q => (m.ps q).g) m.rg _
    rw [hng, hnp, hsts, hps, hrg]
    refine ⟨rfl, fun j hj => ?_, fun j _ => .inl ⟨rfl, by show 0 < P; omega⟩, fun q hq => ?_, fun q hq => .inl ⟨rfl, fun j _ e => by injection e with e; omega⟩⟩
    · have : j = 0 := by omega
      subst this; rfl
    · by_cases e : q = 0
      · subst e
        rw [updV_same]
        refine ⟨[0], r0.put 0 (by decide), by simp, fun j => ⟨fun hj => ⟨by have := List.mem_singleton.1 hj; omega, rfl⟩, fun hj => ?_⟩⟩
        have : j = 0 := by omega
        subst this; simp
      · rw [updV_other _ _ e]
        refine ⟨[], r0, by simp, fun j => ⟨fun hj => by simp at hj, fun hj => ?_⟩⟩
        have := hj.2
        injection this with _ h2
        omega
  · exact ⟨by rw [hnp]; exact hP, by rw [hm]; rfl, by rw [hm]; rfl, by rw [hm]; rfl, by rw [hm]; rfl, by rw [hm]; rfl, by rw [hm]; exact Int.le_refl _, by rw [hm]; rfl, by rw [hm]; exact ht, by rw [hsts, hng]; rfl, by omega, by rw [hcms]; simp, fun x => by rw [hm]; rfl⟩
  · intro q _
    rw [hps]
    exact ⟨rfl, ⟨0, rfl, by omega⟩, ⟨0, rfl, by omega⟩, 0, rfl, by omega⟩
  · exact ⟨0, by rw [hm]; rfl, by omega⟩
  · rw [hm]; rfl
  · rw [hcms]
    exact hJ X (R.fs.trans hfs) (R.n.trans hng) (by rw [R.st 0 1 (by rw [hsts]; rfl)]; decide) e1 e2 e3 (by rw [← R.w, hm]; rfl) (by rw [e4]; funext j; show updV (fun _ => (0 : Int)) 0 0 j = 0; unfold updV; split <;> rfl)
end Go.Proofs.YtepnlcemlnkpdaaGreatDoor
