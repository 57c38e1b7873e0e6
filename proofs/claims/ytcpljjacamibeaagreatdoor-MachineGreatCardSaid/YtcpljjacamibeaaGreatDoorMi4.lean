/- The document's model: Do, of Exit, Yield, Set, Dec, Jump, Spawn. (Printed by wip/genmi4.py.) -/
import Derived.Test.YtcpljjacamibeaaGreatDoorMi2J
namespace Go.Proofs.YtcpljjacamibeaaGreatDoor
set_option maxHeartbeats 16000000
set_option maxRecDepth 100000
open Go.RowKit Go.Maps
def RdoG (a : XAt) (X X2 : Mdl) (cc : ComA) (w : World) (e : Ending) (w' : World) : Prop :=
  ∃ a', e = .returned (.tuple #[.agg (comC cc).toArray, .int .i64 0]) ∧ XM w' a' X2 ∧ a'.gX = a.gX ∧ a'.vf = a.vf ∧ (a'.G = a.G ∧ a'.gA = a.gA) ∧ a'.ck = a.ck ∧ (∀ j, XF a' X2 j → XF a X j ∨ w.heap.size ≤ j) ∧ ∃ T, Chg T w w' ∧ ∀ j ∈ T, XF a X j ∨ w.heap.size ≤ j
abbrev RdoPost (a : XAt) (X : Mdl) (g : Nat) (i : Ins) (w : World) (e : Ending) (w' : World) : Prop := RdoG a X (doX X g i) (tellX X g i) w e w'
def endX (X2 : Mdl) (g : Nat) (cc : ComA) : Mdl := if cc.flt = true then { X2 with gs := updV X2.gs g { X2.gs g with st := 5 } } else X2
def endC (cc : ComA) : ComA := if cc.flt = true then { cc with v := 0 } else cc
theorem doX_n {X : Mdl} {g : Nat} {i : Ins} : X.n ≤ (doX X g i).n := by
  unfold doX
  repeat' split
  all_goals first | exact Nat.le_refl _ | exact Nat.le_succ _
def pcX (X : Mdl) (g : Nat) : Mdl := { X with gs := updV X.gs g { X.gs g with pc := (X.gs g).pc + 1 } }
def DstPost (a : XAt) (X1 X2 : Mdl) (g gc : Nat) (c c2 : ComA) (b : Value) (w : World) (e : Ending) (w' : World) : Prop :=
  ∃ a', e = .returned b ∧ XM w' a' X2 ∧ a'.gX = a.gX ∧ a'.vf = a.vf ∧ (a'.G = a.G ∧ a'.gA = a.gA ∧ a'.gg g = a.gg g) ∧ a'.ck = a.ck ∧ Blk w' gc 59 (comC c2).toArray ∧ (∀ j, XF a' X2 j → XF a X1 j ∨ w.heap.size ≤ j) ∧ ∃ T, Chg T w w' ∧ ∀ j ∈ T, XF a X1 j ∨ j = gc
theorem XM.ngc {w : World} {a : XAt} {X : Mdl} (h : XM w a X) {gc : Nat} {cs : Array Value} (hc : Blk w gc 59 cs) : ¬ XF a X gc := fun hx => by
  rcases hx with e | e | ⟨i, hi, e | e⟩
  · exact hc.ne_ h.x (by decide) e
  · exact h.ne2 hc (by decide) (by decide) e
  · exact hc.ne_ (h.g i hi) (by decide) e
  · exact hc.ne_ (h.s i hi) (by decide) e
theorem PlPost.st {w w' : World} {a : XAt} {X1 X2 : Mdl} (h : XM w a X1) {g gc : Nat} (hg : g < X1.n) (hn : X2.n = X1.n) {c : ComA} {b : Value} {e : Ending} (hc : Blk w gc 59 (comC c).toArray) (P : PlPost a X2 g b w e w') : DstPost a X1 X2 g gc c c b w e w' := by
  obtain ⟨he, hx, hC⟩ := P
  refine ⟨a, he, hx, rfl, rfl, ⟨rfl, rfl, rfl⟩, rfl, hC.blk hc (fun hm => ?_), fun j hj => .inl ?_, [a.gg g], hC, fun j hj => .inl (.inr (.inr ⟨g, hg, .inl (by simpa using hj)⟩))⟩
  · have e : gc = a.gg g := by simpa using hm
    exact h.ngc hc (.inr (.inr ⟨g, hg, .inl e⟩))
  · unfold XF at hj ⊢
    rw [hn] at hj
    exact hj
theorem SpnPost.st {w w' : World} {a : XAt} {X1 : Mdl} {f v : Int} {g gc : Nat} {c : ComA} {e : Ending} (hg : g < X1.n) (P : SpnPost a X1 f v gc c w e w') : DstPost a X1 (spX X1 f v) g gc c { c with v := (X1.n : Nat) } (.tuple #[]) w e w' := by
  obtain ⟨vg, gg, gs, he, hx, hc, hC, hF⟩ := P
  refine ⟨_, he, hx, rfl, rfl, ⟨rfl, rfl, updV_other _ _ (by omega)⟩, rfl, hc, hF, _, hC, fun j hj => ?_⟩
  rcases List.mem_cons.1 hj with e | e
  · exact .inr e
  · rcases List.mem_cons.1 e with e | e
    · exact .inl (.inl e)
    · exact .inl (.inr (.inl (.inl e)))
structure RSteps (a : XAt) (X1 X2 : Mdl) (g gc : Nat) (i : Ins) (c c2 : ComA) (w : World) : Prop where
  one : (Calls Tryz.prog 154 #[.pointer (some ⟨a.gX, 0, none⟩), .int .i64 (g : Nat), insV i, .pointer (some ⟨gc, 0, none⟩)] w (DstPost a X1 X2 g gc c c2 (.bool true) w)) ∨
    (Calls Tryz.prog 154 #[.pointer (some ⟨a.gX, 0, none⟩), .int .i64 (g : Nat), insV i, .pointer (some ⟨gc, 0, none⟩)] w (fun e w' => e = .returned (.bool false) ∧ Chg [] w w') ∧
      ∀ w', Chg [] w w' → Calls Tryz.prog 155 #[.pointer (some ⟨a.gX, 0, none⟩), .int .i64 (g : Nat), insV i, .pointer (some ⟨gc, 0, none⟩)] w' (DstPost a X1 X2 g gc c c2 (.tuple #[]) w'))
theorem steps_ok {w : World} {a : XAt} {X : Mdl} {g : Nat} (h : XM w a (pcX X g)) (hg : g < X.n) (gc : Nat) (i : Ins) (ho : i.o = 0 ∨ i.o = 8 ∨ i.o = 9 ∨ i.o = 14 ∨ i.o = 16 ∨ i.o = 17) (ha : i.a < 256) (hb : i.b < 256) (hb8 : i.o = 8 → i.b < 16 ∧ X.n < 1024) (hc0 : 0 ≤ (X.gs g).cnt) (hc1 : (X.gs g).cnt ≤ 1000000)
    (hc : Blk w gc 59 (comC ⟨(g : Nat), (X.gs g).f, (X.gs g).pc, (i.o : Nat), 0, false⟩).toArray) : RSteps a (pcX X g) (doX X g i) g gc i ⟨(g : Nat), (X.gs g).f, (X.gs g).pc, (i.o : Nat), 0, false⟩ (tellX X g i) w := by
  have e1 : (pcX X g).gs g = { X.gs g with pc := (X.gs g).pc + 1 } := updV_same _ _ _
  have et : i.o ≠ 8 → tellX X g i = ⟨(g : Nat), (X.gs g).f, (X.gs g).pc, (i.o : Nat), 0, false⟩ := fun h8 => by unfold tellX; rw [if_neg h8]
  rcases ho with ho | ho | ho | ho | ho | ho
  · have ex : doX X g i = { pcX X g with gs := updV (pcX X g).gs g { (pcX X g).gs g with st := 5 } } := by
      unfold doX; rw [if_pos ho, e1]; simp [pcX, updV_updV]
    rw [ex, et (by omega)]
    exact ⟨.inr ⟨rplain_exit w a _ h g gc i ho hg ha hb, fun w' c' => (rother_exit w' a _ (h.chg0 c') g gc i ho hg ha hb).mono fun e w'' P => PlPost.st (h.chg0 c') hg (by rfl) (c'.blk hc (by simp)) P⟩⟩
  · obtain ⟨hb16, hn⟩ := hb8 ho
    have ex : doX X g i = spX (pcX X g) (i.a : Nat) (((pcX X g).gs g).sk i.b) := by
      unfold doX; rw [if_neg (by omega), if_neg (by omega), if_neg (by omega), if_neg (by omega), if_neg (by omega), e1]; rfl
    have et8 : tellX X g i = { (⟨(g : Nat), (X.gs g).f, (X.gs g).pc, (i.o : Nat), 0, false⟩ : ComA) with v := ((pcX X g).n : Nat) } := by unfold tellX; rw [if_pos ho]; rfl
    rw [ex, et8]
    exact ⟨.inr ⟨rplain_spawn w a _ h g gc i ho hg ha hb, fun w' c' => (rother_spawn w' a _ (h.chg0 c') g gc i ho hg ha hb16 hn _ (c'.blk hc (by simp))).mono fun e w'' P => SpnPost.st hg P⟩⟩
  · have ex : doX X g i = pcX X g := by unfold doX; rw [if_neg (by omega), if_pos ho]; rfl
    rw [ex, et (by omega)]
    exact ⟨.inr ⟨rplain_yield w a _ h g gc i ho hg ha hb, fun w' c' => (rother_yield w' a _ (h.chg0 c') g gc i ho hg ha hb).mono fun e w'' P => PlPost.st (h.chg0 c') hg (by rfl) (c'.blk hc (by simp)) P⟩⟩
  · have ex : doX X g i = { pcX X g with gs := updV (pcX X g).gs g { (pcX X g).gs g with pc := (i.a : Nat) } } := by
      unfold doX; rw [if_neg (by omega), if_neg (by omega), if_neg (by omega), if_pos ho, e1]; simp [pcX, updV_updV]
    rw [ex, et (by omega)]
    exact ⟨.inl ((rplain_jump w a _ h g gc i ho hg ha hb).mono fun e w'' P => PlPost.st h hg (by rfl) hc P)⟩
  · have ex : doX X g i = { pcX X g with gs := updV (pcX X g).gs g { (pcX X g).gs g with cnt := 256 * (i.a : Nat) + (i.b : Nat) } } := by
      unfold doX; rw [if_neg (by omega), if_neg (by omega), if_pos ho, e1]; simp [pcX, updV_updV]
    rw [ex, et (by omega)]
    exact ⟨.inl ((rplain_set w a _ h g gc i ho hg ha hb).mono fun e w'' P => PlPost.st h hg (by rfl) hc P)⟩
  · have ecnt : ((pcX X g).gs g).cnt = (X.gs g).cnt := by rw [e1]
    by_cases hz : (X.gs g).cnt = 0
    · have ex : doX X g i = pcX X g := by unfold doX; rw [if_neg (by omega), if_neg (by omega), if_neg (by omega), if_neg (by omega), if_pos ho, if_pos hz]; rfl
      rw [ex, et (by omega)]
      exact ⟨.inl ((rplain_dec0 w a _ h g gc i ho hg ha hb (by rw [ecnt]; exact hz)).mono fun e w'' P => PlPost.st h hg (by rfl) hc P)⟩
    · obtain ⟨n, hn⟩ : ∃ n : Nat, (X.gs g).cnt = n := ⟨(X.gs g).cnt.toNat, by omega⟩
      have ex : doX X g i = { pcX X g with gs := updV (pcX X g).gs g { (pcX X g).gs g with pc := (i.a : Nat), cnt := ((pcX X g).gs g).cnt - 1 } } := by
        unfold doX; rw [if_neg (by omega), if_neg (by omega), if_neg (by omega), if_neg (by omega), if_pos ho, if_neg hz, e1]; simp [pcX, updV_updV]
      rw [ex, et (by omega)]
      exact ⟨.inl ((rplain_dec w a _ h g gc i ho hg ha hb n (by rw [ecnt]; exact hn) (by omega) (by omega)).mono fun e w'' P => PlPost.st h hg (by rfl) hc P)⟩
theorem rdo_end (w : World) (a : XAt) (X X2 : Mdl) (cc : ComA) (B : Nat) (vs : List Value) (h : XM w a X) (PR : PrR w B a.vf vs X.fs) (hB : B ≤ w.heap.size) (g F pc : Nat) (l : List Ins) (i : Ins) (hg : g < X.n) (hn : X.n ≤ 1024) (hst : (X.gs g).st = 1) (hF : (X.gs g).f = (F : Nat)) (hpc : (X.gs g).pc = pc) (bpc : pc ≤ 1000000) (hl : X.fs[F]? = some l) (hi : l[pc]? = some i ∨ (pc = l.length ∧ i = ⟨0, 0, 0, 0⟩))
    (KS : ∀ (w' : World) (gc : Nat), XM w' a (pcX X g) → Blk w' gc 59 (comC ⟨(g : Nat), (X.gs g).f, (X.gs g).pc, (i.o : Nat), 0, false⟩).toArray → RSteps a (pcX X g) X2 g gc i ⟨(g : Nat), (X.gs g).f, (X.gs g).pc, (i.o : Nat), 0, false⟩ cc w') (hn2 : X.n ≤ X2.n) :
    Calls Tryz.prog 91 #[.pointer (some ⟨a.gX, 0, none⟩), .int .i64 (g : Nat)] w (RdoG a X (endX X2 g cc) (endC cc) w) := by
  have KN := fun (w' : World) (c' : Chg [] w w') => rnext_ok w' a X B vs (h.chg0 c') (PR.chg0 c' hB) (Nat.le_trans hB c'.size) g F pc l i hg hn hst hF hpc bpc hl hi
  have e1 : ¬ (g : Int) < 0 := by omega
  have e2 : ¬ (g : Int) ≥ (X.n : Int) := by omega
  have e3 : (0 : Int) ≤ g := by omega
  have e4 : (g : Int) < (X.n : Int) := by omega
  have hHH := Lib.hid (And.intro h (And.intro KN (And.intro KS hi))); clear h KN KS PR hi
  go_enter Tryz.func91, Tryz.ntmps91
  go_upto_region 1 with fail
  obtain ⟨gR, hgR⟩ : ∃ g', g' = w.heap.size := ⟨_, rfl⟩
  obtain ⟨w1, hw1⟩ : ∃ w1, w1 = w.alloc (.cells #[.int .i64 0, .int .i64 0, .int .i64 0, .int .i64 0, .int .i64 0, .bool false] 59) := ⟨_, rfl⟩
  rw [← hw1, ← hgR]
  have BR : Blk w1 gR 59 #[.int .i64 0, .int .i64 0, .int .i64 0, .int .i64 0, .int .i64 0, .bool false] := by rw [hw1, hgR]; exact Blk.new _ _ _
  have c01 : Chg [] w w1 := by rw [hw1]; exact (Chg.refl [] w).alloc _
  have X1 := hHH.out.1.chg0 c01
  obtain ⟨b, cap, hvg, x2, y, hb', s0, s1, s2, s3, s4⟩ := X1.at_ hg
  rw [hst] at s0
  have hgR' : w.heap.size ≤ gR := by omega
  have H1 := Lib.hid (And.intro X1 (And.intro c01 (And.intro BR hgR'))); clear X1 c01 BR hw1 hgR hvg hgR'
  go_wp2_with fail
  refine (hHH.out.2.1 w1 H1.out.2.1).mono ?_
  rintro e w2 ⟨rfl, c12⟩
  unfold insV
  go_upto_region 7 with fail
  obtain ⟨gI, hgI⟩ : ∃ g', g' = w2.heap.size := ⟨_, rfl⟩
  obtain ⟨w3, hw3⟩ : ∃ w3, w3 = w2.alloc (.cells #[.int .i64 (i.o : Nat), .int .i64 (i.a : Nat), .int .i64 (i.b : Nat), .int .i64 (i.c : Nat)] 33) := ⟨_, rfl⟩
  rw [← hw3, ← hgI]
  have BI : Blk w3 gI 33 #[.int .i64 (i.o : Nat), .int .i64 (i.a : Nat), .int .i64 (i.b : Nat), .int .i64 (i.c : Nat)] := by rw [hw3, hgI]; exact Blk.new _ _ _
  have c23 : Chg [] w2 w3 := by rw [hw3]; exact (Chg.refl [] w2).alloc _
  have c13 := c12.trans c23
  have X3 := H1.out.1.chg0 c13
  have R3 := c13.blk H1.out.2.2.1 (by simp)
  obtain ⟨b3, cap3, -, -, -, -, -, s1, s2, -, -⟩ := X3.at_ hg
  have i0 : w3.cell? ⟨gI, 0, none⟩ = some (.int .i64 (i.o : Nat)) := BI.cellv 0 rfl
  have l1 := (X3.g g hg).lt
  have l2 := BI.lt
  have hnew : w.heap.size ≤ gI := by rw [hgI]; exact Nat.le_trans H1.out.2.1.size c12.size
  have H3 := Lib.hid (And.intro X3 (And.intro R3 (And.intro BI (And.intro (H1.out.2.1.trans c13) hnew)))); clear X3 R3 BI c12 c23 c13 hw3 hgI hnew x2 y hb' s0 s3 s4
  refine wp_region_takes (fuel := 2) 13 (fun w' => Chg [] w3 w') [0, 1, 2, 3, 4, 5, 6, 7, 8, 9, 10, 11] (by kernel_rfl) (by kernel_rfl) (fun _ _ _ _ _ h => h) ((Chg.refl [] w3).drew) ?_
  simp only [List.filterMap_cons, List.filterMap_nil, qGa, qGb]
  iterate 12
    refine wpTake_step (fun K hK => ?_)
    rw [if_pos (by rfl)]
    refine ⟨?_, fun w' hS' => ?_, ?_⟩
    rotate_left 1
    focus
      have j0 := hS'.cellv l1 (by simp) s1
      have j1 := hS'.cellv l1 (by simp) s2
      have j2 := hS'.cellv l2 (by simp) i0
      go_simp
      try with_reducible rfl
      done
    simp only [Act.put, qSa, qSb, qSc]
    refine hK _ ?_
    clear hK K
  refine wpTake_nil ?_
  generalize hx0 : w3.drew = x0
  have D0 : Chg [] w3 x0 := by rw [← hx0]; exact (Chg.refl [] w3).drew
  clear hx0
  refine wpAnyS_ready (rs := [12]) (by kernel_rfl) (by simp) ?_
  refine AllReadyS.o (fun K hK => ?_)
  rw [if_pos (by rfl)]
  go_simp
  refine hK _ _ ((D0.alloc _)) ?_
  clear hK K
  try simp only [Act.put, qSa, qSb, qSc]
  refine wpAnyS_tail 13 1 (by kernel_rfl) rfl ?_
  simp only [qDa, qDb]
  go_upto_region 8 with fail
  obtain ⟨gC, hgC⟩ : ∃ gC, gC = x0.heap.size := ⟨_, rfl⟩
  obtain ⟨w5, hw5⟩ : ∃ w5, w5 = x0.alloc (.cells #[.int .i64 (g : Nat), .int .i64 (F : Nat), .int .i64 (pc : Nat), .int .i64 (i.o : Nat), .int .i64 0, .bool false] 59) := ⟨_, rfl⟩
  rw [← hgC, ← hw5]
  have c35 : Chg [] w3 w5 := by rw [hw5]; exact D0.alloc _
  have BC : Blk w5 gC 59 (comC ⟨(g : Nat), (X.gs g).f, (X.gs g).pc, (i.o : Nat), 0, false⟩).toArray := by rw [hw5, hgC, hF, hpc]; exact Blk.new _ _ _
  have X5 := H3.out.1.chg0 c35
  have R5 := c35.blk H3.out.2.1 (by simp)
  have I5 := c35.blk H3.out.2.2.1 (by simp)
  have hCR : gR ≠ gC := by have h1 := H3.out.2.1.lt; have h2 := D0.size; omega
  have hC : w.heap.size ≤ gC := by rw [hgC]; exact Nat.le_trans H3.out.2.2.2.1.size D0.size
  obtain ⟨b5, cap5, -, -, -, -, -, -, s2, -, -⟩ := X5.at_ hg
  rw [hpc] at s2
  have z2 := (X5.g g hg).frozen 2
  have H5 := Lib.hid (And.intro X5 (And.intro R5 (And.intro I5 (And.intro BC (And.intro (H3.out.2.2.2.1.trans c35) hCR))))); clear X5 R5 I5 BC c35 hw5 hgC D0 hCR s1 i0 l1 l2
  go_upto_region 9 with fail
  obtain ⟨w6, hw6⟩ : ∃ w6, w6 = w5.setCell ⟨a.gg g, 2, none⟩ (.int .i64 ((pc : Int) + 1)) := ⟨_, rfl⟩
  rw [← hw6]
  have c56 : Chg [a.gg g] w5 w6 := by rw [hw6]; exact (Chg.refl [a.gg g] w5).setCell (.inl (by simp)) _
  have X6 : XM w6 a (pcX X g) := H5.out.1.gset hg { X.gs g with pc := (X.gs g).pc + 1 } rfl c56 (fun j hj => .inl (by simpa using hj)) (by rw [hw6, ← hpc]; have h := (H5.out.1.g g hg).set_ 2 (.int .i64 ((X.gs g).pc + 1)); exact h)
  have nF : ∀ k, w5.heap.size > k → ¬ XF a X k → k ∉ [a.gg g] := fun k _ hx hm => hx (.inr (.inr ⟨g, hg, .inl (by simpa using hm)⟩))
  have C6 := c56.blk H5.out.2.2.2.1 (nF _ H5.out.2.2.2.1.lt (H5.out.1.ngc H5.out.2.2.2.1))
  have R6 := c56.blk H5.out.2.1 (nF _ H5.out.2.1.lt (H5.out.1.ngc H5.out.2.1))
  have I6 := c56.blk H5.out.2.2.1 (fun hm => H5.out.2.2.1.ne_ (H5.out.1.g g hg) (by decide) (by simpa using hm))
  have i0 : w6.cell? ⟨gI, 0, none⟩ = some (.int .i64 (i.o : Nat)) := I6.cellv 0 rfl
  have i1 : w6.cell? ⟨gI, 1, none⟩ = some (.int .i64 (i.a : Nat)) := I6.cellv 1 rfl
  have i2 : w6.cell? ⟨gI, 2, none⟩ = some (.int .i64 (i.b : Nat)) := I6.cellv 2 rfl
  have i3 : w6.cell? ⟨gI, 3, none⟩ = some (.int .i64 (i.c : Nat)) := I6.cellv 3 rfl
  have H6 := Lib.hid (And.intro X6 (And.intro C6 (And.intro I6 (And.intro R6 (And.intro c56 hC))))); clear X6 C6 I6 R6 c56 nF hw6 s2 z2 hC
  rcases (hHH.out.2.2.1 w6 gC H6.out.1 H6.out.2.1).one with hK | ⟨hK, hO⟩
  · have HK := Lib.hid hK; clear hK
    unfold insV at HK
    go_wp2_with fail
    refine (HK.out).mono ?_
    rintro e wZ ⟨a', rfl, XZ, a1, a2, a3, a4, BZ, hFZ, T, cT, hT⟩
    cases hflt : cc.flt with
    | false =>
      have eX : endX X2 g cc = X2 := by unfold endX; rw [hflt]; rfl
      have eC : endC cc = cc := by unfold endC; rw [hflt]; rfl
      have ecc : (comC cc).toArray = #[.int .i64 cc.g, .int .i64 cc.f, .int .i64 cc.pc, .int .i64 cc.op, .int .i64 cc.v, .bool false] := by unfold comC; rw [hflt]
      have v0 : wZ.cell? ⟨gC, 0, none⟩ = some (.int .i64 cc.g) := BZ.cellv 0 rfl
      have v1 : wZ.cell? ⟨gC, 1, none⟩ = some (.int .i64 cc.f) := BZ.cellv 1 rfl
      have v2 : wZ.cell? ⟨gC, 2, none⟩ = some (.int .i64 cc.pc) := BZ.cellv 2 rfl
      have v3 : wZ.cell? ⟨gC, 3, none⟩ = some (.int .i64 cc.op) := BZ.cellv 3 rfl
      have v4 : wZ.cell? ⟨gC, 4, none⟩ = some (.int .i64 cc.v) := BZ.cellv 4 rfl
      have v5 : wZ.cell? ⟨gC, 5, none⟩ = some (.bool false) := by rw [← hflt]; exact BZ.cellv 5 rfl
      have nR : ∀ j ∈ T, j ≠ gR := fun j hj e => by
        rcases hT j hj with h | h
        · exact H3.out.1.ngc H3.out.2.1 (e ▸ h)
        · rw [h] at e; exact H5.out.2.2.2.2.2 e.symm
      have RZ := cT.blk H6.out.2.2.2.1 (fun hm => nR _ hm rfl)
      have u0 : wZ.cell? ⟨gR, 0, none⟩ = some (.int .i64 0) := RZ.cellv 0 rfl
      have u1 : wZ.cell? ⟨gR, 1, none⟩ = some (.int .i64 0) := RZ.cellv 1 rfl
      have u2 : wZ.cell? ⟨gR, 2, none⟩ = some (.int .i64 0) := RZ.cellv 2 rfl
      have u3 : wZ.cell? ⟨gR, 3, none⟩ = some (.int .i64 0) := RZ.cellv 3 rfl
      have u4 : wZ.cell? ⟨gR, 4, none⟩ = some (.int .i64 0) := RZ.cellv 4 rfl
      have u5 : wZ.cell? ⟨gR, 5, none⟩ = some (.bool false) := RZ.cellv 5 rfl
      have q0 := RZ.frozen 0
      have q1 := RZ.frozen 1
      have q2 := RZ.frozen 2
      have q3 := RZ.frozen 3
      have q4 := RZ.frozen 4
      have q5 := RZ.frozen 5
      have HZ := Lib.hid (And.intro XZ (And.intro (And.intro a1 (And.intro a2 (And.intro a3 a4))) (And.intro BZ (And.intro hFZ (And.intro (And.intro cT hT) RZ))))); clear XZ BZ hFZ cT RZ nR a1 a2 a3 a4
      go_wp2_with fail
      have BF := (((((HZ.out.2.2.2.2.2.setv 0 (.int .i64 cc.g) rfl).setv 1 (.int .i64 cc.f) rfl).setv 2 (.int .i64 cc.pc) rfl).setv 3 (.int .i64 cc.op) rfl).setv 4 (.int .i64 cc.v) rfl).setv 5 (.bool false) (cs' := #[.int .i64 cc.g, .int .i64 cc.f, .int .i64 cc.pc, .int .i64 cc.op, .int .i64 cc.v, .bool false]) rfl
      have cF := ((((((Chg.refl [gR] wZ).setCell (p := ⟨gR, 0, none⟩) (.inl (by simp)) (.int .i64 cc.g)).setCell (p := ⟨gR, 1, none⟩) (.inl (by simp)) (.int .i64 cc.f)).setCell (p := ⟨gR, 2, none⟩) (.inl (by simp)) (.int .i64 cc.pc)).setCell (p := ⟨gR, 3, none⟩) (.inl (by simp)) (.int .i64 cc.op)).setCell (p := ⟨gR, 4, none⟩) (.inl (by simp)) (.int .i64 cc.v)).setCell (p := ⟨gR, 5, none⟩) (.inl (by simp)) (.bool false)
      have ngR := HZ.out.1.ngc HZ.out.2.2.2.2.2
      have h6 : w.heap.size ≤ w6.heap.size := Nat.le_trans H5.out.2.2.2.2.1.size H6.out.2.2.2.2.1.size
      have hgR := H1.out.2.2.2
      rw [eX, eC]
      refine ⟨rfl, _, results_ct (P := Tryz.prog) (fn := Tryz.f91) rfl (by rfl) (by rfl) (ld_cm _ BF), a', by rw [ecc]; rfl, HZ.out.1.chg cF (fun j hj hx => ngR (by have e : j = gR := (by simpa using hj); rw [← e]; exact hx)), HZ.out.2.1.1, HZ.out.2.1.2.1, ⟨HZ.out.2.1.2.2.1.1, HZ.out.2.1.2.2.1.2.1⟩, HZ.out.2.1.2.2.2, fun j hj => ?_, a.gg g :: gR :: T, ?_, fun j hj => ?_⟩
      · rcases HZ.out.2.2.2.1 j hj with h | h
        · exact .inl h
        · exact .inr (Nat.le_trans h6 h)
      · exact (((H5.out.2.2.2.2.1.mono (by simp)).trans (H6.out.2.2.2.2.1.mono fun k hk => .inl (by simp at hk ⊢; exact .inl hk))).trans (HZ.out.2.2.2.2.1.1.mono fun k hk => .inl (by simp [hk]))).trans (cF.mono fun k hk => .inl (by simp at hk ⊢; exact .inr (.inl hk)))
      · rcases List.mem_cons.1 hj with e | hj
        · exact .inl (.inr (.inr ⟨g, hg, .inl e⟩))
        · rcases List.mem_cons.1 hj with e | hj
          · rw [e]; exact .inr hgR
          · rcases HZ.out.2.2.2.2.1.2 j hj with h | h
            · exact .inl h
            · rw [h]; exact .inr H6.out.2.2.2.2.2
    | true =>
      have eX : endX X2 g cc = { X2 with gs := updV X2.gs g { X2.gs g with st := 5 } } := by unfold endX; rw [hflt]; rfl
      have eC : endC cc = { cc with v := 0 } := by unfold endC; rw [hflt]; rfl
      have hgZ : g < X2.n := Nat.lt_of_lt_of_le hg hn2
      have agg := a3.2.2
      obtain ⟨bz, capz, -, xz, yz, -, sz0, -, -, -, -⟩ := XZ.at_ hgZ
      rw [agg] at sz0
      have fz0 := (XZ.g g hgZ).frozen 0
      rw [agg] at fz0
      have nCg : gC ≠ a.gg g := fun e => XZ.ngc BZ (.inr (.inr ⟨g, hgZ, .inl (by rw [agg, e])⟩))
      have v5 : wZ.cell? ⟨gC, 5, none⟩ = some (.bool true) := by rw [← hflt]; exact BZ.cellv 5 rfl
      have v4 : wZ.cell? ⟨gC, 4, none⟩ = some (.int .i64 cc.v) := BZ.cellv 4 rfl
      have f4 := BZ.frozen 4
      have BY := BZ.setv 4 (.int .i64 0) (cs' := (comC { cc with v := 0 }).toArray) rfl
      have cY : Chg [gC] wZ (wZ.setCell ⟨gC, 4, none⟩ (.int .i64 0)) := (Chg.refl [gC] wZ).setCell (.inl (by simp)) _
      have XY := XZ.chg cY (fun j hj hx => XZ.ngc BZ (by have e : j = gC := (by simpa using hj); rw [← e]; exact hx))
      have BG := (XY.g g hgZ).setv 0 (.int .i64 5) (cs' := mgC 5 (X2.gs g).f (X2.gs g).pc (X2.gs g).cnt (.slice (some ⟨a'.gs g, 0, none⟩) 16 16)) rfl
      have cG := (Chg.refl [a'.gg g] (wZ.setCell ⟨gC, 4, none⟩ (.int .i64 0))).setCell (p := ⟨a'.gg g, 0, none⟩) (.inl (by simp)) (.int .i64 5)
      have XW := XY.gset hgZ { X2.gs g with st := 5 } rfl cG (fun j hj => .inl (by simpa using hj)) BG
      rw [agg] at XW cG
      have BW := cG.blk BY (by simpa using nCg)
      have HV := Lib.hid (And.intro XW (And.intro BW (And.intro cY cG))); clear XW BW cY cG BG XY BY
      go_upto_region 14 with fail
      obtain ⟨wV, hwV⟩ : ∃ wV, wV = (wZ.setCell ⟨gC, 4, none⟩ (.int .i64 0)).setCell ⟨a.gg g, 0, none⟩ (.int .i64 5) := ⟨_, rfl⟩
      rw [← hwV] at HV ⊢
      have hFV : ∀ j, XF a' { X2 with gs := updV X2.gs g { X2.gs g with st := 5 } } j → XF (a) (pcX X g) j ∨ w6.heap.size ≤ j := fun j hj => hFZ j hj
      have cTV : Chg (gC :: a.gg g :: T) w6 wV := ((cT.mono (fun k hk => .inl (List.mem_cons_of_mem _ (List.mem_cons_of_mem _ hk)))).trans (HV.out.2.2.1.mono (by simp))).trans (HV.out.2.2.2.mono (by simp))
      have hTV : ∀ j ∈ gC :: a.gg g :: T, XF a (pcX X g) j ∨ j = gC := fun j hj => by
        rcases List.mem_cons.1 hj with e | hj
        · exact .inr e
        · rcases List.mem_cons.1 hj with e | hj
          · exact .inl (.inr (.inr ⟨g, hg, .inl e⟩))
          · exact hT j hj
      have hflV : ({ cc with v := 0 } : ComA).flt = true := hflt
      have XV := HV.out.1
      have BV := HV.out.2.1
      clear HV hwV sz0 fz0 v5 v4 f4 XZ BZ cT hT hFZ xz yz hflt
      obtain ⟨cc', hcc'⟩ : ∃ c, c = ({ cc with v := 0 } : ComA) := ⟨_, rfl⟩
      obtain ⟨X2', hX2'⟩ : ∃ x, x = ({ X2 with gs := updV X2.gs g { X2.gs g with st := 5 } } : Mdl) := ⟨_, rfl⟩
      rw [← hcc'] at BV hflV eC
      rw [← hX2'] at XV hFV eX
      clear hcc' hX2'
      have ecc : (comC cc').toArray = #[.int .i64 cc'.g, .int .i64 cc'.f, .int .i64 cc'.pc, .int .i64 cc'.op, .int .i64 cc'.v, .bool true] := by unfold comC; rw [hflV]
      have v0 : wV.cell? ⟨gC, 0, none⟩ = some (.int .i64 cc'.g) := BV.cellv 0 rfl
      have v1 : wV.cell? ⟨gC, 1, none⟩ = some (.int .i64 cc'.f) := BV.cellv 1 rfl
      have v2 : wV.cell? ⟨gC, 2, none⟩ = some (.int .i64 cc'.pc) := BV.cellv 2 rfl
      have v3 : wV.cell? ⟨gC, 3, none⟩ = some (.int .i64 cc'.op) := BV.cellv 3 rfl
      have v4 : wV.cell? ⟨gC, 4, none⟩ = some (.int .i64 cc'.v) := BV.cellv 4 rfl
      have v5 : wV.cell? ⟨gC, 5, none⟩ = some (.bool true) := by rw [← hflV]; exact BV.cellv 5 rfl
      have nR : ∀ j ∈ gC :: a.gg g :: T, j ≠ gR := fun j hj e => by
        rcases hTV j hj with h | h
        · exact H3.out.1.ngc H3.out.2.1 (e ▸ h)
        · rw [h] at e; exact H5.out.2.2.2.2.2 e.symm
      have RZ := cTV.blk H6.out.2.2.2.1 (fun hm => nR _ hm rfl)
      have u0 : wV.cell? ⟨gR, 0, none⟩ = some (.int .i64 0) := RZ.cellv 0 rfl
      have u1 : wV.cell? ⟨gR, 1, none⟩ = some (.int .i64 0) := RZ.cellv 1 rfl
      have u2 : wV.cell? ⟨gR, 2, none⟩ = some (.int .i64 0) := RZ.cellv 2 rfl
      have u3 : wV.cell? ⟨gR, 3, none⟩ = some (.int .i64 0) := RZ.cellv 3 rfl
      have u4 : wV.cell? ⟨gR, 4, none⟩ = some (.int .i64 0) := RZ.cellv 4 rfl
      have u5 : wV.cell? ⟨gR, 5, none⟩ = some (.bool false) := RZ.cellv 5 rfl
      have q0 := RZ.frozen 0
      have q1 := RZ.frozen 1
      have q2 := RZ.frozen 2
      have q3 := RZ.frozen 3
      have q4 := RZ.frozen 4
      have q5 := RZ.frozen 5
      have HZ := Lib.hid (And.intro XV (And.intro (And.intro a1 (And.intro a2 (And.intro a3 a4))) (And.intro BV (And.intro hFV (And.intro (And.intro cTV hTV) RZ))))); clear XV BV hFV cTV RZ nR a1 a2 a3 a4
      go_wp2_with fail
      have BF := (((((HZ.out.2.2.2.2.2.setv 0 (.int .i64 cc'.g) rfl).setv 1 (.int .i64 cc'.f) rfl).setv 2 (.int .i64 cc'.pc) rfl).setv 3 (.int .i64 cc'.op) rfl).setv 4 (.int .i64 cc'.v) rfl).setv 5 (.bool true) (cs' := #[.int .i64 cc'.g, .int .i64 cc'.f, .int .i64 cc'.pc, .int .i64 cc'.op, .int .i64 cc'.v, .bool true]) rfl
      have cF := ((((((Chg.refl [gR] wV).setCell (p := ⟨gR, 0, none⟩) (.inl (by simp)) (.int .i64 cc'.g)).setCell (p := ⟨gR, 1, none⟩) (.inl (by simp)) (.int .i64 cc'.f)).setCell (p := ⟨gR, 2, none⟩) (.inl (by simp)) (.int .i64 cc'.pc)).setCell (p := ⟨gR, 3, none⟩) (.inl (by simp)) (.int .i64 cc'.op)).setCell (p := ⟨gR, 4, none⟩) (.inl (by simp)) (.int .i64 cc'.v)).setCell (p := ⟨gR, 5, none⟩) (.inl (by simp)) (.bool true)
      have ngR := HZ.out.1.ngc HZ.out.2.2.2.2.2
      have h6 : w.heap.size ≤ w6.heap.size := Nat.le_trans H5.out.2.2.2.2.1.size H6.out.2.2.2.2.1.size
      have hgR := H1.out.2.2.2
      rw [eX, eC]
      refine ⟨rfl, _, results_ct (P := Tryz.prog) (fn := Tryz.f91) rfl (by rfl) (by rfl) (ld_cm _ BF), a', by rw [ecc]; rfl, HZ.out.1.chg cF (fun j hj hx => ngR (by have e : j = gR := (by simpa using hj); rw [← e]; exact hx)), HZ.out.2.1.1, HZ.out.2.1.2.1, ⟨HZ.out.2.1.2.2.1.1, HZ.out.2.1.2.2.1.2.1⟩, HZ.out.2.1.2.2.2, fun j hj => ?_, a.gg g :: gR :: (gC :: a.gg g :: T), ?_, fun j hj => ?_⟩
      · rcases HZ.out.2.2.2.1 j hj with h | h
        · exact .inl h
        · exact .inr (Nat.le_trans h6 h)
      · exact (((H5.out.2.2.2.2.1.mono (by simp)).trans (H6.out.2.2.2.2.1.mono fun k hk => .inl (by simp at hk ⊢; exact .inl hk))).trans (HZ.out.2.2.2.2.1.1.mono fun k hk => .inl (by simp [hk]))).trans (cF.mono fun k hk => .inl (by simp at hk ⊢; exact .inr (.inl hk)))
      · rcases List.mem_cons.1 hj with e | hj
        · exact .inl (.inr (.inr ⟨g, hg, .inl e⟩))
        · rcases List.mem_cons.1 hj with e | hj
          · rw [e]; exact .inr hgR
          · rcases HZ.out.2.2.2.2.1.2 j hj with h | h
            · exact .inl h
            · rw [h]; exact .inr H6.out.2.2.2.2.2
  · have HK := Lib.hid (And.intro hK hO); clear hK hO
    unfold insV at HK
    go_wp2_with fail
    refine (HK.out.1).mono ?_
    rintro e w7 ⟨rfl, c67⟩
    have i0 := c67.cellv H6.out.2.2.1.lt (by simp) i0
    have i1 := c67.cellv H6.out.2.2.1.lt (by simp) i1
    have i2 := c67.cellv H6.out.2.2.1.lt (by simp) i2
    have i3 := c67.cellv H6.out.2.2.1.lt (by simp) i3
    have H7 := Lib.hid c67; clear c67
    go_wp2_with fail
    refine (HK.out.2 w7 H7.out).mono ?_
    rintro e wZ ⟨a', rfl, XZ, a1, a2, a3, a4, BZ, hFZ', T, cT', hT⟩
    have cT : Chg T w6 wZ := (H7.out.mono (by simp)).trans cT'
    have hFZ : ∀ j, XF a' (X2) j → XF a (pcX X g) j ∨ w6.heap.size ≤ j := fun j hj => (hFZ' j hj).imp_right fun h => Nat.le_trans H7.out.size h
    clear cT' hFZ'
    cases hflt : cc.flt with
    | false =>
      have eX : endX X2 g cc = X2 := by unfold endX; rw [hflt]; rfl
      have eC : endC cc = cc := by unfold endC; rw [hflt]; rfl
      have ecc : (comC cc).toArray = #[.int .i64 cc.g, .int .i64 cc.f, .int .i64 cc.pc, .int .i64 cc.op, .int .i64 cc.v, .bool false] := by unfold comC; rw [hflt]
      have v0 : wZ.cell? ⟨gC, 0, none⟩ = some (.int .i64 cc.g) := BZ.cellv 0 rfl
      have v1 : wZ.cell? ⟨gC, 1, none⟩ = some (.int .i64 cc.f) := BZ.cellv 1 rfl
      have v2 : wZ.cell? ⟨gC, 2, none⟩ = some (.int .i64 cc.pc) := BZ.cellv 2 rfl
      have v3 : wZ.cell? ⟨gC, 3, none⟩ = some (.int .i64 cc.op) := BZ.cellv 3 rfl
      have v4 : wZ.cell? ⟨gC, 4, none⟩ = some (.int .i64 cc.v) := BZ.cellv 4 rfl
      have v5 : wZ.cell? ⟨gC, 5, none⟩ = some (.bool false) := by rw [← hflt]; exact BZ.cellv 5 rfl
      have nR : ∀ j ∈ T, j ≠ gR := fun j hj e => by
        rcases hT j hj with h | h
        · exact H3.out.1.ngc H3.out.2.1 (e ▸ h)
        · rw [h] at e; exact H5.out.2.2.2.2.2 e.symm
      have RZ := cT.blk H6.out.2.2.2.1 (fun hm => nR _ hm rfl)
      have u0 : wZ.cell? ⟨gR, 0, none⟩ = some (.int .i64 0) := RZ.cellv 0 rfl
      have u1 : wZ.cell? ⟨gR, 1, none⟩ = some (.int .i64 0) := RZ.cellv 1 rfl
      have u2 : wZ.cell? ⟨gR, 2, none⟩ = some (.int .i64 0) := RZ.cellv 2 rfl
      have u3 : wZ.cell? ⟨gR, 3, none⟩ = some (.int .i64 0) := RZ.cellv 3 rfl
      have u4 : wZ.cell? ⟨gR, 4, none⟩ = some (.int .i64 0) := RZ.cellv 4 rfl
      have u5 : wZ.cell? ⟨gR, 5, none⟩ = some (.bool false) := RZ.cellv 5 rfl
      have q0 := RZ.frozen 0
      have q1 := RZ.frozen 1
      have q2 := RZ.frozen 2
      have q3 := RZ.frozen 3
      have q4 := RZ.frozen 4
      have q5 := RZ.frozen 5
      have HZ := Lib.hid (And.intro XZ (And.intro (And.intro a1 (And.intro a2 (And.intro a3 a4))) (And.intro BZ (And.intro hFZ (And.intro (And.intro cT hT) RZ))))); clear XZ BZ hFZ cT RZ nR a1 a2 a3 a4
      go_wp2_with fail
      have BF := (((((HZ.out.2.2.2.2.2.setv 0 (.int .i64 cc.g) rfl).setv 1 (.int .i64 cc.f) rfl).setv 2 (.int .i64 cc.pc) rfl).setv 3 (.int .i64 cc.op) rfl).setv 4 (.int .i64 cc.v) rfl).setv 5 (.bool false) (cs' := #[.int .i64 cc.g, .int .i64 cc.f, .int .i64 cc.pc, .int .i64 cc.op, .int .i64 cc.v, .bool false]) rfl
      have cF := ((((((Chg.refl [gR] wZ).setCell (p := ⟨gR, 0, none⟩) (.inl (by simp)) (.int .i64 cc.g)).setCell (p := ⟨gR, 1, none⟩) (.inl (by simp)) (.int .i64 cc.f)).setCell (p := ⟨gR, 2, none⟩) (.inl (by simp)) (.int .i64 cc.pc)).setCell (p := ⟨gR, 3, none⟩) (.inl (by simp)) (.int .i64 cc.op)).setCell (p := ⟨gR, 4, none⟩) (.inl (by simp)) (.int .i64 cc.v)).setCell (p := ⟨gR, 5, none⟩) (.inl (by simp)) (.bool false)
      have ngR := HZ.out.1.ngc HZ.out.2.2.2.2.2
      have h6 : w.heap.size ≤ w6.heap.size := Nat.le_trans H5.out.2.2.2.2.1.size H6.out.2.2.2.2.1.size
      have hgR := H1.out.2.2.2
      rw [eX, eC]
      refine ⟨rfl, _, results_ct (P := Tryz.prog) (fn := Tryz.f91) rfl (by rfl) (by rfl) (ld_cm _ BF), a', by rw [ecc]; rfl, HZ.out.1.chg cF (fun j hj hx => ngR (by have e : j = gR := (by simpa using hj); rw [← e]; exact hx)), HZ.out.2.1.1, HZ.out.2.1.2.1, ⟨HZ.out.2.1.2.2.1.1, HZ.out.2.1.2.2.1.2.1⟩, HZ.out.2.1.2.2.2, fun j hj => ?_, a.gg g :: gR :: T, ?_, fun j hj => ?_⟩
      · rcases HZ.out.2.2.2.1 j hj with h | h
        · exact .inl h
        · exact .inr (Nat.le_trans h6 h)
      · exact (((H5.out.2.2.2.2.1.mono (by simp)).trans (H6.out.2.2.2.2.1.mono fun k hk => .inl (by simp at hk ⊢; exact .inl hk))).trans (HZ.out.2.2.2.2.1.1.mono fun k hk => .inl (by simp [hk]))).trans (cF.mono fun k hk => .inl (by simp at hk ⊢; exact .inr (.inl hk)))
      · rcases List.mem_cons.1 hj with e | hj
        · exact .inl (.inr (.inr ⟨g, hg, .inl e⟩))
        · rcases List.mem_cons.1 hj with e | hj
          · rw [e]; exact .inr hgR
          · rcases HZ.out.2.2.2.2.1.2 j hj with h | h
            · exact .inl h
            · rw [h]; exact .inr H6.out.2.2.2.2.2
    | true =>
      have eX : endX X2 g cc = { X2 with gs := updV X2.gs g { X2.gs g with st := 5 } } := by unfold endX; rw [hflt]; rfl
      have eC : endC cc = { cc with v := 0 } := by unfold endC; rw [hflt]; rfl
      have hgZ : g < X2.n := Nat.lt_of_lt_of_le hg hn2
      have agg := a3.2.2
      obtain ⟨bz, capz, -, xz, yz, -, sz0, -, -, -, -⟩ := XZ.at_ hgZ
      rw [agg] at sz0
      have fz0 := (XZ.g g hgZ).frozen 0
      rw [agg] at fz0
      have nCg : gC ≠ a.gg g := fun e => XZ.ngc BZ (.inr (.inr ⟨g, hgZ, .inl (by rw [agg, e])⟩))
      have v5 : wZ.cell? ⟨gC, 5, none⟩ = some (.bool true) := by rw [← hflt]; exact BZ.cellv 5 rfl
      have v4 : wZ.cell? ⟨gC, 4, none⟩ = some (.int .i64 cc.v) := BZ.cellv 4 rfl
      have f4 := BZ.frozen 4
      have BY := BZ.setv 4 (.int .i64 0) (cs' := (comC { cc with v := 0 }).toArray) rfl
      have cY : Chg [gC] wZ (wZ.setCell ⟨gC, 4, none⟩ (.int .i64 0)) := (Chg.refl [gC] wZ).setCell (.inl (by simp)) _
      have XY := XZ.chg cY (fun j hj hx => XZ.ngc BZ (by have e : j = gC := (by simpa using hj); rw [← e]; exact hx))
      have BG := (XY.g g hgZ).setv 0 (.int .i64 5) (cs' := mgC 5 (X2.gs g).f (X2.gs g).pc (X2.gs g).cnt (.slice (some ⟨a'.gs g, 0, none⟩) 16 16)) rfl
      have cG := (Chg.refl [a'.gg g] (wZ.setCell ⟨gC, 4, none⟩ (.int .i64 0))).setCell (p := ⟨a'.gg g, 0, none⟩) (.inl (by simp)) (.int .i64 5)
      have XW := XY.gset hgZ { X2.gs g with st := 5 } rfl cG (fun j hj => .inl (by simpa using hj)) BG
      rw [agg] at XW cG
      have BW := cG.blk BY (by simpa using nCg)
      have HV := Lib.hid (And.intro XW (And.intro BW (And.intro cY cG))); clear XW BW cY cG BG XY BY
      go_upto_region 14 with fail
      obtain ⟨wV, hwV⟩ : ∃ wV, wV = (wZ.setCell ⟨gC, 4, none⟩ (.int .i64 0)).setCell ⟨a.gg g, 0, none⟩ (.int .i64 5) := ⟨_, rfl⟩
      rw [← hwV] at HV ⊢
      have hFV : ∀ j, XF a' { X2 with gs := updV X2.gs g { X2.gs g with st := 5 } } j → XF (a) (pcX X g) j ∨ w6.heap.size ≤ j := fun j hj => hFZ j hj
      have cTV : Chg (gC :: a.gg g :: T) w6 wV := ((cT.mono (fun k hk => .inl (List.mem_cons_of_mem _ (List.mem_cons_of_mem _ hk)))).trans (HV.out.2.2.1.mono (by simp))).trans (HV.out.2.2.2.mono (by simp))
      have hTV : ∀ j ∈ gC :: a.gg g :: T, XF a (pcX X g) j ∨ j = gC := fun j hj => by
        rcases List.mem_cons.1 hj with e | hj
        · exact .inr e
        · rcases List.mem_cons.1 hj with e | hj
          · exact .inl (.inr (.inr ⟨g, hg, .inl e⟩))
          · exact hT j hj
      have hflV : ({ cc with v := 0 } : ComA).flt = true := hflt
      have XV := HV.out.1
      have BV := HV.out.2.1
      clear HV hwV sz0 fz0 v5 v4 f4 XZ BZ cT hT hFZ xz yz hflt
      obtain ⟨cc', hcc'⟩ : ∃ c, c = ({ cc with v := 0 } : ComA) := ⟨_, rfl⟩
      obtain ⟨X2', hX2'⟩ : ∃ x, x = ({ X2 with gs := updV X2.gs g { X2.gs g with st := 5 } } : Mdl) := ⟨_, rfl⟩
      rw [← hcc'] at BV hflV eC
      rw [← hX2'] at XV hFV eX
      clear hcc' hX2'
      have ecc : (comC cc').toArray = #[.int .i64 cc'.g, .int .i64 cc'.f, .int .i64 cc'.pc, .int .i64 cc'.op, .int .i64 cc'.v, .bool true] := by unfold comC; rw [hflV]
      have v0 : wV.cell? ⟨gC, 0, none⟩ = some (.int .i64 cc'.g) := BV.cellv 0 rfl
      have v1 : wV.cell? ⟨gC, 1, none⟩ = some (.int .i64 cc'.f) := BV.cellv 1 rfl
      have v2 : wV.cell? ⟨gC, 2, none⟩ = some (.int .i64 cc'.pc) := BV.cellv 2 rfl
      have v3 : wV.cell? ⟨gC, 3, none⟩ = some (.int .i64 cc'.op) := BV.cellv 3 rfl
      have v4 : wV.cell? ⟨gC, 4, none⟩ = some (.int .i64 cc'.v) := BV.cellv 4 rfl
      have v5 : wV.cell? ⟨gC, 5, none⟩ = some (.bool true) := by rw [← hflV]; exact BV.cellv 5 rfl
      have nR : ∀ j ∈ gC :: a.gg g :: T, j ≠ gR := fun j hj e => by
        rcases hTV j hj with h | h
        · exact H3.out.1.ngc H3.out.2.1 (e ▸ h)
        · rw [h] at e; exact H5.out.2.2.2.2.2 e.symm
      have RZ := cTV.blk H6.out.2.2.2.1 (fun hm => nR _ hm rfl)
      have u0 : wV.cell? ⟨gR, 0, none⟩ = some (.int .i64 0) := RZ.cellv 0 rfl
      have u1 : wV.cell? ⟨gR, 1, none⟩ = some (.int .i64 0) := RZ.cellv 1 rfl
      have u2 : wV.cell? ⟨gR, 2, none⟩ = some (.int .i64 0) := RZ.cellv 2 rfl
      have u3 : wV.cell? ⟨gR, 3, none⟩ = some (.int .i64 0) := RZ.cellv 3 rfl
      have u4 : wV.cell? ⟨gR, 4, none⟩ = some (.int .i64 0) := RZ.cellv 4 rfl
      have u5 : wV.cell? ⟨gR, 5, none⟩ = some (.bool false) := RZ.cellv 5 rfl
      have q0 := RZ.frozen 0
      have q1 := RZ.frozen 1
      have q2 := RZ.frozen 2
      have q3 := RZ.frozen 3
      have q4 := RZ.frozen 4
      have q5 := RZ.frozen 5
      have HZ := Lib.hid (And.intro XV (And.intro (And.intro a1 (And.intro a2 (And.intro a3 a4))) (And.intro BV (And.intro hFV (And.intro (And.intro cTV hTV) RZ))))); clear XV BV hFV cTV RZ nR a1 a2 a3 a4
      go_wp2_with fail
      have BF := (((((HZ.out.2.2.2.2.2.setv 0 (.int .i64 cc'.g) rfl).setv 1 (.int .i64 cc'.f) rfl).setv 2 (.int .i64 cc'.pc) rfl).setv 3 (.int .i64 cc'.op) rfl).setv 4 (.int .i64 cc'.v) rfl).setv 5 (.bool true) (cs' := #[.int .i64 cc'.g, .int .i64 cc'.f, .int .i64 cc'.pc, .int .i64 cc'.op, .int .i64 cc'.v, .bool true]) rfl
      have cF := ((((((Chg.refl [gR] wV).setCell (p := ⟨gR, 0, none⟩) (.inl (by simp)) (.int .i64 cc'.g)).setCell (p := ⟨gR, 1, none⟩) (.inl (by simp)) (.int .i64 cc'.f)).setCell (p := ⟨gR, 2, none⟩) (.inl (by simp)) (.int .i64 cc'.pc)).setCell (p := ⟨gR, 3, none⟩) (.inl (by simp)) (.int .i64 cc'.op)).setCell (p := ⟨gR, 4, none⟩) (.inl (by simp)) (.int .i64 cc'.v)).setCell (p := ⟨gR, 5, none⟩) (.inl (by simp)) (.bool true)
      have ngR := HZ.out.1.ngc HZ.out.2.2.2.2.2
      have h6 : w.heap.size ≤ w6.heap.size := Nat.le_trans H5.out.2.2.2.2.1.size H6.out.2.2.2.2.1.size
      have hgR := H1.out.2.2.2
      rw [eX, eC]
      refine ⟨rfl, _, results_ct (P := Tryz.prog) (fn := Tryz.f91) rfl (by rfl) (by rfl) (ld_cm _ BF), a', by rw [ecc]; rfl, HZ.out.1.chg cF (fun j hj hx => ngR (by have e : j = gR := (by simpa using hj); rw [← e]; exact hx)), HZ.out.2.1.1, HZ.out.2.1.2.1, ⟨HZ.out.2.1.2.2.1.1, HZ.out.2.1.2.2.1.2.1⟩, HZ.out.2.1.2.2.2, fun j hj => ?_, a.gg g :: gR :: (gC :: a.gg g :: T), ?_, fun j hj => ?_⟩
      · rcases HZ.out.2.2.2.1 j hj with h | h
        · exact .inl h
        · exact .inr (Nat.le_trans h6 h)
      · exact (((H5.out.2.2.2.2.1.mono (by simp)).trans (H6.out.2.2.2.2.1.mono fun k hk => .inl (by simp at hk ⊢; exact .inl hk))).trans (HZ.out.2.2.2.2.1.1.mono fun k hk => .inl (by simp [hk]))).trans (cF.mono fun k hk => .inl (by simp at hk ⊢; exact .inr (.inl hk)))
      · rcases List.mem_cons.1 hj with e | hj
        · exact .inl (.inr (.inr ⟨g, hg, .inl e⟩))
        · rcases List.mem_cons.1 hj with e | hj
          · rw [e]; exact .inr hgR
          · rcases HZ.out.2.2.2.2.1.2 j hj with h | h
            · exact .inl h
            · rw [h]; exact .inr H6.out.2.2.2.2.2
theorem rdo_gen (w : World) (a : XAt) (X X2 : Mdl) (cc : ComA) (hflt : cc.flt = false) (B : Nat) (vs : List Value) (h : XM w a X) (PR : PrR w B a.vf vs X.fs) (hB : B ≤ w.heap.size) (g F pc : Nat) (l : List Ins) (i : Ins) (hg : g < X.n) (hn : X.n ≤ 1024) (hst : (X.gs g).st = 1) (hF : (X.gs g).f = (F : Nat)) (hpc : (X.gs g).pc = pc) (bpc : pc ≤ 1000000) (hl : X.fs[F]? = some l) (hi : l[pc]? = some i ∨ (pc = l.length ∧ i = ⟨0, 0, 0, 0⟩))
    (KS : ∀ (w' : World) (gc : Nat), XM w' a (pcX X g) → Blk w' gc 59 (comC ⟨(g : Nat), (X.gs g).f, (X.gs g).pc, (i.o : Nat), 0, false⟩).toArray → RSteps a (pcX X g) X2 g gc i ⟨(g : Nat), (X.gs g).f, (X.gs g).pc, (i.o : Nat), 0, false⟩ cc w') (hn2 : X.n ≤ X2.n) :
    Calls Tryz.prog 91 #[.pointer (some ⟨a.gX, 0, none⟩), .int .i64 (g : Nat)] w (RdoG a X X2 cc w) := by
  have h := rdo_end w a X X2 cc B vs h PR hB g F pc l i hg hn hst hF hpc bpc hl hi KS hn2
  have eX : endX X2 g cc = X2 := by unfold endX; rw [hflt]; rfl
  have eC : endC cc = cc := by unfold endC; rw [hflt]; rfl
  rw [eX, eC] at h
  exact h
end Go.Proofs.YtcpljjacamibeaaGreatDoor
