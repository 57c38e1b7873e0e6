/- Any instruction that touches no object and no timer: the model's Do; what the waiting places keep; a run of such a program, told by what holds of the model. -/
/- MachineWaits, plain: two goroutines that wake one another; how the run begins; the model that is stuck. -/
import Derived.Test.YthjplmminmhiaaaGreatDoorMl7
namespace Go.Proofs.YthjplmminmhiaaaGreatDoor
open Go.RowKit Go.Maps

theorem stepsW_ok {w : World} {a : XAt} {X : Mdl} {g : Nat} (h : XM w a (pcX X g)) (hg : g < X.n) (hn : X.n ≤ 1000) (hst : (X.gs g).st = 1) (W : WtX X) (gc : Nat) (i : Ins) (F : Fine X g i)
    (hc : Blk w gc 60 (comC ⟨(g : Nat), (X.gs g).f, (X.gs g).pc, (i.o : Nat), 0, false⟩).toArray) : RSteps a (pcX X g) (doW X g i) g gc i ⟨(g : Nat), (X.gs g).f, (X.gs g).pc, (i.o : Nat), 0, false⟩ (tellW X g i) w := by
  have e1 : (pcX X g).gs g = { X.gs g with pc := (X.gs g).pc + 1 } := updV_same _ _ _
  have hlen : ∀ a, a < 32 → (X.wt a).length ≤ 100000 := fun a ha => by have := W.len a ha; omega
  by_cases h11 : i.o = 11
  · have ha := F.aw (.inl h11)
    have hw : ∀ a, a < 32 → (g : Int) ∉ X.wt a := fun a ha hm => by
      obtain ⟨j, ej, -, hj⟩ := W.m a ha _ hm
      have e : g = j := by omega
      rw [← e, hst] at hj; omega
    have ex : doW X g i = { pcX X g with gs := updV (pcX X g).gs g { (pcX X g).gs g with st := 3 }, wt := updV (pcX X g).wt i.a ((pcX X g).wt i.a ++ [(g : Int)]) } := by
      unfold doW; rw [if_pos h11, e1]; simp [pcX, updV_updV]
    have et : tellW X g i = ⟨(g : Nat), (X.gs g).f, (X.gs g).pc, (i.o : Nat), 0, false⟩ := by unfold tellW tellX; rw [if_neg (by omega), if_neg (by omega)]
    rw [ex, et]
    exact ⟨.inr ⟨rplain_block w a _ h g gc i h11 hg F.a F.b, fun w' c' => rother_block w' a _ (h.chg0 c') g gc i h11 hg ha hw hlen _ (c'.blk hc (by simp))⟩⟩
  by_cases h12 : i.o = 12
  · have ha := F.aw (.inr h12)
    cases hx : X.wt i.a with
    | nil =>
      have ex : doW X g i = pcX X g := by unfold doW; rw [if_neg h11, if_pos h12, hx]; rfl
      have et : tellW X g i = { (⟨(g : Nat), (X.gs g).f, (X.gs g).pc, (i.o : Nat), 0, false⟩ : ComA) with v := -1 } := by unfold tellW; rw [if_pos h12, hx]
      rw [ex, et]
      exact ⟨.inr ⟨rplain_wake w a _ h g gc i h12 hg F.a F.b, fun w' c' => rother_wake_no w' a _ (h.chg0 c') g gc i h12 hg ha hx _ (c'.blk hc (by simp))⟩⟩
    | cons x r =>
      obtain ⟨j, rfl, hj, hs⟩ := W.m i.a ha x (by rw [hx]; simp)
      have hjg : j ≠ g := fun e => by rw [e, hst] at hs; omega
      have ej : (pcX X g).gs j = X.gs j := updV_other _ _ hjg
      have ex : doW X g i = { pcX X g with gs := updV (pcX X g).gs j { (pcX X g).gs j with st := 1 }, wt := updV (pcX X g).wt i.a r } := by
        unfold doW; rw [if_neg h11, if_pos h12, hx, ej]; rfl
      have et : tellW X g i = { (⟨(g : Nat), (X.gs g).f, (X.gs g).pc, (i.o : Nat), 0, false⟩ : ComA) with v := (j : Nat) } := by unfold tellW; rw [if_pos h12, hx]; rfl
      have hr : r.length ≤ 100000 := by have := hlen i.a ha; rw [hx, List.length_cons] at this; omega
      rw [ex, et]
      exact ⟨.inr ⟨rplain_wake w a _ h g gc i h12 hg F.a F.b, fun w' c' => rother_wake w' a _ (h.chg0 c') g gc i h12 hg ha j r hx hj hr _ (c'.blk hc (by simp))⟩⟩
  · have ex : doW X g i = doX X g i := by unfold doW; rw [if_neg h11, if_neg h12]
    have et : tellW X g i = tellX X g i := by unfold tellW; rw [if_neg h12]
    have ho : i.o = 0 ∨ i.o = 8 ∨ i.o = 9 ∨ i.o = 14 ∨ i.o = 16 ∨ i.o = 17 := by have := F.o; omega
    rw [ex, et]
    exact steps_ok h hg gc i ho F.a F.b (fun e => ⟨(F.b8 e).1, by have := (F.b8 e).2; omega⟩) F.c.1 F.c.2 hc
/-- Where a goroutine stands in the program. -/
def AtP (fs : List (List Ins)) (X : Mdl) (g : Nat) (i : Ins) : Prop := ∃ (F pc : Nat) (l : List Ins), (X.gs g).f = (F : Nat) ∧ (X.gs g).pc = (pc : Nat) ∧ pc ≤ 1000000 ∧ fs[F]? = some l ∧ (l[pc]? = some i ∨ (pc = l.length ∧ i = ⟨0, 0, 0, 0⟩)) ∧ l ≠ []
theorem do_fine (w : World) (a : XAt) (X : Mdl) (B : Nat) (vs : List Value) (h : XM w a X) (PR : PrR w B a.vf vs X.fs) (hB : B ≤ w.heap.size) (g : Nat) (i : Ins) (hg : g < X.n) (hn : X.n ≤ 255) (hst : (X.gs g).st = 1) (hA : AtP X.fs X g i) (W : WtX X) (Fn : Fine X g i) :
    Calls Tryz.prog 56 #[.pointer (some ⟨a.gX, 0, none⟩), .int .i64 (g : Nat)] w (FolPost a (doW X g i) X (.tuple #[.agg (comC (tellW X g i)).toArray, .int .i64 0]) w) := by
  obtain ⟨F, pc, l, hF, hpc, bpc, hl, hi, -⟩ := hA
  have hflt : (tellW X g i).flt = false := by unfold tellW; split <;> rfl
  exact (rdo_gen w a X (doW X g i) (tellW X g i) hflt B vs h PR hB g F pc l i hg (by omega) hst hF hpc bpc hl hi fun w' gc h' hc => stepsW_ok h' hg (by omega) hst W gc i Fn hc).mono fun e w2 h => h.fol
theorem WtX.same {X X2 : Mdl} (W : WtX X) (hw : X2.wt = X.wt) (hn : X.n ≤ X2.n) (hs : ∀ j, j < X.n → (X.gs j).st = 3 → (X2.gs j).st = 3) : WtX X2 :=
  ⟨fun a ha y hy => by
    rw [hw] at hy
    obtain ⟨j, e, hj, h3⟩ := W.m a ha y hy
    exact ⟨j, e, by omega, hs j hj h3⟩, by rw [hw]; exact W.nd, by rw [hw]; exact W.dj⟩
theorem doX_far {X : Mdl} {g : Nat} {i : Ins} : (doX X g i).wt = X.wt ∧ X.n ≤ (doX X g i).n ∧ (doX X g i).fs = X.fs ∧ ∀ j, j < X.n → j ≠ g → (doX X g i).gs j = X.gs j := by
  unfold doX
  split
  · exact ⟨rfl, Nat.le_refl _, rfl, fun j _ hj => updV_other _ _ hj⟩
  split
  · exact ⟨rfl, Nat.le_refl _, rfl, fun j _ hj => updV_other _ _ hj⟩
  split
  · exact ⟨rfl, Nat.le_refl _, rfl, fun j _ hj => updV_other _ _ hj⟩
  split
  · exact ⟨rfl, Nat.le_refl _, rfl, fun j _ hj => updV_other _ _ hj⟩
  split
  · split
    · exact ⟨rfl, Nat.le_refl _, rfl, fun j _ hj => updV_other _ _ hj⟩
    · exact ⟨rfl, Nat.le_refl _, rfl, fun j _ hj => updV_other _ _ hj⟩
  · exact ⟨rfl, Nat.le_succ _, rfl, fun j h1 hj => by
      show updV (updV X.gs g _) X.n _ j = _
      rw [updV_other _ _ (by omega), updV_other _ _ hj]⟩
/-- The waiting places stay in order. -/
theorem WtX.keep {X : Mdl} (W : WtX X) {g : Nat} {i : Ins} (hst : (X.gs g).st = 1) (hg : g < X.n) (F : Fine X g i) : WtX (doW X g i) := by
  have ng : ∀ {j}, (X.gs j).st = 3 → j ≠ g := fun h e => by rw [e, hst] at h; omega
  by_cases h11 : i.o = 11
  · have ha := F.aw (.inl h11)
    have ex : doW X g i = { X with gs := updV X.gs g { X.gs g with pc := (X.gs g).pc + 1, st := 3 }, wt := updV X.wt i.a (X.wt i.a ++ [(g : Int)]) } := by unfold doW; rw [if_pos h11]
    have hno : ∀ a, a < 32 → (g : Int) ∉ X.wt a := fun a ha hm => by
      obtain ⟨j, ej, -, hj⟩ := W.m a ha _ hm
      have e : g = j := by omega
      exact ng hj e.symm
    have old : ∀ a, a < 32 → ∀ y ∈ X.wt a, ∃ j : Nat, y = (j : Nat) ∧ j < X.n ∧ (updV X.gs g { X.gs g with pc := (X.gs g).pc + 1, st := 3 } j).st = 3 := fun a ha y hy => by
      obtain ⟨j, ej, hj, h3⟩ := W.m a ha y hy
      exact ⟨j, ej, hj, by rw [updV_other _ _ (ng h3)]; exact h3⟩
    have mem : ∀ a y, y ∈ updV X.wt i.a (X.wt i.a ++ [(g : Int)]) a → y ∈ X.wt a ∨ (a = i.a ∧ y = (g : Int)) := fun a y hy => by
      by_cases e : a = i.a
      · subst e
        rw [updV_same] at hy
        rcases List.mem_append.1 hy with h | h
        · exact .inl h
        · exact .inr ⟨rfl, List.mem_singleton.1 h⟩
      · rw [updV_other _ _ e] at hy; exact .inl hy
    rw [ex]
    refine ⟨fun a ha' y hy => ?_, fun a ha' => ?_, fun a b ha' hb hab y hy hy2 => ?_⟩
    · rcases mem a y hy with h | ⟨-, h⟩
      · exact old a ha' y h
      · exact ⟨g, h, hg, by show (updV X.gs g _ g).st = 3; rw [updV_same]⟩
    · show (updV X.wt i.a (X.wt i.a ++ [(g : Int)]) a).Nodup
      by_cases e : a = i.a
      · subst e
        rw [updV_same]
        exact List.nodup_append.2 ⟨W.nd _ ha', by simp, fun x hx y hy e => by
          have : y = (g : Int) := List.mem_singleton.1 hy
          subst this
          exact hno _ ha' (e ▸ hx)⟩
      · rw [updV_other _ _ e]; exact W.nd a ha'
    · rcases mem a y hy with h | ⟨e, h⟩
      · rcases mem b y hy2 with h2 | ⟨e2, h2⟩
        · exact W.dj a b ha' hb hab y h h2
        · exact hno a ha' (h2 ▸ h)
      · rcases mem b y hy2 with h2 | ⟨e2, h2⟩
        · exact hno b hb (h ▸ h2)
        · exact hab (e.trans e2.symm)
  by_cases h12 : i.o = 12
  · have ha := F.aw (.inr h12)
    cases hx : X.wt i.a with
    | nil =>
      have ex : doW X g i = { X with gs := updV X.gs g { X.gs g with pc := (X.gs g).pc + 1 } } := by unfold doW; rw [if_neg h11, if_pos h12, hx]
      rw [ex]
      exact W.same rfl (Nat.le_refl _) fun j _ h3 => by
        show (updV X.gs g _ j).st = 3
        rw [updV_other _ _ (ng h3)]; exact h3
    | cons x r =>
      obtain ⟨j, rfl, hj, hs⟩ := W.m i.a ha x (by rw [hx]; simp)
      have ex : doW X g i = { X with gs := updV (updV X.gs g { X.gs g with pc := (X.gs g).pc + 1 }) j { X.gs j with st := 1 }, wt := updV X.wt i.a r } := by unfold doW; rw [if_neg h11, if_pos h12, hx]; rfl
      have nd := W.nd i.a ha
      rw [hx, List.nodup_cons] at nd
      have mem : ∀ a, a < 32 → ∀ y, y ∈ updV X.wt i.a r a → y ∈ X.wt a ∧ y ≠ (j : Int) := fun a ha' y hy => by
        by_cases e : a = i.a
        · subst e
          rw [updV_same] at hy
          exact ⟨by rw [hx]; exact List.mem_cons_of_mem _ hy, fun e => nd.1 (e ▸ hy)⟩
        · rw [updV_other _ _ e] at hy
          exact ⟨hy, fun e2 => W.dj a i.a ha' ha e y hy (by rw [hx, e2]; simp)⟩
      rw [ex]
      refine ⟨fun a ha' y hy => ?_, fun a ha' => ?_, fun a b ha' hb hab y hy hy2 => W.dj a b ha' hb hab y (mem a ha' y hy).1 (mem b hb y hy2).1⟩
      · obtain ⟨h1, h2⟩ := mem a ha' y hy
        obtain ⟨k, ek, hk, h3⟩ := W.m a ha' y h1
        refine ⟨k, ek, hk, ?_⟩
        have hkj : k ≠ j := fun e => h2 (by rw [ek, e])
        show (updV (updV X.gs g _) j _ k).st = 3
        rw [updV_other _ _ hkj, updV_other _ _ (ng h3)]; exact h3
      · show (updV X.wt i.a r a).Nodup
        by_cases e : a = i.a
        · subst e; rw [updV_same]; exact nd.2
        · rw [updV_other _ _ e]; exact W.nd a ha'
  · have ex : doW X g i = doX X g i := by unfold doW; rw [if_neg h11, if_neg h12]
    rw [ex]
    obtain ⟨h1, h2, -, h4⟩ := doX_far (X := X) (g := g) (i := i)
    exact W.same h1 h2 fun j hj h3 => by rw [h4 j hj (ng h3)]; exact h3
/-- All that a run needs, told of the model alone. -/
theorem Ops.fine {P : Nat} {fs : List (List Ins)} {vf : Value} {vs : List Value} {wB : World} {J : Mdl → List ComA → Prop} {nx : Mdl → Nat → Ins} (PR : PrR wB wB.heap.size vf vs fs)
    (hsm : ∀ X cms, J X cms → X.n ≤ 255 ∧ WtX X ∧ X.fs = fs) (hnx : ∀ X cms g, J X cms → g < X.n → (X.gs g).st = 1 → AtP fs X g (nx X g) ∧ Fine X g (nx X g))
    (hk : ∀ X cms g, J X cms → g < X.n → (X.gs g).st = 1 → J (doW X g (nx X g)) (cms ++ [tellW X g (nx X g)])) : Ops P fs vf wB J nx (fun m q g i => cmtW m q g i) doW tellW := by
  refine ⟨fun X cms h => (hsm X cms h).1, fun m X hJ R hfs g hg hst => ?_, fun m X loc q g A p hvq B w' M => ?_, fun m X loc q g A => ?_, fun X g i => ?_, fun w a X cms g h hJ hfs hvf c hg hst => ?_, hk⟩
  · obtain ⟨⟨F, pc, l, hF, hpc, bpc, hl, hi, hl0⟩, hFn⟩ := hnx X m.cms g hJ (by rw [R.n]; exact hg) hst
    obtain ⟨gf, gp, -, -⟩ := R.g g hg
    have ho := hFn.o
    exact ⟨⟨F, pc, l, by rw [← gf]; exact hF, by rw [← gp]; exact hpc, bpc, by rw [hfs]; exact hl, hi, hl0⟩, by omega, by omega⟩
  · obtain ⟨hA, hFn⟩ := hnx X m.cms g A.hJ (by rw [A.R.n]; exact A.hg) A.st1
    obtain ⟨F, pc, l, -, hpc, bpc, -⟩ := hA
    exact m_commit_fine A (hsm X _ A.hJ).2.1 hFn ⟨pc, by rw [← (A.R.g g A.hg).2.1]; exact hpc, bpc⟩ p hvq B w' M
  · obtain ⟨hA, hFn⟩ := hnx X m.cms g A.hJ (by rw [A.R.n]; exact A.hg) A.st1
    exact after_fine A (hsm X _ A.hJ).2.1 hFn
  · unfold tellW tellX
    split <;> exact ⟨rfl, rfl⟩
  · obtain ⟨hA, hFn⟩ := hnx X cms g hJ hg hst
    obtain ⟨h1, h2, -⟩ := hsm X cms hJ
    exact do_fine w a X wB.heap.size vs h (by rw [hfs, hvf]; exact PR.chg0 c (Nat.le_refl _)) c.size g (nx X g) hg h1 hst (by rw [hfs]; exact hA) h2 hFn
end Go.Proofs.YthjplmminmhiaaaGreatDoor
namespace Go.Proofs.YthjplmminmhiaaaGreatDoor
open Go.RowKit Go.Maps

def wFirst (k : Nat) : List Ins := [⟨8, 1, 0, 0⟩, ⟨16, 0, k, 0⟩, ⟨11, 1, 0, 0⟩, ⟨12, 2, 0, 0⟩, ⟨17, 2, 0, 0⟩, ⟨0, 0, 0, 0⟩]
def wOther : List Ins := [⟨9, 0, 0, 0⟩, ⟨12, 1, 0, 0⟩, ⟨11, 2, 0, 0⟩, ⟨14, 1, 0, 0⟩]
def wNx (k : Nat) (X : Mdl) (g : Nat) : Ins := ((if g = 0 then wFirst k else wOther)[(X.gs g).pc.toNat]?).getD ⟨0, 0, 0, 0⟩
def WG0 (k n : Nat) (z : MdG) : Prop := ∃ pc cnt : Nat, z.f = 0 ∧ z.pc = pc ∧ z.cnt = cnt ∧ cnt ≤ k ∧ ((pc ≤ 5 ∧ (z.st = 1 ∨ z.st = 3)) ∨ z.st = 5) ∧ (n = 1 ↔ pc = 0) ∧ (n = 1 → z.st = 1)
def WG1 (z : MdG) : Prop := ∃ pc : Nat, z.f = 1 ∧ z.pc = pc ∧ pc ≤ 3 ∧ z.cnt = 0 ∧ (z.st = 1 ∨ z.st = 3)
theorem WG0.wake {k n : Nat} {z : MdG} (h : WG0 k n z) (h3 : z.st = 3) : WG0 k n { z with st := 1 } := by
  obtain ⟨pc, cnt, h1, h2, h4, h5, h6, h7, h8⟩ := h
  exact ⟨pc, cnt, h1, h2, h4, h5, .inl ⟨by omega, .inl rfl⟩, h7, fun _ => rfl⟩
theorem WG1.wake {z : MdG} (h : WG1 z) : WG1 { z with st := 1 } := by
  obtain ⟨pc, h1, h2, h4, h5, -⟩ := h
  exact ⟨pc, h1, h2, h4, h5, .inl rfl⟩
structure WJ (k : Nat) (X : Mdl) (cms : List ComA) : Prop where
  fs : X.fs = [wFirst k, wOther]
  W : WtX X
  n : X.n = 1 ∨ X.n = 2
  g0 : WG0 k X.n (X.gs 0)
  g1 : X.n = 2 → WG1 (X.gs 1)
/-- What Wake does to the goroutines. -/
theorem doW_wake {X : Mdl} (W : WtX X) {g : Nat} {i : Ins} (hi : i.o = 12) (ha : i.a < 32) (hst : (X.gs g).st = 1) : (doW X g i).fs = X.fs ∧ (doW X g i).n = X.n ∧ (doW X g i).gs g = { X.gs g with pc := (X.gs g).pc + 1 } ∧ ∀ j, j ≠ g → (doW X g i).gs j = X.gs j ∨ ((X.gs j).st = 3 ∧ (doW X g i).gs j = { X.gs j with st := 1 }) := by
  cases hx : X.wt i.a with
  | nil =>
    have ex : doW X g i = { X with gs := updV X.gs g { X.gs g with pc := (X.gs g).pc + 1 } } := by unfold doW; rw [if_neg (by omega), if_pos hi, hx]
    rw [ex]
    exact ⟨rfl, rfl, updV_same _ _ _, fun j hj => .inl (updV_other _ _ hj)⟩
  | cons x r =>
    obtain ⟨j, rfl, hj, hs⟩ := W.m i.a ha x (by rw [hx]; simp)
    have hjg : g ≠ j := fun e => by rw [← e, hst] at hs; omega
    have ex : doW X g i = { X with gs := updV (updV X.gs g { X.gs g with pc := (X.gs g).pc + 1 }) j { X.gs j with st := 1 }, wt := updV X.wt i.a r } := by unfold doW; rw [if_neg (by omega), if_pos hi, hx]; rfl
    rw [ex]
    refine ⟨rfl, rfl, ?_, fun j2 hj2 => ?_⟩
    · show updV (updV X.gs g _) j _ g = _
      rw [updV_other _ _ hjg, updV_same]
    · show updV (updV X.gs g _) j _ j2 = _ ∨ (_ ∧ updV (updV X.gs g _) j _ j2 = _)
      by_cases e : j2 = j
      · subst e; rw [updV_same]; exact .inr ⟨hs, rfl⟩
      · rw [updV_other _ _ e, updV_other _ _ hj2]; exact .inl rfl
section
variable {k : Nat} {X : Mdl} {cms : List ComA}
theorem WJ.at0 (h : WJ k X cms) (hst : (X.gs 0).st = 1) : ∃ pc cnt : Nat, (X.gs 0).f = 0 ∧ (X.gs 0).pc = pc ∧ (X.gs 0).cnt = cnt ∧ cnt ≤ k ∧ pc ≤ 5 ∧ (X.n = 1 ↔ pc = 0) ∧ (wFirst k)[pc]? = some (wNx k X 0) := by
  obtain ⟨pc, cnt, h1, h2, h4, h5, h6, h7, -⟩ := h.g0
  have h8 : pc ≤ 5 := by omega
  refine ⟨pc, cnt, h1, h2, h4, h5, h8, h7, ?_⟩
  unfold wNx
  rw [if_pos rfl, h2, Int.toNat_natCast]
  have : pc = 0 ∨ pc = 1 ∨ pc = 2 ∨ pc = 3 ∨ pc = 4 ∨ pc = 5 := by omega
  rcases this with rfl | rfl | rfl | rfl | rfl | rfl <;> rfl
theorem WJ.at1 (h : WJ k X cms) (h2 : X.n = 2) : ∃ pc : Nat, (X.gs 1).f = 1 ∧ (X.gs 1).pc = pc ∧ (X.gs 1).cnt = 0 ∧ pc ≤ 3 ∧ wOther[pc]? = some (wNx k X 1) := by
  obtain ⟨pc, h1, h3, h4, h5, -⟩ := h.g1 h2
  refine ⟨pc, h1, h3, h5, h4, ?_⟩
  unfold wNx
  rw [if_neg (by omega), h3, Int.toNat_natCast]
  have : pc = 0 ∨ pc = 1 ∨ pc = 2 ∨ pc = 3 := by omega
  rcases this with rfl | rfl | rfl | rfl <;> rfl
theorem WJ.nx (hk : k ≤ 200) (h : WJ k X cms) {g : Nat} (hg : g < X.n) (hst : (X.gs g).st = 1) : AtP [wFirst k, wOther] X g (wNx k X g) ∧ Fine X g (wNx k X g) := by
  have hn := h.n
  have : g = 0 ∨ (g = 1 ∧ X.n = 2) := by omega
  rcases this with rfl | ⟨rfl, h2⟩
  · obtain ⟨pc, cnt, f1, f2, f3, f4, f5, f6, f7⟩ := h.at0 hst
    refine ⟨⟨0, pc, wFirst k, f1, f2, by omega, rfl, .inl f7, by simp [wFirst]⟩, ?_⟩
    have hc : 0 ≤ (X.gs 0).cnt ∧ (X.gs 0).cnt ≤ 1000000 := by rw [f3]; omega
    have : pc = 0 ∨ pc = 1 ∨ pc = 2 ∨ pc = 3 ∨ pc = 4 ∨ pc = 5 := by omega
    rcases this with rfl | rfl | rfl | rfl | rfl | rfl <;> (have e := Option.some.inj f7; rw [← e]; exact ⟨by simp, by simp, by simp; try omega, by simp; try omega, by simp, hc⟩)
  · obtain ⟨pc, f1, f2, f3, f5, f7⟩ := h.at1 h2
    refine ⟨⟨1, pc, wOther, f1, f2, by omega, rfl, .inl f7, by simp [wOther]⟩, ?_⟩
    have hc : 0 ≤ (X.gs 1).cnt ∧ (X.gs 1).cnt ≤ 1000000 := by rw [f3]; omega
    have : pc = 0 ∨ pc = 1 ∨ pc = 2 ∨ pc = 3 := by omega
    rcases this with rfl | rfl | rfl | rfl <;> (have e := Option.some.inj f7; rw [← e]; exact ⟨by decide, by simp, by simp, by simp, by simp, hc⟩)
theorem WJ.keep (hk : k ≤ 200) (h : WJ k X cms) {g : Nat} (hg : g < X.n) (hst : (X.gs g).st = 1) (cms' : List ComA) : WJ k (doW X g (wNx k X g)) cms' := by
  obtain ⟨-, hF⟩ := h.nx hk hg hst
  have hW := h.W.keep hst hg hF
  have hn := h.n
  have : g = 0 ∨ (g = 1 ∧ X.n = 2) := by omega
  rcases this with rfl | ⟨rfl, h2⟩
  · obtain ⟨pc, cnt, f1, f2, f3, f4, f5, f6, f7⟩ := h.at0 hst
    have : pc = 0 ∨ pc = 1 ∨ pc = 2 ∨ pc = 3 ∨ pc = 4 ∨ pc = 5 := by omega
    rcases this with rfl | rfl | rfl | rfl | rfl | rfl <;> (have e := Option.some.inj f7; rw [← e] at hW hF ⊢; clear e)
    · have h1 : X.n = 1 := f6.2 rfl
      have ex : doW X 0 ⟨8, 1, 0, 0⟩ = { X with n := X.n + 1, gs := updV (updV X.gs 0 { X.gs 0 with pc := (X.gs 0).pc + 1 }) X.n ⟨1, 1, 0, 0, updV (fun _ => 0) 0 ((X.gs 0).sk 0)⟩ } := rfl
      rw [ex] at hW ⊢
      refine ⟨h.fs, hW, .inr (by show X.n + 1 = 2; omega), ?_, fun _ => ?_⟩
      · show WG0 k (X.n + 1) (updV (updV X.gs 0 _) X.n _ 0)
        rw [h1, updV_other _ _ (by omega), updV_same]
        exact ⟨1, cnt, f1, by show (X.gs 0).pc + 1 = _; rw [f2]; rfl, f3, f4, .inl ⟨by omega, .inl hst⟩, by omega, fun e => by omega⟩
      · show WG1 (updV (updV X.gs 0 _) X.n _ 1)
        rw [h1, updV_same]
        exact ⟨0, rfl, rfl, by omega, rfl, .inl rfl⟩
    · have ex : doW X 0 ⟨16, 0, k, 0⟩ = { X with gs := updV X.gs 0 { X.gs 0 with pc := (X.gs 0).pc + 1, cnt := 256 * ((0 : Nat) : Int) + (k : Int) } } := rfl
      rw [ex] at hW ⊢
      refine ⟨h.fs, hW, h.n, ?_, fun e => ?_⟩
      · show WG0 k X.n (updV X.gs 0 _ 0)
        rw [updV_same]
        exact ⟨2, k, f1, by show (X.gs 0).pc + 1 = _; rw [f2]; rfl, by show 256 * ((0 : Nat) : Int) + (k : Int) = k; omega, Nat.le_refl _, .inl ⟨by omega, .inl hst⟩, by omega, fun _ => hst⟩
      · exact h.g1 e
    · have ex : doW X 0 ⟨11, 1, 0, 0⟩ = { X with gs := updV X.gs 0 { X.gs 0 with pc := (X.gs 0).pc + 1, st := 3 }, wt := updV X.wt 1 (X.wt 1 ++ [((0 : Nat) : Int)]) } := rfl
      rw [ex] at hW ⊢
      refine ⟨h.fs, hW, h.n, ?_, fun e => ?_⟩
      · show WG0 k X.n (updV X.gs 0 _ 0)
        rw [updV_same]
        exact ⟨3, cnt, f1, by show (X.gs 0).pc + 1 = _; rw [f2]; rfl, f3, f4, .inl ⟨by omega, .inr rfl⟩, by omega, fun e => by omega⟩
      · exact h.g1 e
    · obtain ⟨w1, w2, w3, w4⟩ := doW_wake h.W (g := 0) (i := ⟨12, 2, 0, 0⟩) rfl (by decide) hst
      refine ⟨w1.trans h.fs, hW, by rw [w2]; exact h.n, ?_, fun e => ?_⟩
      · rw [w3, w2]
        exact ⟨4, cnt, f1, by show (X.gs 0).pc + 1 = _; rw [f2]; rfl, f3, f4, .inl ⟨by omega, .inl hst⟩, by omega, fun _ => hst⟩
      · rw [w2] at e
        rcases w4 1 (by omega) with e2 | ⟨-, e2⟩
        · rw [e2]; exact h.g1 e
        · rw [e2]; exact (h.g1 e).wake
    · by_cases hz : (X.gs 0).cnt = 0
      · have ex : doW X 0 ⟨17, 2, 0, 0⟩ = { X with gs := updV X.gs 0 { X.gs 0 with pc := (X.gs 0).pc + 1 } } := by
          show (if (X.gs 0).cnt = 0 then _ else _) = _
          rw [if_pos hz]
        rw [ex] at hW ⊢
        refine ⟨h.fs, hW, h.n, ?_, fun e => ?_⟩
        · show WG0 k X.n (updV X.gs 0 _ 0)
          rw [updV_same]
          exact ⟨5, cnt, f1, by show (X.gs 0).pc + 1 = _; rw [f2]; rfl, f3, f4, .inl ⟨by omega, .inl hst⟩, by omega, fun _ => hst⟩
        · exact h.g1 e
      · have ex : doW X 0 ⟨17, 2, 0, 0⟩ = { X with gs := updV X.gs 0 { X.gs 0 with pc := ((2 : Nat) : Int), cnt := (X.gs 0).cnt - 1 } } := by
          show (if (X.gs 0).cnt = 0 then _ else _) = _
          rw [if_neg hz]
        rw [ex] at hW ⊢
        refine ⟨h.fs, hW, h.n, ?_, fun e => ?_⟩
        · show WG0 k X.n (updV X.gs 0 _ 0)
          rw [updV_same]
          exact ⟨2, cnt - 1, f1, rfl, by show (X.gs 0).cnt - 1 = _; rw [f3] at hz ⊢; omega, by omega, .inl ⟨by omega, .inl hst⟩, by omega, fun _ => hst⟩
        · exact h.g1 e
    · have ex : doW X 0 ⟨0, 0, 0, 0⟩ = { X with gs := updV X.gs 0 { X.gs 0 with pc := (X.gs 0).pc + 1, st := 5 } } := rfl
      rw [ex] at hW ⊢
      refine ⟨h.fs, hW, h.n, ?_, fun e => ?_⟩
      · show WG0 k X.n (updV X.gs 0 _ 0)
        rw [updV_same]
        exact ⟨6, cnt, f1, by show (X.gs 0).pc + 1 = _; rw [f2]; rfl, f3, f4, .inr rfl, by omega, fun e => by omega⟩
      · exact h.g1 e
  · obtain ⟨pc, f1, f2, f3, f5, f7⟩ := h.at1 h2
    have : pc = 0 ∨ pc = 1 ∨ pc = 2 ∨ pc = 3 := by omega
    rcases this with rfl | rfl | rfl | rfl <;> (have e := Option.some.inj f7; rw [← e] at hW hF ⊢; clear e)
    · have ex : doW X 1 ⟨9, 0, 0, 0⟩ = { X with gs := updV X.gs 1 { X.gs 1 with pc := (X.gs 1).pc + 1 } } := rfl
      rw [ex] at hW ⊢
      refine ⟨h.fs, hW, h.n, ?_, fun e => ?_⟩
      · exact h.g0
      · show WG1 (updV X.gs 1 _ 1)
        rw [updV_same]
        exact ⟨1, f1, by show (X.gs 1).pc + 1 = _; rw [f2]; rfl, by omega, f3, .inl hst⟩
    · obtain ⟨w1, w2, w3, w4⟩ := doW_wake h.W (g := 1) (i := ⟨12, 1, 0, 0⟩) rfl (by decide) hst
      refine ⟨w1.trans h.fs, hW, by rw [w2]; exact h.n, ?_, fun e => ?_⟩
      · rw [w2]
        rcases w4 0 (by omega) with e2 | ⟨e3, e2⟩
        · rw [e2]; exact h.g0
        · rw [e2]; exact h.g0.wake e3
      · rw [w3]
        exact ⟨2, f1, by show (X.gs 1).pc + 1 = _; rw [f2]; rfl, by omega, f3, .inl hst⟩
    · have ex : doW X 1 ⟨11, 2, 0, 0⟩ = { X with gs := updV X.gs 1 { X.gs 1 with pc := (X.gs 1).pc + 1, st := 3 }, wt := updV X.wt 2 (X.wt 2 ++ [((1 : Nat) : Int)]) } := rfl
      rw [ex] at hW ⊢
      refine ⟨h.fs, hW, h.n, ?_, fun e => ?_⟩
      · exact h.g0
      · show WG1 (updV X.gs 1 _ 1)
        rw [updV_same]
        exact ⟨3, f1, by show (X.gs 1).pc + 1 = _; rw [f2]; rfl, by omega, f3, .inr rfl⟩
    · have ex : doW X 1 ⟨14, 1, 0, 0⟩ = { X with gs := updV X.gs 1 { X.gs 1 with pc := ((1 : Nat) : Int) } } := rfl
      rw [ex] at hW ⊢
      refine ⟨h.fs, hW, h.n, ?_, fun e => ?_⟩
      · exact h.g0
      · show WG1 (updV X.gs 1 _ 1)
        rw [updV_same]
        exact ⟨1, f1, rfl, by omega, f3, .inl hst⟩
/-- How the run stands. -/
theorem WJ.stV {m : Mac} {loc : Nat → Nat × Nat} (h : WJ k X cms) (R : Rel m X) (L : WF m loc) (C : Calm m) : stV m = 0 ∨ (stV m = 3 ∧ (∀ j, j < X.n → ¬ (X.gs j).st = 1) ∧ ∃ j, j < X.n ∧ (X.gs j).st = 3) := by
  have hn := R.n
  have hX := h.n
  have alive : ∃ j, j < X.n ∧ ((X.gs j).st = 1 ∨ (X.gs j).st = 3) := by
    rcases h.n with e | e
    · obtain ⟨pc, cnt, -, -, -, -, -, -, h1⟩ := h.g0
      exact ⟨0, by omega, .inl (h1 e)⟩
    · obtain ⟨pc, -, -, -, -, h1⟩ := h.g1 e
      exact ⟨1, by omega, h1⟩
  have at_ : ∀ j, j < m.ng → m.sts[j]? = some (((loc j).1 : Nat) : Int) ∧ (X.gs j).st = stX ((loc j).1 : Nat) := fun j hj => ⟨L.st j hj, R.st j _ (L.st j hj)⟩
  unfold Proofs.YthjplmminmhiaaaGreatDoor.stV
  rw [if_neg (by rw [C.out]; decide)]
  have hdone : ¬ cntI m.sts 5 = m.sts.length := fun e => by
    obtain ⟨j, hj, hs⟩ := alive
    rw [hn] at hj
    obtain ⟨h1, h2⟩ := at_ j hj
    have h5 := (List.count_eq_length.1 e) _ (List.mem_of_getElem? h1)
    rw [← h5] at h2
    have : stX 5 = 5 := by decide
    rw [this] at h2
    omega
  rw [if_neg hdone]
  by_cases hz : cntI m.sts 1 + cntI m.sts 2 + cntI m.sts 4 + m.tm.length = 0
  · rw [if_pos hz]
    have no : ∀ j, j < X.n → ¬ (X.gs j).st = 1 := fun j hj e => by
      rw [hn] at hj
      obtain ⟨h1, h2⟩ := at_ j hj
      have hm := List.count_pos_iff.2 (List.mem_of_getElem? h1)
      rcases L.kd j hj with ⟨e1, -⟩ | ⟨e1, -⟩ | e1 | e1
      · rw [e1] at hm
        have hm : 0 < cntI m.sts 1 := hm
        omega
      · rw [e1] at hm
        have hm : 0 < cntI m.sts 2 := hm
        omega
      · rw [e1, e] at h2; exact absurd h2 (by decide)
      · rw [e1, e] at h2; exact absurd h2 (by decide)
    refine .inr ⟨rfl, no, ?_⟩
    obtain ⟨j, hj, hs⟩ := alive
    exact ⟨j, hj, hs.resolve_left (no j hj)⟩
  · rw [if_neg hz]; exact .inl rfl
end
/-- As a run begins. -/
theorem GJ.start {P n b1 b2 : Nat} {fs : List (List Ins)} {J : Mdl → List ComA → Prop} {wB w' : World} {gW gA gX gg gs gl : Nat} {vg vf : Value} {p : MAt} {m : Mac} (h : FrS P n 0 (n * 64) b1 b2 fs vf wB w' gW gA gX gg gs gl vg p m) (h1 : 1 ≤ P) (hP : P ≤ 64)
    (hJ : ∀ X : Mdl, X.fs = fs → X.n = 1 → (X.gs 0).st = 1 → (X.gs 0).f = 0 → (X.gs 0).pc = 0 → (X.gs 0).cnt = 0 → X.wt = (fun _ => []) → J X []) :
    ∃ s, GJ P fs wB gW ((n * 64 : Nat) : Int) b1 b2 (.slice (some ⟨gA, 0, none⟩) 1 1) vf J 0 s w' := by
  have h0 := h
  obtain ⟨⟨pct, on, part, t, g, r, ht, hm⟩, vq, vt, vr, -, -⟩ := h0
  have hfs : m.fs = fs := by rw [hm]; rfl
  obtain ⟨a, X, B, R, -, hvf, -, hck⟩ := FrS.both h hfs
  have hng : m.ng = 1 := by rw [hm]; rfl
  have hsts : m.sts = [1] := by rw [hm]; rfl
  have hcms : m.cms = [] := by rw [hm]; rfl
  have hnp : m.np = P := by rw [hm]; rfl
  have hps : m.ps = fun _ => ⟨-1, 0, 0, false, 0, 0, 0⟩ := by rw [hm]; rfl
  have hrg : m.rg = updV (fun _ => rg0) 0 (rgPut rg0 ((0 : Nat) : Int)) := by rw [hm]; rfl
  have hgs : m.gs 0 = ⟨0, 0, 0, updV (fun _ => 0) 0 0, 0, 0⟩ := by rw [hm]; rfl
  have r0 : RingIs rg0 [] := ⟨rfl, by decide, rfl, fun j x h => by simp at h⟩
  obtain ⟨e1, e2, e3, -⟩ := R.g 0 (by omega)
  rw [hgs] at e1 e2 e3
  refine ⟨_, p, m, a, X, fun _ => (1, 0), 0, 0, B, R, ?_, ?_, ⟨?_, ?_, ?_⟩, hnp, hfs, ?_, by rw [hcms]; simp, rfl, ⟨vq, vt, vr⟩, hvf, hck⟩
  · show WFc m.ng m.np m.sts (fun q => (m.ps q).g) m.rg _
    rw [hng, hnp, hsts, hps, hrg]
    refine ⟨rfl, fun j hj => ?_, fun j _ => .inl ⟨rfl, by show 0 < P; omega⟩, fun q hq => ?_, fun q hq => .inl ⟨rfl, fun j _ e => by injection e with e; omega⟩⟩
    · have : j = 0 := by omega
      subst this; rfl
    · by_cases e : q = 0
      · subst e
        rw [updV_same]
        refine ⟨[0], r0.put 0 (by decide), by simp, fun j => ⟨fun hj => ⟨by have := List.mem_singleton.1 hj; omega, rfl⟩, fun hj => ?_⟩⟩
        have : j = 0 := by omega
        subst this; simp
      · rw [updV_other _ _ e]
        refine ⟨[], r0, by simp, fun j => ⟨fun hj => by simp at hj, fun hj => ?_⟩⟩
        have := hj.2
        injection this with _ h2
        omega
  · exact ⟨by rw [hnp]; exact hP, by rw [hm]; rfl, by rw [hm]; rfl, by rw [hm]; rfl, by rw [hm]; rfl, by rw [hm]; rfl, by rw [hm]; exact Int.le_refl _, by rw [hm]; rfl, by rw [hm]; exact ht, by rw [hsts, hng]; rfl, by omega, by rw [hcms]; simp⟩
  · intro q _
    rw [hps]
    exact ⟨rfl, ⟨0, rfl, by omega⟩, ⟨0, rfl, by omega⟩, 0, rfl, by omega⟩
  · exact ⟨0, by rw [hm]; rfl, by omega⟩
  · rw [hm]; rfl
  · rw [hcms]
    exact hJ X (R.fs.trans hfs) (R.n.trans hng) (by rw [R.st 0 1 (by rw [hsts]; rfl)]; decide) e1 e2 e3 (by rw [← R.w, hm]; rfl)
theorem WJ.start {k : Nat} (X : Mdl) (h1 : X.fs = [wFirst k, wOther]) (h2 : X.n = 1) (h3 : (X.gs 0).st = 1) (h4 : (X.gs 0).f = 0) (h5 : (X.gs 0).pc = 0) (h6 : (X.gs 0).cnt = 0) (h7 : X.wt = fun _ => []) : WJ k X [] :=
  ⟨h1, ⟨fun a _ y hy => by rw [h7] at hy; simp at hy, fun a _ => by rw [h7]; simp, fun a b _ _ _ y hy => by rw [h7] at hy; simp at hy⟩, .inl h2, ⟨0, 0, h4, h5, h6, by omega, .inl ⟨by omega, .inl h3⟩, ⟨fun _ => rfl, fun _ => h2⟩, fun _ => h3⟩, fun e => by omega⟩
theorem WJ.run {k : Nat} (hk : k ≤ 200) {P : Nat} {wB : World} {gW : Nat} {wo : Int} {b1 b2 : Nat} {va vf : Value} {vs : List Value} (PR : PrR wB wB.heap.size vf vs [wFirst k, wOther]) (h1 : 1 ≤ P) (hP : P ≤ 64) (N : Nat) (hN : N ≤ 400000) : RunJ gW P N (GJ P [wFirst k, wOther] wB gW wo b1 b2 va vf (WJ k)) :=
  GJ.run (Ops.fine PR (nx := wNx k) (fun X cms h => ⟨by have := h.n; omega, h.W, h.fs⟩) (fun X cms g h hg hst => h.nx hk hg hst) (fun X cms g h hg hst => h.keep hk hg hst _)) h1 hP N hN
end Go.Proofs.YthjplmminmhiaaaGreatDoor
