/- MachineGreat, plain: an instruction keeps the rings' invariant. -/
/- MachineWaits, plain: two goroutines that wake one another; how the run begins; the model that is stuck. -/
/- MachineGreat, plain: as its run begins. (Printed by wip/genzj.py.) -/
/- MachineGreat, plain: what holds of the model. -/
/- MachineGreat, plain: an instruction keeps what holds of the model; what was told as all are dead. -/
/- MachineYields, in plain Lean: the step. -/
/- MachineYields: the machine keeps the invariant, from its beginning on. -/
/- MachineYields: machine and model keep step, whatever the run. -/
/- MachineYields: goroutines that yield to one another on one P all come to their ends, each with all of its yields. (Printed by wip/genmi9.py.) -/
import Derived.Test.YtcpljjacamibeaaGreatDoorZfJ
import Derived.Test.YtcpljjacamibeaaGreatDoorMn3J
import Derived.Test.YtcpljjacamibeaaGreatDoorMi7J
import Derived.Test.YtcpljjacamibeaaGreatDoorMf5J
import Derived.Test.YtcpljjacamibeaaGreatDoorMe3J
namespace Go.Proofs.YtcpljjacamibeaaGreatDoor
set_option maxHeartbeats 16000000
set_option maxRecDepth 100000
open Go.RowKit Go.Maps
theorem pre_ps (m : Mac) (q g k : Nat) : ((preA m q g).ps k).g = (m.ps k).g ∧ (((preA m q g).ps k).row = (m.ps k).row ∨ (k = q ∧ ((preA m q g).ps k).row = (m.ps k).row + 1)) := by
  show (updV m.ps q _ k).g = _ ∧ ((updV m.ps q _ k).row = _ ∨ (_ ∧ (updV m.ps q _ k).row = _))
  by_cases e : k = q
  · subst e; rw [updV_same]; exact ⟨rfl, .inr ⟨rfl, rfl⟩⟩
  · rw [updV_other _ _ e]; exact ⟨rfl, .inl rfl⟩
theorem pre_gs (m : Mac) (q g j : Nat) : ((preA m q g).gs j).pc = if j = g then (m.gs g).pc + 1 else (m.gs j).pc := by
  show (updV m.gs g _ j).pc = _
  by_cases e : j = g
  · subst e; rw [updV_same, if_pos rfl]
  · rw [updV_other _ _ e, if_neg e]
section
variable {P : Nat} {fs : List (List Ins)} {J : Mdl → List ComA → Prop} {m : Mac} {X : Mdl} {loc : Nat → Nat × Nat} {q g : Nat} {i : Ins}
theorem GrZ.cmt (A : AtZ P fs J GrZ m X loc q g) (ho : i.o = 0 ∨ i.o = 4 ∨ i.o = 8 ∨ i.o = 14) (h0 : i.o = 8 ∨ i.o = 14 → g = 0) : GrZ (cmtZ m q g i) := by
  have h := A.z
  have hpg := A.pg
  have hg := A.hg
  have hq := A.hq
  have hpc : ∀ j, j < m.ng → 0 ≤ ((preA m q g).gs j).pc := fun j hj => by
    rw [pre_gs]
    have h1 := h.z5 j hj
    have h2 := h.z5 g hg
    split <;> omega
  have hup : ∀ j, 1 ≤ j → (m.gs j).pc ≤ ((preA m q g).gs j).pc ∧ (j = g → ((preA m q g).gs j).pc = (m.gs j).pc + 1 ∨ ∀ q', ((preA m q g).ps q').row = (m.ps q').row) := fun j _ => by
    rw [pre_gs]
    by_cases e : j = g
    · subst e; rw [if_pos rfl]; exact ⟨by omega, fun _ => .inl rfl⟩
    · rw [if_neg e]; exact ⟨Int.le_refl _, fun e2 => absurd e2 e⟩
  -- who goes away
  have off : ∀ (c : ComA), GrZ (finA (preA m q g) q g c 5) := fun c => by
    have ep : ∀ k, ((finA (preA m q g) q g c 5).ps k).g = -1 ∨ (k ≠ q ∧ (finA (preA m q g) q g c 5).ps k = m.ps k) := fun k => by
      show (updV (preA m q g).ps q _ k).g = -1 ∨ (k ≠ q ∧ updV (preA m q g).ps q _ k = m.ps k)
      by_cases e : k = q
      · subst e; rw [updV_same]; exact .inl rfl
      · rw [updV_other _ _ e]
        exact .inr ⟨e, by show updV m.ps q _ k = _; rw [updV_other _ _ e]⟩
    refine h.step (q := q) (g := g) (.inl hpg) rfl rfl rfl (fun k => ?_) hpc (fun j hj => ?_)
    · rcases ep k with e | ⟨-, e⟩
      · exact .inl e
      · exact .inr ⟨by rw [e], .inl (by rw [e])⟩
    · obtain ⟨a, b⟩ := hup j hj
      refine ⟨a, fun e => .inl ?_⟩
      show ((preA m q g).gs j).pc = _
      rw [pre_gs, if_pos e, e]
  -- who stays
  have stay : ∀ (y : Nat → GorA) (c : ComA), (∀ j, j < m.ng → 0 ≤ (y j).pc) → (∀ j, 1 ≤ j → (y j).pc = ((preA m q g).gs j).pc) → GrZ (finA { preA m q g with gs := y } q g c 2) := fun y c h5 h6 => by
    refine h.step (q := q) (g := g) (.inl hpg) rfl rfl rfl (fun k => .inr (pre_ps m q g k)) h5 (fun j hj => ?_)
    show (m.gs j).pc ≤ (y j).pc ∧ (j = g → (y j).pc = _ ∨ _)
    rw [h6 j hj]
    refine ⟨(hup j hj).1, fun e => .inl ?_⟩
    rw [pre_gs, if_pos e, e]
  by_cases h8 : i.o = 8 ∧ m.ng = 1024
  · have ec : cmtZ m q g i = finA (preA m q g) q g ⟨(g : Nat), (m.gs g).f, (m.gs g).pc, (i.o : Nat), 0, true⟩ 5 := by unfold cmtZ; rw [if_pos h8]
    rw [ec]; exact off _
  by_cases h4 : i.o = 4
  · have ec : cmtZ m q g i = finA (setGor (preA m q g) g { (preA m q g).gs g with st := updV (m.gs g).st i.a ((m.gs g).st i.b) }) q g ⟨(g : Nat), (m.gs g).f, (m.gs g).pc, (i.o : Nat), 0, false⟩ 2 := by unfold cmtZ; rw [if_neg h8, if_pos h4]
    rw [ec]
    have ey : ∀ j, (updV (preA m q g).gs g { (preA m q g).gs g with st := updV (m.gs g).st i.a ((m.gs g).st i.b) } j).pc = ((preA m q g).gs j).pc := fun j => by
      by_cases e : j = g
      · subst e; rw [updV_same]
      · rw [updV_other _ _ e]
    exact stay _ _ (fun j hj => by rw [ey]; exact hpc j hj) (fun j _ => ey j)
  have ec : cmtZ m q g i = Proofs.YtcpljjacamibeaaGreatDoor.cmt m q g i := by unfold cmtZ; rw [if_neg h8, if_neg h4]
  rw [ec]
  rcases ho with ho | ho | ho | ho
  · rw [cmt0 ho]; exact off _
  · exact absurd ho h4
  · have hg0 := h0 (.inl ho)
    subst hg0
    rw [cmt8 ho]
    obtain ⟨L, hL, hN, hm⟩ := A.h.rg q hq
    have h0L : 0 ∉ L := fun hm0 => by
      have := ((hm 0).1 hm0).2
      rw [A.l] at this
      injection this with e; omega
    obtain ⟨n16, nrow⟩ := h.z3 q hq hpg
    have hn15 : (m.rg q).n ≤ 15 := by
      rcases A.rr with e | e
      · omega
      · omega
    have hLn : L.length ≤ 15 := by rw [← hL.n]; exact hn15
    have hput := hL.put m.ng (by omega)
    have hps : ∀ k, k < m.np → ∀ g' : Nat, (m.ps k).g = (g' : Nat) → g' < m.ng := fun k hk g' e => by
      rcases A.h.rn k hk with ⟨e1, -⟩ | ⟨g0, hg0, e1, -⟩
      · have e1 : (m.ps k).g = -1 := e1
        omega
      · have e1 : (m.ps k).g = (g0 : Nat) := e1
        omega
    have er : (finA (spawnA (preA m q 0) q (i.a : Nat) ((m.gs 0).st i.b)) q 0 ⟨(0 : Nat), (m.gs 0).f, (m.gs 0).pc, (i.o : Nat), (m.ng : Nat), false⟩ 2).rg = updV m.rg q (rgPut (m.rg q) (m.ng : Nat)) := rfl
    have ey : ∀ j, ((finA (spawnA (preA m q 0) q (i.a : Nat) ((m.gs 0).st i.b)) q 0 ⟨(0 : Nat), (m.gs 0).f, (m.gs 0).pc, (i.o : Nat), (m.ng : Nat), false⟩ 2).gs j).pc = if j = m.ng then 0 else ((preA m q 0).gs j).pc := fun j => by
      show (updV (preA m q 0).gs m.ng _ j).pc = _
      by_cases e : j = m.ng
      · subst e; rw [updV_same, if_pos rfl]
      · rw [updV_other _ _ e, if_neg e]
    refine ⟨fun k hk => ?_, fun k hk L' hL' j hj => ?_, fun k hk e => ?_, fun k hk j hj e => ?_, fun j hj => ?_⟩
    · rw [er]
      by_cases e : k = q
      · subst e; rw [updV_same, hput.n, List.length_append, List.length_singleton]; omega
      · rw [updV_other _ _ e]; exact h.z1 k hk
    · rw [er] at hL'
      by_cases e : k = q
      · subst e
        rw [updV_same] at hL'
        rw [hL'.uniq hput] at hj
        by_cases hlt : j < L.length
        · rw [List.getElem?_append_left hlt] at hj
          exact absurd (List.mem_of_getElem? hj) h0L
        · rw [List.getElem?_append_right (by omega)] at hj
          have h1 := List.mem_of_getElem? hj
          have h2 := List.mem_singleton.1 h1
          omega
      · rw [updV_other _ _ e] at hL'
        exact h.z2 k hk L' hL' j hj
    · have e : ((preA m q 0).ps k).g = 0 := e
      show (updV m.rg q (rgPut (m.rg q) (m.ng : Nat)) k).n ≤ 16 ∧ ((updV m.rg q (rgPut (m.rg q) (m.ng : Nat)) k).n : Int) ≤ ((preA m q 0).ps k).row
      obtain ⟨a, b⟩ := pre_ps m q 0 k
      rw [a] at e
      obtain ⟨c, d⟩ := h.z3 k hk e
      by_cases e2 : k = q
      · subst e2
        have hr : ((preA m k 0).ps k).row = (m.ps k).row + 1 := by show (updV m.ps k _ k).row = _; rw [updV_same]
        rw [updV_same, hput.n, List.length_append, List.length_singleton, hr, ← hL.n]
        omega
      · rw [updV_other _ _ e2]
        refine ⟨c, ?_⟩
        rcases b with b | ⟨b, -⟩
        · rw [b]; exact d
        · exact absurd b e2
    · have e : ((preA m q 0).ps k).g = (j : Nat) := e
      rw [ey]
      show ((preA m q 0).ps k).row ≤ _
      obtain ⟨a, b⟩ := pre_ps m q 0 k
      have e3 : (m.ps k).g = (j : Nat) := a.symm.trans e
      have hjn := hps k hk j e3
      rw [if_neg (by omega), pre_gs, if_neg (by omega)]
      have := h.z4 k hk j hj e3
      rcases b with b | ⟨b, -⟩
      · rw [b]; exact this
      · rw [b, hpg] at e3
        omega
    · have hj : j < m.ng + 1 := hj
      rw [ey]
      by_cases e : j = m.ng
      · rw [if_pos e]; exact Int.le_refl _
      · rw [if_neg e]; exact hpc j (by omega)
  · have hg0 := h0 (.inr ho)
    have e14 : Proofs.YtcpljjacamibeaaGreatDoor.cmt m q g i = finA (setGor (preA m q g) g { (preA m q g).gs g with pc := (i.a : Nat) }) q g ⟨(g : Nat), (m.gs g).f, (m.gs g).pc, (i.o : Nat), 0, false⟩ 2 := by
      unfold Proofs.YtcpljjacamibeaaGreatDoor.cmt; rw [if_neg (by omega), if_neg (by omega), if_neg (by omega), if_pos ho]
    rw [e14]
    refine stay (updV (preA m q g).gs g { (preA m q g).gs g with pc := (i.a : Nat) }) _ (fun j hj => ?_) (fun j hj => ?_)
    · by_cases e : j = g
      · subst e; rw [updV_same]; show (0 : Int) ≤ (i.a : Nat); omega
      · rw [updV_other _ _ e]; exact hpc j hj
    · rw [updV_other _ _ (by omega)]
end
def wFirst (k : Nat) : List Ins := [⟨8, 1, 0, 0⟩, ⟨16, 0, k, 0⟩, ⟨11, 1, 0, 0⟩, ⟨12, 2, 0, 0⟩, ⟨17, 2, 0, 0⟩, ⟨0, 0, 0, 0⟩]
def wOther : List Ins := [⟨9, 0, 0, 0⟩, ⟨12, 1, 0, 0⟩, ⟨11, 2, 0, 0⟩, ⟨14, 1, 0, 0⟩]
def wNx (k : Nat) (X : Mdl) (g : Nat) : Ins := ((if g = 0 then wFirst k else wOther)[(X.gs g).pc.toNat]?).getD ⟨0, 0, 0, 0⟩
def WG0 (k n : Nat) (z : MdG) : Prop := ∃ pc cnt : Nat, z.f = 0 ∧ z.pc = pc ∧ z.cnt = cnt ∧ cnt ≤ k ∧ ((pc ≤ 5 ∧ (z.st = 1 ∨ z.st = 3)) ∨ z.st = 5) ∧ (n = 1 ↔ pc = 0) ∧ (n = 1 → z.st = 1)
def WG1 (z : MdG) : Prop := ∃ pc : Nat, z.f = 1 ∧ z.pc = pc ∧ pc ≤ 3 ∧ z.cnt = 0 ∧ (z.st = 1 ∨ z.st = 3)
structure WJ (k : Nat) (X : Mdl) (cms : List ComA) : Prop where
  fs : X.fs = [wFirst k, wOther]
  W : WtX X
  n : X.n = 1 ∨ X.n = 2
  g0 : WG0 k X.n (X.gs 0)
  g1 : X.n = 2 → WG1 (X.gs 1)
section
variable {k : Nat} {X : Mdl} {cms : List ComA}
end
theorem GZ.start {P n G b1 b2 : Nat} {fs : List (List Ins)} {J : Mdl → List ComA → Prop} {wB w' : World} {gW gA gX gg gs gl : Nat} {vg vf : Value} {p : MAt} {m : Mac} (h : FrS P n G (n * 64) b1 b2 fs vf wB w' gW gA gX gg gs gl vg p m) (h1 : 1 ≤ P) (hP : P ≤ 64)
    (hJ : ∀ X : Mdl, X.fs = fs → X.n = 1 → (X.gs 0).st = 1 → (X.gs 0).f = 0 → (X.gs 0).pc = 0 → (X.gs 0).cnt = 0 → X.wt = (fun _ => []) → (X.gs 0).sk = (fun _ => 0) → J X []) :
    ∃ s, GZ P fs wB gW ((n * 64 : Nat) : Int) b1 b2 (.slice (some ⟨gA, 0, none⟩) 1 1) vf J GrZ 0 s w' := by
  have h0 := h
  obtain ⟨⟨pct, on, part, t, g, r, ht, hm⟩, vq, vt, vr, -, -⟩ := h0
  have hfs : m.fs = fs := by rw [hm]; rfl
  obtain ⟨a, X, B, R, -, hvf, -, hck, hgA⟩ := FrS.both h hfs
  have hng : m.ng = 1 := by rw [hm]; rfl
  have hsts : m.sts = [1] := by rw [hm]; rfl
  have hcms : m.cms = [] := by rw [hm]; rfl
  have hnp : m.np = P := by rw [hm]; rfl
  have hps : m.ps = fun _ => ⟨-1, 0, 0, false, 0, 0, 0⟩ := by rw [hm]; rfl
  have hrg : m.rg = updV (fun _ => rg0) 0 (rgPut rg0 ((0 : Nat) : Int)) := by rw [hm]; rfl
  have hgs : m.gs 0 = ⟨0, 0, 0, updV (fun _ => 0) 0 0, 0, 0⟩ := by rw [hm]; rfl
  have r0 : RingIs rg0 [] := ⟨rfl, by decide, rfl, fun j x h => by simp at h⟩
  obtain ⟨e1, e2, e3, e4⟩ := R.g 0 (by omega)
  rw [hgs] at e1 e2 e3 e4
  refine ⟨_, p, m, a, X, fun _ => (1, 0), 0, 0, B, R, ?_, ?_, ⟨?_, ?_, ?_⟩, hnp, hfs, ?_, by rw [hcms]; simp, rfl, ⟨vq, vt, vr⟩, hvf, hck, by rw [hgA], ?_⟩
  · show WFc m.ng m.np m.sts (fun q => (m.ps q).g) m.rg _
    rw [hng, hnp, hsts, hps, hrg]
    refine ⟨rfl, fun j hj => ?_, fun j _ => .inl ⟨rfl, by show 0 < P; omega⟩, fun q hq => ?_, fun q hq => .inl ⟨rfl, fun j _ e => by injection e with e; omega⟩⟩
    · have : j = 0 := by omega
      subst this; rfl
    · by_cases e : q = 0
      · subst e
        rw [updV_same]
        refine ⟨[0], r0.put 0 (by decide), by simp, fun j => ⟨fun hj => ⟨by have := List.mem_singleton.1 hj; omega, rfl⟩, fun hj => ?_⟩⟩
        have : j = 0 := by omega
        subst this; simp
      · rw [updV_other _ _ e]
        refine ⟨[], r0, by simp, fun j => ⟨fun hj => by simp at hj, fun hj => ?_⟩⟩
        have := hj.2
        injection this with _ h2
        omega
  · exact ⟨by rw [hnp]; exact hP, by rw [hm]; rfl, by rw [hm]; rfl, by rw [hm]; rfl, by rw [hm]; rfl, by rw [hm]; rfl, by rw [hm]; exact Int.le_refl _, by rw [hm]; rfl, by rw [hm]; exact ht, by rw [hsts, hng]; rfl, by omega, by rw [hcms]; simp, fun x => by rw [hm]; rfl⟩
  · intro q _
    rw [hps]
    exact ⟨rfl, ⟨0, rfl, by omega⟩, ⟨0, rfl, by omega⟩, 0, rfl, by omega⟩
  · exact ⟨0, by rw [hm]; rfl, by omega⟩
  · rw [hm]; rfl
  · rw [hcms]
    exact hJ X (R.fs.trans hfs) (R.n.trans hng) (by rw [R.st 0 1 (by rw [hsts]; rfl)]; decide) e1 e2 e3 (by rw [← R.w, hm]; rfl) (by rw [e4]; funext j; show updV (fun _ => (0 : Int)) 0 0 j = 0; unfold updV; split <;> rfl)
  · refine ⟨fun q hq => ?_, fun q hq L hL i hi => ?_, fun q hq e => ?_, fun q hq g hg e => ?_, fun j hj => ?_⟩
    · rw [hrg]
      by_cases e : q = 0
      · subst e; rw [updV_same]; decide
      · rw [updV_other _ _ e]; decide
    · rw [hrg] at hL
      by_cases e : q = 0
      · subst e
        rw [updV_same] at hL
        have h1 := hL.uniq (r0.put 0 (by decide))
        rw [h1] at hi ⊢
        have := (List.getElem?_eq_some_iff.1 hi).1
        simp at this ⊢
        omega
      · rw [updV_other _ _ e] at hL
        rw [hL.uniq r0] at hi
        simp at hi
    · rw [hps] at e
      have e : (-1 : Int) = 0 := e
      omega
    · rw [hps] at e
      have e : (-1 : Int) = (g : Nat) := e
      omega
    · have : j = 0 := by omega
      subst this
      rw [hgs]
      exact Int.le_refl _
def gFirst : List Ins := [⟨8, 1, 0, 0⟩, ⟨14, 0, 0, 0⟩]
def gEach (k : Nat) : List Ins := (List.range k).reverse.map (fun i => ⟨4, i, 15, 0⟩) ++ [⟨0, 0, 0, 0⟩]
def gFs (k : Nat) : List (List Ins) := [gFirst, gEach k]
def gNx (k : Nat) (X : Mdl) (g : Nat) : Ins := (((gFs k).getD (if g = 0 then 0 else 1) [])[(X.gs g).pc.toNat]?).getD ⟨0, 0, 0, 0⟩
structure GG (k n j : Nat) (z : MdG) : Prop where
  f : z.f = ((if j = 0 then 0 else 1 : Nat) : Int)
  cnt : z.cnt = 0
  st : z.st = 1 ∨ z.st = 5
  p0 : j = 0 → z.st = 1 → z.pc = 0 ∨ z.pc = 1
  p0d : j = 0 → z.st = 5 → n = 1024
  p1 : 1 ≤ j → z.st = 1 → ∃ pc : Nat, z.pc = pc ∧ pc ≤ k
structure GrJ (k : Nat) (X : Mdl) (cms : List ComA) : Prop where
  fs : X.fs = gFs k
  n1 : 1 ≤ X.n
  nk : X.n ≤ 1024
  g : ∀ j, j < X.n → GG k X.n j (X.gs j)
  sp : (cms.filter (fun c => decide (c.op = 8) && !c.flt)).map (·.v) = (List.range (X.n - 1)).map (fun i => ((i + 1 : Nat) : Int))
  fl : cms.countP (fun c => c.flt) = if (X.gs 0).st = 5 then 1 else 0
  fg : ∀ c ∈ cms, c.flt = true → c.g = 0 ∧ c.op = 8
section
variable {k : Nat} {X : Mdl} {cms : List ComA}
theorem GrJ.next (hk : k ≤ 4) (h : GrJ k X cms) {g : Nat} (hg : g < X.n) (hst : (X.gs g).st = 1) : ∃ pc : Nat, (X.gs g).pc = pc ∧
    ((g = 0 ∧ pc = 0 ∧ gNx k X g = ⟨8, 1, 0, 0⟩) ∨ (g = 0 ∧ pc = 1 ∧ gNx k X g = ⟨14, 0, 0, 0⟩) ∨
     (1 ≤ g ∧ pc < k ∧ gNx k X g = ⟨4, k - 1 - pc, 15, 0⟩ ∧ (gEach k)[pc]? = some (gNx k X g)) ∨ (1 ≤ g ∧ pc = k ∧ gNx k X g = ⟨0, 0, 0, 0⟩ ∧ (gEach k)[pc]? = some (gNx k X g))) := by
  have G := h.g g hg
  by_cases e : g = 0
  · subst e
    rcases G.p0 rfl hst with hp | hp
    · exact ⟨0, hp, .inl ⟨rfl, rfl, by unfold gNx; rw [hp]; rfl⟩⟩
    · exact ⟨1, hp, .inr (.inl ⟨rfl, rfl, by unfold gNx; rw [hp]; rfl⟩)⟩
  · obtain ⟨pc, hp, hpk⟩ := G.p1 (by omega) hst
    refine ⟨pc, hp, .inr (.inr ?_)⟩
    have h1 : gNx k X g = ((gEach k)[pc]?).getD ⟨0, 0, 0, 0⟩ := by
      unfold gNx; rw [hp, Int.toNat_natCast, if_neg e]; rfl
    have : k = 0 ∨ k = 1 ∨ k = 2 ∨ k = 3 ∨ k = 4 := by omega
    have hp' : pc = 0 ∨ pc = 1 ∨ pc = 2 ∨ pc = 3 ∨ pc = 4 := by omega
    rcases this with rfl | rfl | rfl | rfl | rfl <;> rcases hp' with rfl | rfl | rfl | rfl | rfl <;> first | omega | (exact .inl ⟨by omega, by omega, h1, by rw [h1]; rfl⟩) | (exact .inr ⟨by omega, rfl, h1, by rw [h1]; rfl⟩)
theorem GrJ.fine (hk : k ≤ 4) (h : GrJ k X cms) {g : Nat} (hg : g < X.n) (hst : (X.gs g).st = 1) : AtP (gFs k) X g (gNx k X g) ∧ FineZ X g (gNx k X g) := by
  obtain ⟨pc, hp, hc⟩ := h.next hk hg hst
  have G := h.g g hg
  have hcnt : 0 ≤ (X.gs g).cnt ∧ (X.gs g).cnt ≤ 1000000 := by rw [G.cnt]; omega
  have hf := G.f
  rcases hc with ⟨e0, rfl, e⟩ | ⟨e0, rfl, e⟩ | ⟨e0, hlt, e, hi⟩ | ⟨e0, hlt, e, hi⟩
  · rw [if_pos e0] at hf
    refine ⟨⟨0, 0, gFirst, hf, hp, by omega, rfl, .inl (by rw [e]; rfl), by simp [gFirst]⟩, ?_⟩
    rw [e]
    exact ⟨by simp, by simp, by simp, fun _ => by decide, by simp, hcnt⟩
  · rw [if_pos e0] at hf
    refine ⟨⟨0, 1, gFirst, hf, hp, by omega, rfl, .inl (by rw [e]; rfl), by simp [gFirst]⟩, ?_⟩
    rw [e]
    exact ⟨by simp, by simp, by simp, by simp, by simp, hcnt⟩
  · rw [if_neg (by omega)] at hf
    refine ⟨⟨1, pc, gEach k, hf, hp, by omega, rfl, .inl hi, by simp [gEach]⟩, ?_⟩
    rw [e]
    exact ⟨by simp, by show k - 1 - pc < 256; omega, by simp, by simp, fun _ => ⟨by show k - 1 - pc < 16; omega, by show 15 < 16; omega⟩, hcnt⟩
  · rw [if_neg (by omega)] at hf
    refine ⟨⟨1, pc, gEach k, hf, hp, by omega, rfl, .inl hi, by simp [gEach]⟩, ?_⟩
    rw [e]
    exact ⟨by simp, by simp, by simp, by simp, by simp, hcnt⟩
end
theorem GrJ.start {k : Nat} (X : Mdl) (h1 : X.fs = gFs k) (h2 : X.n = 1) (h3 : (X.gs 0).st = 1) (h4 : (X.gs 0).f = 0) (h5 : (X.gs 0).pc = 0) (h6 : (X.gs 0).cnt = 0) : GrJ k X [] :=
  ⟨h1, by omega, by omega, fun j hj => by
    have : j = 0 := by omega
    subst this
    exact ⟨h4, h6, .inl h3, fun _ _ => .inl h5, fun _ e => by omega, fun e => by omega⟩, by rw [h2]; rfl, by rw [if_neg (by omega)]; rfl, fun c hc => by simp at hc⟩
section
variable {k : Nat} {X : Mdl} {cms : List ComA}
theorem GrJ.upd (h : GrJ k X cms) {g : Nat} (hg : g < X.n) (hst : (X.gs g).st = 1) (z : MdG) (hz : GG k X.n g z) (c : ComA) (h8 : (decide (c.op = 8) && !c.flt) = false) (hf : c.flt = true ↔ (g = 0 ∧ z.st = 5)) (hg8 : c.flt = true → c.g = 0 ∧ c.op = 8) :
    GrJ k { X with gs := updV X.gs g z } (cms ++ [c]) := by
  refine ⟨h.fs, h.n1, h.nk, fun j hj => ?_, ?_, ?_, fun c' hc' => ?_⟩
  · show GG k X.n j (updV X.gs g z j)
    by_cases e : j = g
    · subst e; rw [updV_same]; exact hz
    · rw [updV_other _ _ e]; exact h.g j hj
  · show _ = (List.range (X.n - 1)).map _
    rw [List.filter_append, List.map_append, h.sp, List.filter_cons, h8]
    simp
  · show _ = if (updV X.gs g z 0).st = 5 then 1 else 0
    rw [List.countP_append, h.fl, List.countP_singleton]
    by_cases e : g = 0
    · subst e
      rw [updV_same, hst, if_neg (by decide), Nat.zero_add]
      by_cases e5 : z.st = 5
      · rw [if_pos e5, if_pos (hf.2 ⟨rfl, e5⟩)]
      · rw [if_neg e5, if_neg (fun x => e5 (hf.1 x).2)]
    · rw [updV_other _ _ (fun x => e x.symm), if_neg (fun x => e (hf.1 x).1), Nat.add_zero]
  · rcases List.mem_append.1 hc' with e | e
    · exact h.fg c' e
    · rw [List.mem_singleton.1 e]; exact hg8
theorem GrJ.keep (hk : k ≤ 4) (h : GrJ k X cms) {g : Nat} (hg : g < X.n) (hst : (X.gs g).st = 1) : GrJ k (doZ X g (gNx k X g)) (cms ++ [tellZ X g (gNx k X g)]) := by
  obtain ⟨pc, hp, hc⟩ := h.next hk hg hst
  have G := h.g g hg
  have hnk := h.nk
  have ne : ¬ (1 : Int) = 5 := by decide
  rcases hc with ⟨e0, rfl, e⟩ | ⟨e0, rfl, e⟩ | ⟨e0, hlt, e, -⟩ | ⟨e0, hlt, e, -⟩
  · subst e0
    rw [e]
    by_cases hn : X.n = 1024
    · have ex : doZ X 0 ⟨8, 1, 0, 0⟩ = { X with gs := updV X.gs 0 { X.gs 0 with pc := (X.gs 0).pc + 1, st := 5 } } := by unfold doZ; rw [if_pos ⟨rfl, hn⟩]
      have et : tellZ X 0 ⟨8, 1, 0, 0⟩ = ⟨((0 : Nat) : Int), (X.gs 0).f, (X.gs 0).pc, ((8 : Nat) : Int), 0, true⟩ := by unfold tellZ; rw [if_pos ⟨rfl, hn⟩]
      rw [ex, et]
      exact h.upd hg hst { X.gs 0 with pc := (X.gs 0).pc + 1, st := 5 } ⟨G.f, G.cnt, .inr rfl, fun _ h1 => absurd (show (5 : Int) = 1 from h1) (by decide), fun _ _ => hn, fun e1 => by omega⟩ ⟨((0 : Nat) : Int), (X.gs 0).f, (X.gs 0).pc, ((8 : Nat) : Int), 0, true⟩ rfl ⟨fun _ => ⟨rfl, rfl⟩, fun _ => rfl⟩ (fun _ => ⟨rfl, rfl⟩)
    · have ex : doZ X 0 ⟨8, 1, 0, 0⟩ = { X with n := X.n + 1, gs := updV (updV X.gs 0 { X.gs 0 with pc := (X.gs 0).pc + 1 }) X.n ⟨1, ((1 : Nat) : Int), 0, 0, updV (fun _ => 0) 0 ((X.gs 0).sk 0)⟩ } := by
        unfold doZ; rw [if_neg (fun x => hn x.2), if_neg (by decide)]; rfl
      have et : tellZ X 0 ⟨8, 1, 0, 0⟩ = ⟨((0 : Nat) : Int), (X.gs 0).f, (X.gs 0).pc, ((8 : Nat) : Int), (X.n : Nat), false⟩ := by unfold tellZ; rw [if_neg (fun x => hn x.2)]; rfl
      rw [ex, et]
      obtain ⟨G2, hG2⟩ : ∃ G2, G2 = updV (updV X.gs 0 { X.gs 0 with pc := (X.gs 0).pc + 1 }) X.n ⟨1, ((1 : Nat) : Int), 0, 0, updV (fun _ => 0) 0 ((X.gs 0).sk 0)⟩ := ⟨_, rfl⟩
      have n0 : ¬ (0 : Nat) = X.n := by omega
      have g0 : G2 0 = { X.gs 0 with pc := (X.gs 0).pc + 1 } := by rw [hG2, updV_other _ _ n0, updV_same]
      have gn : G2 X.n = ⟨1, ((1 : Nat) : Int), 0, 0, updV (fun _ => 0) 0 ((X.gs 0).sk 0)⟩ := by rw [hG2, updV_same]
      have gj : ∀ j, j ≠ 0 → j ≠ X.n → G2 j = X.gs j := fun j e1 e2 => by rw [hG2, updV_other _ _ e2, updV_other _ _ e1]
      rw [← hG2]
      refine ⟨h.fs, by show 1 ≤ X.n + 1; omega, by show X.n + 1 ≤ 1024; omega, fun j hj => ?_, ?_, ?_, fun c' hc' => ?_⟩
      · have hj : j < X.n + 1 := hj
        show GG k (X.n + 1) j (G2 j)
        by_cases e2 : j = X.n
        · subst e2
          rw [gn]
          exact ⟨by rw [if_neg (by omega)], rfl, .inl rfl, fun e3 => by omega, fun e3 => by omega, fun _ _ => ⟨0, rfl, by omega⟩⟩
        by_cases e1 : j = 0
        · subst e1
          rw [g0]
          exact ⟨G.f, G.cnt, G.st, fun _ _ => .inr (by show (X.gs 0).pc + 1 = 1; rw [hp]; rfl), fun _ h5 => absurd (hst.symm.trans h5) ne, fun e3 => by omega⟩
        · rw [gj j e1 e2]
          have Gj := h.g j (by omega)
          exact ⟨Gj.f, Gj.cnt, Gj.st, fun e3 => absurd e3 e1, fun e3 => absurd e3 e1, Gj.p1⟩
      · show _ = (List.range (X.n + 1 - 1)).map _
        have hs : X.n + 1 - 1 = X.n - 1 + 1 := by have := h.n1; omega
        have hv : X.n - 1 + 1 = X.n := by have := h.n1; omega
        rw [List.filter_append, List.map_append, h.sp, hs, List.range_succ, List.map_append]
        congr 1
        show _ = [((X.n - 1 + 1 : Nat) : Int)]
        rw [hv]; rfl
      · show _ = if (G2 0).st = 5 then 1 else 0
        rw [List.countP_append, h.fl, g0, hst]
        rfl
      · rcases List.mem_append.1 hc' with e | e
        · exact h.fg c' e
        · rw [List.mem_singleton.1 e]; intro h; exact absurd h Bool.false_ne_true
  · subst e0
    rw [e]
    have ex : doZ X 0 ⟨14, 0, 0, 0⟩ = { X with gs := updV X.gs 0 { X.gs 0 with pc := ((0 : Nat) : Int) } } := by
      unfold doZ; rw [if_neg (fun x => absurd x.1 (by simp)), if_neg (by decide)]; rfl
    have et : tellZ X 0 ⟨14, 0, 0, 0⟩ = ⟨((0 : Nat) : Int), (X.gs 0).f, (X.gs 0).pc, ((14 : Nat) : Int), 0, false⟩ := by unfold tellZ; rw [if_neg (fun x => absurd x.1 (by simp))]; rfl
    rw [ex, et]
    exact h.upd hg hst { X.gs 0 with pc := ((0 : Nat) : Int) } ⟨G.f, G.cnt, G.st, fun _ _ => .inl rfl, fun _ h5 => absurd (hst.symm.trans h5) ne, fun e1 => by omega⟩ ⟨((0 : Nat) : Int), (X.gs 0).f, (X.gs 0).pc, ((14 : Nat) : Int), 0, false⟩ rfl ⟨fun h => absurd h Bool.false_ne_true, fun h5 => absurd (hst.symm.trans h5.2) ne⟩ (fun h => absurd h Bool.false_ne_true)
  · rw [e]
    have ex : doZ X g ⟨4, k - 1 - pc, 15, 0⟩ = { X with gs := updV X.gs g { X.gs g with pc := (X.gs g).pc + 1, sk := updV (X.gs g).sk (k - 1 - pc) ((X.gs g).sk 15) } } := by
      unfold doZ; rw [if_neg (fun x => absurd x.1 (by simp)), if_pos rfl]
    have et : tellZ X g ⟨4, k - 1 - pc, 15, 0⟩ = ⟨(g : Nat), (X.gs g).f, (X.gs g).pc, ((4 : Nat) : Int), 0, false⟩ := by unfold tellZ; rw [if_neg (fun x => absurd x.1 (by simp))]; rfl
    rw [ex, et]
    exact h.upd hg hst { X.gs g with pc := (X.gs g).pc + 1, sk := updV (X.gs g).sk (k - 1 - pc) ((X.gs g).sk 15) } ⟨G.f, G.cnt, G.st, fun e3 => by omega, fun e3 => by omega, fun _ _ => ⟨pc + 1, by show (X.gs g).pc + 1 = _; rw [hp]; rfl, by omega⟩⟩ ⟨(g : Nat), (X.gs g).f, (X.gs g).pc, ((4 : Nat) : Int), 0, false⟩ rfl ⟨fun h => absurd h Bool.false_ne_true, fun h5 => by have := h5.1; omega⟩ (fun h => absurd h Bool.false_ne_true)
  · rw [e]
    have ex : doZ X g ⟨0, 0, 0, 0⟩ = { X with gs := updV X.gs g { X.gs g with pc := (X.gs g).pc + 1, st := 5 } } := by
      unfold doZ; rw [if_neg (fun x => absurd x.1 (by simp)), if_neg (by decide)]; rfl
    have et : tellZ X g ⟨0, 0, 0, 0⟩ = ⟨(g : Nat), (X.gs g).f, (X.gs g).pc, ((0 : Nat) : Int), 0, false⟩ := by unfold tellZ; rw [if_neg (fun x => absurd x.1 (by simp))]; rfl
    rw [ex, et]
    exact h.upd hg hst { X.gs g with pc := (X.gs g).pc + 1, st := 5 } ⟨G.f, G.cnt, .inr rfl, fun e3 => by omega, fun e3 => by omega, fun _ h5 => absurd (show (5 : Int) = 1 from h5) (by decide)⟩ ⟨(g : Nat), (X.gs g).f, (X.gs g).pc, ((0 : Nat) : Int), 0, false⟩ rfl ⟨fun h => absurd h Bool.false_ne_true, fun h5 => by have := h5.1; omega⟩ (fun h => absurd h Bool.false_ne_true)
theorem GrJ.stV {m : Mac} {loc : Nat → Nat × Nat} (h : GrJ k X cms) (R : Rel m X) (L : WF m loc) (C : Calm m) : stV m = 0 ∨ (stV m = 1 ∧ ∀ j, j < X.n → (X.gs j).st = 5) := by
  have hn := R.n
  have hsl := L.sl
  unfold Proofs.YtcpljjacamibeaaGreatDoor.stV
  rw [if_neg (by rw [C.out]; decide)]
  by_cases hd : cntI m.sts 5 = m.sts.length
  · rw [if_pos hd]
    refine .inr ⟨rfl, fun j hj => ?_⟩
    rw [hn] at hj
    have h1 := L.st j hj
    have h5 := (List.count_eq_length.1 hd) _ (List.mem_of_getElem? h1)
    rw [R.st j _ h1, ← h5]
    decide
  · rw [if_neg hd, if_neg]
    · exact .inl rfl
    · intro hz
      apply hd
      unfold cntI
      rw [List.count_eq_length]
      intro x hx
      obtain ⟨j, hj, rfl⟩ := List.mem_iff_getElem.1 hx
      rw [hsl] at hj
      have h1 := L.st j hj
      have hs := (h.g j (by omega)).st
      rw [R.st j _ h1] at hs
      have hm := List.count_pos_iff.2 (List.mem_of_getElem? h1)
      have e : m.sts[j]'(by omega) = (((loc j).1 : Nat) : Int) := by
        rw [List.getElem?_eq_getElem (by omega)] at h1
        exact Option.some.inj h1
      rw [e]
      rcases L.kd j hj with ⟨e1, -⟩ | ⟨e1, -⟩ | e1 | e1
      · rw [e1] at hm
        have hm : 0 < cntI m.sts 1 := hm
        omega
      · rw [e1] at hm
        have hm : 0 < cntI m.sts 2 := hm
        omega
      · rw [e1] at hs; exact absurd hs (by decide)
      · rw [e1]; rfl
theorem GrJ.done (h : GrJ k X cms) (hd : ∀ j, j < X.n → (X.gs j).st = 5) : X.n = 1024 ∧ cms.countP (fun c => c.flt) = 1 ∧ (cms.filter (fun c => decide (c.op = 8) && !c.flt)).map (·.v) = (List.range 1023).map (fun i => ((i + 1 : Nat) : Int)) := by
  have h0 := hd 0 (by have := h.n1; omega)
  have hn := (h.g 0 (by have := h.n1; omega)).p0d rfl h0
  refine ⟨hn, by rw [h.fl, if_pos h0], ?_⟩
  rw [h.sp, hn]
theorem GrJ.run {P : Nat} {wB : World} {gW : Nat} {wo : Int} {b1 b2 : Nat} {va vf : Value} {vs : List Value} (hk : k ≤ 4) (PR : PrR wB wB.heap.size vf vs (gFs k)) (h1 : 1 ≤ P) (hP : P ≤ 64) (N : Nat) (hN : N ≤ 400000) : RunJ gW P N (GZ P (gFs k) wB gW wo b1 b2 va vf (GrJ k) GrZ) :=
  GZ.run (OpsZ.fine PR (nx := gNx k) (fun X cms h => ⟨h.nk, h.fs⟩) (fun X cms g h hg hst => h.fine hk hg hst) (fun X cms g h hg hst => h.keep hk hg hst)
    (fun m X loc hJ R W hZ j hj => by have := hZ.z1 j hj; omega)
    (fun m q hZ hq hp => hZ.no q hp)
    (fun m m1 loc loc1 q g vic hZ W W1 hq S => hZ.srv W hq S)
    (fun m X loc q g hJ R W hZ hq hg hp hr hn => hZ.away W hq hp hr (fun h1 => by
      have hst : (X.gs g).st = 1 := by
        rw [WF.stX R W hg]
        rcases W.rn q hq with ⟨e, -⟩ | ⟨g0, -, e, e2⟩
        · have e : (m.ps q).g = -1 := e
          omega
        · have e : (m.ps q).g = (g0 : Nat) := e
          have eg : g = g0 := by omega
          subst eg
          have := (e2 g hg).2 rfl
          rw [this]; rfl
      obtain ⟨pc, hpc, hle⟩ := (hJ.g g (by rw [R.n]; exact hg)).p1 h1 hst
      have := (R.g g hg).2.1
      omega))
    (fun m X loc q g A => by
      have hst := A.st1
      obtain ⟨pc, hp, hc⟩ := A.hJ.next hk (by rw [A.R.n]; exact A.hg) hst
      rcases hc with ⟨e0, -, e⟩ | ⟨e0, -, e⟩ | ⟨e0, -, e, -⟩ | ⟨e0, -, e, -⟩
      · exact GrZ.cmt A (by rw [e]; decide) (fun _ => e0)
      · exact GrZ.cmt A (by rw [e]; decide) (fun _ => e0)
      · exact GrZ.cmt A (by rw [e]; simp) (fun h => by rw [e] at h; simp at h)
      · exact GrZ.cmt A (by rw [e]; decide) (fun h => by rw [e] at h; simp at h)))
    h1 hP N hN
end
section
variable {k y s i : Nat} {m : Mac} {L : List Nat}
end
section
variable {k y s i : Nat} {m : Mac} {g : Nat} {L : List Nat}
end
def YJ (k y : Nat) (wB : World) (gW : Nat) (wo : Int) (b1 b2 : Nat) (va vf : Value) (i : Nat) (s : Int) (w : World) : Prop :=
  ∃ p m a X Q cP cV, BothM wB w gW (1 : Nat) wo b1 b2 va cP cV p m a X ∧ Rel m X ∧ YI k y i i m Q ∧ s = stV m ∧ (p.vq = .slice none 0 0 ∧ p.vtm = .slice none 0 0 ∧ p.vfr = .slice none 0 0) ∧ a.vf = vf ∧ a.ck = 0
theorem OwnG.rd {α : Type} {f : α → List Value} {sz : Nat} {E : TypeId} {w : World} {v : Value} {xs : List α} (hf : ∀ x, (f x).length = sz) (h : OwnG f sz E w v xs) : RdG f sz w w.heap.size v xs := by
  obtain ⟨A, c, rfl⟩ := h.slice
  refine ⟨⟨A, c, rfl⟩, fun A' n c' e i x hx => ?_⟩
  injection e with e1 e2 e3
  obtain ⟨g, hA, hc, -, -, -, hl⟩ := h.cell hf hx
  refine ⟨g, 0, e1.symm.trans hA, hl, fun j u hu => ?_⟩
  rw [Nat.zero_add]
  exact hc j u hu
theorem rdG_blk {α : Type} {f : α → List Value} {sz : Nat} {E : TypeId} {w : World} {g n c : Nat} {cs : Array Value} {xs : List α} (hf : ∀ x, (f x).length = sz) (B : Blk w g E cs) (hcs : cs = (xs.flatMap f).toArray) (hn : n = xs.length) : RdG f sz w w.heap.size (.slice (some ⟨g, 0, none⟩) n c) xs := by
  subst hcs hn
  refine ⟨⟨_, _, rfl⟩, fun A' n c' e i x hx => ?_⟩
  injection e with e1 e2 e3
  refine ⟨g, 0, e1.symm, B.lt, fun j u hu => ?_⟩
  have hj : j < sz := by have := (List.getElem?_eq_some_iff.1 hu).1; rw [hf] at this; exact this
  rw [Nat.zero_add]
  refine B.cellv _ ?_
  rw [List.getElem?_toArray, flat_at hf hx hj]
  exact hu
theorem PrR.two {w : World} {gF c : Nat} {v1 v2 : Value} {l1 l2 : List Ins} (BF : Blk w gF 34 #[v1, v2]) (R1 : RdG insC 4 w w.heap.size v1 l1) (R2 : RdG insC 4 w w.heap.size v2 l2) : PrR w w.heap.size (.slice (some ⟨gF, 0, none⟩) 2 c) [v1, v2] [l1, l2] := by
  obtain ⟨A1, c1, e1⟩ := R1.ex
  obtain ⟨A2, c2, e2⟩ := R2.ex
  refine ⟨⟨⟨_, _, rfl⟩, fun A n c' e i y hy => ?_, fun y hy => ?_⟩, rfl, fun i u l h1 h2 => ?_⟩
  · injection e with e3 e4 e5
    refine ⟨gF, 0, e3.symm, BF.lt, ?_⟩
    rw [Nat.zero_add]
    exact BF.cellv _ (by rw [← hy]; exact List.getElem?_toArray)
  · rcases List.mem_cons.1 hy with rfl | hy
    · rw [e1]; rfl
    · rw [List.mem_singleton.1 hy, e2]; rfl
  · match i with
    | 0 =>
      have e3 : v1 = u := by simpa using h1
      have e4 : l1 = l := by simpa using h2
      subst e3 e4; exact R1
    | 1 =>
      have e3 : v2 = u := by simpa using h1
      have e4 : l2 = l := by simpa using h2
      subst e3 e4; exact R2
    | i + 2 => simp at h1
instance decOkIns (G F S : Nat) (i : Ins) : Decidable (okIns G F S i) := by unfold okIns; infer_instance
def dnC (n : Nat) (f : Nat → Nat) : Array Value := ((List.range n).map fun j => Value.int .i64 ((f j : Nat) : Int)).toArray
def YcRel (w7 : World) (k gd : Nat) (cms : List ComA) (gk : Nat) (idx : Value) (w : World) : Prop := ∃ j : Nat, gk + j = cms.length + 1 ∧ j ≤ cms.length ∧ idx = .int .i64 (j : Nat) ∧ Blk w gd 3 (dnC (k + 1) (yds (cms.take j))) ∧ Chg [] w7 w
def YeRel (w8 : World) (k : Nat) (gk : Nat) (idx : Value) (w : World) : Prop := ∃ j : Nat, gk + j = k + 2 ∧ 1 ≤ j ∧ j ≤ k + 1 ∧ idx = .int .i64 (j : Nat) ∧ Chg [] w8 w
def YfRel (w1 : World) (k : Nat) (gk : Nat) (v idx : Value) (w : World) : Prop := ∃ (i : Nat) (A : Option Addr) (c : Nat), gk + i = k + 1 ∧ i ≤ k ∧ idx = .int .i64 (i : Nat) ∧ v = .slice A i c ∧ OwnG insC 4 33 w (.slice A i c) (List.replicate i ⟨8, 1, 0, 0⟩) ∧ (∀ b ∈ fpv (.slice A i c), w1.heap.size ≤ b) ∧ Chg [] w1 w
end Go.Proofs.YtcpljjacamibeaaGreatDoor
