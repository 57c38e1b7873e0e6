/- MachineYields, in plain Lean: each commit keeps it. -/
/- MachineYields, in plain Lean: the step. -/
/- MachineYields: the machine keeps the invariant, from its beginning on. -/
/- MachineYields: machine and model keep step, whatever the run. -/
import Derived.Test.YthjplmminmhiaaaGreatDoorMi7J
import Derived.Test.YthjplmminmhiaaaGreatDoorMf5J
namespace Go.Proofs.YthjplmminmhiaaaGreatDoor
open Go.RowKit Go.Maps

/-- Which instruction comes next. -/
def yIns (k y g : Nat) (x : GorA) : Ins :=
  if g = 0 then (if x.pc = (k : Nat) then ⟨0, 0, 0, 0⟩ else ⟨8, 1, 0, 0⟩)
  else if x.pc = 0 then ⟨16, 0, y, 0⟩ else if x.pc = 1 then ⟨9, 0, 0, 0⟩ else if x.pc = 2 then ⟨17, 1, 0, 0⟩ else ⟨0, 0, 0, 0⟩
theorem Calm.more {m m' : Mac} (C : Calm m) (h1 : m'.np = m.np) (h2 : m'.tm = m.tm) (h3 : m'.made = m.made) (h4 : m'.out = m.out) (h5 : m'.ph = m.ph) (h6 : m'.force = m.force) (h7 : m'.A = m.A) (h8 : m'.gT = m.gT) (h9 : m'.sts.length = m'.ng) (h10 : m'.ng ≤ 1024) (h11 : m'.cms.length ≤ 100000000) : Calm m' :=
  ⟨by rw [h1]; exact C.P, by rw [h2]; exact C.tm, by rw [h3]; exact C.made, by rw [h4]; exact C.out, by rw [h5]; exact C.h0, by rw [h6]; exact C.fo, by rw [h5]; exact C.cy, by rw [h7]; exact C.lv, by rw [h8]; exact C.T, h9, h10, h11⟩
theorem cmg_snoc {cms : List ComA} {n n' : Nat} (h : ∀ c ∈ cms, ∃ g : Nat, c.g = (g : Nat) ∧ g < n) (hn : n ≤ n') {c : ComA} {g : Nat} (hc : c.g = (g : Nat)) (hg : g < n) : ∀ c' ∈ cms ++ [c], ∃ g : Nat, c'.g = (g : Nat) ∧ g < n' := by
  intro c' h'
  rcases List.mem_append.1 h' with h' | h'
  · obtain ⟨g', e, l⟩ := h c' h'
    exact ⟨g', e, by omega⟩
  · rw [List.mem_singleton.1 h']
    exact ⟨g, hc, by omega⟩
theorem yds_other {cms : List ComA} {c : ComA} {g j : Nat} (hc : c.g = (g : Nat)) (hj : j ≠ g) : yds (cms ++ [c]) j = yds cms j := by
  rw [yds_snoc, if_neg (by rw [hc]; omega)]; rfl
theorem yds_op {cms : List ComA} {c : ComA} {j : Nat} (hop : c.op ≠ 9) : yds (cms ++ [c]) j = yds cms j := by
  rw [yds_snoc, if_neg (fun h => hop h.1)]; rfl
section
variable {k y s i : Nat} {m : Mac} {g : Nat} {L : List Nat} (h : YBusy k y s i m g L)
include h
/-- It goes on. -/
theorem YBusy.on (hi : i < 100000000) (x : GorA) (c : ComA) (hc : c.g = (g : Nat)) (hop : c.op ≠ 9) (hx : GOk k y m.ng g x (yds m.cms g) (g ∈ g :: L)) (hrow : (m.ps 0).row + 1 = if g = 0 then x.pc else x.pc % 2) (m' : Mac)
    (e : m' = { m with gs := updV m.gs g x, ps := updV m.ps 0 { m.ps 0 with row := (m.ps 0).row + 1 }, cms := m.cms ++ [c] }) : YBusy k y s (i + 1) m' g L := by
  have cc := h.c
  obtain ⟨n1, n2, n3, n4⟩ := h.ne
  subst e
  obtain ⟨pk, hpk, bpk⟩ := cc.pk
  have hgs : ∀ j, j ≠ g → updV m.gs g x j = m.gs j := fun j hj => updV_other _ _ hj
  refine ⟨⟨cc.C.more rfl rfl rfl rfl rfl rfl rfl rfl cc.C.sl cc.C.ng (by simp [cc.cml]; omega), cc.np, cc.fs, cc.n1, cc.nk, cc.nd, cc.lt, cc.ql, fun j hj => ?_, cmg_snoc cc.cmg (Nat.le_refl _) hc n3, fun j hj => ?_, by simp [cc.cml], by dsimp only; rw [updV_same]; exact cc.wk, by dsimp only; rw [updV_same]; exact cc.al, ⟨pk, by dsimp only; rw [updV_same]; exact hpk, bpk⟩, cc.sp, cc.ck⟩, h.r, by dsimp only; rw [updV_same]; exact h.pg, h.st, fun j hj => ?_, ?_⟩
  · dsimp only
    rw [yds_op hop]
    by_cases e : j = g
    · subst e; rw [updV_same]; exact hx
    · rw [hgs j e]; exact cc.gor j hj
  · dsimp only
    rw [yds_op hop]; exact cc.new j hj
  · dsimp only
    rw [hgs j (fun e => n1 (e ▸ hj))]
    exact h.re j hj
  · dsimp only
    rw [updV_same, updV_same]
    exact hrow
/-- It is put away, state t: behind the others, or dead. -/
theorem YBusy.off (hi : i < 100000000) (x : GorA) (c : ComA) (hc : c.g = (g : Nat)) (t : Int) (Q : List Nat) (r : RgR) (hr : RingIs r Q) (hQn : Q.Nodup) (hQ : ∀ j, j ≠ g → (j ∈ Q ↔ j ∈ L)) (hQl : Q.length ≤ L.length + 1) (ht : t = if g ∈ Q then 1 else 5) (hop : c.op ≠ 9 ∨ g ∈ Q) (hx : GOk k y m.ng g x (yds (m.cms ++ [c]) g) (g ∈ Q)) (hre : g ∈ Q → Rests g x) (row' : Int) (m' : Mac)
    (e : m' = { m with sts := m.sts.set g t, gs := updV m.gs g x, ps := updV m.ps 0 { m.ps 0 with row := row', g := -1 }, rg := updV m.rg 0 r, cms := m.cms ++ [c] }) : YIdle k y s (i + 1) m' Q := by
  have cc := h.c
  obtain ⟨n1, n2, n3, n4⟩ := h.ne
  have hsl := cc.C.sl
  subst e
  obtain ⟨pk, hpk, bpk⟩ := cc.pk
  have hql := cc.ql
  rw [List.length_cons] at hql
  have hgs : ∀ j, j ≠ g → updV m.gs g x j = m.gs j := fun j hj => updV_other _ _ hj
  refine ⟨⟨cc.C.more rfl rfl rfl rfl rfl rfl rfl rfl (by dsimp only; rw [List.length_set]; exact hsl) cc.C.ng (by simp [cc.cml]; omega), cc.np, cc.fs, cc.n1, cc.nk, hQn, fun j hj => ?_, by dsimp only; omega, fun j hj => ?_, cmg_snoc cc.cmg (Nat.le_refl _) hc n3, fun j hj => ?_, by simp [cc.cml], by dsimp only; rw [updV_same]; exact cc.wk, by dsimp only; rw [updV_same]; exact cc.al, ⟨pk, by dsimp only; rw [updV_same]; exact hpk, bpk⟩, cc.sp, cc.ck⟩, by dsimp only; rw [updV_same]; exact hr, by dsimp only; rw [updV_same], fun j hj => ?_, fun j hj => ?_⟩
  · by_cases e : j = g
    · subst e; exact n3
    · exact n4 j ((hQ j e).1 hj)
  · dsimp only
    by_cases e : j = g
    · subst e; rw [updV_same]; exact hx
    · rw [hgs j e, yds_other hc e]
      have := cc.gor j hj
      have e2 : (j ∈ g :: L) = (j ∈ Q) := by rw [hQ j e]; simp [e]
      rw [e2] at this
      exact this
  · dsimp only
    have hj' : m.ng ≤ j := hj
    rw [yds_other hc (by omega)]; exact cc.new j hj
  · dsimp only
    rw [List.getElem?_set]
    by_cases e : g = j
    · subst e; rw [if_pos rfl, if_pos (by omega), ht]
    · have e' : ¬ j = g := fun h => e h.symm
      rw [if_neg e, h.st j hj, if_neg e']
      simp only [hQ j e']
  · dsimp only
    by_cases e : j = g
    · subst e; rw [updV_same]; exact hre hj
    · rw [hgs j e]; exact h.re j ((hQ j e).1 hj)
end
end Go.Proofs.YthjplmminmhiaaaGreatDoor
namespace Go.Proofs.YthjplmminmhiaaaGreatDoor
open Go.RowKit Go.Maps

theorem nodup_snoc {L : List Nat} {x : Nat} (h : L.Nodup) (hx : x ∉ L) : (L ++ [x]).Nodup := by
  rw [List.nodup_append]
  refine ⟨h, by simp, fun a ha b hb => ?_⟩
  rw [List.mem_singleton.1 hb]
  exact fun e => hx (e ▸ ha)
section
variable {k y s i : Nat} {m : Mac} {L : List Nat}
/-- One more is begun. -/
theorem YBusy.spawn (h : YBusy k y s i m 0 L) (hi : i < 100000000) (hk : k ≤ 100) (hpc : (m.gs 0).pc ≠ (k : Nat)) : YBusy k y s (i + 1) (cmt m 0 0 ⟨8, 1, 0, 0⟩) 0 (L ++ [m.ng]) := by
  have cc := h.c
  obtain ⟨n1, n2, n3, n4⟩ := h.ne
  have hsl := cc.C.sl
  have hql := cc.ql
  rw [List.length_cons] at hql
  obtain ⟨pk, hpk, bpk⟩ := cc.pk
  have hnL : m.ng ∉ L := fun hm => absurd (n4 _ hm) (by omega)
  have hn0 : m.ng ≠ 0 := by have := cc.n1; omega
  have g0 := cc.gor 0 n3
  unfold GOk at g0
  obtain ⟨gst, g0⟩ := g0
  have hal : (m.gs 0).f = 0 ∧ (m.gs 0).cnt = 0 ∧ (m.gs 0).pc + 1 = (m.ng : Nat) := by
    rcases g0 with ⟨-, a, b, ⟨-, c⟩ | ⟨c, -⟩⟩ | ⟨a, -⟩
    · exact ⟨a, b, c⟩
    · exact absurd (by simp) c
    · exact absurd rfl a
  obtain ⟨hf, hcnt, hpn⟩ := hal
  have hngk : m.ng < k + 1 := by have := cc.nk; omega
  obtain ⟨x, hx⟩ : ∃ x : GorA, x = { m.gs 0 with pc := (m.gs 0).pc + 1 } := ⟨_, rfl⟩
  obtain ⟨z, hz⟩ : ∃ z : GorA, z = ⟨1, 0, 0, fun _ => 0, 0, 0⟩ := ⟨_, rfl⟩
  obtain ⟨c, hc⟩ : ∃ c : ComA, c = ⟨((0 : Nat) : Int), (m.gs 0).f, (m.gs 0).pc, ((8 : Nat) : Int), (m.ng : Nat), false⟩ := ⟨_, rfl⟩
  have e : cmt m 0 0 ⟨8, 1, 0, 0⟩ = { m with sts := m.sts ++ [1], ng := m.ng + 1, gs := updV (updV m.gs 0 x) m.ng z, ps := updV m.ps 0 { m.ps 0 with row := (m.ps 0).row + 1 }, rg := updV m.rg 0 (rgPut (m.rg 0) (m.ng : Nat)), cms := m.cms ++ [c] } := by
    have hz' : (⟨((1 : Nat) : Int), 0, 0, updV (fun _ => 0) 0 ((m.gs 0).st 0), 0, 0⟩ : GorA) = z := by
      rw [hz, gst 0]
      congr 1
      funext j
      unfold updV
      split <;> rfl
    rw [← hz', hx, hc]
    rfl
  have hcg : c.g = ((0 : Nat) : Int) := by rw [hc]
  have hop : c.op ≠ 9 := by rw [hc]; show ((8 : Nat) : Int) ≠ 9; decide
  rw [e]
  have hgs : ∀ j, j ≠ 0 → j ≠ m.ng → updV (updV m.gs 0 x) m.ng z j = m.gs j := fun j h1 h2 => by rw [updV_other _ _ h2, updV_other _ _ h1]
  have hgs0 : updV (updV m.gs 0 x) m.ng z 0 = x := by rw [updV_other _ _ hn0.symm, updV_same]
  refine ⟨⟨cc.C.more rfl rfl rfl rfl rfl rfl rfl rfl (by simp [hsl]) (by dsimp only; omega) (by simp [cc.cml]; omega), cc.np, cc.fs, by dsimp only; omega, by dsimp only; omega, ?_, fun j hj => ?_, by simp; omega, fun j hj => ?_, cmg_snoc cc.cmg (Nat.le_succ _) hcg n3, fun j hj => ?_, by simp [cc.cml], by dsimp only; rw [updV_same]; exact cc.wk, by dsimp only; rw [updV_same]; exact cc.al, ⟨pk, by dsimp only; rw [updV_same]; exact hpk, bpk⟩, cc.sp, cc.ck⟩, ?_, by dsimp only; rw [updV_same]; exact h.pg, fun j hj => ?_, fun j hj => ?_, ?_⟩
  · rw [List.nodup_cons]
    exact ⟨by simp [n1]; omega, nodup_snoc n2 hnL⟩
  · show j < m.ng + 1
    rcases List.mem_cons.1 hj with rfl | hj
    · omega
    · rcases List.mem_append.1 hj with hj | hj
      · have := n4 j hj; omega
      · have := List.mem_singleton.1 hj; omega
  · have hj' : j < m.ng + 1 := hj
    dsimp only
    rw [yds_op hop]
    by_cases e0 : j = 0
    · subst e0
      rw [hgs0, hx]
      exact ⟨gst, .inl ⟨rfl, hf, hcnt, .inl ⟨by simp, by show (m.gs 0).pc + 1 + 1 = _; rw [hpn]; rfl⟩⟩⟩
    · by_cases e1 : j = m.ng
      · subst e1
        rw [updV_same, hz, cc.new m.ng (Nat.le_refl _)]
        exact ⟨fun _ => rfl, .inr ⟨e0, rfl, .inl ⟨by simp, rfl, rfl, rfl⟩⟩⟩
      · rw [hgs j e0 e1]
        have := cc.gor j (by omega)
        have e2 : (j ∈ 0 :: L) = (j ∈ 0 :: (L ++ [m.ng])) := by simp [e0, e1]
        rw [e2] at this
        unfold GOk at this ⊢
        refine ⟨this.1, .inr ?_⟩
        rcases this.2 with ⟨a, -⟩ | a
        · exact absurd a e0
        · exact a
  · dsimp only
    have hj' : m.ng + 1 ≤ j := hj
    rw [yds_op hop]; exact cc.new j (by omega)
  · dsimp only
    rw [updV_same]
    exact h.r.put m.ng (by have := cc.nk; omega)
  · have hj' : j < m.ng + 1 := hj
    dsimp only
    by_cases e1 : j = m.ng
    · subst e1
      rw [List.getElem?_append_right (by omega), hsl, Nat.sub_self, List.getElem?_cons_zero, if_neg hn0, if_pos (by simp)]
    · rw [List.getElem?_append_left (by omega), h.st j (by omega)]
      by_cases e0 : j = 0
      · rw [if_pos e0, if_pos e0]
      · rw [if_neg e0, if_neg e0]
        by_cases e3 : j ∈ L
        · rw [if_pos e3, if_pos (List.mem_append.2 (.inl e3))]
        · rw [if_neg e3, if_neg (by simp [e3, e1])]
  · dsimp only
    rcases List.mem_append.1 hj with hj | hj
    · have hj0 : j ≠ 0 := fun e => n1 (e ▸ hj)
      have := n4 j hj
      rw [hgs j hj0 (by omega)]
      exact h.re j hj
    · rw [List.mem_singleton.1 hj, updV_same, hz]
      unfold Rests
      rw [if_neg hn0]
      exact .inl rfl
  · dsimp only
    rw [updV_same, hgs0, hx, if_pos rfl]
    have := h.row
    rw [if_pos rfl] at this
    show (m.ps 0).row + 1 = (m.gs 0).pc + 1
    omega
/-- Any commit. -/
theorem YBusy.cmt {g : Nat} (h : YBusy k y s i m g L) (hi : i < 100000000) (hk : k ≤ 100) : ∃ Q, YI k y s (i + 1) (cmt m 0 g (yIns k y g (m.gs g))) Q := by
  have cc := h.c
  obtain ⟨n1, n2, n3, n4⟩ := h.ne
  have hrow := h.row
  obtain ⟨gst, g0⟩ := cc.gor g n3
  have hdie : ∀ Y, yds (m.cms ++ [⟨(g : Nat), (m.gs g).f, (m.gs g).pc, ((0 : Nat) : Int), 0, false⟩]) g = Y → (g = 0 → (m.gs g).f = 0 ∧ (m.gs g).cnt = 0 ∧ m.ng = k + 1) → (g ≠ 0 → (m.gs g).f = 1 ∧ Y = y + 1) → ∃ Q, YI k y s (i + 1) (Proofs.YthjplmminmhiaaaGreatDoor.cmt m 0 g ⟨0, 0, 0, 0⟩) Q := by
    intro Y hY h0 h1
    refine ⟨L, .inl (h.off hi { m.gs g with pc := (m.gs g).pc + 1 } ⟨(g : Nat), (m.gs g).f, (m.gs g).pc, ((0 : Nat) : Int), 0, false⟩ rfl 5 L (m.rg 0) h.r n2 (fun _ _ => Iff.rfl) (by omega) (by rw [if_neg n1]) (.inl (by show ((0 : Nat) : Int) ≠ 9; decide)) ⟨gst, ?_⟩ (fun hm => absurd hm n1) ((m.ps 0).row + 1) _ ?_)⟩
    · by_cases e : g = 0
      · exact .inl ⟨e, (h0 e).1, (h0 e).2.1, .inr ⟨n1, (h0 e).2.2⟩⟩
      · exact .inr ⟨e, (h1 e).1, .inr (.inr (.inr (.inr ⟨n1, by rw [hY]; exact (h1 e).2⟩)))⟩
    · have er : updV m.rg 0 (m.rg 0) = m.rg := by funext j; unfold updV; split <;> simp_all
      rw [er]
      simp [Proofs.YthjplmminmhiaaaGreatDoor.cmt, finA, preA, updV_updV, updV_same]
  by_cases e : g = 0
  · subst e
    have hal : (m.gs 0).f = 0 ∧ (m.gs 0).cnt = 0 ∧ (m.gs 0).pc + 1 = (m.ng : Nat) := by
      rcases g0 with ⟨-, a, b, ⟨-, c⟩ | ⟨c, -⟩⟩ | ⟨a, -⟩
      · exact ⟨a, b, c⟩
      · exact absurd (by simp) c
      · exact absurd rfl a
    unfold yIns
    rw [if_pos rfl]
    by_cases hp : (m.gs 0).pc = (k : Nat)
    · rw [if_pos hp]
      exact hdie _ rfl (fun _ => ⟨hal.1, hal.2.1, by omega⟩) (fun e => absurd rfl e)
    · rw [if_neg hp]
      exact ⟨_, .inr ⟨_, _, rfl, h.spawn hi hk hp⟩⟩
  · obtain ⟨hf, g0⟩ : (m.gs g).f = 1 ∧ _ := by
      rcases g0 with ⟨a, -⟩ | ⟨-, a, b⟩
      · exact absurd a e
      · exact ⟨a, b⟩
    rw [if_neg e] at hrow
    unfold yIns
    rw [if_neg e]
    have hin : g ∈ g :: L := by simp
    rcases g0 with ⟨-, hp, hc, hY⟩ | ⟨-, hp, hc, hY⟩ | ⟨-, hp, hc, hY⟩ | ⟨-, hp, hc, hY⟩ | ⟨hn, -⟩
    · -- Set
      rw [if_pos hp]
      rw [hp] at hrow
      refine ⟨_, .inr ⟨g, L, rfl, h.on hi { m.gs g with pc := (m.gs g).pc + 1, cnt := (y : Nat) } ⟨(g : Nat), (m.gs g).f, (m.gs g).pc, ((16 : Nat) : Int), 0, false⟩ rfl (by show ((16 : Nat) : Int) ≠ 9; decide) ⟨gst, .inr ⟨e, hf, .inr (.inl ⟨hin, by show (m.gs g).pc + 1 = 1; omega, by show (0 : Int) ≤ (y : Nat); omega, by show (yds m.cms g : Int) + (y : Nat) = _; omega⟩)⟩⟩ ?_ _ ?_⟩⟩
      · rw [if_neg e]; show _ = ((m.gs g).pc + 1) % 2; rw [hp, hrow]; rfl
      · simp [Proofs.YthjplmminmhiaaaGreatDoor.cmt, finA, preA, setGor, updV_updV, updV_same]
    · -- Yield
      rw [if_neg (by omega), if_pos hp]
      refine ⟨L ++ [g], .inl (h.off hi { m.gs g with pc := (m.gs g).pc + 1 } ⟨(g : Nat), (m.gs g).f, (m.gs g).pc, ((9 : Nat) : Int), 0, false⟩ rfl 1 (L ++ [g]) (rgPut (m.rg 0) (g : Nat)) (h.r.put g ?_) (nodup_snoc n2 n1) (fun j hj => by simp [hj]) (by simp) (by rw [if_pos (by simp)]) (.inr (by simp)) ⟨gst, .inr ⟨e, hf, .inr (.inr (.inl ⟨by simp, ?_, hc, ?_⟩))⟩⟩ (fun _ => ?_) ((m.ps 0).row + 1) _ ?_)⟩
      · have := cc.ql; have := cc.nk; rw [List.length_cons] at *; omega
      · show (m.gs g).pc + 1 = 2; omega
      · rw [yds_snoc, if_pos ⟨rfl, rfl⟩]; show ((yds m.cms g + 1 : Nat) : Int) + (m.gs g).cnt = _; omega
      · unfold Rests; rw [if_neg e]; right; show (m.gs g).pc + 1 = 2; omega
      · simp [Proofs.YthjplmminmhiaaaGreatDoor.cmt, finA, preA, updV_updV, updV_same]
    · -- Dec
      rw [if_neg (by omega), if_neg (by omega), if_pos hp]
      rw [hp] at hrow
      by_cases hz : (m.gs g).cnt = 0
      · refine ⟨_, .inr ⟨g, L, rfl, h.on hi { m.gs g with pc := (m.gs g).pc + 1 } ⟨(g : Nat), (m.gs g).f, (m.gs g).pc, ((17 : Nat) : Int), 0, false⟩ rfl (by show ((17 : Nat) : Int) ≠ 9; decide) ⟨gst, .inr ⟨e, hf, .inr (.inr (.inr (.inl ⟨hin, by show (m.gs g).pc + 1 = 3; omega, hz, by omega⟩)))⟩⟩ ?_ _ ?_⟩⟩
        · rw [if_neg e]; show _ = ((m.gs g).pc + 1) % 2; rw [hp, hrow]; rfl
        · simp [Proofs.YthjplmminmhiaaaGreatDoor.cmt, finA, preA, hz]
      · refine ⟨_, .inr ⟨g, L, rfl, h.on hi { m.gs g with pc := 1, cnt := (m.gs g).cnt - 1 } ⟨(g : Nat), (m.gs g).f, (m.gs g).pc, ((17 : Nat) : Int), 0, false⟩ rfl (by show ((17 : Nat) : Int) ≠ 9; decide) ⟨gst, .inr ⟨e, hf, .inr (.inl ⟨hin, rfl, by show (0 : Int) ≤ (m.gs g).cnt - 1; omega, by show (yds m.cms g : Int) + ((m.gs g).cnt - 1) = _; omega⟩)⟩⟩ ?_ _ ?_⟩⟩
        · rw [if_neg e]; show _ = (1 : Int) % 2; rw [hrow]; rfl
        · simp [Proofs.YthjplmminmhiaaaGreatDoor.cmt, finA, preA, setGor, hz, updV_updV, updV_same]
    · -- Exit
      rw [if_neg (by omega), if_neg (by omega), if_neg (by omega)]
      exact hdie _ (yds_op (by show ((0 : Nat) : Int) ≠ 9; decide)) (fun e' => absurd e' e) (fun _ => ⟨hf, hY⟩)
    · exact absurd hin hn
end
end Go.Proofs.YthjplmminmhiaaaGreatDoor
namespace Go.Proofs.YthjplmminmhiaaaGreatDoor
open Go.RowKit Go.Maps

theorem yFirst_at (k : Nat) {pc : Nat} (h : pc ≤ k) : (yFirst k)[pc]? = some (if pc = k then ⟨0, 0, 0, 0⟩ else ⟨8, 1, 0, 0⟩) := by
  unfold yFirst
  by_cases e : pc = k
  · subst e
    rw [List.getElem?_append_right (by simp), if_pos rfl]
    simp
  · rw [List.getElem?_append_left (by simp; omega), if_neg e, List.getElem?_replicate, if_pos (by omega)]
theorem yFirst_ne (k : Nat) : yFirst k ≠ [] := by unfold yFirst; simp
section
variable {k y s i : Nat} {m : Mac} {g : Nat} {L : List Nat}
theorem YI.nxt (h : YI k y s i m (g :: L)) (hk : k ≤ 100) (hy : y ≤ 100) : Nxt m g (yIns k y g (m.gs g)) := by
  have cc := h.c
  have hg := cc.lt g (by simp)
  have nk := cc.nk
  obtain ⟨gst, g0⟩ := cc.gor g hg
  have hin : g ∈ g :: L := by simp
  by_cases e : g = 0
  · obtain ⟨hf, hcnt, hpn⟩ : (m.gs g).f = 0 ∧ (m.gs g).cnt = 0 ∧ (m.gs g).pc + 1 = (m.ng : Nat) := by
      rcases g0 with ⟨-, a, b, ⟨-, c⟩ | ⟨c, -⟩⟩ | ⟨a, -⟩
      · exact ⟨a, b, c⟩
      · exact absurd hin c
      · exact absurd e a
    have n1 := cc.n1
    obtain ⟨pc, hpc⟩ : ∃ pc : Nat, (m.gs g).pc = pc := ⟨m.ng - 1, by omega⟩
    have hpk : pc ≤ k := by omega
    have hat : ∃ (F pc : Nat) (l : List Ins), (m.gs g).f = F ∧ (m.gs g).pc = pc ∧ pc ≤ 1000000 ∧ m.fs[F]? = some l ∧ (l[pc]? = some (yIns k y g (m.gs g)) ∨ (pc = l.length ∧ yIns k y g (m.gs g) = ⟨0, 0, 0, 0⟩)) ∧ l ≠ [] := by
      refine ⟨0, pc, yFirst k, hf, hpc, by omega, by rw [cc.fs]; rfl, .inl ?_, yFirst_ne k⟩
      rw [yFirst_at k hpk]
      unfold yIns
      rw [if_pos e, hpc]
      by_cases e2 : pc = k
      · rw [if_pos e2, if_pos (by rw [e2])]
      · rw [if_neg e2, if_neg (by omega)]
    have hi : yIns k y g (m.gs g) = ⟨0, 0, 0, 0⟩ ∨ yIns k y g (m.gs g) = ⟨8, 1, 0, 0⟩ := by
      unfold yIns
      rw [if_pos e]
      by_cases e2 : (m.gs g).pc = (k : Nat)
      · rw [if_pos e2]; exact .inl rfl
      · rw [if_neg e2]; exact .inr rfl
    generalize yIns k y g (m.gs g) = j at hi hat
    rcases hi with rfl | rfl
    · exact ⟨.inl rfl, by decide, by decide, fun h => absurd h (by show ¬ (0 = 8); decide), by omega, by omega, hat⟩
    · exact ⟨.inr (.inl rfl), by decide, by decide, fun _ => ⟨by decide, by omega⟩, by omega, by omega, hat⟩
  · obtain ⟨hf, g0⟩ : (m.gs g).f = 1 ∧ _ := by
      rcases g0 with ⟨a, -⟩ | ⟨-, a, b⟩
      · exact absurd a e
      · exact ⟨a, b⟩
    have h1 : m.fs[1]? = some (yEach y) := by rw [cc.fs]; rfl
    have hne : yEach y ≠ [] := by unfold yEach; simp
    unfold yIns
    rw [if_neg e]
    rcases g0 with ⟨-, hp, hc, hY⟩ | ⟨-, hp, hc, hY⟩ | ⟨-, hp, hc, hY⟩ | ⟨-, hp, hc, hY⟩ | ⟨hn, -⟩
    · rw [if_pos hp]
      exact ⟨by simp, by show 0 < 256; omega, by show y < 256; omega, by simp, by omega, by omega, 1, 0, yEach y, hf, hp, by omega, h1, .inl rfl, hne⟩
    · rw [if_neg (by omega), if_pos hp]
      exact ⟨by simp, by decide, by decide, by simp, by omega, by omega, 1, 1, yEach y, hf, hp, by omega, h1, .inl rfl, hne⟩
    · rw [if_neg (by omega), if_neg (by omega), if_pos hp]
      exact ⟨by simp, by decide, by decide, by simp, by omega, by omega, 1, 2, yEach y, hf, hp, by omega, h1, .inl rfl, hne⟩
    · rw [if_neg (by omega), if_neg (by omega), if_neg (by omega)]
      exact ⟨by simp, by decide, by decide, by simp, by omega, by omega, 1, 3, yEach y, hf, hp, by omega, h1, .inr ⟨rfl, rfl⟩, hne⟩
    · exact absurd hin hn
theorem YI.cnts {Q : List Nat} (h : YI k y s i m Q) (hs : s < 1000000) : Cnts m 0 := by
  have cc := h.c
  obtain ⟨pk, hpk, bpk⟩ := cc.pk
  exact ⟨⟨0, cc.wk, by omega⟩, ⟨s, cc.al, by omega⟩, ⟨pk, hpk, by omega⟩, ⟨s, cc.sp, by omega⟩, ⟨0, cc.ck, by omega⟩⟩
theorem YI.serves (h : YI k y s i m (g :: L)) (hk : k ≤ 15) : Serves m 0 g := by
  have cc := h.c
  have hg := cc.lt g (by simp)
  have nk := cc.nk
  have ql := cc.ql
  rw [List.length_cons] at ql
  rcases h with h | ⟨g', L', e, h⟩
  · exact .inl ⟨h.pg, h.r.hs, h.r.fr, by rw [h.r.n, List.length_cons]; omega, by rw [h.r.n, List.length_cons]; omega, h.r.head, by rw [h.st g hg, if_pos (by simp)]⟩
  · obtain ⟨rfl, rfl⟩ := List.cons.inj e
    refine .inr ⟨h.pg, by rw [h.st g hg, if_pos rfl], ?_, h.r.fr, by rw [h.r.n]; omega⟩
    have hrow := h.row
    by_cases e0 : g = 0
    · rw [if_pos e0] at hrow
      have n1 := cc.n1
      have : (m.gs g).pc + 1 = (m.ng : Nat) := by
        rcases (cc.gor g hg).2 with ⟨-, a, b, ⟨-, c⟩ | ⟨c, -⟩⟩ | ⟨a, -⟩
        · exact c
        · exact absurd (by simp) c
        · exact absurd e0 a
      exact ⟨m.ng - 1, by omega, by omega⟩
    · rw [if_neg e0] at hrow
      exact ⟨((m.gs g).pc % 2).toNat, by omega, by omega⟩
/-- One step of the machine. -/
theorem YI.step {W : Bs} {w : World} {p : MAt} (h : YI k y s s m (g :: L)) (M : MM W w p m) (hk : k ≤ 15) (hy : y ≤ 100) (hs : s < 1000000) (vic : Int) (hvq : p.vq = .slice none 0 0) (hvt : p.vtm = .slice none 0 0) (hvf : p.vfr = .slice none 0 0) :
    (∃ Q, YI k y (s + 1) (s + 1) (stepA m 0 g (yIns k y g (m.gs g))) Q) ∧ Calls Tryz.prog 22 #[.pointer (some ⟨p.gm, 0, none⟩), .agg #[.int .i64 0, .int .i64 vic, .bool false, .int .i64 0]] w (RunPost W (Keeps p) (stepA m 0 g (yIns k y g (m.gs g))) g) := by
  constructor
  · have hB := h.serve
    obtain ⟨Q, hQ⟩ := hB.cmt (by omega) (by omega)
    refine ⟨Q, ?_⟩
    have e : yIns k y g ((Proofs.YthjplmminmhiaaaGreatDoor.serve m 0 g).gs g) = yIns k y g (m.gs g) := by
      have e2 : ((Proofs.YthjplmminmhiaaaGreatDoor.serve m 0 g).gs g).pc = (m.gs g).pc := by
        unfold Proofs.YthjplmminmhiaaaGreatDoor.serve
        split
        · simp [takeA, tickA, updV_same]
        · rfl
      unfold yIns
      rw [e2]
    rw [e] at hQ
    exact hQ
  · exact m_step_cmt M h.c.C 0 g vic _ (h.nxt (by omega) hy) (h.cnts hs) (h.serves hk) (by rw [h.c.np]; omega) (h.c.lt g (by simp)) (by rw [h.stV, if_neg (by simp)]) hvq hvt hvf
end
/-- A machine that has nothing yet but its first goroutine. -/
theorem YI.first (k y : Nat) (hk : k ≤ 100) (wo pct : Int) (on : Bool) (part : Int) (n : Nat) (t gg r : Int) (ht : 0 < t) :
    YI k y 0 0 (spawnA { mk0m 0 [yFirst k, yEach y] wo pct on part n 1 with gT := t, gG := gg, gR := r } 0 0 0) [0] := by
  have hrg : RingIs rg0 [] := ⟨rfl, by decide, rfl, fun j x h => by simp at h⟩
  left
  refine ⟨⟨⟨by show 1 ≤ 64; omega, rfl, rfl, rfl, rfl, rfl, by show (0 : Int) ≤ 0; omega, rfl, ht, rfl, by show 1 ≤ 1024; omega, by show 0 ≤ 100000000; omega⟩, rfl, rfl, by show 1 ≤ 1; omega, by show 1 ≤ k + 1; omega, by simp, ?_, by show 1 ≤ 1; omega, ?_, ?_, ?_, rfl, rfl, rfl, ⟨0, rfl, by omega⟩, rfl, rfl⟩, ?_, rfl, ?_, ?_⟩
  · intro g hg
    have : g = 0 := by simpa using hg
    subst this
    show 0 < 1
    omega
  · intro g hg
    have hg' : g < 1 := hg
    have : g = 0 := by omega
    subst this
    refine ⟨fun j => ?_, .inl ⟨rfl, rfl, rfl, .inl ⟨by simp, rfl⟩⟩⟩
    show updV (fun _ => 0) 0 (0 : Int) j = 0
    unfold updV; split <;> rfl
  · intro c hc
    exact absurd hc (by show ¬ c ∈ []; simp)
  · intro g _; rfl
  · exact hrg.put 0 (by decide)
  · intro j hj
    have hj' : j < 1 := hj
    have : j = 0 := by omega
    subst this
    rfl
  · intro j hj
    have : j = 0 := by simpa using hj
    subst this
    rfl
end Go.Proofs.YthjplmminmhiaaaGreatDoor
namespace Go.Proofs.YthjplmminmhiaaaGreatDoor
open Go.RowKit Go.Maps

/-- Behind i steps; the run stands at s. -/
def YJ (k y : Nat) (wB : World) (gW : Nat) (wo : Int) (b1 b2 : Nat) (va vf : Value) (i : Nat) (s : Int) (w : World) : Prop :=
  ∃ p m a X Q cP cV, BothM wB w gW (1 : Nat) wo b1 b2 va cP cV p m a X ∧ Rel m X ∧ YI k y i i m Q ∧ s = stV m ∧ (p.vq = .slice none 0 0 ∧ p.vtm = .slice none 0 0 ∧ p.vfr = .slice none 0 0) ∧ a.vf = vf ∧ a.ck = 0
theorem YJ.run {k y : Nat} (hk : k ≤ 15) (hy : y ≤ 100) {wB : World} {gW : Nat} {wo : Int} {b1 b2 : Nat} {va vf : Value} {vs : List Value} (PR : PrR wB wB.heap.size vf vs [yFirst k, yEach y]) : RunJ gW 1 5000 (YJ k y wB gW wo b1 b2 va vf) := by
  refine ⟨fun i s w h => ?_, fun i s w w' h c => ?_, fun i w hi h => ?_⟩
  · obtain ⟨p, m, a, X, Q, cP, cV, B, -, I, rfl, -, -⟩ := h
    have C := I.c.C
    exact ⟨p.gm, B.W.cellv 0 rfl, B.W.cellv 2 rfl, B.W.lt, m_status B.M (by rw [C.sl]; exact C.ng) (by rw [C.tm]; simp)⟩
  · obtain ⟨p, m, a, X, Q, cP, cV, B, h⟩ := h
    exact ⟨p, m, a, X, Q, cP, cV, B.chg0 c, h⟩
  · obtain ⟨p, m, a, X, Q, cP, cV, B, R, I, hs, ⟨vq, vt, vr⟩, hvf, hck⟩ := h
    have C := I.c.C
    have hQ : Q ≠ [] := fun e => by rw [I.stV, if_pos e] at hs; omega
    obtain ⟨g, L, rfl⟩ : ∃ g L, Q = g :: L := by cases Q with | nil => exact absurd rfl hQ | cons g L => exact ⟨g, L, rfl⟩
    have N := I.nxt (by omega) hy
    have hg := I.c.lt g (by simp)
    have hsl := C.sl
    have hn := C.ng
    have er : rndV 1 i = .agg #[.int .i64 ((0 : Nat) : Int), .int .i64 0, .bool false, .int .i64 0] := by
      unfold rndV
      rw [Nat.mod_one, Nat.mod_one]
      rfl
    obtain ⟨⟨Q2, I2⟩, -⟩ := I.step B.M hk hy (by omega) 0 vq vt vr
    have hB := I.serve
    have SV := I.serves hk
    have R1 := R.serve 0 g SV
    have eng : (Proofs.YthjplmminmhiaaaGreatDoor.serve m 0 g).ng = m.ng := ng_serve m 0 g
    have st2 : (Proofs.YthjplmminmhiaaaGreatDoor.serve m 0 g).sts[g]? = some 2 := by
      have := hB.st g (by rw [eng]; exact hg)
      rw [if_pos rfl] at this
      exact this
    have hsl2 : (Proofs.YthjplmminmhiaaaGreatDoor.serve m 0 g).sts.length = (Proofs.YthjplmminmhiaaaGreatDoor.serve m 0 g).ng := hB.c.C.sl
    obtain ⟨ii, hii⟩ : ∃ ii, ii = yIns k y g (m.gs g) := ⟨_, rfl⟩
    rw [← hii] at N I2
    obtain ⟨R2, hcm⟩ := Rel.cmt R1 0 g (by rw [eng]; exact hg) ii st2 hsl2 N.o
    rw [cms_serve] at hcm
    obtain ⟨F, pc, l, hF, hpc, bpc, hl, hi0, hl0⟩ := N.at_
    obtain ⟨gf, gp, gc, gk⟩ := R.g g hg
    have hXst : (X.gs g).st = 1 := by
      rcases I.st12 g (by simp) with e | e
      · rw [R.st g 1 e]; decide
      · rw [R.st g 2 e]; decide
    rw [er]
    refine (wdo_ok wB w gW 1 wo b1 b2 va cP cV p m (stepA m 0 g ii) a X (doX X g ii) B 0 g 0 (tellX X g ii) (by omega) hs.symm (by omega) C.tm C.h0 hck (by rw [I.c.cml]; omega) (fun B' w' M' => ?_) hcm rfl ?_ ?_ (fun w' c' hX' => ?_)).mono ?_
    · have := (I.step M' hk hy (by omega) 0 vq vt vr).2
      rw [← hii] at this
      exact this
    · show ¬ ((ii.o : Nat) : Int) = 1
      have := N.o; omega
    · show ¬ ((ii.o : Nat) : Int) = 2
      have := N.o; omega
    · refine (rdo_ok w' a X wB.heap.size vs hX' ?_ c'.size g F pc l ii (by rw [R.n]; exact hg) (by rw [R.n]; exact hn) hXst (by rw [gf]; exact hF) (by rw [gp]; exact hpc) bpc (by rw [R.fs]; exact hl) hi0 N.o N.a N.b (fun e => by rw [R.n]; exact N.b8 e) (by rw [gc]; exact N.c0) (by rw [gc]; exact N.c1)).mono fun e w2 h => h.fol
      rw [hvf, R.fs, I.c.fs]
      exact PR.chg0 c' (Nat.le_refl _)
    · rintro e w' ⟨p3, a', rfl, hK, B', e1, e2⟩
      exact ⟨1, (g : Nat), _, rfl, p3, _, a', _, Q2, _, _, B', R2, I2, rfl, ⟨hK.2.2.1, hK.2.2.2.1.trans vt, hK.2.2.2.2.trans vr⟩, e1.trans hvf, e2.trans hck⟩
/-- As both begin. -/
theorem YJ.start {k y : Nat} (hk : k ≤ 100) {P n b1 b2 : Nat} {wB w' : World} {gW gA gX gg gs gl : Nat} {vg vf : Value} {p : MAt} {m : Mac} (hP : P = 1) (h : FrS P n 0 (n * 64) b1 b2 [yFirst k, yEach y] vf wB w' gW gA gX gg gs gl vg p m) : ∃ s, YJ k y wB gW ((n * 64 : Nat) : Int) b1 b2 (.slice (some ⟨gA, 0, none⟩) 1 1) vf 0 s w' := by
  have h0 := h
  obtain ⟨⟨pct, on, part, t, g, r, ht, hm⟩, vq, vt, vr, -, -⟩ := h0
  have hfs : m.fs = [yFirst k, yEach y] := by rw [hm]; rfl
  obtain ⟨a, X, B, R, -, hvf, -, hck⟩ := FrS.both h hfs
  subst hP
  refine ⟨_, p, m, a, X, [0], 0, 0, B, R, ?_, rfl, ⟨vq, vt, vr⟩, hvf, hck⟩
  rw [hm]
  exact YI.first k y hk _ _ _ _ _ _ _ _ ht
end Go.Proofs.YthjplmminmhiaaaGreatDoor
