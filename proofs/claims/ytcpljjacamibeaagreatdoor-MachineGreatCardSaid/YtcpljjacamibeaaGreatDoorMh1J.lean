/- MachineYields, in plain Lean: goroutines that yield to one another on one P: what stays true of the machine. -/
/- Where each goroutine is, in plain Lean: rings, those that Ps run, those that wait, the dead. -/
/- Which goroutine a P gets: of its own ring, of another P's, or none: plain law and Pick's contract together. -/
/- One step of any P of a machine that allocates nothing: nobody is found, or a goroutine is put away, or an instruction is done. -/
import Derived.Test.YtcpljjacamibeaaGreatDoorMg6J
import Derived.Test.YtcpljjacamibeaaGreatDoorMj7
namespace Go.Proofs.YtcpljjacamibeaaGreatDoor
set_option maxHeartbeats 16000000
set_option maxRecDepth 100000
open Go.RowKit Go.Maps
structure RingIs (r : RgR) (L : List Nat) : Prop where
  n : r.n = L.length
  fr : r.fr < 256
  hs : r.hs = false
  at_ : ∀ (j x : Nat), L[j]? = some x → r.l ((r.fr + j) % 256) = (x : Nat)
theorem RingIs.pop {r : RgR} {x : Nat} {L : List Nat} (h : RingIs r (x :: L)) : RingIs (rgPop r) L := by
  refine ⟨?_, ?_, h.hs, fun j y hj => ?_⟩
  · show r.n - 1 = _
    rw [h.n, List.length_cons]; omega
  · show (r.fr + 1) % 256 < 256
    omega
  · show r.l (((r.fr + 1) % 256 + j) % 256) = _
    rw [← h.at_ (j + 1) y (by simpa using hj)]
    congr 1
    omega
theorem RingIs.put {r : RgR} {L : List Nat} (h : RingIs r L) (x : Nat) (hl : L.length < 256) : RingIs (rgPut r (x : Nat)) (L ++ [x]) := by
  refine ⟨?_, h.fr, h.hs, fun j y hj => ?_⟩
  · show r.n + 1 = _
    rw [h.n, List.length_append, List.length_singleton]
  · show (if (r.fr + j) % 256 = (r.fr + r.n) % 256 then (x : Int) else r.l ((r.fr + j) % 256)) = _
    have hn := h.n
    by_cases e : j < L.length
    · rw [List.getElem?_append_left e] at hj
      rw [if_neg (by omega)]
      exact h.at_ j y hj
    · have hj' := (List.getElem?_eq_some_iff.1 hj).1
      rw [List.length_append, List.length_singleton] at hj'
      have ej : j = L.length := by omega
      subst ej
      rw [List.getElem?_append_right (Nat.le_refl _), Nat.sub_self, List.getElem?_cons_zero] at hj
      rw [if_pos (by rw [hn]), Option.some.inj hj]
theorem RingIs.head {r : RgR} {x : Nat} {L : List Nat} (h : RingIs r (x :: L)) : r.l r.fr = (x : Nat) := by
  have := h.at_ 0 x rfl
  rw [Nat.add_zero, Nat.mod_eq_of_lt h.fr] at this
  exact this
def yFirst (k : Nat) : List Ins := List.replicate k ⟨8, 1, 0, 0⟩ ++ [⟨0, 0, 0, 0⟩]
def yEach (y : Nat) : List Ins := [⟨16, 0, y, 0⟩, ⟨9, 0, 0, 0⟩, ⟨17, 1, 0, 0⟩]
def yds (cms : List ComA) (g : Nat) : Nat := cms.countP fun c : ComA => decide (c.op = 9 ∧ c.g = (g : Nat))
def GOk (k y ng g : Nat) (x : GorA) (Y : Nat) (alive : Prop) : Prop :=
  (∀ j, x.st j = 0) ∧ ((g = 0 ∧ x.f = 0 ∧ x.cnt = 0 ∧ ((alive ∧ x.pc + 1 = (ng : Nat)) ∨ (¬ alive ∧ ng = k + 1))) ∨
  (g ≠ 0 ∧ x.f = 1 ∧ ((alive ∧ x.pc = 0 ∧ x.cnt = 0 ∧ Y = 0) ∨ (alive ∧ x.pc = 1 ∧ 0 ≤ x.cnt ∧ (Y : Int) + x.cnt = y) ∨ (alive ∧ x.pc = 2 ∧ 0 ≤ x.cnt ∧ (Y : Int) + x.cnt = y + 1) ∨ (alive ∧ x.pc = 3 ∧ x.cnt = 0 ∧ Y = y + 1) ∨ (¬ alive ∧ Y = y + 1))))
def Rests (g : Nat) (x : GorA) : Prop := if g = 0 then x.pc = 0 else x.pc = 0 ∨ x.pc = 2
structure YC (k y s i : Nat) (m : Mac) (Q : List Nat) : Prop where
  C : Calm m
  np : m.np = 1
  fs : m.fs = [yFirst k, yEach y]
  n1 : 1 ≤ m.ng
  nk : m.ng ≤ k + 1
  nd : Q.Nodup
  lt : ∀ g ∈ Q, g < m.ng
  ql : Q.length ≤ m.ng
  gor : ∀ g, g < m.ng → GOk k y m.ng g (m.gs g) (yds m.cms g) (g ∈ Q)
  cmg : ∀ c ∈ m.cms, ∃ g : Nat, c.g = (g : Nat) ∧ g < m.ng
  new : ∀ g, m.ng ≤ g → yds m.cms g = 0
  cml : m.cms.length = i
  wk : (m.ps 0).worked = 0
  al : (m.ps 0).all = (s : Nat)
  pk : ∃ n : Nat, (m.ps 0).picks = n ∧ n ≤ s
  sp : m.steps = (s : Nat)
  ck : m.clock = 0
structure YIdle (k y s i : Nat) (m : Mac) (Q : List Nat) : Prop where
  c : YC k y s i m Q
  r : RingIs (m.rg 0) Q
  pg : (m.ps 0).g = -1
  st : ∀ j, j < m.ng → m.sts[j]? = some (if j ∈ Q then 1 else 5)
  re : ∀ j ∈ Q, Rests j (m.gs j)
structure YBusy (k y s i : Nat) (m : Mac) (g : Nat) (L : List Nat) : Prop where
  c : YC k y s i m (g :: L)
  r : RingIs (m.rg 0) L
  pg : (m.ps 0).g = (g : Nat)
  st : ∀ j, j < m.ng → m.sts[j]? = some (if j = g then 2 else if j ∈ L then 1 else 5)
  re : ∀ j ∈ L, Rests j (m.gs j)
  row : (m.ps 0).row = if g = 0 then (m.gs g).pc else (m.gs g).pc % 2
def YI (k y s i : Nat) (m : Mac) (Q : List Nat) : Prop := YIdle k y s i m Q ∨ ∃ g L, Q = g :: L ∧ YBusy k y s i m g L
theorem nodup_len {n : Nat} : ∀ {L : List Nat}, L.Nodup → (∀ j ∈ L, j < n) → L.length ≤ n := by
  induction n with
  | zero =>
    intro L _ h
    cases L with
    | nil => exact Nat.le_refl _
    | cons a r => exact absurd (h a (by simp)) (by omega)
  | succ n ih =>
    intro L hN h
    by_cases e : n ∈ L
    · have h1 := ih (hN.erase n) (fun j hj => by
        have h2 := (hN.mem_erase_iff).1 hj
        have := h j h2.2
        omega)
      rw [List.length_erase_of_mem e] at h1
      omega
    · exact Nat.le_succ_of_le (ih hN (fun j hj => by
        have := h j hj
        have : j ≠ n := fun e2 => e (e2 ▸ hj)
        omega))
theorem RingIs.uniq {r : RgR} {L L' : List Nat} (h : RingIs r L) (h' : RingIs r L') : L = L' := by
  refine List.ext_getElem? fun i => ?_
  have hl : L.length = L'.length := by rw [← h.n, ← h'.n]
  by_cases hi : i < L.length
  · have e1 := h.at_ i _ (List.getElem?_eq_getElem hi)
    have e2 := h'.at_ i _ (List.getElem?_eq_getElem (hl ▸ hi))
    rw [e1] at e2
    rw [List.getElem?_eq_getElem hi, List.getElem?_eq_getElem (hl ▸ hi)]
    congr 1
    omega
  · rw [List.getElem?_eq_none (by omega), List.getElem?_eq_none (by omega)]
structure WFc (n np : Nat) (sts : List Int) (pg : Nat → Int) (rg : Nat → RgR) (loc : Nat → Nat × Nat) : Prop where
  sl : sts.length = n
  st : ∀ j, j < n → sts[j]? = some (((loc j).1 : Nat) : Int)
  kd : ∀ j, j < n → ((loc j).1 = 1 ∧ (loc j).2 < np) ∨ ((loc j).1 = 2 ∧ (loc j).2 < np) ∨ (loc j).1 = 3 ∨ (loc j).1 = 5
  rg : ∀ q, q < np → ∃ L : List Nat, RingIs (rg q) L ∧ L.Nodup ∧ ∀ j, j ∈ L ↔ j < n ∧ loc j = (1, q)
  rn : ∀ q, q < np → (pg q = -1 ∧ ∀ j, j < n → loc j ≠ (2, q)) ∨ ∃ g, g < n ∧ pg q = (g : Nat) ∧ ∀ j, j < n → (loc j = (2, q) ↔ j = g)
section
variable {n np : Nat} {sts : List Int} {pg : Nat → Int} {rg : Nat → RgR} {loc : Nat → Nat × Nat} (h : WFc n np sts pg rg loc)
include h
theorem WFc.list {q : Nat} (hq : q < np) {L : List Nat} (hL : RingIs (rg q) L) : L.Nodup ∧ (∀ j, j ∈ L ↔ j < n ∧ loc j = (1, q)) ∧ L.length ≤ n := by
  obtain ⟨L0, h1, h2, h3⟩ := h.rg q hq
  rw [hL.uniq h1]
  exact ⟨h2, h3, nodup_len h2 (fun j hj => ((h3 j).1 hj).1)⟩
theorem WFc.sset {g : Nat} (hg : g < n) (t x : Nat) : (sts.set g (t : Nat)).length = n ∧ ∀ j, j < n → (sts.set g ((t : Nat) : Int))[j]? = some (((updV loc g (t, x) j).1 : Nat) : Int) := by
  refine ⟨by rw [List.length_set]; exact h.sl, fun j hj => ?_⟩
  rw [List.getElem?_set]
  by_cases e : g = j
  · subst e; rw [if_pos rfl, if_pos (by rw [h.sl]; exact hg), updV_same]
  · rw [if_neg e, updV_other _ _ (fun h => e h.symm)]; exact h.st j hj
theorem WFc.take {q g : Nat} {L : List Nat} (hq : q < np) (hpg : pg q = -1) (hr : RingIs (rg q) (g :: L)) :
    g < n ∧ loc g = (1, q) ∧ WFc n np (sts.set g ((2 : Nat) : Int)) (updV pg q (g : Nat)) (updV rg q (rgPop (rg q))) (updV loc g (2, q)) := by
  obtain ⟨hN, hm, -⟩ := h.list hq hr
  obtain ⟨hg, hl⟩ := (hm g).1 (by simp)
  have hN' := List.nodup_cons.1 hN
  refine ⟨hg, hl, (h.sset hg 2 q).1, (h.sset hg 2 q).2, fun j hj => ?_, fun q' hq' => ?_, fun q' hq' => ?_⟩
  · by_cases e : j = g
    · subst e; rw [updV_same]; exact .inr (.inl ⟨rfl, hq⟩)
    · rw [updV_other _ _ e]; exact h.kd j hj
  · by_cases e : q' = q
    · subst e
      rw [updV_same]
      refine ⟨L, hr.pop, hN'.2, fun j => ?_⟩
      by_cases e2 : j = g
      · subst e2
        rw [updV_same]
        exact ⟨fun hm => absurd hm hN'.1, fun ⟨_, h2⟩ => absurd h2 (by intro h2; injection h2 with h2; omega)⟩
      · rw [updV_other _ _ e2, ← hm j]
        simp [e2]
    · rw [updV_other _ _ e]
      obtain ⟨L0, h1, h2, h3⟩ := h.rg q' hq'
      refine ⟨L0, h1, h2, fun j => ?_⟩
      rw [h3 j]
      by_cases e2 : j = g
      · subst e2
        rw [updV_same, hl]
        exact ⟨fun ⟨_, h4⟩ => absurd h4 (by intro h4; injection h4 with _ h4; exact e h4.symm), fun ⟨_, h4⟩ => absurd h4 (by intro h4; injection h4 with h4; omega)⟩
      · rw [updV_other _ _ e2]
  · by_cases e : q' = q
    · subst e
      rw [updV_same]
      refine .inr ⟨g, hg, rfl, fun j hj => ?_⟩
      by_cases e2 : j = g
      · subst e2; rw [updV_same]; exact ⟨fun _ => rfl, fun _ => rfl⟩
      · rw [updV_other _ _ e2]
        rcases h.rn q' hq with ⟨-, h0⟩ | ⟨g0, -, h0, -⟩
        · exact ⟨fun h1 => absurd h1 (h0 j hj), fun h1 => absurd h1 e2⟩
        · rw [hpg] at h0; omega
    · rw [updV_other _ _ e]
      rcases h.rn q' hq' with ⟨h0, h1⟩ | ⟨g0, h0, h1, h2⟩
      · refine .inl ⟨h0, fun j hj => ?_⟩
        by_cases e2 : j = g
        · subst e2; rw [updV_same]; intro h3; injection h3 with _ h3; exact e h3.symm
        · rw [updV_other _ _ e2]; exact h1 j hj
      · refine .inr ⟨g0, h0, h1, fun j hj => ?_⟩
        by_cases e2 : j = g
        · subst e2
          rw [updV_same]
          refine ⟨fun h3 => by injection h3 with _ h3; exact absurd h3.symm e, fun h3 => ?_⟩
          have h4 := (h2 j hj).2 h3
          rw [hl] at h4
          injection h4 with h4
          omega
        · rw [updV_other _ _ e2]; exact h2 j hj
theorem WFc.off {q g : Nat} (hq : q < np) (hpg : pg q = (g : Nat)) (t x : Nat) (ht : t = 3 ∨ t = 5) :
    g < n ∧ loc g = (2, q) ∧ WFc n np (sts.set g ((t : Nat) : Int)) (updV pg q (-1)) rg (updV loc g (t, x)) := by
  obtain ⟨g0, hg, h1, h2⟩ : ∃ g0, g0 < n ∧ pg q = (g0 : Nat) ∧ ∀ j, j < n → (loc j = (2, q) ↔ j = g0) := by
    rcases h.rn q hq with ⟨h0, -⟩ | h0
    · rw [hpg] at h0; omega
    · exact h0
  have e0 : g0 = g := by rw [hpg] at h1; omega
  subst e0
  have hl := (h2 g0 hg).2 rfl
  refine ⟨hg, hl, (h.sset hg t x).1, (h.sset hg t x).2, fun j hj => ?_, fun q' hq' => ?_, fun q' hq' => ?_⟩
  · by_cases e : j = g0
    · subst e; rw [updV_same]; rcases ht with e | e <;> simp [e]
    · rw [updV_other _ _ e]; exact h.kd j hj
  · obtain ⟨L0, h3, h4, h5⟩ := h.rg q' hq'
    refine ⟨L0, h3, h4, fun j => ?_⟩
    rw [h5 j]
    by_cases e2 : j = g0
    · subst e2
      rw [updV_same, hl]
      exact ⟨fun ⟨_, h4⟩ => absurd h4 (by intro h4; injection h4 with h4; omega), fun ⟨_, h4⟩ => absurd h4 (by intro h4; injection h4 with h4; omega)⟩
    · rw [updV_other _ _ e2]
  · by_cases e : q' = q
    · subst e
      rw [updV_same]
      refine .inl ⟨rfl, fun j hj => ?_⟩
      by_cases e2 : j = g0
      · subst e2; rw [updV_same]; intro h3; injection h3 with h3; omega
      · rw [updV_other _ _ e2]; exact fun h3 => e2 ((h2 j hj).1 h3)
    · rw [updV_other _ _ e]
      rcases h.rn q' hq' with ⟨h0, h1'⟩ | ⟨g1, h0, h1', h2'⟩
      · refine .inl ⟨h0, fun j hj => ?_⟩
        by_cases e2 : j = g0
        · subst e2; rw [updV_same]; intro h3; injection h3 with h3; omega
        · rw [updV_other _ _ e2]; exact h1' j hj
      · refine .inr ⟨g1, h0, h1', fun j hj => ?_⟩
        by_cases e2 : j = g0
        · subst e2
          rw [updV_same]
          refine ⟨fun h3 => by injection h3 with h3; omega, fun h3 => ?_⟩
          have h4 := (h2' j hj).2 h3
          rw [hl] at h4
          injection h4 with _ h4
          exact absurd h4.symm e
        · rw [updV_other _ _ e2]; exact h2' j hj
theorem WFc.into_r {q g : Nat} (hq : q < np) (hg : g < n) (hl : (loc g).1 ≠ 1 ∧ (loc g).1 ≠ 2) (hr : (rg q).n < 256) :
    WFc n np (sts.set g ((1 : Nat) : Int)) pg (updV rg q (rgPut (rg q) (g : Nat))) (updV loc g (1, q)) := by
  have nl : ∀ q', loc g ≠ (1, q') := fun q' e => hl.1 (by rw [e])
  have nr : ∀ q', loc g ≠ (2, q') := fun q' e => hl.2 (by rw [e])
  refine ⟨(h.sset hg 1 q).1, (h.sset hg 1 q).2, fun j hj => ?_, fun q' hq' => ?_, fun q' hq' => ?_⟩
  · by_cases e : j = g
    · subst e; rw [updV_same]; exact .inl ⟨rfl, hq⟩
    · rw [updV_other _ _ e]; exact h.kd j hj
  · obtain ⟨L0, h3, h4, h5⟩ := h.rg q' hq'
    by_cases e : q' = q
    · subst e
      rw [updV_same]
      have hgL : g ∉ L0 := fun hm => nl q' ((h5 g).1 hm).2
      have hlen : L0.length < 256 := by rw [← h3.n]; exact hr
      refine ⟨L0 ++ [g], h3.put g hlen, ?_, fun j => ?_⟩
      · rw [List.nodup_append]
        refine ⟨h4, by simp, fun a ha b hb e => ?_⟩
        rw [List.mem_singleton] at hb
        subst e hb
        exact hgL ha
      · rw [List.mem_append, h5 j, List.mem_singleton]
        by_cases e2 : j = g
        · subst e2; rw [updV_same]; exact ⟨fun _ => ⟨hg, rfl⟩, fun _ => .inr rfl⟩
        · rw [updV_other _ _ e2]; exact ⟨fun h6 => h6.resolve_right e2, .inl⟩
    · rw [updV_other _ _ e]
      refine ⟨L0, h3, h4, fun j => ?_⟩
      rw [h5 j]
      by_cases e2 : j = g
      · subst e2
        rw [updV_same]
        exact ⟨fun ⟨_, h4⟩ => absurd h4 (nl q'), fun ⟨_, h4⟩ => absurd h4 (by intro h4; injection h4 with _ h4; exact e h4.symm)⟩
      · rw [updV_other _ _ e2]
  · rcases h.rn q' hq' with ⟨h0, h1⟩ | ⟨g0, h0, h1, h2⟩
    · refine .inl ⟨h0, fun j hj => ?_⟩
      by_cases e2 : j = g
      · subst e2; rw [updV_same]; intro h3; injection h3 with h3; omega
      · rw [updV_other _ _ e2]; exact h1 j hj
    · refine .inr ⟨g0, h0, h1, fun j hj => ?_⟩
      by_cases e2 : j = g
      · subst e2
        rw [updV_same]
        exact ⟨fun h3 => by injection h3 with h3; omega, fun h3 => absurd ((h2 j hj).2 h3) (nr q')⟩
      · rw [updV_other _ _ e2]; exact h2 j hj
theorem WFc.spawn_r {q : Nat} (hq : q < np) (hr : (rg q).n < 256) : WFc (n + 1) np (sts ++ [1]) pg (updV rg q (rgPut (rg q) (n : Nat))) (updV loc n (1, q)) := by
  have nn : ∀ {j}, j < n → j ≠ n := fun hj e => by omega
  refine ⟨by rw [List.length_append, h.sl]; rfl, fun j hj => ?_, fun j hj => ?_, fun q' hq' => ?_, fun q' hq' => ?_⟩
  · by_cases e : j = n
    · subst e
      rw [updV_same, List.getElem?_append_right (by rw [h.sl]; omega), h.sl, Nat.sub_self]
      rfl
    · rw [updV_other _ _ e, List.getElem?_append_left (by rw [h.sl]; omega)]
      exact h.st j (by omega)
  · by_cases e : j = n
    · subst e; rw [updV_same]; exact .inl ⟨rfl, hq⟩
    · rw [updV_other _ _ e]; exact h.kd j (by omega)
  · obtain ⟨L0, h3, h4, h5⟩ := h.rg q' hq'
    have hnL : n ∉ L0 := fun hm => by have := ((h5 n).1 hm).1; omega
    by_cases e : q' = q
    · subst e
      rw [updV_same]
      have hlen : L0.length < 256 := by rw [← h3.n]; exact hr
      refine ⟨L0 ++ [n], h3.put n hlen, ?_, fun j => ?_⟩
      · rw [List.nodup_append]
        refine ⟨h4, by simp, fun a ha b hb e => ?_⟩
        rw [List.mem_singleton] at hb
        subst e hb
        exact hnL ha
      · rw [List.mem_append, h5 j, List.mem_singleton]
        by_cases e2 : j = n
        · subst e2; rw [updV_same]; exact ⟨fun _ => ⟨by omega, rfl⟩, fun _ => .inr rfl⟩
        · rw [updV_other _ _ e2]
          exact ⟨fun h6 => ⟨by have := (h6.resolve_right e2).1; omega, (h6.resolve_right e2).2⟩, fun ⟨h6, h7⟩ => .inl ⟨by omega, h7⟩⟩
    · rw [updV_other _ _ e]
      refine ⟨L0, h3, h4, fun j => ?_⟩
      rw [h5 j]
      by_cases e2 : j = n
      · subst e2
        rw [updV_same]
        exact ⟨fun ⟨h4, _⟩ => absurd h4 (by omega), fun ⟨_, h4⟩ => absurd h4 (by intro h4; injection h4 with _ h4; exact e h4.symm)⟩
      · rw [updV_other _ _ e2]
        exact ⟨fun ⟨h6, h7⟩ => ⟨by omega, h7⟩, fun ⟨h6, h7⟩ => ⟨by omega, h7⟩⟩
  · rcases h.rn q' hq' with ⟨h0, h1⟩ | ⟨g0, h0, h1, h2⟩
    · refine .inl ⟨h0, fun j hj => ?_⟩
      by_cases e2 : j = n
      · subst e2; rw [updV_same]; intro h3; injection h3 with h3; omega
      · rw [updV_other _ _ e2]; exact h1 j (by omega)
    · refine .inr ⟨g0, by omega, h1, fun j hj => ?_⟩
      by_cases e2 : j = n
      · subst e2
        rw [updV_same]
        exact ⟨fun h3 => by injection h3 with h3; omega, fun h3 => by omega⟩
      · rw [updV_other _ _ e2]; exact h2 j (by omega)
theorem WFc.away_r {q g : Nat} (hq : q < np) (hpg : pg q = (g : Nat)) (hr : (rg q).n < 256) :
    g < n ∧ loc g = (2, q) ∧ WFc n np (sts.set g ((1 : Nat) : Int)) (updV pg q (-1)) (updV rg q (rgPut (rg q) (g : Nat))) (updV loc g (1, q)) := by
  obtain ⟨hg, hl, h1⟩ := h.off hq hpg 5 0 (.inr rfl)
  refine ⟨hg, hl, ?_⟩
  have h2 := h1.into_r hq hg (by rw [updV_same]; exact ⟨by decide, by decide⟩) hr
  rw [List.set_set] at h2
  have e : updV (updV loc g (5, 0)) g (1, q) = updV loc g (1, q) := updV_updV _ _ _ _
  rw [e] at h2
  exact h2
end
theorem RingIs.mvN {r o : RgR} {L1 L2 : List Nat} (h1 : RingIs r L1) (h2 : RingIs o L2) (k : Nat) (hk : k ≤ L2.length) (hl : L1.length + k ≤ 256) :
    RingIs (rgMvN k (r, o)).1 (L1 ++ L2.take k) ∧ RingIs (rgMvN k (r, o)).2 (L2.drop k) := by
  induction k with
  | zero => exact ⟨by rw [List.take_zero, List.append_nil]; exact h1, by rw [List.drop_zero]; exact h2⟩
  | succ k ih =>
    obtain ⟨i1, i2⟩ := ih (by omega) (by omega)
    have hlt : k < L2.length := by omega
    have ed : L2.drop k = L2[k] :: L2.drop (k + 1) := List.drop_eq_getElem_cons hlt
    rw [ed] at i2
    have hx := i2.head
    refine ⟨?_, i2.pop⟩
    have hlen : (L1 ++ L2.take k).length < 256 := by rw [List.length_append, List.length_take]; omega
    have h3 := i1.put L2[k] hlen
    rw [List.append_assoc] at h3
    have e : L2.take k ++ [L2[k]] = L2.take (k + 1) := by rw [List.take_add_one, List.getElem?_eq_getElem hlt]; rfl
    rw [e] at h3
    show RingIs (rgPut (rgMvN k (r, o)).1 ((rgMvN k (r, o)).2.l (rgMvN k (r, o)).2.fr)) _
    rw [hx]
    exact h3
section
variable {n np : Nat} {sts : List Int} {pg : Nat → Int} {rg : Nat → RgR} {loc : Nat → Nat × Nat} (h : WFc n np sts pg rg loc)
include h
theorem WFc.steal_r {q v : Nat} {L : List Nat} (hq : q < np) (hv : v < np) (hne : v ≠ q) (h0 : RingIs (rg q) []) (hL : RingIs (rg v) L) (hrn : L.length ≤ 256) :
    WFc n np sts pg (stealR rg q v) (fun j => if j ∈ L.take (L.length - L.length / 2) then (1, q) else loc j) ∧ RingIs (stealR rg q v q) (L.take (L.length - L.length / 2)) := by
  obtain ⟨hN, hm, hlen⟩ := h.list hv hL
  obtain ⟨hN0, hm0, -⟩ := h.list hq h0
  obtain ⟨k, hk⟩ : ∃ k, k = L.length - L.length / 2 := ⟨_, rfl⟩
  have hkn : (rg v).n - (rg v).n / 2 = k := by rw [hL.n, hk]
  obtain ⟨m1, m2⟩ := h0.mvN hL k (by omega) (by rw [List.length_nil]; omega)
  rw [List.nil_append] at m1
  have eq_ : stealR rg q v q = (rgMvN k (rg q, rg v)).1 := by unfold stealR; rw [updV_same, hkn]
  have ev : stealR rg q v v = (rgMvN k (rg q, rg v)).2 := by unfold stealR; rw [updV_other _ _ hne, updV_same, hkn]
  have eo : ∀ q', q' ≠ q → q' ≠ v → stealR rg q v q' = rg q' := fun q' e1 e2 => by unfold stealR; rw [updV_other _ _ e1, updV_other _ _ e2]
  rw [← hk]
  have htk : ∀ j, j ∈ L.take k → j < n ∧ loc j = (1, v) := fun j hj => (hm j).1 (List.mem_of_mem_take hj)
  have hnd : ∀ j, j ∈ L → (j ∈ L.drop k ↔ j ∉ L.take k) := fun j hj => by
    have hs : (L.take k ++ L.drop k).Nodup := by rw [List.take_append_drop]; exact hN
    have hs' := List.nodup_append.1 hs
    refine ⟨fun h1 h2 => hs'.2.2 j h2 j h1 rfl, fun h1 => ?_⟩
    have : j ∈ L.take k ++ L.drop k := by rw [List.take_append_drop]; exact hj
    exact (List.mem_append.1 this).resolve_left h1
  refine ⟨⟨h.sl, fun j hj => ?_, fun j hj => ?_, fun q' hq' => ?_, fun q' hq' => ?_⟩, by rw [eq_]; exact m1⟩
  · rw [h.st j hj]
    by_cases e : j ∈ L.take k
    · rw [if_pos e, (htk j e).2]
    · rw [if_neg e]
  · skip
    by_cases e : j ∈ L.take k
    · rw [if_pos e]; exact .inl ⟨rfl, hq⟩
    · rw [if_neg e]; exact h.kd j hj
  · skip
    by_cases e1 : q' = q
    · subst e1
      refine ⟨L.take k, by rw [eq_]; exact m1, hN.sublist (List.take_sublist k L), fun j => ?_⟩
      by_cases e : j ∈ L.take k
      · rw [if_pos e]; exact ⟨fun _ => ⟨(htk j e).1, rfl⟩, fun _ => e⟩
      · rw [if_neg e]
        exact ⟨fun h1 => absurd h1 e, fun h1 => absurd ((hm0 j).2 h1) (by simp)⟩
    · by_cases e2 : q' = v
      · subst e2
        refine ⟨L.drop k, by rw [ev]; exact m2, hN.sublist (List.drop_sublist k L), fun j => ?_⟩
        by_cases e : j ∈ L.take k
        · rw [if_pos e]
          exact ⟨fun h1 => absurd e ((hnd j (List.mem_of_mem_take e)).1 h1), fun ⟨_, h1⟩ => absurd h1 (by intro h1; injection h1 with _ h1; exact e1 h1.symm)⟩
        · rw [if_neg e, ← hm j]
          exact ⟨fun h1 => List.mem_of_mem_drop h1, fun h1 => (hnd j h1).2 e⟩
      · rw [eo q' e1 e2]
        obtain ⟨L0, h3, h4, h5⟩ := h.rg q' hq'
        refine ⟨L0, h3, h4, fun j => ?_⟩
        rw [h5 j]
        by_cases e : j ∈ L.take k
        · rw [if_pos e, (htk j e).2]
          exact ⟨fun ⟨_, h1⟩ => absurd h1 (by intro h1; injection h1 with _ h1; exact e2 h1.symm), fun ⟨_, h1⟩ => absurd h1 (by intro h1; injection h1 with _ h1; exact e1 h1.symm)⟩
        · rw [if_neg e]
  · skip
    have hr : ∀ j, j < n → (((if j ∈ L.take k then (1, q) else loc j) : Nat × Nat) = (2, q') ↔ loc j = (2, q')) := fun j hj => by
      by_cases e : j ∈ L.take k
      · rw [if_pos e, (htk j e).2]
        exact ⟨fun h1 => by injection h1 with h1; omega, fun h1 => by injection h1 with h1; omega⟩
      · rw [if_neg e]
    rcases h.rn q' hq' with ⟨h0, h1⟩ | ⟨g0, h0, h1, h2⟩
    · exact .inl ⟨h0, fun j hj h3 => h1 j hj ((hr j hj).1 h3)⟩
    · exact .inr ⟨g0, h0, h1, fun j hj => (hr j hj).trans (h2 j hj)⟩
end
theorem stealR_0 {rg : Nat → RgR} {q v : Nat} (h : (rg v).n = 0) : stealR rg q v = rg := by
  funext k
  unfold stealR
  rw [h]
  by_cases e : k = q
  · subst e; rw [updV_same]; rfl
  · rw [updV_other _ _ e]
    by_cases e2 : k = v
    · subst e2; rw [updV_same]; rfl
    · rw [updV_other _ _ e2]
inductive Gets (rg : Nat → RgR) (q np : Nat) (vic : Int) : Option Nat → (Nat → RgR) → Prop
  | own (g : Nat) (L : List Nat) (h : RingIs (rg q) (g :: L)) : Gets rg q np vic (some g) (updV rg q (rgPop (rg q)))
  | stolen (v g : Nat) (L : List Nat) (h0 : RingIs (rg q) []) (hv : v < np) (hne : v ≠ q) (hvic : vic = (v : Nat)) (hL : RingIs (rg v) (g :: L)) : Gets rg q np vic (some g) (updV (stealR rg q v) q (rgPop (stealR rg q v q)))
  | none (h0 : RingIs (rg q) []) : Gets rg q np vic none rg
theorem gets_ok_r {p : MAt} {m : Mac} {loc : Nat → Nat × Nat} (h : WFc m.ng m.np m.sts (fun q => (m.ps q).g) m.rg loc) (q : Nat) (vic : Int) (hq : q < m.np) (hP : m.np ≤ 64) (hrn : ∀ k, k < m.np → (m.rg k).n ≤ 256) (hvq : p.vq = .slice none 0 0) :
    ∃ o r2, Gets m.rg q m.np vic o r2 ∧ PkK p m q vic r2 (match o with | some g => ((g : Nat) : Int) | none => 0) (match o with | some _ => true | none => false) := by
  obtain ⟨L, hL, hN, hm⟩ := h.rg q hq
  have hlen : L.length ≤ 256 := by rw [← hL.n]; exact hrn q hq
  cases L with
  | cons g L =>
    refine ⟨some g, _, .own g L hL, [p.gr q], fun j hj => ⟨q, hq, by simpa using hj⟩, fun w' I => ?_⟩
    have hx := hL.head
    have hn1 : (m.rg q).n = L.length + 1 := by rw [hL.n]; rfl
    rw [List.length_cons] at hlen
    refine (sc_pick_own I hvq q hq 61 vic (.inr rfl) hL.hs hL.fr (by omega) (by omega)).mono fun e w2 ⟨he, hI, hC⟩ => ⟨?_, hI, hC.mono (by simp)⟩
    rw [he, hx]
  | nil =>
    by_cases hv : ∃ v : Nat, v < m.np ∧ v ≠ q ∧ vic = (v : Nat)
    · obtain ⟨v, hv1, hv2, hv3⟩ := hv
      obtain ⟨Lv, hLv, hNv, hmv⟩ := h.rg v hv1
      have hlv : Lv.length ≤ 256 := by rw [← hLv.n]; exact hrn v hv1
      have K := fun (w' : World) (I : IsSc w' p.gsd p.gq m.np p.vr p.vq p.gr m.rg m.com) => sc_pick_far I hvq q hq hP 61 vic (.inr rfl) hL.hs hL.n (stlX m.rg q v) (decide (¬ (m.rg v).n = 0)) (stlR m.rg q v) [p.gr q, p.gr v] (fun e => by
          have e := of_decide_eq_false e
          unfold stlX
          rw [if_pos (Decidable.not_not.1 e)])
        (fun w2 gs gv gk gr I2 cs cv ck cr nr => by
          rw [hv3] at cv
          exact sc_steal_yes I2 q v hq hv1 hv2 hL.hs hL.n hL.fr hLv.hs hLv.fr (by rw [hLv.n]; omega) gs gv gk gr cs cv ck cr ⟨nr q hq, nr v hv1⟩)
      have hT : ∀ j ∈ [p.gr q, p.gr v], ∃ k, k < m.np ∧ j = p.gr k := fun j hj => by
        rcases List.mem_cons.1 hj with e | e
        · exact ⟨q, hq, e⟩
        · exact ⟨v, hv1, List.mem_singleton.1 e⟩
      cases Lv with
      | nil =>
        have hz : (m.rg v).n = 0 := hLv.n
        refine ⟨none, _, .none hL, _, hT, fun w' I => ?_⟩
        have K1 := K w' I
        rw [show stlR m.rg q v = m.rg by unfold stlR; rw [if_pos hz, stealR_0 hz], show stlX m.rg q v = 0 by unfold stlX; rw [if_pos hz], decide_eq_false (fun e => e hz)] at K1
        exact K1
      | cons g Lv =>
        have hz : ¬ (m.rg v).n = 0 := by rw [hLv.n, List.length_cons]; omega
        refine ⟨some g, _, .stolen v g Lv hL hv1 hv2 hv3 hLv, _, hT, fun w' I => ?_⟩
        have K1 := K w' I
        have hst := (h.steal_r hq hv1 hv2 hL hLv hlv).2
        have hk : (g :: Lv).length - (g :: Lv).length / 2 = ((g :: Lv).length - (g :: Lv).length / 2 - 1) + 1 := by rw [List.length_cons]; omega
        rw [hk, List.take_succ_cons] at hst
        rw [show stlR m.rg q v = updV (stealR m.rg q v) q (rgPop (stealR m.rg q v q)) by unfold stlR; rw [if_neg hz], show stlX m.rg q v = (g : Nat) by unfold stlX; rw [if_neg hz]; exact hst.head, decide_eq_true hz] at K1
        exact K1
    · refine ⟨none, _, .none hL, [], fun j hj => by simp at hj, fun w' I => ?_⟩
      refine sc_pick_far I hvq q hq hP 61 vic (.inr rfl) hL.hs hL.n 0 false m.rg [] (fun _ => rfl) (fun w2 gs gv gk gr I2 cs cv ck cr nr => ?_)
      refine sc_steal_no I2 q hq vic ?_ hL.hs hL.n gs gv gk gr cs cv ck cr
      by_cases h1 : vic < 0
      · exact .inl h1
      · by_cases h2 : (m.np : Int) ≤ vic
        · exact .inr (.inl h2)
        · refine .inr (.inr ?_)
          have h3 : ¬ (vic.toNat < m.np ∧ vic.toNat ≠ q ∧ vic = (vic.toNat : Nat)) := fun h3 => hv ⟨_, h3⟩
          omega
def NxtG (fs : List (List Ins)) (x : GorA) (i : Ins) : Prop := ∃ (F pc : Nat) (l : List Ins), x.f = F ∧ x.pc = pc ∧ pc ≤ 1000000 ∧ fs[F]? = some l ∧ (l[pc]? = some i ∨ (pc = l.length ∧ i = ⟨0, 0, 0, 0⟩)) ∧ l ≠ []
def Srv (m m1 : Mac) (q g : Nat) : Prop := ((m.ps q).g = (g : Nat) ∧ m1 = tickA m q) ∨ ((m.ps q).g = -1 ∧ ∃ r2, m1 = takeG (tickA m q) q g r2)
theorem pg_upd {ps : Nat → PrcA} {q : Nat} {x : PrcA} : (fun q' => (updV ps q x q').g) = updV (fun q' => (ps q').g) q x.g := by
  funext k
  unfold updV
  split <;> rfl
abbrev WF (m : Mac) (loc : Nat → Nat × Nat) : Prop := WFc m.ng m.np m.sts (fun q => (m.ps q).g) m.rg loc
theorem WF.tick {m : Mac} {loc : Nat → Nat × Nat} (h : WF m loc) (q : Nat) : WF (tickA m q) loc := by
  show WFc m.ng m.np m.sts (fun q' => (updV m.ps q { m.ps q with all := (m.ps q).all + 1 } q').g) m.rg loc
  rw [pg_upd]
  show WFc m.ng m.np m.sts (updV (fun q' => (m.ps q').g) q ((fun q' => (m.ps q').g) q)) m.rg loc
  rw [updV_self]
  exact h
end Go.Proofs.YtcpljjacamibeaaGreatDoor
