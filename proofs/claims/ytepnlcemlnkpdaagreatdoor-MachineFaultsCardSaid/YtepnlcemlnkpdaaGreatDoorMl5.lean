/- The commit of any instruction that touches no object and no timer: the machine, the model, both in step. -/
import Derived.Test.YtepnlcemlnkpdaaGreatDoorMl4
import Derived.Test.YtepnlcemlnkpdaaGreatDoorMn1J
import Derived.Test.YtepnlcemlnkpdaaGreatDoorMi7J
namespace Go.Proofs.YtepnlcemlnkpdaaGreatDoor
set_option maxHeartbeats 16000000
set_option maxRecDepth 100000
open Go.RowKit Go.Maps
def wkA (m : Mac) (q a x : Nat) (r : List Int) : Mac := { m with wt := updV m.wt a r, sts := m.sts.set x 1, rg := updV m.rg q (rgPut (m.rg q) (x : Nat)) }
def cmtW (m : Mac) (q g : Nat) (i : Ins) : Mac :=
  if i.o = 11 then finA { preA m q g with wt := updV m.wt i.a (m.wt i.a ++ [(g : Int)]) } q g ⟨(g : Nat), (m.gs g).f, (m.gs g).pc, (i.o : Nat), 0, false⟩ 3
  else if i.o = 12 then
    match m.wt i.a with
    | [] => finA (preA m q g) q g ⟨(g : Nat), (m.gs g).f, (m.gs g).pc, (i.o : Nat), -1, false⟩ 2
    | x :: r => finA (wkA (preA m q g) q i.a x.toNat r) q g ⟨(g : Nat), (m.gs g).f, (m.gs g).pc, (i.o : Nat), (x.toNat : Nat), false⟩ 2
  else if i.o = 4 then finA (setGor (preA m q g) g { (preA m q g).gs g with st := updV (m.gs g).st i.a ((m.gs g).st i.b) }) q g ⟨(g : Nat), (m.gs g).f, (m.gs g).pc, (i.o : Nat), 0, false⟩ 2
  else if i.o = 2 then finA (preA m q g) q g ⟨(g : Nat), (m.gs g).f, (m.gs g).pc, (i.o : Nat), 0, true⟩ 5
  else cmt m q g i
def doW (X : Mdl) (g : Nat) (i : Ins) : Mdl :=
  if i.o = 11 then { X with gs := updV X.gs g { X.gs g with pc := (X.gs g).pc + 1, st := 3 }, wt := updV X.wt i.a (X.wt i.a ++ [(g : Int)]) }
  else if i.o = 12 then
    match X.wt i.a with
    | [] => { X with gs := updV X.gs g { X.gs g with pc := (X.gs g).pc + 1 } }
    | x :: r => { X with gs := updV (updV X.gs g { X.gs g with pc := (X.gs g).pc + 1 }) x.toNat { X.gs x.toNat with st := 1 }, wt := updV X.wt i.a r }
  else if i.o = 4 then { X with gs := updV X.gs g { X.gs g with pc := (X.gs g).pc + 1, sk := updV (X.gs g).sk i.a ((X.gs g).sk i.b) } }
  else if i.o = 2 then { X with gs := updV X.gs g { X.gs g with pc := (X.gs g).pc + 1, st := 5 } }
  else doX X g i
def tellW (X : Mdl) (g : Nat) (i : Ins) : ComA :=
  if i.o = 12 then ⟨(g : Nat), (X.gs g).f, (X.gs g).pc, (i.o : Nat), (match X.wt i.a with | [] => -1 | x :: _ => (x.toNat : Nat)), false⟩ else if i.o = 2 then ⟨(g : Nat), (X.gs g).f, (X.gs g).pc, (i.o : Nat), 0, true⟩ else tellX X g i
structure WtX (X : Mdl) : Prop where
  m : ∀ a, a < 32 → ∀ y ∈ X.wt a, ∃ j : Nat, y = (j : Nat) ∧ j < X.n ∧ (X.gs j).st = 3
  nd : ∀ a, a < 32 → (X.wt a).Nodup
  dj : ∀ a b, a < 32 → b < 32 → a ≠ b → ∀ y ∈ X.wt a, y ∉ X.wt b
structure Fine (X : Mdl) (g : Nat) (i : Ins) : Prop where
  o : i.o = 0 ∨ i.o = 2 ∨ i.o = 4 ∨ i.o = 8 ∨ i.o = 9 ∨ i.o = 11 ∨ i.o = 12 ∨ i.o = 14 ∨ i.o = 16 ∨ i.o = 17
  a : i.a < 256
  b : i.b < 256
  b8 : i.o = 8 → i.b < 16 ∧ X.n < 255
  aw : i.o = 11 ∨ i.o = 12 → i.a < 32
  c : 0 ≤ (X.gs g).cnt ∧ (X.gs g).cnt ≤ 1000000
  ab : i.o = 2 ∨ i.o = 4 → i.a < 16 ∧ i.b < 16
  z : i.o = 2 → (X.gs g).sk i.b = 0
theorem loc3 {m : Mac} {X : Mdl} {loc : Nat → Nat × Nat} (R : Rel m X) (h : WF m loc) {j : Nat} (hj : j < m.ng) (hs : (X.gs j).st = 3) : (loc j).1 = 3 := by
  have h1 := WF.stX R h hj
  rw [hs] at h1
  rcases h.kd j hj with ⟨e, -⟩ | ⟨e, -⟩ | e | e
  · rw [e] at h1; exact absurd h1 (by decide)
  · rw [e] at h1; exact absurd h1 (by decide)
  · exact e
  · rw [e] at h1; exact absurd h1 (by decide)
theorem WtX.len {X : Mdl} (W : WtX X) (a : Nat) (ha : a < 32) : (X.wt a).length ≤ X.n := by
  have h1 : ((X.wt a).map Int.toNat).Nodup := by
    rw [List.nodup_iff_pairwise_ne, List.pairwise_map]
    refine (List.nodup_iff_pairwise_ne.1 (W.nd a ha)).imp_of_mem ?_
    intro x y hx hy hne e
    obtain ⟨j, ej, -, -⟩ := W.m a ha x hx
    obtain ⟨k, ek, -, -⟩ := W.m a ha y hy
    subst ej ek
    rw [Int.toNat_natCast, Int.toNat_natCast] at e
    exact hne (by rw [e])
  have h2 := nodup_len (n := X.n) h1 (fun j hj => by
    obtain ⟨x, hx, e⟩ := List.mem_map.1 hj
    obtain ⟨k, ek, hk, -⟩ := W.m a ha x hx
    subst ek
    rw [Int.toNat_natCast] at e
    omega)
  rwa [List.length_map] at h2
section
variable {P : Nat} {fs : List (List Ins)} {J : Mdl → List ComA → Prop} {m : Mac} {X : Mdl} {loc : Nat → Nat × Nat} {q g : Nat} {i : Ins}
theorem AtC.st1 (A : AtC P fs J m X loc q g) : (X.gs g).st = 1 := by
  rw [WF.stX A.R A.h A.hg, A.l]; rfl
theorem AtC.sts (A : AtC P fs J m X loc q g) : m.sts[g]? = some 2 := by
  have := A.h.st g A.hg
  rw [A.l] at this
  exact this
theorem m_commit_fine (A : AtC P fs J m X loc q g) (W : WtX X) (F : Fine X g i) (hpc : ∃ pc : Nat, (m.gs g).pc = pc ∧ pc ≤ 1000000) (p : MAt) (hvq : p.vq = .slice none 0 0) (B : Bs) (w : World) (M : MM B w p m) :
    Calls Tryz.prog 146 #[.pointer (some ⟨p.gm, 0, none⟩), .int .i64 (q : Nat), insV i, .int .i64 0] w (RunPost B (Keeps p) (cmtW m q g i) g) := by
  obtain ⟨pc, hpc, bpc⟩ := hpc
  obtain ⟨rw_, hrow, brow⟩ := A.row
  have hg := A.hg
  have hq := A.hq
  have hxg := A.pg
  have hst := A.sts
  have hsl : m.sts.length = m.ng := A.h.sl
  have hng := A.ng
  obtain ⟨L, hL, hN, hm⟩ := A.h.rg q hq
  have hfr := hL.fr
  have hn : (m.rg q).n < 256 := by
    rw [hL.n]
    have := (A.h.list hq hL).2.2
    omega
  have hcnt : 0 ≤ (m.gs g).cnt ∧ (m.gs g).cnt ≤ 1000000 := by rw [← (A.R.g g hg).2.2.1]; exact F.c
  have hgs : (preA m q g).gs g = { m.gs g with pc := (m.gs g).pc + 1 } := updV_same _ _ _
  have hw : m.wt = X.wt := A.R.w
  have hlen : ∀ a, a < 32 → (m.wt a).length ≤ 255 := fun a ha => by
    have := W.len a ha
    rw [A.R.n] at this
    rw [hw]; omega
  have fin : ∀ (m2 : Mac) (c : ComA) (tz : Nat), (tz = 1 ∨ tz = 2 ∨ tz = 3 ∨ tz = 5) → c.g = (g : Nat) → m2.np = m.np → m2.sts[g]? = some 2 → m2.sts.length ≤ 1000000 → m2.cms = m.cms → (tz = 1 → m2.rg = m.rg) → finA m2 q g c tz = cmtW m q g i →
      (∀ (w7 : World) (D : List Nat) (gC gT gI gA gY gM gp gg : Nat), CmW w gC gT gI gA gY gM gp gg ⟨(g : Nat), (m.gs g).f, (pc : Nat), (i.o : Nat), 0, false⟩ 2 i 0 (p.bg g) p.gm q g w7 → MM ⟨w7, D⟩ w7 p (preA m q g) → (∀ k ∈ [gC, gT, gI, gA, gY, gM, gp, gg], k ∉ D) →
        Calls Tryz.prog 223 #[.pointer (some ⟨gC, 0, none⟩), .pointer (some ⟨gT, 0, none⟩), .pointer (some ⟨gI, 0, none⟩), .pointer (some ⟨gA, 0, none⟩), .pointer (some ⟨gY, 0, none⟩), .pointer (some ⟨gM, 0, none⟩), .pointer (some ⟨gp, 0, none⟩), .pointer (some ⟨gg, 0, none⟩)] w7 (InnrPost D w7 gC gT (Keeps p) m2 c tz)) →
      Calls Tryz.prog 146 #[.pointer (some ⟨p.gm, 0, none⟩), .int .i64 (q : Nat), insV i, .int .i64 0] w (RunPost B (Keeps p) (cmtW m q g i) g) := fun m2 c tz htz hcg hnp hst2 hsl2 hcm hrg hfin hIn => by
    refine (m_commit_gen M q g 0 i hq hg hxg rw_ hrow brow pc hpc bpc (Keeps p) m2 c tz htz (fun p2 h => ⟨h.1, h.2.1, h.2.2.1⟩) hcg hnp hst2 hsl2 (by rw [hcm]; exact A.cl) (fun e => by rw [hrg e]; exact ⟨hfr, hn⟩) hIn).mono ?_
    rintro e w' ⟨p2, v, rfl, hQ, M'⟩
    exact ⟨{ p2 with vco := v }, rfl, hQ.co v, by rw [← hfin]; exact M'⟩
  by_cases h11 : i.o = 11
  · have ha := F.aw (.inl h11)
    refine fin { preA m q g with wt := updV m.wt i.a (m.wt i.a ++ [(g : Int)]) } ⟨(g : Nat), (m.gs g).f, (pc : Nat), (i.o : Nat), 0, false⟩ 3 (by omega) rfl rfl hst (by show m.sts.length ≤ _; omega) rfl (fun e => by omega) (by unfold cmtW; rw [if_pos h11, hpc]) ?_
    intro w7 D gC gT gI gA gY gM gp gg K M7 hD
    refine in_block K h11 ha hD M7 (fun a ha hm => ?_) (fun a ha => ?_) (fun v' => ⟨rfl, rfl, hvq, rfl, rfl⟩)
    · have hm : (g : Int) ∈ m.wt a := hm
      rw [hw] at hm
      obtain ⟨j, ej, -, hj⟩ := W.m a ha _ hm
      have e : g = j := by omega
      rw [← e, A.st1] at hj
      omega
    · have := hlen a ha
      show (m.wt a).length ≤ _
      omega
  by_cases h12 : i.o = 12
  · have ha := F.aw (.inr h12)
    cases hx : m.wt i.a with
    | nil =>
      refine fin (preA m q g) ⟨(g : Nat), (m.gs g).f, (pc : Nat), (i.o : Nat), -1, false⟩ 2 (by omega) rfl rfl hst (by show m.sts.length ≤ _; omega) rfl (fun e => by omega) (by unfold cmtW; rw [if_neg h11, if_pos h12, hx, hpc]) ?_
      intro w7 D gC gT gI gA gY gM gp gg K M7 hD
      refine in_ctl K (.inr (.inl h12)) hD _ (-1) ?_
      refine (ctl_wake_no M7 q g i h12 ha hx hg).mono ?_
      rintro e w' ⟨he, M8⟩
      exact ⟨he, p, ⟨rfl, rfl, hvq, rfl, rfl⟩, M8⟩
    | cons x r =>
      have hx0 : x ∈ m.wt i.a := by rw [hx]; simp
      rw [hw] at hx0
      obtain ⟨j, rfl, hj, hs⟩ := W.m i.a ha x hx0
      rw [A.R.n] at hj
      have hl3 := loc3 A.R A.h hj hs
      have hsj : m.sts[j]? = some 3 := by have := A.h.st j hj; rw [hl3] at this; exact this
      have hjg : j ≠ g := fun e => by rw [e, A.st1] at hs; omega
      have hr := hlen i.a ha
      rw [hx, List.length_cons] at hr
      refine fin (wkA (preA m q g) q i.a j r) ⟨(g : Nat), (m.gs g).f, (pc : Nat), (i.o : Nat), (j : Nat), false⟩ 2 (by omega) rfl rfl ?_ (by show (m.sts.set j 1).length ≤ _; rw [List.length_set]; omega) rfl (fun e => by omega) (by unfold cmtW; rw [if_neg h11, if_pos h12, hx, hpc]; rfl) ?_
      · show (m.sts.set j 1)[g]? = some 2
        rw [List.getElem?_set_ne hjg]; exact hst
      · intro w7 D gC gT gI gA gY gM gp gg K M7 hD
        refine in_ctl K (.inr (.inl h12)) hD _ (j : Nat) ?_
        refine (ctl_wake M7 q g i h12 ha j r hx (by omega) (fun y hy => ?_) hg hq hsj (by show m.sts.length ≤ _; omega) hvq hfr hn).mono ?_
        · have hy : y ∈ m.wt i.a := hy
          rw [hw] at hy
          obtain ⟨k, rfl, hk, -⟩ := W.m i.a ha y hy
          rw [A.R.n] at hk
          unfold WfI
          omega
        · rintro e w' ⟨v', he, M8⟩
          exact ⟨he, { p with vwt := updV p.vwt i.a v' }, ⟨rfl, rfl, hvq, rfl, rfl⟩, M8⟩
  by_cases h4 : i.o = 4
  · obtain ⟨ha, hb⟩ := F.ab (.inr h4)
    refine fin (setGor (preA m q g) g { (preA m q g).gs g with st := updV (m.gs g).st i.a ((m.gs g).st i.b) }) ⟨(g : Nat), (m.gs g).f, (pc : Nat), (i.o : Nat), 0, false⟩ 2 (by omega) rfl rfl hst (by show m.sts.length ≤ _; omega) rfl (fun e => by omega) (by unfold cmtW; rw [if_neg h11, if_neg h12, if_pos h4, hpc]) ?_
    intro w7 D gC gT gI gA gY gM gp gg K M7 hD
    refine in_data K h4 hD _ 0 ?_
    refine (dat_move M7 q g i h4 hg ha hb).mono ?_
    rintro e w' ⟨he, M8⟩
    have e : ((preA m q g).gs g).st = (m.gs g).st := by rw [hgs]
    rw [e] at M8
    exact ⟨he, p, ⟨rfl, rfl, hvq, rfl, rfl⟩, M8⟩
  by_cases h2 : i.o = 2
  · obtain ⟨ha, hb⟩ := F.ab (.inl h2)
    refine fin (preA m q g) ⟨(g : Nat), (m.gs g).f, (pc : Nat), (i.o : Nat), 0, true⟩ 5 (by omega) rfl rfl hst (by show m.sts.length ≤ _; omega) rfl (fun e => by omega) (by unfold cmtW; rw [if_neg h11, if_neg h12, if_neg h4, if_pos h2, hpc]) ?_
    intro w7 D gC gT gI gA gY gM gp gg K M7 hD
    refine in_fault K h2 M7 ⟨rfl, rfl, hvq, rfl, rfl⟩ ?_
    refine dat_fault M7 (A.ob 0) q g i h2 hg ha hb ?_
    rw [hgs]
    show (m.gs g).st i.b = 0
    rw [← (A.R.g g hg).2.2.2]
    exact F.z h2
  · have ec : cmtW m q g i = cmt m q g i := by unfold cmtW; rw [if_neg h11, if_neg h12, if_neg h4, if_neg h2]
    rw [ec]
    have ho : i.o = 0 ∨ i.o = 8 ∨ i.o = 9 ∨ i.o = 14 ∨ i.o = 16 ∨ i.o = 17 := by have := F.o; omega
    exact m_commit_cmt M q g i ho F.a F.b (fun h => ⟨(F.b8 h).1, by omega⟩) hq hg hxg rw_ hrow brow pc hpc bpc hvq hst hsl (by omega) A.cl hfr hn A.h0 hcnt
theorem pre_pg : (fun q' => ((preA m q g).ps q').g) = fun q' => (m.ps q').g := by
  show (fun q' => (updV m.ps q { m.ps q with row := (m.ps q).row + 1 } q').g) = _
  rw [pg_upd]
  exact updV_self (fun q' => (m.ps q').g) q
theorem off_pg : (fun q' => (updV (preA m q g).ps q { (preA m q g).ps q with g := -1 } q').g) = updV (fun q' => (m.ps q').g) q (-1) := by
  rw [pg_upd, pre_pg]
theorem Stays.fin {m2 : Mac} {c : ComA} {tz : Nat} (h : m2.np = m.np ∧ m2.fs = m.fs ∧ m2.tm = m.tm ∧ m2.made = m.made ∧ m2.out = m.out ∧ m2.ph = m.ph ∧ m2.force = m.force ∧ m2.A = m.A ∧ m2.gT = m.gT ∧ m2.steps = m.steps ∧ m2.clock = m.clock) (hp : m2.ps = (preA m q g).ps) : Stays m (finA m2 q g c tz) q := by
  obtain ⟨h1, h2, h3, h4, h5, h6, h7, h8, h9, h10, h11⟩ := h
  refine ⟨h1, h2, h3, h4, h5, h6, h7, h8, h9, h10, h11, fun q' => ?_⟩
  have e : ∀ q', ((preA m q g).ps q').worked = (m.ps q').worked ∧ ((preA m q g).ps q').all = (m.ps q').all ∧ ((preA m q g).ps q').picks = (m.ps q').picks ∧ (((preA m q g).ps q').row = (m.ps q').row ∨ ((preA m q g).ps q').row = (m.ps q').row + 1) := fun q' => by
    have hx : (preA m q g).ps q' = if q' = q then { m.ps q with row := (m.ps q).row + 1 } else m.ps q' := rfl
    rw [hx]
    by_cases e : q' = q
    · subst e; rw [if_pos rfl]; exact ⟨rfl, rfl, rfl, .inr rfl⟩
    · rw [if_neg e]; exact ⟨rfl, rfl, rfl, .inl rfl⟩
  have hx : (finA m2 q g c tz).ps = if tz = 2 then m2.ps else updV m2.ps q { m2.ps q with g := -1 } := rfl
  rw [hx, hp]
  by_cases t : tz = 2
  · rw [if_pos t]; exact e q'
  · rw [if_neg t]
    by_cases e2 : q' = q
    · subst e2; rw [updV_same]; exact e q'
    · rw [updV_other _ _ e2]; exact e q'
theorem cmt0 (h : i.o = 0) : cmt m q g i = finA (preA m q g) q g ⟨(g : Nat), (m.gs g).f, (m.gs g).pc, (i.o : Nat), 0, false⟩ 5 := by unfold cmt; rw [if_pos h]
theorem cmt8 (h : i.o = 8) : cmt m q g i = finA (spawnA (preA m q g) q (i.a : Nat) ((m.gs g).st i.b)) q g ⟨(g : Nat), (m.gs g).f, (m.gs g).pc, (i.o : Nat), (m.ng : Nat), false⟩ 2 := by unfold cmt; rw [if_neg (by omega), if_neg (by omega), if_neg (by omega), if_neg (by omega), if_neg (by omega)]
theorem cmt9 (h : i.o = 9) : cmt m q g i = finA (preA m q g) q g ⟨(g : Nat), (m.gs g).f, (m.gs g).pc, (i.o : Nat), 0, false⟩ 1 := by unfold cmt; rw [if_neg (by omega), if_pos h]
theorem cmt2 (h : i.o = 14 ∨ i.o = 16 ∨ i.o = 17) : ∃ y c, cmt m q g i = finA { preA m q g with gs := y } q g c 2 := by
  rcases h with h | h | h
  · exact ⟨_, _, by unfold cmt; rw [if_neg (by omega), if_neg (by omega), if_neg (by omega), if_pos h]; rfl⟩
  · exact ⟨_, _, by unfold cmt; rw [if_neg (by omega), if_neg (by omega), if_pos h]; rfl⟩
  · by_cases hz : (m.gs g).cnt = 0
    · exact ⟨(preA m q g).gs, _, by unfold cmt; rw [if_neg (by omega), if_neg (by omega), if_neg (by omega), if_neg (by omega), if_pos h, if_pos hz]⟩
    · exact ⟨_, _, by unfold cmt; rw [if_neg (by omega), if_neg (by omega), if_neg (by omega), if_neg (by omega), if_pos h, if_neg hz]; rfl⟩
theorem WF.fin2 (h : WF m loc) {y : Nat → GorA} {c : ComA} : WF (finA { preA m q g with gs := y } q g c 2) loc := by
  show WFc m.ng m.np m.sts (fun q' => ((preA m q g).ps q').g) m.rg loc
  rw [pre_pg]; exact h
theorem after_fine (A : AtC P fs J m X loc q g) (W : WtX X) (F : Fine X g i) :
    ∃ loc3, WF (cmtW m q g i) loc3 ∧ Rel (cmtW m q g i) (doW X g i) ∧ (cmtW m q g i).cms = m.cms ++ [tellW X g i] ∧ Stays m (cmtW m q g i) q := by
  have hg := A.hg
  have hq := A.hq
  have hxg := A.pg
  have hst := A.sts
  have hsl : m.sts.length = m.ng := A.h.sl
  have hng := A.ng
  have hw : m.wt = X.wt := A.R.w
  obtain ⟨gf, gp, gc, gk⟩ := A.R.g g hg
  have h := A.h
  by_cases h11 : i.o = 11
  · have ha := F.aw (.inl h11)
    have ec : cmtW m q g i = finA { preA m q g with wt := updV m.wt i.a (m.wt i.a ++ [(g : Int)]) } q g ⟨(g : Nat), (m.gs g).f, (m.gs g).pc, (i.o : Nat), 0, false⟩ 3 := by unfold cmtW; rw [if_pos h11]
    have ex : doW X g i = { X with gs := updV X.gs g { X.gs g with pc := (X.gs g).pc + 1, st := 3 }, wt := updV X.wt i.a (X.wt i.a ++ [(g : Int)]) } := by unfold doW; rw [if_pos h11]
    have et : tellW X g i = ⟨(g : Nat), (m.gs g).f, (m.gs g).pc, (i.o : Nat), 0, false⟩ := by unfold tellW tellX; rw [if_neg (by omega), if_neg (by omega), if_neg (by omega), gf, gp]
    rw [ec, ex, et]
    refine ⟨updV loc g (3, i.a), ?_, ⟨A.R.fs, A.R.n, fun j s hj => ?_, fun j hj => ?_, ?_⟩, rfl, Stays.fin ⟨rfl, rfl, rfl, rfl, rfl, rfl, rfl, rfl, rfl, rfl, rfl⟩ rfl⟩
    · have := (h.off hq hxg 3 i.a (.inl rfl)).2.2
      show WFc m.ng m.np (m.sts.set g ((3 : Nat) : Int)) (fun q' => (updV (preA m q g).ps q { (preA m q g).ps q with g := -1 } q').g) m.rg _
      rw [off_pg]; exact this
    · have hj : (m.sts.set g 3)[j]? = some s := hj
      rw [List.getElem?_set] at hj
      dsimp only
      by_cases e : j = g
      · subst e
        rw [if_pos rfl, if_pos (by omega)] at hj
        rw [updV_same, ← Option.some.inj hj]
        show (3 : Int) = stX 3
        decide
      · rw [if_neg (fun h => e h.symm)] at hj
        rw [updV_other _ _ e]; exact A.R.st j s hj
    · have hgs : (finA { preA m q g with wt := updV m.wt i.a (m.wt i.a ++ [(g : Int)]) } q g ⟨(g : Nat), (m.gs g).f, (m.gs g).pc, (i.o : Nat), 0, false⟩ 3).gs = updV m.gs g { m.gs g with pc := (m.gs g).pc + 1 } := rfl
      rw [hgs]
      dsimp only
      by_cases e : j = g
      · subst e; rw [updV_same, updV_same]; exact ⟨gf, by show (X.gs j).pc + 1 = (m.gs j).pc + 1; rw [gp], gc, gk⟩
      · rw [updV_other _ _ e, updV_other _ _ e]; exact A.R.g j hj
    · show updV m.wt i.a (m.wt i.a ++ [(g : Int)]) = updV X.wt i.a (X.wt i.a ++ [(g : Int)])
      rw [hw]
  by_cases h12 : i.o = 12
  · have ha := F.aw (.inr h12)
    cases hx : m.wt i.a with
    | nil =>
      have ec : cmtW m q g i = finA (preA m q g) q g ⟨(g : Nat), (m.gs g).f, (m.gs g).pc, (i.o : Nat), -1, false⟩ 2 := by unfold cmtW; rw [if_neg h11, if_pos h12, hx]
      have ex : doW X g i = { X with gs := updV X.gs g { X.gs g with pc := (X.gs g).pc + 1 } } := by unfold doW; rw [if_neg h11, if_pos h12, ← hw, hx]
      have et : tellW X g i = ⟨(g : Nat), (m.gs g).f, (m.gs g).pc, (i.o : Nat), -1, false⟩ := by unfold tellW; rw [if_pos h12, ← hw, hx, gf, gp]
      rw [ec, ex, et]
      refine ⟨loc, WF.fin2 (y := (preA m q g).gs) h, Rel.set A.R g hg (x := { m.gs g with pc := (m.gs g).pc + 1 }) (st' := m.sts) rfl rfl rfl rfl rfl ⟨gf, by show (X.gs g).pc + 1 = (m.gs g).pc + 1; rw [gp], gc, gk⟩ (fun j s hj => ?_), rfl, Stays.fin ⟨rfl, rfl, rfl, rfl, rfl, rfl, rfl, rfl, rfl, rfl, rfl⟩ rfl⟩
      by_cases e : j = g
      · subst e; rw [if_pos rfl]; exact A.R.st j s hj
      · rw [if_neg e]; exact hj
    | cons x r =>
      have hx0 : x ∈ m.wt i.a := by rw [hx]; simp
      rw [hw] at hx0
      obtain ⟨j, rfl, hj, hs⟩ := W.m i.a ha x hx0
      rw [A.R.n] at hj
      have hl3 := loc3 A.R A.h hj hs
      have hjg : j ≠ g := fun e => by rw [e, A.st1] at hs; omega
      have ec : cmtW m q g i = finA (wkA (preA m q g) q i.a j r) q g ⟨(g : Nat), (m.gs g).f, (m.gs g).pc, (i.o : Nat), (j : Nat), false⟩ 2 := by unfold cmtW; rw [if_neg h11, if_pos h12, hx]; rfl
      have ex : doW X g i = { X with gs := updV (updV X.gs g { X.gs g with pc := (X.gs g).pc + 1 }) j { X.gs j with st := 1 }, wt := updV X.wt i.a r } := by unfold doW; rw [if_neg h11, if_pos h12, ← hw, hx]; rfl
      have et : tellW X g i = ⟨(g : Nat), (m.gs g).f, (m.gs g).pc, (i.o : Nat), (j : Nat), false⟩ := by unfold tellW; rw [if_pos h12, ← hw, hx, gf, gp]; rfl
      rw [ec, ex, et]
      refine ⟨updV loc j (1, q), ?_, ⟨A.R.fs, A.R.n, fun k s hk => ?_, fun k hk => ?_, ?_⟩, rfl, Stays.fin ⟨rfl, rfl, rfl, rfl, rfl, rfl, rfl, rfl, rfl, rfl, rfl⟩ rfl⟩
      · have := h.into hq hj ⟨by rw [hl3]; omega, by rw [hl3]; omega⟩ (by omega)
        show WFc m.ng m.np (m.sts.set j ((1 : Nat) : Int)) (fun q' => ((preA m q g).ps q').g) (updV m.rg q (rgPut (m.rg q) (j : Nat))) _
        rw [pre_pg]; exact this
      · replace hk : (m.sts.set j 1)[k]? = some s := hk
        rw [List.getElem?_set] at hk
        dsimp only
        by_cases e : k = j
        · subst e
          rw [if_pos rfl, if_pos (by omega)] at hk
          rw [updV_same, ← Option.some.inj hk]
          show (1 : Int) = stX 1
          decide
        · rw [if_neg (fun h => e h.symm)] at hk
          rw [updV_other _ _ e]
          by_cases e2 : k = g
          · subst e2; rw [updV_same]; exact A.R.st k s hk
          · rw [updV_other _ _ e2]; exact A.R.st k s hk
      · have hgs : (finA (wkA (preA m q g) q i.a j r) q g ⟨(g : Nat), (m.gs g).f, (m.gs g).pc, (i.o : Nat), (j : Nat), false⟩ 2).gs = updV m.gs g { m.gs g with pc := (m.gs g).pc + 1 } := rfl
        rw [hgs]
        dsimp only
        by_cases e2 : k = j
        · subst e2
          rw [updV_same, updV_other _ _ hjg]
          exact A.R.g k hk
        · rw [updV_other _ _ e2]
          by_cases e : k = g
          · subst e; rw [updV_same, updV_same]; exact ⟨gf, by show (X.gs k).pc + 1 = (m.gs k).pc + 1; rw [gp], gc, gk⟩
          · rw [updV_other _ _ e, updV_other _ _ e]; exact A.R.g k hk
      · show updV m.wt i.a r = updV X.wt i.a r
        rw [hw]
  by_cases h4 : i.o = 4
  · have ec : cmtW m q g i = finA (setGor (preA m q g) g { (preA m q g).gs g with st := updV (m.gs g).st i.a ((m.gs g).st i.b) }) q g ⟨(g : Nat), (m.gs g).f, (m.gs g).pc, (i.o : Nat), 0, false⟩ 2 := by unfold cmtW; rw [if_neg h11, if_neg h12, if_pos h4]
    have ex : doW X g i = { X with gs := updV X.gs g { X.gs g with pc := (X.gs g).pc + 1, sk := updV (X.gs g).sk i.a ((X.gs g).sk i.b) } } := by unfold doW; rw [if_neg h11, if_neg h12, if_pos h4]
    have et : tellW X g i = ⟨(g : Nat), (m.gs g).f, (m.gs g).pc, (i.o : Nat), 0, false⟩ := by unfold tellW tellX; rw [if_neg (by omega), if_neg (by omega), if_neg (by omega), gf, gp]
    rw [ec, ex, et]
    refine ⟨loc, WF.fin2 (m := m) (q := q) (g := g) h, Rel.set A.R g hg (x := { m.gs g with pc := (m.gs g).pc + 1, st := updV (m.gs g).st i.a ((m.gs g).st i.b) }) (st' := m.sts) rfl rfl rfl (by simp [finA, preA, setGor, updV_updV, updV_same]) rfl ⟨gf, by show (X.gs g).pc + 1 = (m.gs g).pc + 1; rw [gp], gc, by show updV (X.gs g).sk i.a _ = updV (m.gs g).st i.a _; rw [gk]⟩ (fun j s hj => ?_), rfl, Stays.fin ⟨rfl, rfl, rfl, rfl, rfl, rfl, rfl, rfl, rfl, rfl, rfl⟩ rfl⟩
    by_cases e : j = g
    · subst e; rw [if_pos rfl]; exact A.R.st j s hj
    · rw [if_neg e]; exact hj
  by_cases h2 : i.o = 2
  · have ec : cmtW m q g i = finA (preA m q g) q g ⟨(g : Nat), (m.gs g).f, (m.gs g).pc, (i.o : Nat), 0, true⟩ 5 := by unfold cmtW; rw [if_neg h11, if_neg h12, if_neg h4, if_pos h2]
    have ex : doW X g i = { X with gs := updV X.gs g { X.gs g with pc := (X.gs g).pc + 1, st := 5 } } := by unfold doW; rw [if_neg h11, if_neg h12, if_neg h4, if_pos h2]
    have et : tellW X g i = ⟨(g : Nat), (m.gs g).f, (m.gs g).pc, (i.o : Nat), 0, true⟩ := by unfold tellW; rw [if_neg (by omega), if_pos h2, gf, gp]
    rw [ec, ex, et]
    refine ⟨updV loc g (5, 0), ?_, Rel.set A.R g hg (x := { m.gs g with pc := (m.gs g).pc + 1 }) (st' := m.sts.set g 5) rfl rfl (by simp [finA, preA]) (by simp [finA, preA]) rfl ⟨gf, by show (X.gs g).pc + 1 = (m.gs g).pc + 1; rw [gp], gc, gk⟩ (fun j s hj => ?_), rfl, Stays.fin ⟨rfl, rfl, rfl, rfl, rfl, rfl, rfl, rfl, rfl, rfl, rfl⟩ rfl⟩
    · have := (h.off hq hxg 5 0 (.inr rfl)).2.2
      show WFc m.ng m.np (m.sts.set g ((5 : Nat) : Int)) (fun q' => (updV (preA m q g).ps q { (preA m q g).ps q with g := -1 } q').g) m.rg _
      rw [off_pg]; exact this
    · rw [List.getElem?_set] at hj
      by_cases e : j = g
      · subst e
        rw [if_pos rfl, if_pos (by omega)] at hj
        rw [if_pos rfl, ← Option.some.inj hj]
        show (5 : Int) = stX 5
        decide
      · rw [if_neg (fun h => e h.symm)] at hj
        rw [if_neg e]; exact hj
  · have ec : cmtW m q g i = cmt m q g i := by unfold cmtW; rw [if_neg h11, if_neg h12, if_neg h4, if_neg h2]
    have ex : doW X g i = doX X g i := by unfold doW; rw [if_neg h11, if_neg h12, if_neg h4, if_neg h2]
    have et : tellW X g i = tellX X g i := by unfold tellW; rw [if_neg h12, if_neg h2]
    have ho : i.o = 0 ∨ i.o = 8 ∨ i.o = 9 ∨ i.o = 14 ∨ i.o = 16 ∨ i.o = 17 := by have := F.o; omega
    rw [ec, ex, et]
    obtain ⟨hR, hc⟩ := Rel.cmt A.R q g hg i hst hsl ho
    have key : ∃ loc3, WF (cmt m q g i) loc3 ∧ Stays m (cmt m q g i) q := by
      rcases ho with ho | ho | ho | ho
      · rw [cmt0 ho]
        refine ⟨updV loc g (5, 0), ?_, Stays.fin ⟨rfl, rfl, rfl, rfl, rfl, rfl, rfl, rfl, rfl, rfl, rfl⟩ rfl⟩
        have := (h.off hq hxg 5 0 (.inr rfl)).2.2
        show WFc m.ng m.np (m.sts.set g ((5 : Nat) : Int)) (fun q' => (updV (preA m q g).ps q { (preA m q g).ps q with g := -1 } q').g) m.rg _
        rw [off_pg]; exact this
      · rw [cmt8 ho]
        refine ⟨updV loc m.ng (1, q), ?_, Stays.fin ⟨rfl, rfl, rfl, rfl, rfl, rfl, rfl, rfl, rfl, rfl, rfl⟩ rfl⟩
        have := h.spawn hq (by omega)
        show WFc (m.ng + 1) m.np (m.sts ++ [1]) (fun q' => ((preA m q g).ps q').g) (updV m.rg q (rgPut (m.rg q) (m.ng : Nat))) _
        rw [pre_pg]; exact this
      · rw [cmt9 ho]
        refine ⟨updV loc g (1, q), ?_, Stays.fin ⟨rfl, rfl, rfl, rfl, rfl, rfl, rfl, rfl, rfl, rfl, rfl⟩ rfl⟩
        have := (h.away hq hxg (by omega)).2.2
        show WFc m.ng m.np (m.sts.set g ((1 : Nat) : Int)) (fun q' => (updV (preA m q g).ps q { (preA m q g).ps q with g := -1 } q').g) (updV m.rg q (rgPut (m.rg q) (g : Nat))) _
        rw [off_pg]; exact this
      · obtain ⟨y, c, e⟩ := cmt2 (m := m) (q := q) (g := g) ho
        rw [e]
        exact ⟨loc, WF.fin2 h, Stays.fin ⟨rfl, rfl, rfl, rfl, rfl, rfl, rfl, rfl, rfl, rfl, rfl⟩ rfl⟩
    obtain ⟨l3, k1, k2⟩ := key
    exact ⟨l3, k1, hR, hc, k2⟩
end
end Go.Proofs.YtepnlcemlnkpdaaGreatDoor
