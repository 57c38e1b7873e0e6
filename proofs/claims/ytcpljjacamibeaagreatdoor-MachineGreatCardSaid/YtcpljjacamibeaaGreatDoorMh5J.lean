/- The document's model beside the machine, in plain Lean: of Exit, Yield, Set, Dec, Jump, Spawn. -/
/- A program as an argument: its functions read; Great, one, Fit. -/
import Derived.Test.YtcpljjacamibeaaGreatDoorMg6J
import Derived.Test.YtcpljjacamibeaaGreatDoorMcTJ
import Derived.Test.YtcpljjacamibeaaGreatDoorMClJ
namespace Go.Proofs.YtcpljjacamibeaaGreatDoor
set_option maxHeartbeats 16000000
set_option maxRecDepth 100000
open Go.RowKit Go.Maps
structure MdG where
  st : Int
  f : Int
  pc : Int
  cnt : Int
  sk : Nat → Int
structure Mdl where
  fs : List (List Ins)
  n : Nat
  gs : Nat → MdG
  wt : Nat → List Int
def doX (X : Mdl) (g : Nat) (i : Ins) : Mdl :=
  if i.o = 0 then { X with gs := updV X.gs g { X.gs g with pc := (X.gs g).pc + 1, st := 5 } }
  else if i.o = 9 then { X with gs := updV X.gs g { X.gs g with pc := (X.gs g).pc + 1 } }
  else if i.o = 16 then { X with gs := updV X.gs g { X.gs g with pc := (X.gs g).pc + 1, cnt := 256 * (i.a : Nat) + (i.b : Nat) } }
  else if i.o = 14 then { X with gs := updV X.gs g { X.gs g with pc := (i.a : Nat) } }
  else if i.o = 17 then
    if (X.gs g).cnt = 0 then { X with gs := updV X.gs g { X.gs g with pc := (X.gs g).pc + 1 } }
    else { X with gs := updV X.gs g { X.gs g with pc := (i.a : Nat), cnt := (X.gs g).cnt - 1 } }
  else { X with n := X.n + 1, gs := updV (updV X.gs g { X.gs g with pc := (X.gs g).pc + 1 }) X.n ⟨1, (i.a : Nat), 0, 0, updV (fun _ => 0) 0 ((X.gs g).sk i.b)⟩ }
def tellX (X : Mdl) (g : Nat) (i : Ins) : ComA := ⟨(g : Nat), (X.gs g).f, (X.gs g).pc, (i.o : Nat), if i.o = 8 then (X.n : Nat) else 0, false⟩
def stX (s : Int) : Int := if s = 5 then 5 else if s = 3 then 3 else 1
structure Rel (m : Mac) (X : Mdl) : Prop where
  fs : X.fs = m.fs
  n : X.n = m.ng
  st : ∀ j s, m.sts[j]? = some s → (X.gs j).st = stX s
  g : ∀ j, j < m.ng → (X.gs j).f = (m.gs j).f ∧ (X.gs j).pc = (m.gs j).pc ∧ (X.gs j).cnt = (m.gs j).cnt ∧ (X.gs j).sk = (m.gs j).st
  w : m.wt = X.wt
section
variable {m : Mac} {X : Mdl} (R : Rel m X) (q g : Nat) (hg : g < m.ng)
include R hg
theorem Rel.set {m' : Mac} {x : GorA} {z : MdG} {st' : List Int} (h1 : m'.fs = m.fs) (h2 : m'.ng = m.ng) (h3 : m'.sts = st') (h4 : m'.gs = updV m.gs g x) (h5 : m'.wt = m.wt) (hz : z.f = x.f ∧ z.pc = x.pc ∧ z.cnt = x.cnt ∧ z.sk = x.st)
    (hs : ∀ j s, st'[j]? = some s → (if j = g then z.st = stX s else m.sts[j]? = some s)) : Rel m' { X with gs := updV X.gs g z } := by
  refine ⟨by rw [h1]; exact R.fs, by rw [h2]; exact R.n, fun j s hj => ?_, fun j hj => ?_, by rw [h5]; exact R.w⟩
  · rw [h3] at hj
    have := hs j s hj
    dsimp only
    by_cases e : j = g
    · subst e; rw [if_pos rfl] at this; rw [updV_same]; exact this
    · rw [if_neg e] at this; rw [updV_other _ _ e]; exact R.st j s this
  · rw [h2] at hj
    rw [h4]
    dsimp only
    by_cases e : j = g
    · subst e; rw [updV_same, updV_same]; exact hz
    · rw [updV_other _ _ e, updV_other _ _ e]; exact R.g j hj
theorem Rel.cmt (i : Ins) (hst : m.sts[g]? = some 2) (hsl : m.sts.length = m.ng) (ho : i.o = 0 ∨ i.o = 8 ∨ i.o = 9 ∨ i.o = 14 ∨ i.o = 16 ∨ i.o = 17) :
    Rel (cmt m q g i) (doX X g i) ∧ (Proofs.YtcpljjacamibeaaGreatDoor.cmt m q g i).cms = m.cms ++ [tellX X g i] := by
  obtain ⟨gf, gp, gc, gk⟩ := R.g g hg
  have hX := R.st g 2 hst
  have same : ∀ j s, m.sts[j]? = some s → (if j = g then (X.gs g).st = stX s else m.sts[j]? = some s) := fun j s hj => by
    by_cases e : j = g
    · subst e; rw [if_pos rfl]; exact R.st j s hj
    · rw [if_neg e]; exact hj
  have gone : ∀ t : Int, ∀ j s, (m.sts.set g t)[j]? = some s → (if j = g then stX t = stX s else m.sts[j]? = some s) := fun t j s hj => by
    rw [List.getElem?_set] at hj
    by_cases e : j = g
    · subst e
      rw [if_pos rfl, if_pos (by omega)] at hj
      rw [if_pos rfl, Option.some.inj hj]
    · rw [if_neg (fun h => e h.symm)] at hj
      rw [if_neg e]; exact hj
  have s1 : (X.gs g).st = stX 1 := by rw [hX]; decide
  rcases ho with ho | ho | ho | ho | ho | ho
  · have ec : Proofs.YtcpljjacamibeaaGreatDoor.cmt m q g i = finA (preA m q g) q g ⟨(g : Nat), (m.gs g).f, (m.gs g).pc, (i.o : Nat), 0, false⟩ 5 := by unfold Proofs.YtcpljjacamibeaaGreatDoor.cmt; rw [if_pos ho]
    have ex : doX X g i = { X with gs := updV X.gs g { X.gs g with pc := (X.gs g).pc + 1, st := 5 } } := by unfold doX; rw [if_pos ho]
    have et : tellX X g i = ⟨(g : Nat), (m.gs g).f, (m.gs g).pc, (i.o : Nat), 0, false⟩ := by unfold tellX; rw [if_neg (by omega), gf, gp]
    rw [ec, ex, et]
    exact ⟨Rel.set R g hg (x := { m.gs g with pc := (m.gs g).pc + 1 }) (st' := m.sts.set g 5) rfl rfl (by simp [finA, preA]) (by simp [finA, preA]) rfl ⟨gf, by show (X.gs g).pc + 1 = (m.gs g).pc + 1; rw [gp], gc, gk⟩ (gone 5), rfl⟩
  · have ec : Proofs.YtcpljjacamibeaaGreatDoor.cmt m q g i = finA (spawnA (preA m q g) q (i.a : Nat) ((m.gs g).st i.b)) q g ⟨(g : Nat), (m.gs g).f, (m.gs g).pc, (i.o : Nat), (m.ng : Nat), false⟩ 2 := by unfold Proofs.YtcpljjacamibeaaGreatDoor.cmt; rw [if_neg (by omega), if_neg (by omega), if_neg (by omega), if_neg (by omega), if_neg (by omega)]
    have ex : doX X g i = { X with n := X.n + 1, gs := updV (updV X.gs g { X.gs g with pc := (X.gs g).pc + 1 }) X.n ⟨1, (i.a : Nat), 0, 0, updV (fun _ => 0) 0 ((X.gs g).sk i.b)⟩ } := by unfold doX; rw [if_neg (by omega), if_neg (by omega), if_neg (by omega), if_neg (by omega), if_neg (by omega)]
    have et : tellX X g i = ⟨(g : Nat), (m.gs g).f, (m.gs g).pc, (i.o : Nat), (m.ng : Nat), false⟩ := by unfold tellX; rw [if_pos ho, gf, gp, R.n]
    rw [ec, ex, et]
    have hn := R.n
    have hgs : (finA (spawnA (preA m q g) q (i.a : Nat) ((m.gs g).st i.b)) q g ⟨(g : Nat), (m.gs g).f, (m.gs g).pc, (i.o : Nat), (m.ng : Nat), false⟩ 2).gs = updV (updV m.gs g { m.gs g with pc := (m.gs g).pc + 1 }) m.ng ⟨(i.a : Nat), 0, 0, updV (fun _ => 0) 0 ((m.gs g).st i.b), 0, 0⟩ := rfl
    refine ⟨⟨R.fs, by show X.n + 1 = m.ng + 1; rw [hn], fun j s hj => ?_, fun j hj => ?_, R.w⟩, rfl⟩
    · replace hj : (m.sts ++ [1])[j]? = some s := hj
      dsimp only
      by_cases e1 : j = m.ng
      · subst e1
        rw [List.getElem?_append_right (by omega), hsl, Nat.sub_self, List.getElem?_cons_zero] at hj
        rw [hn, updV_same, ← Option.some.inj hj]
        show (1 : Int) = stX 1
        decide
      · rw [hn, updV_other _ _ e1]
        have hl := (List.getElem?_eq_some_iff.1 hj).1
        rw [List.length_append, List.length_singleton] at hl
        rw [List.getElem?_append_left (by omega)] at hj
        by_cases e : j = g
        · subst e; rw [updV_same]; exact R.st j s hj
        · rw [updV_other _ _ e]; exact R.st j s hj
    · rw [hgs]
      dsimp only
      have hj : j < m.ng + 1 := hj
      rw [hn]
      by_cases e1 : j = m.ng
      · subst e1; rw [updV_same, updV_same]
        exact ⟨rfl, rfl, rfl, by rw [gk]⟩
      · rw [updV_other _ _ e1, updV_other _ _ e1]
        by_cases e : j = g
        · subst e; rw [updV_same, updV_same]; exact ⟨gf, by show (X.gs j).pc + 1 = (m.gs j).pc + 1; rw [gp], gc, gk⟩
        · rw [updV_other _ _ e, updV_other _ _ e]; exact R.g j (by omega)
  · have ec : Proofs.YtcpljjacamibeaaGreatDoor.cmt m q g i = finA (preA m q g) q g ⟨(g : Nat), (m.gs g).f, (m.gs g).pc, (i.o : Nat), 0, false⟩ 1 := by unfold Proofs.YtcpljjacamibeaaGreatDoor.cmt; rw [if_neg (by omega), if_pos ho]
    have ex : doX X g i = { X with gs := updV X.gs g { X.gs g with pc := (X.gs g).pc + 1 } } := by unfold doX; rw [if_neg (by omega), if_pos ho]
    have et : tellX X g i = ⟨(g : Nat), (m.gs g).f, (m.gs g).pc, (i.o : Nat), 0, false⟩ := by unfold tellX; rw [if_neg (by omega), gf, gp]
    rw [ec, ex, et]
    refine ⟨Rel.set R g hg (x := { m.gs g with pc := (m.gs g).pc + 1 }) (st' := m.sts.set g 1) rfl rfl (by simp [finA, preA]) (by simp [finA, preA]) rfl ⟨gf, by show (X.gs g).pc + 1 = (m.gs g).pc + 1; rw [gp], gc, gk⟩ ?_, rfl⟩
    intro j s hj
    have := gone 1 j s hj
    show if j = g then (X.gs g).st = stX s else _
    rw [s1]; exact this
  · have ec : Proofs.YtcpljjacamibeaaGreatDoor.cmt m q g i = finA (setGor (preA m q g) g { (preA m q g).gs g with pc := (i.a : Nat) }) q g ⟨(g : Nat), (m.gs g).f, (m.gs g).pc, (i.o : Nat), 0, false⟩ 2 := by unfold Proofs.YtcpljjacamibeaaGreatDoor.cmt; rw [if_neg (by omega), if_neg (by omega), if_neg (by omega), if_pos ho]
    have ex : doX X g i = { X with gs := updV X.gs g { X.gs g with pc := (i.a : Nat) } } := by unfold doX; rw [if_neg (by omega), if_neg (by omega), if_neg (by omega), if_pos ho]
    have et : tellX X g i = ⟨(g : Nat), (m.gs g).f, (m.gs g).pc, (i.o : Nat), 0, false⟩ := by unfold tellX; rw [if_neg (by omega), gf, gp]
    rw [ec, ex, et]
    exact ⟨Rel.set R g hg (x := { m.gs g with pc := (i.a : Nat) }) (st' := m.sts) rfl rfl (by simp [finA, preA, setGor]) (by simp [finA, preA, setGor, updV_updV, updV_same]) rfl ⟨gf, rfl, gc, gk⟩ same, rfl⟩
  · have ec : Proofs.YtcpljjacamibeaaGreatDoor.cmt m q g i = finA (setGor (preA m q g) g { (preA m q g).gs g with cnt := 256 * (i.a : Nat) + (i.b : Nat) }) q g ⟨(g : Nat), (m.gs g).f, (m.gs g).pc, (i.o : Nat), 0, false⟩ 2 := by unfold Proofs.YtcpljjacamibeaaGreatDoor.cmt; rw [if_neg (by omega), if_neg (by omega), if_pos ho]
    have ex : doX X g i = { X with gs := updV X.gs g { X.gs g with pc := (X.gs g).pc + 1, cnt := 256 * (i.a : Nat) + (i.b : Nat) } } := by unfold doX; rw [if_neg (by omega), if_neg (by omega), if_pos ho]
    have et : tellX X g i = ⟨(g : Nat), (m.gs g).f, (m.gs g).pc, (i.o : Nat), 0, false⟩ := by unfold tellX; rw [if_neg (by omega), gf, gp]
    rw [ec, ex, et]
    exact ⟨Rel.set R g hg (x := { m.gs g with pc := (m.gs g).pc + 1, cnt := 256 * (i.a : Nat) + (i.b : Nat) }) (st' := m.sts) rfl rfl (by simp [finA, preA, setGor]) (by simp [finA, preA, setGor, updV_updV, updV_same]) rfl ⟨gf, by show (X.gs g).pc + 1 = (m.gs g).pc + 1; rw [gp], rfl, gk⟩ same, rfl⟩
  · have et : tellX X g i = ⟨(g : Nat), (m.gs g).f, (m.gs g).pc, (i.o : Nat), 0, false⟩ := by unfold tellX; rw [if_neg (by omega), gf, gp]
    by_cases hz : (m.gs g).cnt = 0
    · have ec : Proofs.YtcpljjacamibeaaGreatDoor.cmt m q g i = finA (preA m q g) q g ⟨(g : Nat), (m.gs g).f, (m.gs g).pc, (i.o : Nat), 0, false⟩ 2 := by unfold Proofs.YtcpljjacamibeaaGreatDoor.cmt; rw [if_neg (by omega), if_neg (by omega), if_neg (by omega), if_neg (by omega), if_pos ho, if_pos hz]
      have ex : doX X g i = { X with gs := updV X.gs g { X.gs g with pc := (X.gs g).pc + 1 } } := by unfold doX; rw [if_neg (by omega), if_neg (by omega), if_neg (by omega), if_neg (by omega), if_pos ho, if_pos (by rw [gc]; exact hz)]
      rw [ec, ex, et]
      exact ⟨Rel.set R g hg (x := { m.gs g with pc := (m.gs g).pc + 1 }) (st' := m.sts) rfl rfl (by simp [finA, preA]) (by simp [finA, preA]) rfl ⟨gf, by show (X.gs g).pc + 1 = (m.gs g).pc + 1; rw [gp], gc, gk⟩ same, rfl⟩
    · have ec : Proofs.YtcpljjacamibeaaGreatDoor.cmt m q g i = finA (setGor (preA m q g) g { (preA m q g).gs g with cnt := (m.gs g).cnt - 1, pc := (i.a : Nat) }) q g ⟨(g : Nat), (m.gs g).f, (m.gs g).pc, (i.o : Nat), 0, false⟩ 2 := by unfold Proofs.YtcpljjacamibeaaGreatDoor.cmt; rw [if_neg (by omega), if_neg (by omega), if_neg (by omega), if_neg (by omega), if_pos ho, if_neg hz]
      have ex : doX X g i = { X with gs := updV X.gs g { X.gs g with pc := (i.a : Nat), cnt := (X.gs g).cnt - 1 } } := by unfold doX; rw [if_neg (by omega), if_neg (by omega), if_neg (by omega), if_neg (by omega), if_pos ho, if_neg (by rw [gc]; exact hz)]
      rw [ec, ex, et]
      exact ⟨Rel.set R g hg (x := { m.gs g with cnt := (m.gs g).cnt - 1, pc := (i.a : Nat) }) (st' := m.sts) rfl rfl (by simp [finA, preA, setGor]) (by simp [finA, preA, setGor, updV_updV, updV_same]) rfl ⟨gf, rfl, by show (X.gs g).cnt - 1 = (m.gs g).cnt - 1; rw [gc], gk⟩ same, rfl⟩
end
theorem mod28 (x : Int) (m : Nat) (hm : 1 ≤ m) (hm2 : m ≤ 1000000) : ∃ n : Nat, n < m ∧ wrap64 ((IntKind.u64.wrap x).tmod m) = n := by
  have h0 : 0 ≤ IntKind.u64.wrap x := by rw [IntKind.wrap_u64]; omega
  rw [Int.tmod_eq_emod_of_nonneg h0]
  have h1 := Int.emod_nonneg (IntKind.u64.wrap x) (b := (m : Int)) (by omega)
  have h2 := Int.emod_lt_of_pos (IntKind.u64.wrap x) (b := (m : Int)) (by omega)
  obtain ⟨n, hn⟩ : ∃ n : Nat, (n : Int) = (IntKind.u64.wrap x) % (m : Int) := ⟨((IntKind.u64.wrap x) % (m : Int)).toNat, by omega⟩
  exact ⟨n, by omega, by unfold wrap64; omega⟩
structure RdG {α : Type} (f : α → List Value) (sz : Nat) (w : World) (B : Nat) (v : Value) (xs : List α) : Prop where
  ex : ∃ A c, v = .slice A xs.length c
  at_ : ∀ A n c, v = .slice A n c → ∀ i x, xs[i]? = some x → ∃ b off, A = some ⟨b, off, none⟩ ∧ b < B ∧ ∀ j u, (f x)[j]? = some u → w.cell? ⟨b, off + i * sz + j, none⟩ = some u
structure PrR (w : World) (B : Nat) (v : Value) (vs : List Value) (fs : List (List Ins)) : Prop where
  o : RdV w B v vs
  n : vs.length = fs.length
  f : ∀ (i : Nat) u l, vs[i]? = some u → fs[i]? = some l → RdG insC 4 w B u l
section
variable {w w' : World} {B : Nat} {v : Value} {vs : List Value} {fs : List (List Ins)}
theorem RdG.chg {α : Type} {f : α → List Value} {sz : Nat} {xs : List α} {u : Value} {S : List Nat} (h : RdG f sz w B u xs) (c : Chg S w w') (hB : B ≤ w.heap.size) (hS : ∀ k ∈ S, B ≤ k) : RdG f sz w' B u xs := ⟨h.ex, fun A n cc e i x hx => by
  obtain ⟨b, off, h1, h2, h3⟩ := h.at_ A n cc e i x hx
  exact ⟨b, off, h1, h2, fun j u hu => c.cellv (by omega) (fun hm => by have := hS b hm; omega) (h3 j u hu)⟩⟩
theorem PrR.chg {S : List Nat} (h : PrR w B v vs fs) (c : Chg S w w') (hB : B ≤ w.heap.size) (hS : ∀ k ∈ S, B ≤ k) : PrR w' B v vs fs := ⟨h.o.chg c hB hS, h.n, fun i u l h1 h2 => (h.f i u l h1 h2).chg c hB hS⟩
theorem PrR.chg0 (h : PrR w B v vs fs) (c : Chg [] w w') (hB : B ≤ w.heap.size) : PrR w' B v vs fs := h.chg c hB (by simp)
theorem PrR.fn {A : Option Addr} {n c i : Nat} (h : PrR w B (.slice A n c) vs fs) (hi : i < fs.length) : ∃ l b off A' c', fs[i]? = some l ∧ vs[i]? = some (.slice A' l.length c') ∧ A = some ⟨b, off, none⟩ ∧ b < B ∧ w.cell? ⟨b, off + i, none⟩ = some (.slice A' l.length c') ∧ RdG insC 4 w B (.slice A' l.length c') l := by
  have hv : i < vs.length := by rw [h.n]; exact hi
  have h1 := List.getElem?_eq_getElem hi
  have h2 := List.getElem?_eq_getElem hv
  have g := h.f i _ _ h2 h1
  obtain ⟨A', c', e⟩ := g.ex
  obtain ⟨b, off, e1, e2, e3⟩ := h.o.at_ _ _ _ rfl i _ h2
  rw [e] at g e3 h2
  exact ⟨fs[i], b, off, A', c', h1, h2, e1, e2, e3, g⟩
theorem PrR.len (h : PrR w B v vs fs) : ∃ A c, v = .slice A fs.length c := by
  obtain ⟨A, c, e⟩ := h.o.ex
  exact ⟨A, c, by rw [e, h.n]⟩
end
def sumL (fs : List (List Ins)) : Nat := (fs.map List.length).sum
theorem sumL_take {fs : List (List Ins)} {i : Nat} {l : List Ins} (h : fs[i]? = some l) : sumL (fs.take (i + 1)) = sumL (fs.take i) + l.length := by
  unfold sumL
  rw [List.take_add_one, h, List.map_append, List.sum_append]
  simp
theorem sumL_le (fs : List (List Ins)) (i : Nat) : sumL (fs.take i) ≤ sumL fs := by
  unfold sumL
  conv => rhs; rw [← List.take_append_drop i fs, List.map_append, List.sum_append]
  omega
def GreatR (w0 : World) (fs : List (List Ins)) (gk : Nat) (acc idx : Value) (w : World) : Prop := ∃ i : Nat, gk + i = fs.length + 1 ∧ i ≤ fs.length ∧ acc = .int .i64 ((fs.length + sumL (fs.take i) : Nat) : Int) ∧ idx = .int .i64 (i : Nat) ∧ w = w0
theorem great_ok (w : World) (G : Int) (v : Value) (vs : List Value) (fs : List (List Ins)) (R : PrR w w.heap.size v vs fs) (hs : fs.length + sumL fs ≤ 2000) : Calls Tryz.prog 28 #[.agg #[.int .i64 G, v]] w (NwPost (.bool false) w) := by
  obtain ⟨A, c, rfl⟩ := R.len
  go_enter Tryz.func28, Tryz.ntmps28
  go_upto_region 1 with fail
  obtain ⟨w1, hw1⟩ : ∃ w1, w1 = w.alloc (.cells #[.int .i64 G, .slice A fs.length c] 30) := ⟨_, rfl⟩
  obtain ⟨gP, hgP⟩ : ∃ gP, gP = w.heap.size := ⟨_, rfl⟩
  rw [← hw1, ← hgP]
  have B1 : Blk w1 gP 30 #[.int .i64 G, .slice A fs.length c] := by rw [hw1, hgP]; exact Blk.new _ _ _
  have c01 : Chg [] w w1 := by rw [hw1]; exact (Chg.refl [] w).alloc _
  have R1 := R.chg0 c01 (Nat.le_refl _)
  have p1 : w1.cell? ⟨gP, 1, none⟩ = some (.slice A fs.length c) := B1.cellv 1 rfl
  have l1 := B1.lt
  have H1 := Lib.hid (And.intro R1 (And.intro c01 hs)); clear R R1 c01 hw1 hgP hs B1
  go_wp2_with fail
  go_loopg [3, 4] (fs.length + 1) (fun gk acc idx wr => GreatR w1 fs gk acc idx wr)
  case atStart => exact ⟨0, by omega, by omega, by simp [sumL], rfl, rfl⟩
  case round =>
    obtain ⟨i, hgk, hi, rfl, rfl, rfl⟩ := hrel
    have hb := sumL_le fs i
    have hb2 := H1.out.2.2
    obtain ⟨s, hs⟩ : ∃ s, s = sumL (fs.take i) := ⟨_, rfl⟩
    rw [← hs] at hb ⊢
    by_cases hin : i < fs.length
    · obtain ⟨l, b, off, A', c', hl, -, hA, -, hc, -⟩ := H1.out.1.fn hin
      have hst := sumL_take hl
      rw [← hs] at hst
      have hb3 := sumL_le fs (i + 1)
      have h1 : (i : Int) < fs.length := by omega
      have h2 : (0 : Int) ≤ i := by omega
      have hb4 : (fs.length : Int) + s + l.length ≤ 2000 := by omega
      have HS := Lib.hid (And.intro hst (And.intro hb3 hb4)); clear hst hb3 hs hl
      subst hA
      go_wp2_with fail
      go_roundg (fs.length - i)
      case measure => omega
      case rel => exact ⟨i + 1, by omega, by omega, by have h3 := HS.out.1; have h4 := HS.out.2.2; have e : ((fs.length + sumL (fs.take (i + 1)) : Nat) : Int) = (fs.length : Int) + s + l.length := (by omega); rw [e], by go_num, rfl⟩
    · have h1 : ¬ (i : Int) < fs.length := by omega
      have h2 : ¬ ((fs.length + s : Nat) : Int) > 2000 := by omega
      clear hs hb hb2
      go_wp2_with fail
      go_ret
      exact ⟨by simp; omega, H1.out.2.1⟩
theorem one_ok (w : World) (G : Int) (v : Value) (A : Option Addr) (n c : Nat) (hv : v = .slice A n c) : Calls Tryz.prog 7 #[.int .i64 G, v] w (NwPost (.agg #[.int .i64 G, v]) w) := by
  subst hv
  go_enter Tryz.func7, Tryz.ntmps7
  go_wp2_with fail
  exact ⟨rfl, _, results_cell_row (P := Tryz.prog) (fn := Tryz.f7) rfl _ _ w.heap.size 30 _ _ _ rfl (heap_alloc_new w (.cells #[.int .i64 G, .slice A n c] 30)) Tryz.underlying30 rfl (by kernel_rfl), rfl, (Chg.refl [] w).alloc _⟩
theorem fit_ok (w : World) (ps wo : Int) (b1 b2 : Nat) : Calls Tryz.prog 31 #[.agg #[.int .i64 ps, .int .i64 wo, .float .f64 b1, .float .f64 b2]] w (fun e w' => ∃ P n : Nat, (ps = 0 → P = 1) ∧ 1 ≤ P ∧ P ≤ 6 ∧ 4 ≤ n ∧ n ≤ 19 ∧ NwPost (.agg #[.int .i64 (P : Nat), .int .i64 ((n * 64 : Nat) : Int), .float .f64 b1, .float .f64 b2]) w e w') := by
  obtain ⟨n1, h1, e1⟩ := mod28 ps 6 (by omega) (by omega)
  obtain ⟨n2, h2, e2⟩ := mod28 wo 16 (by omega) (by omega)
  have e1 : wrap64 ((IntKind.u64.wrap ps).tmod 6) = n1 := e1
  have e2 : wrap64 ((IntKind.u64.wrap wo).tmod 16) = n2 := e2
  have hz : ps = 0 → n1 + 1 = 1 := fun h => by
    subst h
    have h0 : wrap64 ((IntKind.u64.wrap 0).tmod 6) = 0 := by first | rfl | kernel_rfl | simp
    omega
  have hfl : ∀ (a : Addr) (n : Nat) (m : Mode) (w : World), (store a (.float .f64 n) m).run Tryz.prog w = stored Tryz.prog w a (.float .f64 n) m := fun a n m w => run_store _ w a _ m rfl
  go_enter Tryz.func31, Tryz.ntmps31
  go_wp2_with fail
  rw [show (1 : Int) + (n1 : Nat) = ((n1 + 1 : Nat) : Int) by omega, show (256 : Int) + 64 * (n2 : Nat) = (((n2 + 4) * 64 : Nat) : Int) by omega]
  have B := Blk.new (w.alloc (.cells #[.int .i64 ((n1 + 1 : Nat) : Int), .int .i64 (((n2 + 4) * 64 : Nat) : Int), .float .f64 b1, .float .f64 b2] 24)) 24 #[.int .i64 ((n1 + 1 : Nat) : Int), .int .i64 (((n2 + 4) * 64 : Nat) : Int), .float .f64 b1, .float .f64 b2]
  rw [World.size_alloc] at B
  exact ⟨rfl, _, results_cell_row (P := Tryz.prog) (fn := Tryz.f31) rfl _ _ (w.heap.size + 1) 24 _ _ _ rfl B Tryz.underlying24 rfl (by kernel_rfl), n1 + 1, n2 + 4, hz, by omega, by omega, by omega, by omega, rfl, ((Chg.refl [] w).alloc _).alloc _⟩
end Go.Proofs.YtcpljjacamibeaaGreatDoor
