/- The document's model in memory, beside a machine. -/
/- The document's model: Next, Tick. -/
import Derived.Test.YtcpljjacamibeaaGreatDoorMh5J
import Derived.Test.YtcpljjacamibeaaGreatDoorMf7
import Derived.Test.YtcpljjacamibeaaGreatDoorMe3J
import Derived.Test.YtcpljjacamibeaaGreatDoorMf2J
namespace Go.Proofs.YtcpljjacamibeaaGreatDoor
set_option maxHeartbeats 16000000
set_option maxRecDepth 100000
open Go.RowKit Go.Maps
structure XAt where
  gX : Nat
  G : Int
  vf : Value
  vg : Value
  vgl : Value
  ck : Int
  gg : Nat → Nat
  gs : Nat → Nat
  vw : Nat → Value
  wb : List Nat
  gA : Nat
def skC (s : Nat → Int) : Array Value := ((List.range 16).map fun j => Value.int .i64 (s j)).toArray
def xG (a : XAt) (X : Mdl) (i : Nat) : Array Value := mgC (X.gs i).st (X.gs i).f (X.gs i).pc (X.gs i).cnt (.slice (some ⟨a.gs i, 0, none⟩) 16 16)
def xC (a : XAt) : Array Value := mdC a.G a.vf a.vg a.vgl (.slice none 0 0) (.slice none 0 0) a.vw a.ck
def WtR (w : World) (v : Value) (xs : List Int) (B : List Nat) : Prop :=
  (xs = [] ∧ ∃ A c, v = .slice A 0 c) ∨ ∃ b off c cs, b ∈ B ∧ v = .slice (some ⟨b, off, none⟩) xs.length c ∧ xs.length ≤ c ∧ Blk w b 3 cs ∧ ∀ (j : Nat) x, xs[j]? = some x → cs[off + j]? = some (.int .i64 x)
theorem WtR.chg {w w' : World} {v : Value} {xs : List Int} {B S : List Nat} (h : WtR w v xs B) (c : Chg S w w') (hS : ∀ j ∈ B, j ∉ S) : WtR w' v xs B := by
  rcases h with h | ⟨b, off, k, cs, hb, h1, hk, h2, h3⟩
  · exact .inl h
  · exact .inr ⟨b, off, k, cs, hb, h1, hk, c.blk h2 (hS b hb), h3⟩
structure XM (w : World) (a : XAt) (X : Mdl) : Prop where
  x : Blk w a.gX 71 (xC a)
  o : OwnV 86 w a.vg (ptrs a.gg X.n)
  g : ∀ i, i < X.n → Blk w (a.gg i) 85 (xG a X i)
  s : ∀ i, i < X.n → Blk w (a.gs i) 3 (skC (X.gs i).sk)
  ig : ∀ i j, i < X.n → j < X.n → a.gg i = a.gg j → i = j
  is : ∀ i j, i < X.n → j < X.n → a.gs i = a.gs j → i = j
  wb : ∀ j ∈ a.wb, (∃ cs, Blk w j 3 cs) ∧ ∀ k, k < X.n → j ≠ a.gs k
  ad : a.gA ∈ a.wb ∧ Blk w a.gA 3 #[.int .i64 0]
  w : ∀ i, i < 32 → WtR w (a.vw i) (X.wt i) a.wb
def XF (a : XAt) (X : Mdl) (j : Nat) : Prop := j = a.gX ∨ (j ∈ fpv a.vg ∨ j ∈ a.wb) ∨ ∃ i, i < X.n ∧ (j = a.gg i ∨ j = a.gs i)
section
variable {w w' : World} {a : XAt} {X : Mdl}
theorem XM.lt (h : XM w a X) {j : Nat} (hj : XF a X j) : j < w.heap.size := by
  rcases hj with rfl | (hj | hj) | ⟨i, hi, rfl | rfl⟩
  · exact h.x.lt
  · exact h.o.lt hj
  · exact (h.wb j hj).1.choose_spec.lt
  · exact (h.g i hi).lt
  · exact (h.s i hi).lt
theorem XM.ne2 (h : XM w a X) {j : Nat} {t : TypeId} {cs : Array Value} (B : Blk w j t cs) (h1 : 86 ≠ t) (h2 : t ≠ 3) : ¬ (j ∈ fpv a.vg ∨ j ∈ a.wb) := by
  rintro (e | e)
  · exact h.o.ne_blkV B h1 e
  · exact B.ne_ (h.wb j e).1.choose_spec h2 rfl
theorem XM.wbs {S : List Nat} (h : XM w a X) (c : Chg S w w') (hS : ∀ j ∈ a.wb, j ∉ S) : (∀ j ∈ a.wb, (∃ cs, Blk w' j 3 cs) ∧ ∀ k, k < X.n → j ≠ a.gs k) ∧ ∀ i, i < 32 → WtR w' (a.vw i) (X.wt i) a.wb :=
  ⟨fun j hj => ⟨(h.wb j hj).1.imp fun _ B => c.blk B (hS j hj), (h.wb j hj).2⟩, fun i hi => (h.w i hi).chg c hS⟩
theorem XM.chg {S : List Nat} (h : XM w a X) (c : Chg S w w') (hS : ∀ j ∈ S, ¬ XF a X j) : XM w' a X :=
  ⟨c.blk h.x (fun hm => hS _ hm (.inl rfl)), h.o.chg c (fun k hk hm => hS _ hm (.inr (.inl (.inl hk)))), fun i hi => c.blk (h.g i hi) (fun hm => hS _ hm (.inr (.inr ⟨i, hi, .inl rfl⟩))), fun i hi => c.blk (h.s i hi) (fun hm => hS _ hm (.inr (.inr ⟨i, hi, .inr rfl⟩))), h.ig, h.is, (h.wbs c (fun j hj hm => hS _ hm (.inr (.inl (.inr hj))))).1, ⟨h.ad.1, c.blk h.ad.2 (fun hm => hS _ hm (.inr (.inl (.inr h.ad.1))))⟩, (h.wbs c (fun j hj hm => hS _ hm (.inr (.inl (.inr hj))))).2⟩
theorem XM.chg0 (h : XM w a X) (c : Chg [] w w') : XM w' a X := h.chg c (by simp)
theorem XM.gset (h : XM w a X) {i : Nat} (hi : i < X.n) (z : MdG) (hsk : z.sk = (X.gs i).sk) {S : List Nat} (c : Chg S w w') (hS : ∀ j ∈ S, j = a.gg i ∨ ¬ XF a X j) (B : Blk w' (a.gg i) 85 (mgC z.st z.f z.pc z.cnt (.slice (some ⟨a.gs i, 0, none⟩) 16 16))) : XM w' a { X with gs := updV X.gs i z } := by
  have n1 : a.gg i ≠ a.gX := (h.g i hi).ne_ h.x (by decide)
  have n2 : a.gg i ∉ fpv a.vg := h.o.ne_blkV (h.g i hi) (by decide)
  have hg : ∀ {j}, j ∈ S → j ≠ a.gg i → ¬ XF a X j := fun hj hn => (hS _ hj).resolve_left hn
  have nw : ∀ j ∈ a.wb, j ∉ S := fun j hj hm => hg hm (fun e => (h.g i hi).ne_ (h.wb j hj).1.choose_spec (by decide) e.symm) (.inr (.inl (.inr hj)))
  refine ⟨c.blk h.x (fun hm => hg hm n1.symm (.inl rfl)), h.o.chg c (fun k hk hm => hg hm (fun e => n2 (e ▸ hk)) (.inr (.inl (.inl hk)))), fun j hj => ?_, fun j hj => ?_, h.ig, h.is, (h.wbs c nw).1, ⟨h.ad.1, c.blk h.ad.2 (nw _ h.ad.1)⟩, (h.wbs c nw).2⟩
  · by_cases e : j = i
    · subst e
      unfold xG
      dsimp only
      rw [updV_same]
      exact B
    · have hb := h.g j hj
      unfold xG at hb ⊢
      dsimp only
      rw [updV_other _ _ e]
      exact c.blk hb (fun hm => hg hm (fun e' => e (h.ig j i hj hi e')) (.inr (.inr ⟨j, hj, .inl rfl⟩)))
  · have n3 : a.gs j ≠ a.gg i := (h.s j hj).ne_ (h.g i hi) (by decide)
    have e : (updV X.gs i z j).sk = (X.gs j).sk := by
      by_cases e : j = i
      · subst e; rw [updV_same]; exact hsk
      · rw [updV_other _ _ e]
    show Blk w' (a.gs j) _ (skC (updV X.gs i z j).sk)
    rw [e]
    exact c.blk (h.s j hj) (fun hm => hg hm n3 (.inr (.inr ⟨j, hj, .inr rfl⟩)))
end
def XL (a : XAt) (X : Mdl) : List Nat := a.gX :: (fpv a.vg ++ a.wb) ++ (List.range X.n).map a.gg ++ (List.range X.n).map a.gs
theorem mem_XL {a : XAt} {X : Mdl} {j : Nat} : j ∈ XL a X ↔ XF a X j := by
  unfold XL XF
  simp only [List.cons_append, List.mem_cons, List.mem_append, List.mem_map, List.mem_range]
  constructor
  · rintro (h | ((h | h) | ⟨i, hi, e⟩) | ⟨i, hi, e⟩)
    · exact .inl h
    · exact .inr (.inl (.inl h))
    · exact .inr (.inl (.inr h))
    · exact .inr (.inr ⟨i, hi, .inl e.symm⟩)
    · exact .inr (.inr ⟨i, hi, .inr e.symm⟩)
  · rintro (h | (h | h) | ⟨i, hi, e | e⟩)
    · exact .inl h
    · exact .inr (.inl (.inl (.inl h)))
    · exact .inr (.inl (.inl (.inr h)))
    · exact .inr (.inl (.inr ⟨i, hi, e.symm⟩))
    · exact .inr (.inr ⟨i, hi, e.symm⟩)
def wwD (gm gX : Nat) (P wo : Int) (b1 b2 : Nat) (va : Value) (cP cV : Int) : Array Value := #[.pointer (some ⟨gm, 0, none⟩), .pointer (some ⟨gX, 0, none⟩), .int .i64 P, .int .i64 wo, .float .f64 b1, .float .f64 b2, va, .bool false,
  .int .i64 0, .int .i64 0, .int .i64 0, .slice none 0 0, .slice none 0 0, .slice none 0 0, .int .i64 0, .int .i64 0, .int .i64 0, .int .i64 0, .int .i64 cP, .int .i64 cV, .bool false, .int .i64 0]
structure BothM (w0 w : World) (gW : Nat) (P wo : Int) (b1 b2 : Nat) (va : Value) (cP cV : Int) (p : MAt) (m : Mac) (a : XAt) (X : Mdl) : Prop where
  M : MM ⟨w0, []⟩ w p m
  hX : XM w a X
  W : Blk w gW 45 (wwD p.gm a.gX P wo b1 b2 va cP cV)
  sep : ∀ k j, MF p m k j → ¬ (XF a X j ∨ j = gW)
  lo : ∀ j, XF a X j ∨ j = gW → w0.heap.size ≤ j
section
variable {w0 w w' : World} {gW : Nat} {P wo : Int} {b1 b2 : Nat} {va : Value} {cP cV : Int} {p : MAt} {m : Mac} {a : XAt} {X : Mdl} (h : BothM w0 w gW P wo b1 b2 va cP cV p m a X)
include h
theorem BothM.xlt {j : Nat} (hj : XF a X j ∨ j = gW) : j < w.heap.size := by
  rcases hj with hj | rfl
  · exact h.hX.lt hj
  · exact h.W.lt
theorem BothM.model {T : List Nat} (c : Chg T w w') (hT : ∀ j ∈ T, (XF a X j ∨ j = gW) ∨ w.heap.size ≤ j) (a' : XAt) (X' : Mdl) (HX : XM w' a' X') (cP' cV' : Int) (HW : Blk w' gW 45 (wwD p.gm a'.gX P wo b1 b2 va cP' cV')) (hF : ∀ j, XF a' X' j → XF a X j ∨ w.heap.size ≤ j) : BothM w0 w' gW P wo b1 b2 va cP' cV' p m a' X' := by
  refine ⟨h.M.chg c (fun k j hj hm => by
      rcases hT j hm with e | e
      · exact h.sep k j hj e
      · exact absurd (h.M.hi k j hj) (Nat.not_lt.2 e)) (fun j hj => by
      rcases hT j hj with e | e
      · exact h.lo j e
      · exact Nat.le_trans h.M.c.size e), HX, HW, fun k j hj hx => ?_, fun j hx => ?_⟩
  · rcases hx with hx | hx
    · rcases hF j hx with e | e
      · exact h.sep k j hj (.inl e)
      · exact absurd (h.M.hi k j hj) (Nat.not_lt.2 e)
    · exact h.sep k j hj (.inr hx)
  · rcases hx with hx | hx
    · rcases hF j hx with e | e
      · exact h.lo j (.inl e)
      · exact Nat.le_trans h.M.c.size e
    · exact h.lo j (.inr hx)
end
theorem FrS.both {P n G wo b1 b2 : Nat} {fs : List (List Ins)} {vf : Value} {w w' : World} {gW gA gX gg gs gl : Nat} {vg : Value} {p : MAt} {m : Mac} (h : FrS P n G wo b1 b2 fs vf w w' gW gA gX gg gs gl vg p m) (hfs : m.fs = fs) :
    ∃ (a : XAt) (X : Mdl), BothM w w' gW (P : Nat) (wo : Nat) b1 b2 (.slice (some ⟨gA, 0, none⟩) 1 1) 0 0 p m a X ∧ Rel m X ∧ a.gX = gX ∧ a.vf = vf ∧ a.G = (G : Nat) ∧ a.ck = 0 ∧ a.gA = gA := by
  obtain ⟨⟨pct, on, part, t, g, r, ht, hm⟩, -, -, -, -, M, ⟨B, hB, hMF, hX, hgW, hgA⟩, HW, HA, -, hAs⟩ := h
  refine ⟨⟨gX, (G : Nat), vf, vg, .slice (some ⟨gl, 0, none⟩) G G, 0, fun _ => gg, fun _ => gs, fun _ => .slice none 0 0, [gA], gA⟩, ⟨fs, 1, fun _ => ⟨1, 0, 0, 0, fun _ => 0⟩, fun _ => []⟩, ⟨M, ⟨hX.x, hX.o, fun i hi => hX.g, fun i hi => ?_, fun i j hi hj _ => ?_, fun i j hi hj _ => ?_, fun j hj => ?_, ⟨by simp, HA⟩, fun i _ => .inl ⟨rfl, none, 0, rfl⟩⟩, HW, fun k j hj hx => ?_, fun j hx => ?_⟩, ⟨hfs.symm, by rw [hm]; rfl, fun j s hj => ?_, fun j hj => ?_, by rw [hm]; rfl⟩, rfl, rfl, rfl, rfl, rfl⟩
  · have e : skC (fun _ => 0) = zcells (.int .i64 0) 16 := by
      unfold skC zcells
      rfl
    show Blk w' gs _ (skC fun _ => 0)
    rw [e]
    exact hX.s
  · have hi : i < 1 := hi
    have hj : j < 1 := hj
    omega
  · have hi : i < 1 := hi
    have hj : j < 1 := hj
    omega
  · have e : j = gA := by simpa using hj
    subst e
    exact ⟨⟨_, HA⟩, fun k _ => hAs⟩
  · have hl := hMF k j hj
    rcases hx with (e | (hx | hx) | ⟨i, hi, e | e⟩) | e
    · have e : j = gX := e
      have : B ≤ gX := hX.nX
      omega
    · have := hX.nv j hx; omega
    · have e : j = gA := by simpa using hx
      omega
    · have e : j = gg := e
      have : B ≤ gg := hX.ng
      omega
    · have e : j = gs := e
      have : B ≤ gs := hX.ns
      omega
    · omega
  · rcases hx with (e | (hx | hx) | ⟨i, hi, e | e⟩) | e
    · have e : j = gX := e
      rw [e]; exact Nat.le_trans hB hX.nX
    · exact Nat.le_trans hB (hX.nv j hx)
    · have e : j = gA := by simpa using hx
      rw [e]; exact Nat.le_trans hB hgA
    · have e : j = gg := e
      rw [e]; exact Nat.le_trans hB hX.ng
    · have e : j = gs := e
      rw [e]; exact Nat.le_trans hB hX.ns
    · omega
  · rw [hm] at hj
    have hj : ([1] : List Int)[j]? = some s := hj
    cases j with
    | zero => have : s = 1 := (Option.some.inj hj).symm
              subst this; show (1 : Int) = stX 1; decide
    | succ j => simp at hj
  · rw [hm] at hj ⊢
    have hj : j < 1 := hj
    have : j = 0 := by omega
    subst this
    refine ⟨rfl, rfl, rfl, ?_⟩
    show (fun _ => (0 : Int)) = updV (fun _ => 0) 0 0
    funext j
    unfold updV; split <;> rfl
theorem ld_insM (w : World) {g : Nat} {a b c d : Value} (h : Blk w g 33 #[a, b, c, d]) : (loadVar 33 ⟨g, 0, none⟩).run Tryz.prog w = .ok (.agg #[a, b, c, d]) w := run_loadVar_row w g _ _ _ (0, 0) _ h Tryz.underlying33 rfl (by kernel_rfl)
section
variable {w w' : World} {a : XAt} {X : Mdl}
theorem XM.at_ (h : XM w a X) {g : Nat} (hg : g < X.n) : ∃ b cap, a.vg = .slice (some ⟨b, 0, none⟩) X.n cap ∧ w.cell? ⟨a.gX, 2, none⟩ = some (.slice (some ⟨b, 0, none⟩) X.n cap) ∧ w.cell? ⟨b, g, none⟩ = some (.pointer (some ⟨a.gg g, 0, none⟩)) ∧ b < w.heap.size ∧
    w.cell? ⟨a.gg g, 0, none⟩ = some (.int .i64 (X.gs g).st) ∧ w.cell? ⟨a.gg g, 1, none⟩ = some (.int .i64 (X.gs g).f) ∧ w.cell? ⟨a.gg g, 2, none⟩ = some (.int .i64 (X.gs g).pc) ∧ w.cell? ⟨a.gg g, 3, none⟩ = some (.int .i64 (X.gs g).cnt) ∧ w.cell? ⟨a.gg g, 4, none⟩ = some (.slice (some ⟨a.gs g, 0, none⟩) 16 16) := by
  obtain ⟨A, cap, hv⟩ := h.o.slice
  have o := h.o
  rw [hv] at o
  have hlen : (ptrs a.gg X.n).length = X.n := by unfold ptrs; simp
  rw [hlen] at o hv
  have hx : (ptrs a.gg X.n)[g]? = some (.pointer (some ⟨a.gg g, 0, none⟩)) := by unfold ptrs; simp [hg]
  obtain ⟨b, hA, hc, -⟩ := o.cell hx
  subst hA
  have B := h.g g hg
  refine ⟨b, cap, hv, ?_, hc, lt_of_cellM hc, B.cellv 0 rfl, B.cellv 1 rfl, B.cellv 2 rfl, B.cellv 3 rfl, B.cellv 4 rfl⟩
  rw [← hv]
  exact h.x.cellv 2 rfl
end
theorem rnext_ok (w : World) (a : XAt) (X : Mdl) (B : Nat) (vs : List Value) (h : XM w a X) (PR : PrR w B a.vf vs X.fs) (hB : B ≤ w.heap.size) (g F pc : Nat) (l : List Ins) (i : Ins) (hg : g < X.n) (hn : X.n ≤ 1024) (hst : (X.gs g).st = 1) (hF : (X.gs g).f = (F : Nat)) (hpc : (X.gs g).pc = pc) (bpc : pc ≤ 1000000) (hl : X.fs[F]? = some l) (hi : l[pc]? = some i ∨ (pc = l.length ∧ i = ⟨0, 0, 0, 0⟩)) :
    Calls Tryz.prog 153 #[.pointer (some ⟨a.gX, 0, none⟩), .int .i64 (g : Nat)] w (NwPost (.tuple #[insV i, .bool true]) w) := by
  obtain ⟨io, ia, ib, ic⟩ := i
  obtain ⟨Af, cf, hvf⟩ := PR.len
  have hFl := (List.getElem?_eq_some_iff.1 hl).1
  rw [hvf] at PR
  obtain ⟨b, cap, hvg, x2, y, hb, s0, s1, s2, -, -⟩ := h.at_ hg
  rw [hst] at s0
  rw [hF] at s1
  rw [hpc] at s2
  have x1 : w.cell? ⟨a.gX, 1, none⟩ = some (.slice Af X.fs.length cf) := by rw [← hvf]; exact h.x.cellv 1 rfl
  obtain ⟨l', b1, off, A', c', hl', -, hA, hb1, q, Rl⟩ := PR.fn hFl
  have : l' = l := by rw [hl] at hl'; exact (Option.some.inj hl').symm
  subst this
  subst hA
  have e1 : ¬ (g : Int) < 0 := by omega
  have e2 : ¬ (g : Int) ≥ (X.n : Int) := by omega
  have e3 : (0 : Int) ≤ g := by omega
  have e4 : (g : Int) < (X.n : Int) := by omega
  have e5 : (0 : Int) ≤ F := by omega
  have e6 : (F : Int) < (X.fs.length : Int) := by omega
  have HH := Lib.hid (And.intro h (And.intro PR (And.intro Rl (And.intro hl hi)))); clear h PR Rl hl hi hl' hvf hvg
  go_enter Tryz.func153, Tryz.ntmps153
  go_upto_region 1 with fail
  obtain ⟨gR, hgR⟩ : ∃ g', g' = w.heap.size := ⟨_, rfl⟩
  obtain ⟨w1, hw1⟩ : ∃ w1, w1 = w.alloc (.cells #[.int .i64 0, .int .i64 0, .int .i64 0, .int .i64 0] 33) := ⟨_, rfl⟩
  rw [← hw1, ← hgR]
  have BR : Blk w1 gR 33 #[.int .i64 0, .int .i64 0, .int .i64 0, .int .i64 0] := by rw [hw1, hgR]; exact Blk.new _ _ _
  have c01 : Chg [] w w1 := by rw [hw1]; exact (Chg.refl [] w).alloc _
  have l0 := HH.out.1.x.lt
  have l1 := (HH.out.1.g g hg).lt
  have lq := lt_of_cellM q
  clear hw1
  have x1 := c01.cellv l0 (by simp) x1
  have x2 := c01.cellv l0 (by simp) x2
  have y := c01.cellv hb (by simp) y
  have s0 := c01.cellv l1 (by simp) s0
  have s1 := c01.cellv l1 (by simp) s1
  have s2 := c01.cellv l1 (by simp) s2
  have q := c01.cellv lq (by simp) q
  have H1 := Lib.hid (And.intro c01 (And.intro BR hgR)); clear BR hgR
  go_upto_region 4 with fail
  go_quiet (fail)
  generalize hw2 : World.drewN _ nq = w2
  have c12 : Chg [] w1 w2 := by rw [← hw2]; exact (Chg.refl [] w1).drewN _
  clear hw2
  have c02 := c01.trans c12
  have R2 := c12.blk H1.out.2.1 (by simp)
  have k0 := R2.frozen 0
  have k1 := R2.frozen 1
  have k2 := R2.frozen 2
  have k3 := R2.frozen 3
  have v0 : w2.cell? ⟨gR, 0, none⟩ = some (.int .i64 0) := R2.cellv 0 rfl
  have v1 : w2.cell? ⟨gR, 1, none⟩ = some (.int .i64 0) := R2.cellv 1 rfl
  have v2 : w2.cell? ⟨gR, 2, none⟩ = some (.int .i64 0) := R2.cellv 2 rfl
  have v3 : w2.cell? ⟨gR, 3, none⟩ = some (.int .i64 0) := R2.cellv 3 rfl
  have hc1 := c01.size
  have x1 := c12.cellv (by omega) (by simp) x1
  have x2 := c12.cellv (by omega) (by simp) x2
  have y := c12.cellv (by omega) (by simp) y
  have s0 := c12.cellv (by omega) (by simp) s0
  have s1 := c12.cellv (by omega) (by simp) s1
  have s2 := c12.cellv (by omega) (by simp) s2
  have q := c12.cellv (by omega) (by simp) q
  clear c01 c12
  rcases HH.out.2.2.2.2 with hpe | ⟨hpe, hpi⟩
  · have e7 : ¬ (pc : Int) ≥ (l'.length : Int) := by have := (List.getElem?_eq_some_iff.1 hpe).1; omega
    have e8 : (pc : Int) < (l'.length : Int) := by omega
    have e9 : (0 : Int) ≤ pc := by omega
    obtain ⟨b2, off2, hA2, hb2, q0, q1, q2, q3⟩ := (HH.out.2.2.1.chg c02 hB (by simp)).ins hpe
    subst hA2
    have H2 := Lib.hid (And.intro c02 R2); clear c02 R2
    go_upto_region 6 with fail
    go_still_tail 17, (by kernel_rfl)
    change wpList _ _ _ _ _ w2.drew
    go_wp2_with fail
    have BD := ((Chg.refl [] w2).drew).blk H2.out.2 (by simp)
    have B2 := (((BD.setv 0 (.int .i64 (io : Nat)) rfl).setv 1 (.int .i64 (ia : Nat)) rfl).setv 2 (.int .i64 (ib : Nat)) rfl).setv 3 (.int .i64 (ic : Nat)) (cs' := #[.int .i64 (io : Nat), .int .i64 (ia : Nat), .int .i64 (ib : Nat), .int .i64 (ic : Nat)]) rfl
    refine ⟨rfl, _, results_ct (P := Tryz.prog) (fn := Tryz.f153) rfl (by rfl) (by rfl) (ld_insM _ B2), rfl, ?_⟩
    exact (H2.out.1.trans (Chg.refl [] w2).drew).newS ((((((Chg.refl [gR] _).setCell (.inl (by simp)) _).setCell (.inl (by simp)) _).setCell (.inl (by simp)) _).setCell (.inl (by simp)) _)) (fun k hk => by have e : k = gR := (by simpa using hk); have := H1.out.2.2; omega)
  · have e7 : (pc : Int) ≥ (l'.length : Int) := by omega
    injection hpi with h1 h2 h3 h4
    subst h1 h2 h3 h4
    have H2 := Lib.hid (And.intro c02 R2); clear c02 R2
    go_wp2_with fail
    have BD := H2.out.2
    have B2 := (((BD.setv 0 (.int .i64 0) rfl).setv 1 (.int .i64 0) rfl).setv 2 (.int .i64 0) rfl).setv 3 (.int .i64 0) (cs' := #[.int .i64 0, .int .i64 0, .int .i64 0, .int .i64 0]) rfl
    refine ⟨rfl, _, results_ct (P := Tryz.prog) (fn := Tryz.f153) rfl (by rfl) (by rfl) (ld_insM _ B2), rfl, ?_⟩
    exact H2.out.1.newS ((((((Chg.refl [gR] _).setCell (.inl (by simp)) _).setCell (.inl (by simp)) _).setCell (.inl (by simp)) _).setCell (.inl (by simp)) _)) (fun k hk => by have e : k = gR := (by simpa using hk); have := H1.out.2.2; omega)
theorem rdue0_ok (w : World) (gX : Nat) (now : Int) (x5 : w.cell? ⟨gX, 5, none⟩ = some (.slice none 0 0)) : Calls Tryz.prog 89 #[.pointer (some ⟨gX, 5, none⟩), .int .i64 now] w (QuPost (.slice none 0 0) w) := by
  go_enter Tryz.func89, Tryz.ntmps89
  go_wp2_with fail
  go_loopg [5] 1 (fun gk v wr => gk = 1 ∧ v = .slice none 0 0 ∧ wr = w)
  case atStart => exact ⟨rfl, rfl, rfl⟩
  case round =>
    obtain ⟨hgk, rfl, hw⟩ := hrel
    subst hw
    go_wp2_with fail
    go_ret
    exact ⟨rfl, rfl⟩
theorem rtick_ok (w : World) (a : XAt) (X : Mdl) (h : XM w a X) (hck : a.ck = 0) : Calls Tryz.prog 34 #[.pointer (some ⟨a.gX, 0, none⟩), .int .i64 0] w (fun e w' => e = .returned (.slice none 0 0) ∧ XM w' a X ∧ Chg [a.gX] w w') := by
  have x38 : w.cell? ⟨a.gX, 38, none⟩ = some (.int .i64 0) := by rw [← hck]; exact h.x.cellv 38 rfl
  have z38 := h.x.frozen 38
  have HH := Lib.hid h; clear h
  go_enter Tryz.func34, Tryz.ntmps34
  go_upto_region 2 with fail
  obtain ⟨w1, hw1⟩ : ∃ w1, w1 = w.setCell ⟨a.gX, 38, none⟩ (.int .i64 0) := ⟨_, rfl⟩
  rw [← hw1]
  have c01 : Chg [a.gX] w w1 := by rw [hw1]; exact (Chg.refl [a.gX] w).setCell (.inl (by simp)) _
  have B1 : Blk w1 a.gX 71 (xC a) := by
    rw [hw1]
    exact HH.out.x.setv 38 (.int .i64 0) (by unfold xC; rw [hck]; rfl)
  have X1 : XM w1 a X := by
    have h := HH.out
    have o := h.o.ne_blkV h.x (by decide)
    exact ⟨B1, h.o.chg c01 (fun k hk hm => o (by have e : k = a.gX := (by simpa using hm); rw [← e]; exact hk)), fun i hi => c01.blk (h.g i hi) (fun hm => (h.g i hi).ne_ h.x (by decide) (by simpa using hm)), fun i hi => c01.blk (h.s i hi) (fun hm => (h.s i hi).ne_ h.x (by decide) (by simpa using hm)), h.ig, h.is, (h.wbs c01 (fun j hj hm => h.x.ne_ (h.wb j hj).1.choose_spec (by decide) (List.mem_singleton.1 hm).symm)).1, ⟨h.ad.1, c01.blk h.ad.2 (fun hm => h.x.ne_ h.ad.2 (by decide) (List.mem_singleton.1 hm).symm)⟩, (h.wbs c01 (fun j hj hm => h.x.ne_ (h.wb j hj).1.choose_spec (by decide) (List.mem_singleton.1 hm).symm)).2⟩
  have x5 : w1.cell? ⟨a.gX, 5, none⟩ = some (.slice none 0 0) := B1.cellv 5 rfl
  have x38 : w1.cell? ⟨a.gX, 38, none⟩ = some (.int .i64 0) := by rw [← hck]; exact B1.cellv 38 rfl
  have H1 := Lib.hid (And.intro X1 c01); clear X1 c01 B1 hw1
  go_still_tail 7, (by kernel_rfl)
  change wpList _ _ _ _ _ w1.drew
  have D1 := (Chg.refl [] w1).drew
  have KD := rdue0_ok w1.drew a.gX 0 (D1.cellv (H1.out.1.x.lt) (by simp) x5)
  have H2 := Lib.hid (And.intro KD D1); clear KD D1
  go_wp2_with fail
  refine (H2.out.1).mono ?_
  rintro e w3 ⟨rfl, rfl⟩
  go_wp2_with fail
  go_loopg [6] 1 (fun gk v wr => gk = 1 ∧ v = .int .i64 0 ∧ wr = w1.drew)
  case atStart => exact ⟨rfl, rfl, rfl⟩
  case round =>
    obtain ⟨hgk, rfl, hw⟩ := hrel
    subst hw
    go_wp2_with fail
    go_ret
    exact ⟨rfl, H1.out.1.chg0 H2.out.2, H1.out.2.trans (H2.out.2.mono (by simp))⟩
end Go.Proofs.YtcpljjacamibeaaGreatDoor
