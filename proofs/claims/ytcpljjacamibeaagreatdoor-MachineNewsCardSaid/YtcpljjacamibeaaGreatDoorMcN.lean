/- Package code: Decode. -/
import Derived.Test.YtcpljjacamibeaaGreatDoorMcIJ
import Derived.Test.YtcpljjacamibeaaGreatDoorMcOJ
namespace Go.Proofs.YtcpljjacamibeaaGreatDoor
set_option maxHeartbeats 16000000
set_option maxRecDepth 100000
open Go.RowKit Go.Maps
theorem tyI : TyS Tryz.prog 34 33 4 32 := ⟨Tryz.underlying34, ⟨.agg #[.int .i64 0, .int .i64 0, .int .i64 0, .int .i64 0], by kernel_rfl, rfl⟩, by decide, by decide⟩
theorem tyII : SlV Tryz.prog 28 34 (.slice none 0 0) 24 := ⟨Tryz.underlying28, by kernel_rfl, rfl, by decide⟩
theorem results_cell3 {P : Program} {fn : Func} {p q r : Tmp} {t1 t2 t3 : TypeId} (h : fn.results = #[.cell p t1, .cell q t2, .cell r t3]) {tmps : Array Value} {w : World} {a b c : Addr} {v1 v2 v3 : Value}
    (hp : tmps.getD p undef = .pointer (some a)) (hq : tmps.getD q undef = .pointer (some b)) (hr : tmps.getD r undef = .pointer (some c)) (h1 : (loadVar t1 a).run P w = .ok v1 w) (h2 : (loadVar t2 b).run P w = .ok v2 w) (h3 : (loadVar t3 c).run P w = .ok v3 w) :
    (results fn tmps).run P w = .ok (.tuple #[v1, v2, v3]) w := by
  have hp' : tmps[p]?.getD undef = .pointer (some a) := by simpa using hp
  have hq' : tmps[q]?.getD undef = .pointer (some b) := by simpa using hq
  have hr' : tmps[r]?.getD undef = .pointer (some c) := by simpa using hr
  simp [results, h, hp', hq', hr', asAddr, h1, h2, h3, Sem.run_bind, Result.andThen]
def DecPost (bs : List Nat) (w : World) (e : Ending) (w' : World) : Prop :=
  (∃ G fs vfn vf, decP bs = .ok (G, fs) ∧ e = .returned (.tuple #[.agg #[.int .i64 (G : Nat), vfn], .int .i64 0, .int .i64 0]) ∧ IsFn w' vfn vf fs ∧ (∀ k, FnF vfn vf fs.length k → w.heap.size ≤ k) ∧ Chg [] w w') ∨
  (∃ k : Nat, decP bs = .error k ∧ e = .returned (.tuple #[.agg #[.int .i64 0, .slice none 0 0], .int .i64 6, .int .i64 (k : Nat)]) ∧ Chg [] w w')
section
variable {w : World} {gP gE gA : Nat} {v0 v1 : Value} {n0 n1 : Int} (hP : Blk w gP 30 #[v0, v1]) (hE : Blk w gE 3 #[.int .i64 n0]) (hA : Blk w gA 3 #[.int .i64 n1])
theorem ld_prog (w : World) {g : Nat} {a b : Value} (h : Blk w g 30 #[a, b]) : (loadVar 30 ⟨g, 0, none⟩).run Tryz.prog w = .ok (.agg #[a, b]) w := run_loadVar_row w g _ _ _ (0, 0) _ h Tryz.underlying30 rfl (by kernel_rfl)
theorem ld_int (w : World) {g : Nat} {n : Int} (h : Blk w g 3 #[.int .i64 n]) : (loadVar 3 ⟨g, 0, none⟩).run Tryz.prog w = .ok (.int .i64 n) w := by
  have c0 := h.cellv 0 rfl
  simp [loadVar, go_sem, c0]
include hP hE hA
theorem dc_bad {bs : List Nat} {w0 : World} (C : Chg [] w0 w) (he : gE ≠ gA) (nP : w0.heap.size ≤ gP) (nE : w0.heap.size ≤ gE) (nA : w0.heap.size ≤ gA) {k : Nat} (hk : decP bs = .error k) {tmps : Array Value} (t2 : tmps.getD 2 undef = .pointer (some ⟨gP, 0, none⟩)) (t3 : tmps.getD 3 undef = .pointer (some ⟨gE, 0, none⟩)) (t4 : tmps.getD 4 undef = .pointer (some ⟨gA, 0, none⟩)) :
    bodyPostD Tryz.prog Tryz.f52 (DecPost bs w0) (Exit.panic (badV k)) { tmps := tmps, defers := [{ target := .fn (Fn.func 101) #[.pointer (some ⟨gP, 0, none⟩), .pointer (some ⟨gE, 0, none⟩), .pointer (some ⟨gA, 0, none⟩)], args := #[] }] } w := by
  refine leaves_cons (f := 101) (args := #[.pointer (some ⟨gP, 0, none⟩), .pointer (some ⟨gE, 0, none⟩), .pointer (some ⟨gA, 0, none⟩)]) (by simp) (by simp [go_sem]) ?_
  refine (cd_catch w gP gE gA v0 v1 n0 n1 hP hE hA k he).mono ?_
  rintro e u' w'' ⟨rfl, hu, P3, E3, A3, D⟩
  show Leaves _ _ _ _ [] (settle u') w''
  rw [hu]
  exact ⟨_, results_cell3 (by rfl) t2 t3 t4 (ld_prog _ P3) (ld_int _ E3) (ld_int _ A3), .inr ⟨k, hk, rfl, C.newS D (by simp; omega)⟩⟩
end
theorem OwnV.ne_blkV {E : TypeId} {w : World} {v : Value} {xs : List Value} {g : Nat} {t : TypeId} {cs : Array Value} (h : OwnV E w v xs) (hb : Blk w g t cs) (hne : E ≠ t) : g ∉ fpv v := fun hm => own_ne h.o hb hne (mem_fpv.1 hm)
structure DcB (w0 : World) (g gP gE gA : Nat) : Prop where
  n0 : w0.heap.size ≤ g
  n1 : w0.heap.size ≤ gP
  n2 : w0.heap.size ≤ gE
  n3 : w0.heap.size ≤ gA
  ne : gE ≠ gA
structure DcW (w0 : World) (g gP gE gA : Nat) (vb : Value) (bs : List Nat) (G : Nat) (a : Nat) (vfn : Value) (vf : Nat → Value) (fs : List (List Ins)) (w : World) : Prop where
  r : Blk w g 211 (rdC vb a)
  P : Blk w gP 30 #[.int .i64 (G : Nat), vfn]
  e : Blk w gE 3 #[.int .i64 0]
  t : Blk w gA 3 #[.int .i64 0]
  f : IsFn w vfn vf fs
  fl : ∀ k, FnF vfn vf fs.length k → w0.heap.size ≤ k ∧ k < w.heap.size
  R : RdV w w0.heap.size vb (u8s bs)
  c : Chg [] w0 w
section
variable {w0 w w' : World} {g gP gE gA : Nat} {vb : Value} {bs : List Nat} {G a : Nat} {vfn : Value} {vf : Nat → Value} {fs : List (List Ins)}
theorem IsFn.far {S : List Nat} (h : IsFn w vfn vf fs) (c : Chg S w w') (hn : ∀ k, FnF vfn vf fs.length k → k ∉ S) : IsFn w' vfn vf fs :=
  ⟨h.o.chg c (fun k hk => hn k (.inl hk)), fun i l hl => (h.f i l hl).chg c (fun k hk => hn k (.inr ⟨i, (List.getElem?_eq_some_iff.1 hl).1, hk⟩))⟩
theorem IsFn.ne {k : Nat} {t : TypeId} {cs : Array Value} (h : IsFn w vfn vf fs) (hb : Blk w k t cs) (h1 : 34 ≠ t) (h2 : 33 ≠ t) : ¬ FnF vfn vf fs.length k := fun hF => by
  rcases hF with hF | ⟨i, hi, hF⟩
  · exact own_ne h.o.o hb h1 (mem_fpv.1 hF)
  · exact (h.f i _ (List.getElem?_eq_getElem hi)).ne_blk hb h2 hF
theorem DcW.chg0 (D : DcW w0 g gP gE gA vb bs G a vfn vf fs w) (c : Chg [] w w') : DcW w0 g gP gE gA vb bs G a vfn vf fs w' :=
  ⟨c.blk D.r (by simp), c.blk D.P (by simp), c.blk D.e (by simp), c.blk D.t (by simp), D.f.far c (by simp), fun k hk => ⟨(D.fl k hk).1, c.lt (D.fl k hk).2⟩, D.R.chg0 c, D.c.trans c⟩
theorem DcW.turn {a' : Nat} (D : DcW w0 g gP gE gA vb bs G a vfn vf fs w) (K : DcB w0 g gP gE gA) (c : Chg [g] w w') (B : Blk w' g 211 (rdC vb a')) : DcW w0 g gP gE gA vb bs G a' vfn vf fs w' :=
  have n := K.n0
  ⟨B, c.blk D.P (by simpa using D.P.ne_ D.r (by decide)), c.blk D.e (by simpa using D.e.ne_ D.r (by decide)), c.blk D.t (by simpa using D.t.ne_ D.r (by decide)), D.f.far c (fun k hk hm => D.f.ne D.r (by decide) (by decide) (by have e : k = g := (by simpa using hm); rw [← e]; exact hk)), fun k hk => ⟨(D.fl k hk).1, c.lt (D.fl k hk).2⟩, D.R.far c (by simpa using n), D.c.newS c (by simpa using n)⟩
theorem DcW.other {S : List Nat} (D : DcW w0 g gP gE gA vb bs G a vfn vf fs w) (c : Chg S w w') (h1 : ∀ k ∈ S, k ≠ g ∧ k ≠ gP ∧ k ≠ gE ∧ k ≠ gA) (h2 : ∀ k ∈ S, w0.heap.size ≤ k) (h3 : ∀ k ∈ S, ¬ FnF vfn vf fs.length k) : DcW w0 g gP gE gA vb bs G a vfn vf fs w' :=
  ⟨c.blk D.r (fun hm => (h1 _ hm).1 rfl), c.blk D.P (fun hm => (h1 _ hm).2.1 rfl), c.blk D.e (fun hm => (h1 _ hm).2.2.1 rfl), c.blk D.t (fun hm => (h1 _ hm).2.2.2 rfl), D.f.far c (fun k hk hm => h3 k hm hk), fun k hk => ⟨(D.fl k hk).1, c.lt (D.fl k hk).2⟩, D.R.far c h2, D.c.newS c h2⟩
end
theorem DcW.bad {w0 w w' : World} {g gP gE gA : Nat} {vb : Value} {bs : List Nat} {G a : Nat} {vfn : Value} {vf : Nat → Value} {fs : List (List Ins)} (D : DcW w0 g gP gE gA vb bs G a vfn vf fs w) (K : DcB w0 g gP gE gA) (c : Chg [g] w w') {k : Nat} (hk : decP bs = .error k) {tmps : Array Value} (t2 : tmps.getD 2 undef = .pointer (some ⟨gP, 0, none⟩)) (t3 : tmps.getD 3 undef = .pointer (some ⟨gE, 0, none⟩)) (t4 : tmps.getD 4 undef = .pointer (some ⟨gA, 0, none⟩)) :
    bodyPostD Tryz.prog Tryz.f52 (DecPost bs w0) (Exit.panic (badV k)) { tmps := tmps, defers := [{ target := .fn (Fn.func 101) #[.pointer (some ⟨gP, 0, none⟩), .pointer (some ⟨gE, 0, none⟩), .pointer (some ⟨gA, 0, none⟩)], args := #[] }] } w' :=
  have n := K.n0
  dc_bad (c.blk D.P (by simpa using D.P.ne_ D.r (by decide))) (c.blk D.e (by simpa using D.e.ne_ D.r (by decide))) (c.blk D.t (by simpa using D.t.ne_ D.r (by decide))) (D.c.newS c (by simpa using n)) K.ne K.n1 K.n2 K.n3 hk t2 t3 t4
theorem insGo_len {G F S : Nat} {bs : List Nat} {a : Nat} {i : Ins} : ∀ {n : Nat} {v : List Nat}, 0 < n → insGo G F S bs a n v = .ok i → a + v.length + n ≤ bs.length
  | 0, _, h, _ => by omega
  | n + 1, v, _, h => by
    rw [insGo] at h
    split at h
    · cases h
    · split at h
      · cases h
      · by_cases hn : 0 < n
        · have := insGo_len hn h
          simp only [List.length_append, List.length_singleton] at this
          omega
        · omega
theorem rdN_len {bs : List Nat} {a lo hi x : Nat} (h : rdN bs a lo hi = .ok x) : a + 1 ≤ bs.length ∧ lo ≤ x ∧ x ≤ hi := by
  unfold rdN at h
  split at h
  · cases h
  · split at h
    · cases h
    · injection h with h; omega
theorem DcW.push {w0 w w1 w2 : World} {g gP gE gA : Nat} {vb : Value} {bs : List Nat} {G a : Nat} {vfn : Value} {vf : Nat → Value} {fs : List (List Ins)} (D : DcW w0 g gP gE gA vb bs G a vfn vf fs w) (K : DcB w0 g gP gE gA) {vl vfn' : Value} {l : List Ins} (Ol : OwnG insC 4 33 w vl l) (hl : ∀ k ∈ fpv vl, w0.heap.size ≤ k) (c1 : Chg [] w w1)
    (O : OwnV 34 w2 vfn' ((List.range fs.length).map vf ++ [vl])) (s : Stp (fpv vfn) (fpv vfn') w1 w2) : DcW w0 g gP gE gA vb bs G a vfn' (fun i => if i = fs.length then vl else vf i) (fs ++ [l]) (w2.setCell ⟨gP, 1, none⟩ vfn') := by
  have D1 := D.chg0 c1
  have Ol1 := Ol.chg0 c1
  have nv : ∀ k ∈ fpv vfn, w0.heap.size ≤ k := fun k hk => (D.fl k (.inl hk)).1
  have ng : g ∉ fpv vfn := D1.f.o.ne_blkV D1.r (by decide)
  have nP : gP ∉ fpv vfn := D1.f.o.ne_blkV D1.P (by decide)
  have nE : gE ∉ fpv vfn := D1.f.o.ne_blkV D1.e (by decide)
  have nA : gA ∉ fpv vfn := D1.f.o.ne_blkV D1.t (by decide)
  have B2 := s.c.blk D1.P nP
  have c3 : Chg [gP] w2 (w2.setCell ⟨gP, 1, none⟩ vfn') := (Chg.refl [gP] w2).setCell (.inl (by simp)) _
  have nP' : gP ∉ fpv vfn' := O.ne_blkV B2 (by decide)
  have K1 := K.n1
  have far : ∀ {v : Value} {l : List Ins}, OwnG insC 4 33 w1 v l → OwnG insC 4 33 (w2.setCell ⟨gP, 1, none⟩ vfn') v l := fun {v l} h => by
    have h2 := h.chg s.c (fun k hk hm => by
      rcases D1.f.o.o.2 with ⟨e, _⟩ | ⟨g', cap, cur, e, _, hh, _⟩
      · rw [e] at hm; simp [fpv, Value.ownBlock] at hm
      · have e2 : k = g' := by rw [e] at hm; simpa [fpv, Value.ownBlock] using hm
        rw [e2] at hk
        exact h.ne_blk (t := 34) (cs := cur) hh (by decide) hk)
    exact h2.chg c3 (fun k hk hm => h2.ne_blk B2 (by decide) (by have e : k = gP := (by simpa using hm); rw [← e]; exact hk))
  refine ⟨c3.blk (s.c.blk D1.r ng) (by simpa using D1.r.ne_ D1.P (by decide)), B2.setv 1 _ rfl, c3.blk (s.c.blk D1.e nE) (by simpa using D1.e.ne_ D1.P (by decide)), c3.blk (s.c.blk D1.t nA) (by simpa using D1.t.ne_ D1.P (by decide)), ⟨?_, fun i l' hl' => ?_⟩, fun k hk => ?_, (D1.R.far s.c nv).far c3 (by simpa using K1), (D1.c.newS s.c nv).newS c3 (by simpa using K1)⟩
  · have e : (List.range (fs ++ [l]).length).map (fun i => if i = fs.length then vl else vf i) = (List.range fs.length).map vf ++ [vl] := by
      rw [List.length_append, List.length_singleton, List.range_succ, List.map_append]
      congr 1
      · refine List.map_congr_left fun i hi => ?_
        have := List.mem_range.1 hi
        rw [if_neg (by omega)]
      · simp
    rw [e]
    exact O.chg c3 (fun k hk hm => nP' (by have e : k = gP := (by simpa using hm); rw [← e]; exact hk))
  · have hi := (List.getElem?_eq_some_iff.1 hl').1
    rw [List.length_append, List.length_singleton] at hi
    by_cases e : i = fs.length
    · subst e
      rw [if_pos rfl]
      have e2 : l' = l := by simpa using hl'.symm
      rw [e2]; exact far Ol1
    · rw [if_neg e]
      rw [List.getElem?_append_left (by omega)] at hl'
      exact far (D1.f.f i l' hl')
  · rw [size_setCell]
    rcases hk with hk | ⟨i, hi, hk⟩
    · refine ⟨?_, O.lt hk⟩
      rcases s.f k hk with h | h
      · exact nv k h
      · have := D1.c.size; omega
    · rw [List.length_append, List.length_singleton] at hi
      have sz := s.c.size
      have hk : k ∈ fpv (if i = fs.length then vl else vf i) := hk
      by_cases e : i = fs.length
      · rw [if_pos e] at hk
        exact ⟨hl k hk, Nat.lt_of_lt_of_le (Ol1.lt hk) sz⟩
      · rw [if_neg e] at hk
        have := D1.fl k (.inr ⟨i, by omega, hk⟩)
        exact ⟨this.1, Nat.lt_of_lt_of_le this.2 sz⟩
def DiRel (w0 : World) (g gP gE gA gF B5 : Nat) (vb : Value) (bs : List Nat) (G F S a1 : Nat) (vfn : Value) (vf : Nat → Value) (fs : List (List Ins)) (gk : Nat) (vl idx : Value) (w : World) : Prop :=
  ∃ (j a : Nat) (l : List Ins), gk + j = S + 1 ∧ j ≤ S ∧ idx = .int .i64 (j : Nat) ∧ l.length = j ∧ a ≤ bs.length ∧ codGo G F S bs (S - j) a l = codGo G F S bs S a1 [] ∧ DcW w0 g gP gE gA vb bs G a vfn vf fs w ∧
    Blk w gF 213 #[.int .i64 (G : Nat), .int .i64 (F : Nat), .int .i64 (S : Nat)] ∧ OwnG insC 4 33 w vl l ∧ (∀ k ∈ fpv vl, B5 ≤ k) ∧ B5 ≤ w.heap.size
def decK (G : Nat) (bs : List Nat) : Except Nat (List (List Ins) × Nat) → Except Nat (Nat × List (List Ins))
  | .error k => .error k
  | .ok (fs, a) => if a < bs.length then .error a else .ok (G, fs)
theorem decP_k {bs : List Nat} {F G : Nat} (h1 : rdN bs 0 1 16 = .ok F) (h2 : rdN bs 1 0 32 = .ok G) : decP bs = decK G bs (funGo G F bs F 2 []) := by
  unfold decP
  simp only [h1, h2]
  cases funGo G F bs F 2 [] <;> rfl
def DcRel (w0 : World) (g gP gE gA : Nat) (vb : Value) (bs : List Nat) (G F : Nat) (gk : Nat) (idx : Value) (w : World) : Prop :=
  ∃ (i a : Nat) (vfn : Value) (vf : Nat → Value) (fs : List (List Ins)), gk + i = F + 1 ∧ i ≤ F ∧ idx = .int .i64 (i : Nat) ∧ fs.length = i ∧ a ≤ bs.length ∧ funGo G F bs (F - i) a fs = funGo G F bs F 2 [] ∧ DcW w0 g gP gE gA vb bs G a vfn vf fs w
set_option maxHeartbeats 4000000 in
theorem cd_decode (w : World) (vb : Value) (bs : List Nat) (R : RdV w w.heap.size vb (u8s bs)) (hl : bs.length ≤ 100000) (hb : ∀ x ∈ bs, x < 256) : Calls Tryz.prog 52 #[vb] w (DecPost bs w) := by
  have hmf : ∀ (fn : Fn) (first cap : Array Value) (w : World), (Instr.makeFunc fn first cap).run Tryz.prog w = .ok (.func fn first cap) w := fun _ _ _ _ => rfl
  obtain ⟨Ab, cb, hvb⟩ := R.ex
  rw [u8s_len] at hvb
  have HR := Lib.hid (And.intro R hvb)
  subst hvb
  clear R
  go_enter_defers Tryz.func52, Tryz.ntmps52
  go_upto_region 3 with fail
  generalize hw1 : World.alloc _ (.cells #[.slice Ab bs.length cb, .int .i64 0] 211) = w1
  have W1 : DcW w (w.heap.size + 1 + 1 + 1) w.heap.size (w.heap.size + 1) (w.heap.size + 1 + 1) (.slice Ab bs.length cb) bs 0 0 (.slice none 0 0) (fun _ => .slice none 0 0) [] w1 := by
    rw [← hw1]
    have b1 := Blk.new w 30 #[.int .i64 0, .slice none 0 0]
    have b2 := Blk.new (w.alloc (.cells #[.int .i64 0, .slice none 0 0] 30)) 3 #[.int .i64 0]
    have b3 := Blk.new ((w.alloc (.cells #[.int .i64 0, .slice none 0 0] 30)).alloc (.cells #[.int .i64 0] 3)) 3 #[.int .i64 0]
    have b4 := Blk.new (((w.alloc (.cells #[.int .i64 0, .slice none 0 0] 30)).alloc (.cells #[.int .i64 0] 3)).alloc (.cells #[.int .i64 0] 3)) 211 #[.slice Ab bs.length cb, .int .i64 0]
    simp only [World.size_alloc] at b2 b3 b4
    have c4 := ((((Chg.refl [] w).alloc (.cells #[.int .i64 0, .slice none 0 0] 30)).alloc (.cells #[.int .i64 0] 3)).alloc (.cells #[.int .i64 0] 3)).alloc (.cells #[.slice Ab bs.length cb, .int .i64 0] 211)
    refine ⟨b4, ((b1.alloc _).alloc _).alloc _, (b2.alloc _).alloc _, b3.alloc _, ⟨OwnV.nil _ _, fun i l hl => by simp at hl⟩, fun k hk => ?_, ?_, c4⟩
    · rcases hk with hk | ⟨i, hi, _⟩
      · simp [fpv, Value.ownBlock] at hk
      · simp at hi
    · rw [← HR.out.2]; exact HR.out.1.chg0 c4
  have K : DcB w (w.heap.size + 1 + 1 + 1) w.heap.size (w.heap.size + 1) (w.heap.size + 1 + 1) := ⟨by omega, by omega, by omega, by omega, by omega⟩
  clear hw1 HR
  generalize w.heap.size + 1 + 1 + 1 = g at W1 K ⊢
  generalize w.heap.size + 1 + 1 = gA at W1 K ⊢
  generalize w.heap.size + 1 = gE at W1 K ⊢
  generalize hgP : w.heap.size = gP at W1 K ⊢
  have HW := Lib.hid (And.intro W1 (And.intro K hgP)); clear W1 K hgP
  go_wp2_with fail
  refine (cd_next HW.out.1.r HW.out.1.R hl hb 1 16 (by omega)).mono ?_
  rintro e w2 (⟨F, hF, rfl, B2, c2⟩ | ⟨k, hk, rfl, c2⟩)
  · have W2 := HW.out.1.turn HW.out.2.1 c2 B2
    have hF16 : 1 ≤ F ∧ F ≤ 16 := by
      unfold rdN at hF
      split at hF
      · cases hF
      · split at hF
        · cases hF
        · injection hF with hF; omega
    have hlen : 1 ≤ bs.length := by
      unfold rdN at hF
      split at hF
      · cases hF
      · omega
    have H2 := Lib.hid (And.intro W2 hF); clear W2 hF B2 c2
    go_wp2_with fail
    refine (cd_next H2.out.1.r H2.out.1.R hl hb 0 32 (by omega)).mono ?_
    rintro e w3 (⟨G, hG, rfl, B3, c3⟩ | ⟨k, hk, rfl, c3⟩)
    · have W3 := H2.out.1.turn HW.out.2.1 c3 B3
      have hG32 : G ≤ 32 := by
        unfold rdN at hG
        split at hG
        · cases hG
        · split at hG
          · cases hG
          · injection hG with hG; omega
      have hlen2 : 2 ≤ bs.length := by
        unfold rdN at hG
        split at hG
        · cases hG
        · omega
      have q0 : w3.cell? ⟨gP, 0, none⟩ = some (.int .i64 0) := W3.P.cellv 0 rfl
      have q1 := W3.P.frozen 0
      have H3 := Lib.hid (And.intro W3 hG); clear W3 hG B3 c3
      go_upto_region 5 with fail
      generalize hw4 : World.setCell w3 ⟨gP, 0, none⟩ (.int .i64 (G : Nat)) = w4
      have W4 : DcW w g gP gE gA (.slice Ab bs.length cb) bs G 2 (.slice none 0 0) (fun _ => .slice none 0 0) [] w4 := by
        have D := H3.out.1
        have cP : Chg [gP] w3 w4 := by rw [← hw4]; exact (Chg.refl [gP] w3).setCell (.inl (by simp)) _
        have nP := HW.out.2.1.n1
        refine ⟨cP.blk D.r (by simpa using D.r.ne_ D.P (by decide)), ?_, cP.blk D.e (by simpa using D.e.ne_ D.P (by decide)), cP.blk D.t (by simpa using D.t.ne_ D.P (by decide)), ⟨OwnV.nil _ _, fun i l hl => by simp at hl⟩, fun k hk => ?_, D.R.far cP (by simpa using nP), D.c.newS cP (by simpa using nP)⟩
        · rw [← hw4]; exact D.P.setv 0 _ rfl
        · rcases hk with hk | ⟨i, hi, _⟩
          · simp [fpv, Value.ownBlock] at hk
          · simp at hi
      clear hw4 q0 q1
      have hdec := decP_k H2.out.2 H3.out.2
      have H4 := Lib.hid (And.intro W4 hdec); clear W4 hdec H3
      go_wp2_with fail
      go_loopg [19] (F + 1) (fun gk idx wr => DcRel w g gP gE gA (.slice Ab bs.length cb) bs G F gk idx wr)
      case atStart => exact ⟨0, 2, _, _, [], by omega, by omega, rfl, rfl, by omega, rfl, H4.out.1⟩
      case round =>
        obtain ⟨i, a, vfn, vf, fs, hgk, hi, rfl, hfs, ha, hgo, D⟩ := hrel
        by_cases hiF : i < F
        · have hi' : (i : Int) < (F : Int) := by omega
          have p0 : wr.cell? ⟨gP, 0, none⟩ = some (.int .i64 (G : Nat)) := D.P.cellv 0 rfl
          have HA := Lib.hid ha
          obtain ⟨m, hm⟩ : ∃ m, F - i = m + 1 := ⟨F - i - 1, by omega⟩
          rw [hm] at hgo
          have HE : ∀ kk, rdN bs a 1 64 = .error kk → decP bs = .error kk := fun kk hkk => by
            rw [H4.out.2, ← hgo, funGo, hkk]; rfl
          have HE := Lib.hid HE
          have H5 := Lib.hid (And.intro D (And.intro hgo (And.intro hfs (And.intro hgk hm)))); clear D hgo hfs hgk hm ha
          go_wp2_with fail
          refine wp_region_takesD (fuel := 4) 7 (fun w' => w'.cell? ⟨gP, 0, none⟩ = some (.int .i64 (G : Nat))) [0, 1, 2, 3] (by kernel_rfl) (by kernel_rfl) (fun o ho c a v w h => hQ3 (fn := Tryz.f52) rfl (by kernel_rfl) o ho c a v w h) (p0) ?_
          simp only [List.filterMap_cons, List.filterMap_nil, qGa, qGb]
          iterate 4
            refine wpTake_step (fun K hK => ?_)
            rw [if_pos (by rfl)]
            refine ⟨?_, fun w' hS' => ?_, ?_⟩
            rotate_left 1
            focus
              have j0 := hS'
              go_simp
              try with_reducible rfl
              done
            simp only [Act.put, qSa, qSb, qSc]
            refine hK _ ?_
            clear hK K
          refine wpTake_nil ?_
          generalize hx0 : wr.drew = x0
          have V0 : DcW w g gP gE gA (.slice Ab bs.length cb) bs G a vfn vf fs x0 := by rw [← hx0]; exact H5.out.1.chg0 (Chg.refl [] wr).drew
          have p0 : x0.cell? ⟨gP, 0, none⟩ = some (.int .i64 (G : Nat)) := V0.P.cellv 0 rfl
          clear hx0
          refine wpAnyS_ready (rs := [4, 6]) (by kernel_rfl) (by simp) ?_
          refine AllReadyS.cons (by simp only [qGc, qGa, qGb]; rfl) (fun K hK => ?_) ?_
          · rw [if_pos (by rfl)]
            go_simp
            go_at_call 102
            refine (cd_next V0.r V0.R hl hb 1 64 HA.out).mono ?_
            rintro e x1 (⟨S, hS, rfl, B, c⟩ | ⟨kk, hkk, rfl, c⟩)
            rotate_left
            · exact V0.bad HW.out.2.1 c (HE.out kk hkk) rfl rfl rfl
            dsimp only
            have V1 := V0.turn HW.out.2.1 c B
            have pC : x1.cell? ⟨gP, 0, none⟩ = some (.int .i64 (G : Nat)) := V1.P.cellv 0 rfl
            have HS := Lib.hid hS
            clear hS c B
            refine hK _ _ (pC) ?_
            clear hK K
            try simp only [Act.put, qSa, qSb, qSc]
            refine wpAnyS_moreD (fuel := 2) [5] (by kernel_rfl) (fun o ho c a v w h => hQ3 (fn := Tryz.f52) rfl (by kernel_rfl) o ho c a v w h) pC ?_
            simp only [List.filterMap_cons, List.filterMap_nil, qGa, qGb]
            refine wpTake_step (fun K hK => ?_)
            rw [if_pos (by rfl)]
            refine ⟨?_, fun w' hS' => ?_, ?_⟩
            rotate_left 1
            focus
              have j0 := hS'
              go_simp
              try with_reducible rfl
              done
            simp only [Act.put, qSa, qSb, qSc]
            refine hK _ ?_
            clear hK K
            refine wpTake_nil ?_
            refine wpAnyS_ready (rs := [6]) (by kernel_rfl) (by simp) ?_
            refine AllReadyS.o (fun K hK => ?_)
            rw [if_pos (by rfl)]
            go_simp
            generalize hy : World.alloc x1 (.cells #[.int .i64 0, .int .i64 0, .int .i64 0] 213) = x2
            have FB2 : Blk x2 x1.heap.size 213 #[.int .i64 0, .int .i64 0, .int .i64 0] := by rw [← hy]; exact Blk.new _ _ _
            have V2 := V1.chg0 (w' := x2) (by rw [← hy]; exact (Chg.refl [] _).alloc _)
            have HN := Lib.hid V1.c.size
            generalize x1.heap.size = gF at FB2 HN ⊢
            clear hy
            have pCA : x2.cell? ⟨gP, 0, none⟩ = some (.int .i64 (G : Nat)) := V2.P.cellv 0 rfl
            refine hK _ _ (pCA) ?_
            clear hK K
            try simp only [Act.put, qSa, qSb, qSc]
            refine wpAnyS_tail 7 1 (by kernel_rfl) rfl ?_
            simp only [qDa, qDb]
            have f0 := FB2.frozen 0
            have f1 := FB2.frozen 1
            have f2 := FB2.frozen 2
            have z0 := FB2.cellv 0 rfl
            have z1 := FB2.cellv 1 rfl
            have z2 := FB2.cellv 2 rfl
            have HX := Lib.hid (And.intro V2 (And.intro FB2 (And.intro HN.out HS.out)))
            clear V2 FB2 HN HS V1 V0 p0 pCA pC
            go_upto_region 9 with fail
            generalize hw5 : World.setCell (World.setCell (World.setCell x2 ⟨gF, 0, none⟩ (.int .i64 (G : Nat))) ⟨gF, 1, none⟩ (.int .i64 (F : Nat))) ⟨gF, 2, none⟩ (.int .i64 (S : Nat)) = w5
            have c5 : Chg [gF] x2 w5 := by rw [← hw5]; exact (((Chg.refl [gF] x2).setCell (.inl (by simp)) _).setCell (.inl (by simp)) _).setCell (.inl (by simp)) _
            have W5 : DcW w g gP gE gA (.slice Ab bs.length cb) bs G (a + 1) vfn vf fs w5 := by
              have V := HX.out.1
              have Fb := HX.out.2.1
              have nF := HX.out.2.2.1
              exact V.other c5 (by simp only [List.mem_singleton]; rintro k rfl; exact ⟨(V.r.ne_ Fb (by decide)).symm, (V.P.ne_ Fb (by decide)).symm, (V.e.ne_ Fb (by decide)).symm, (V.t.ne_ Fb (by decide)).symm⟩) (by simpa using nF) (by simp only [List.mem_singleton]; rintro k rfl; exact V.f.ne Fb (by decide) (by decide))
            have F5 : Blk w5 gF 213 #[.int .i64 (G : Nat), .int .i64 (F : Nat), .int .i64 (S : Nat)] := by rw [← hw5]; exact ((HX.out.2.1.set_ 0 _).set_ 1 _).setv 2 _ rfl
            clear hw5 c5 f0 f1 f2 z0 z1 z2
            have z2 : w5.cell? ⟨gF, 2, none⟩ = some (.int .i64 (S : Nat)) := F5.cellv 2 rfl
            have H6 := Lib.hid (And.intro W5 (And.intro F5 HX.out.2.2)); clear W5 F5 HX
            go_wp2_with fail
            obtain ⟨B5, hB5⟩ : ∃ B5, B5 = w5.heap.size := ⟨_, rfl⟩
            have HB5 := Lib.hid hB5; clear hB5
            go_loopg [8, 29] (S + 1) (fun gk vl idx wr => DiRel w g gP gE gA gF B5 (.slice Ab bs.length cb) bs G F S (a + 1) vfn vf fs gk vl idx wr)
            case atStart => exact ⟨0, a + 1, [], by omega, by omega, rfl, rfl, (rdN_len H6.out.2.2.2).1, rfl, H6.out.1, H6.out.2.1, OwnG.nil _ _, by simp [fpv, Value.ownBlock], by rw [HB5.out]; exact Nat.le_refl _⟩
            case round =>
              obtain ⟨j, a2, l, hgk2, hj, rfl, hlj, ha2, hco, D2, Fb2, Ol, hnew, hBs⟩ := hrel
              obtain ⟨Al, cl, hvl⟩ := Ol.slice
              subst hvl
              by_cases hjS : j < S
              · have hj' : (j : Int) < (S : Int) := by omega
                have p0 : wr.cell? ⟨gF, 0, none⟩ = some (.int .i64 (G : Nat)) := Fb2.cellv 0 rfl
                have p1 : wr.cell? ⟨gF, 1, none⟩ = some (.int .i64 (F : Nat)) := Fb2.cellv 1 rfl
                have p2 : wr.cell? ⟨gF, 2, none⟩ = some (.int .i64 (S : Nat)) := Fb2.cellv 2 rfl
                obtain ⟨m2, hm2⟩ : ∃ m2, S - j = m2 + 1 := ⟨S - j - 1, by omega⟩
                rw [hm2, codGo] at hco
                have HE2 : ∀ kk, insGo G F S bs a2 4 [] = .error kk → decP bs = .error kk := fun kk hkk => by
                  rw [hkk] at hco
                  have hco' : codGo G F S bs S (a + 1) [] = .error kk := hco.symm
                  rw [H4.out.2, ← H5.out.2.1, funGo, H6.out.2.2.2]
                  simp only [hco']
                  rfl
                have H7 := Lib.hid (And.intro D2 (And.intro Fb2 (And.intro Ol (And.intro hnew (And.intro hBs (And.intro hco (And.intro HE2 (And.intro hm2 (And.intro hgk2 hlj)))))))))
                clear D2 Fb2 Ol hnew hBs hco HE2 hm2 hgk2 hlj
                have HA2 := Lib.hid ha2; clear ha2
                go_wp2_with fail
                refine (cd_inst wr H7.out.1.r H7.out.1.R HW.out.2.1.n0 hl hb HA2.out G F S (by omega)).mono ?_
                rintro e w7 (⟨x, hx, rfl, B7, c7⟩ | ⟨kk, hkk, rfl, c7⟩)
                · have W7 := H7.out.1.turn HW.out.2.1 c7 B7
                  have F7 := c7.blk H7.out.2.1 (by simpa using H7.out.2.1.ne_ H7.out.1.r (by decide))
                  have O7 := H7.out.2.2.1.chg c7 (fun k hk hm => H7.out.2.2.1.ne_blk H7.out.1.r (by decide) (by have e : k = g := (by simpa using hm); rw [← e]; exact hk))
                  have hco := H7.out.2.2.2.2.2.1
                  rw [hx] at hco
                  have H8 := Lib.hid (And.intro W7 (And.intro F7 (And.intro c7 (And.intro hco (insGo_len (by decide) hx))))); clear W7 F7 hco hx B7 c7
                  have hS64 := (rdN_len H6.out.2.2.2).2.2
                  have hl7 : l.length ≤ 100000000 := by rw [H7.out.2.2.2.2.2.2.2.2.2]; omega
                  simp only [insV]
                  go_wp2_with (at_builtin; refine wpList_push_g insC_len insC_one tyI x rfl rfl _ _ rfl rfl O7 rfl hl7 ?_; intro A' c' w9 O9 S9; have S9 : Stp (fpv (.slice Al l.length cl)) (fpv (.slice A' (l.length + 1) c')) w7 w9 := S9)
                  have nb : w.heap.size ≤ B5 := by rw [HB5.out]; exact H6.out.1.c.size
                  have W9 := H8.out.1.other S9.c (fun k hk => ⟨fun e => O7.ne_blk H8.out.1.r (by decide) (by rw [← e]; exact hk), fun e => O7.ne_blk H8.out.1.P (by decide) (by rw [← e]; exact hk), fun e => O7.ne_blk H8.out.1.e (by decide) (by rw [← e]; exact hk), fun e => O7.ne_blk H8.out.1.t (by decide) (by rw [← e]; exact hk)⟩) (fun k hk => Nat.le_trans nb (H7.out.2.2.2.1 k hk)) (fun k hk hF => by have h1 := (H6.out.1.fl k hF).2; have h2 := H7.out.2.2.2.1 k hk; rw [HB5.out] at h2; omega)
                  have F9 := S9.c.blk H8.out.2.1 (O7.ne_blk H8.out.2.1 (by decide))
                  have hsz : B5 ≤ w7.heap.size := Nat.le_trans H7.out.2.2.2.2.1 H8.out.2.2.1.size
                  have hn9 : ∀ k ∈ fpv (.slice A' (l.length + 1) c'), B5 ≤ k := fun k hk => by
                    rcases S9.f k hk with h | h
                    · exact H7.out.2.2.2.1 k h
                    · omega
                  have hs9 := S9.c.size
                  have H9 := Lib.hid (And.intro W9 (And.intro F9 (And.intro O9 (And.intro hn9 (Nat.le_trans hsz hs9))))); clear W9 F9 O9 S9 hn9 hs9 hsz O7
                  go_roundg (S - j)
                  case measure => have := H7.out.2.2.2.2.2.2.2.2.1; omega
                  case rel => exact ⟨j + 1, a2 + 4, l ++ [x], by have := H7.out.2.2.2.2.2.2.2.2.1; omega, by omega, by go_num, by rw [List.length_append, H7.out.2.2.2.2.2.2.2.2.2]; rfl, by have := H8.out.2.2.2.2; simp at this; omega, by rw [show S - (j + 1) = m2 by have := H7.out.2.2.2.2.2.2.2.1; omega]; exact H8.out.2.2.2.1, H9.out.1, H9.out.2.1, H9.out.2.2.1, H9.out.2.2.2.1, H9.out.2.2.2.2⟩
                · exact H7.out.1.bad HW.out.2.1 c7 (H7.out.2.2.2.2.2.2.1 kk hkk) rfl rfl rfl
              · have hjS' : ¬ (j : Int) < (S : Int) := by omega
                rw [show S - j = 0 by omega, codGo] at hco
                obtain ⟨Af, cf, hvf⟩ := D2.f.o.slice
                rw [List.length_map, List.length_range] at hvf
                have q1 : wr.cell? ⟨gP, 1, none⟩ = some vfn := D2.P.cellv 1 rfl
                have hF' : fs.length ≤ 16 := by have := H5.out.2.2.1; omega
                have hnW : ∀ k ∈ fpv (.slice Al l.length cl), w.heap.size ≤ k := fun k hk => Nat.le_trans (by rw [HB5.out]; exact H6.out.1.c.size) (hnew k hk)
                have H7 := Lib.hid (And.intro D2 (And.intro Ol (And.intro hnW (And.intro hco (And.intro hvf (And.intro ha2 hlj)))))); clear Ol hnW hco hnew hBs Fb2 hgk2 ha2 hlj
                have OF := D2.f.o
                have nPv : gP ∉ fpv vfn := OF.ne_blkV D2.P (by decide)
                have HP2 := Lib.hid (And.intro D2.P (And.intro OF nPv)); clear D2 OF nPv
                rw [hvf] at q1
                go_wp2_with (at_builtin; refine wpList_cat_v tyII rfl _ _ rfl (v := .slice Af fs.length cf) rfl (by rw [← hvf]; exact HP2.out.2.1.alloc (.cells #[.slice Al l.length cl] 34)) rfl (RdV.one_ (Blk.new wr 34 #[.slice Al l.length cl]) rfl) (by simp; omega) ?_; intro A' c' w9 O9 S9; have B9 := S9.c.blk (HP2.out.1.alloc _) (by rw [← hvf]; exact HP2.out.2.2); have q9 : w9.cell? ⟨gP, 1, none⟩ = some vfn := B9.cellv 1 rfl; have y9 := B9.frozen 1; clear B9)
                have el : (List.map vf (List.range fs.length)).length + [Value.slice Al l.length cl].length = fs.length + 1 := by simp
                rw [el] at O9 S9
                have S9' : Stp (fpv vfn) (fpv (.slice A' (fs.length + 1) c')) (wr.alloc (.cells #[.slice Al l.length cl] 34)) w9 := by rw [H7.out.2.2.2.2.1]; exact S9
                have W9 := H7.out.1.push HW.out.2.1 H7.out.2.1 H7.out.2.2.1 ((Chg.refl [] wr).alloc _) O9 S9'
                have H9 := Lib.hid W9; clear W9 O9 S9 S9' q9 y9 el
                have hfun : funGo G F bs m a2 (fs ++ [l]) = funGo G F bs F 2 [] := by
                  rw [← H5.out.2.1, funGo, H6.out.2.2.2]
                  simp only [← H7.out.2.2.2.1]
                have HF := Lib.hid hfun; clear hfun
                go_roundg (F - i)
                case measure => have := H5.out.2.2.2.1; omega
                case rel => exact ⟨i + 1, a2, _, _, fs ++ [l], by have := H5.out.2.2.2.1; omega, by omega, by go_num, by rw [List.length_append, H5.out.2.2.1]; rfl, H7.out.2.2.2.2.2.1, by rw [show F - (i + 1) = m by have := H5.out.2.2.2.2; omega]; exact HF.out, H9.out⟩
          refine AllReadyS.o (fun K hK => ?_)
          rw [if_pos (by rfl)]
          go_simp
          generalize hy : World.alloc x0 (.cells #[.int .i64 0, .int .i64 0, .int .i64 0] 213) = x1
          have FB1 : Blk x1 x0.heap.size 213 #[.int .i64 0, .int .i64 0, .int .i64 0] := by rw [← hy]; exact Blk.new _ _ _
          have V1 := V0.chg0 (w' := x1) (by rw [← hy]; exact (Chg.refl [] _).alloc _)
          have HN := Lib.hid V0.c.size
          generalize x0.heap.size = gF at FB1 HN ⊢
          clear hy
          have pA : x1.cell? ⟨gP, 0, none⟩ = some (.int .i64 (G : Nat)) := V1.P.cellv 0 rfl
          refine hK _ _ (pA) ?_
          clear hK K
          try simp only [Act.put, qSa, qSb, qSc]
          refine wpAnyS_ready (rs := [4]) (by kernel_rfl) (by simp) ?_
          refine AllReadyS.o (fun K hK => ?_)
          rw [if_pos (by rfl)]
          go_simp
          go_at_call 102
          refine (cd_next V1.r V1.R hl hb 1 64 HA.out).mono ?_
          rintro e x2 (⟨S, hS, rfl, B, c⟩ | ⟨kk, hkk, rfl, c⟩)
          rotate_left
          · exact V1.bad HW.out.2.1 c (HE.out kk hkk) rfl rfl rfl
          dsimp only
          have V2 := V1.turn HW.out.2.1 c B
          have pAC : x2.cell? ⟨gP, 0, none⟩ = some (.int .i64 (G : Nat)) := V2.P.cellv 0 rfl
          have FB2 := c.blk FB1 (by simpa using FB1.ne_ V1.r (by decide))
          have HS := Lib.hid hS
          clear hS c B
          refine hK _ _ (pAC) ?_
          clear hK K
          try simp only [Act.put, qSa, qSb, qSc]
          refine wpAnyS_moreD (fuel := 1) [5] (by kernel_rfl) (fun o ho c a v w h => hQ3 (fn := Tryz.f52) rfl (by kernel_rfl) o ho c a v w h) pAC ?_
          simp only [List.filterMap_cons, List.filterMap_nil, qGa, qGb]
          refine wpTake_step (fun K hK => ?_)
          rw [if_pos (by rfl)]
          refine ⟨?_, fun w' hS' => ?_, ?_⟩
          rotate_left 1
          focus
            have j0 := hS'
            go_simp
            try with_reducible rfl
            done
          simp only [Act.put, qSa, qSb, qSc]
          refine hK _ ?_
          clear hK K
          refine wpTake_nil ?_
          refine wpAnyS_tail 7 1 (by kernel_rfl) rfl ?_
          simp only [qDa, qDb]
          have f0 := FB2.frozen 0
          have f1 := FB2.frozen 1
          have f2 := FB2.frozen 2
          have z0 := FB2.cellv 0 rfl
          have z1 := FB2.cellv 1 rfl
          have z2 := FB2.cellv 2 rfl
          have HX := Lib.hid (And.intro V2 (And.intro FB2 (And.intro HN.out HS.out)))
          clear V2 FB2 HN HS V1 V0 p0 pAC pA
          go_upto_region 9 with fail
          generalize hw5 : World.setCell (World.setCell (World.setCell x2 ⟨gF, 0, none⟩ (.int .i64 (G : Nat))) ⟨gF, 1, none⟩ (.int .i64 (F : Nat))) ⟨gF, 2, none⟩ (.int .i64 (S : Nat)) = w5
          have c5 : Chg [gF] x2 w5 := by rw [← hw5]; exact (((Chg.refl [gF] x2).setCell (.inl (by simp)) _).setCell (.inl (by simp)) _).setCell (.inl (by simp)) _
          have W5 : DcW w g gP gE gA (.slice Ab bs.length cb) bs G (a + 1) vfn vf fs w5 := by
            have V := HX.out.1
            have Fb := HX.out.2.1
            have nF := HX.out.2.2.1
            exact V.other c5 (by simp only [List.mem_singleton]; rintro k rfl; exact ⟨(V.r.ne_ Fb (by decide)).symm, (V.P.ne_ Fb (by decide)).symm, (V.e.ne_ Fb (by decide)).symm, (V.t.ne_ Fb (by decide)).symm⟩) (by simpa using nF) (by simp only [List.mem_singleton]; rintro k rfl; exact V.f.ne Fb (by decide) (by decide))
          have F5 : Blk w5 gF 213 #[.int .i64 (G : Nat), .int .i64 (F : Nat), .int .i64 (S : Nat)] := by rw [← hw5]; exact ((HX.out.2.1.set_ 0 _).set_ 1 _).setv 2 _ rfl
          clear hw5 c5 f0 f1 f2 z0 z1 z2
          have z2 : w5.cell? ⟨gF, 2, none⟩ = some (.int .i64 (S : Nat)) := F5.cellv 2 rfl
          have H6 := Lib.hid (And.intro W5 (And.intro F5 HX.out.2.2)); clear W5 F5 HX
          go_wp2_with fail
          obtain ⟨B5, hB5⟩ : ∃ B5, B5 = w5.heap.size := ⟨_, rfl⟩
          have HB5 := Lib.hid hB5; clear hB5
          go_loopg [8, 29] (S + 1) (fun gk vl idx wr => DiRel w g gP gE gA gF B5 (.slice Ab bs.length cb) bs G F S (a + 1) vfn vf fs gk vl idx wr)
          case atStart => exact ⟨0, a + 1, [], by omega, by omega, rfl, rfl, (rdN_len H6.out.2.2.2).1, rfl, H6.out.1, H6.out.2.1, OwnG.nil _ _, by simp [fpv, Value.ownBlock], by rw [HB5.out]; exact Nat.le_refl _⟩
          case round =>
            obtain ⟨j, a2, l, hgk2, hj, rfl, hlj, ha2, hco, D2, Fb2, Ol, hnew, hBs⟩ := hrel
            obtain ⟨Al, cl, hvl⟩ := Ol.slice
            subst hvl
            by_cases hjS : j < S
            · have hj' : (j : Int) < (S : Int) := by omega
              have p0 : wr.cell? ⟨gF, 0, none⟩ = some (.int .i64 (G : Nat)) := Fb2.cellv 0 rfl
              have p1 : wr.cell? ⟨gF, 1, none⟩ = some (.int .i64 (F : Nat)) := Fb2.cellv 1 rfl
              have p2 : wr.cell? ⟨gF, 2, none⟩ = some (.int .i64 (S : Nat)) := Fb2.cellv 2 rfl
              obtain ⟨m2, hm2⟩ : ∃ m2, S - j = m2 + 1 := ⟨S - j - 1, by omega⟩
              rw [hm2, codGo] at hco
              have HE2 : ∀ kk, insGo G F S bs a2 4 [] = .error kk → decP bs = .error kk := fun kk hkk => by
                rw [hkk] at hco
                have hco' : codGo G F S bs S (a + 1) [] = .error kk := hco.symm
                rw [H4.out.2, ← H5.out.2.1, funGo, H6.out.2.2.2]
                simp only [hco']
                rfl
              have H7 := Lib.hid (And.intro D2 (And.intro Fb2 (And.intro Ol (And.intro hnew (And.intro hBs (And.intro hco (And.intro HE2 (And.intro hm2 (And.intro hgk2 hlj)))))))))
              clear D2 Fb2 Ol hnew hBs hco HE2 hm2 hgk2 hlj
              have HA2 := Lib.hid ha2; clear ha2
              go_wp2_with fail
              refine (cd_inst wr H7.out.1.r H7.out.1.R HW.out.2.1.n0 hl hb HA2.out G F S (by omega)).mono ?_
              rintro e w7 (⟨x, hx, rfl, B7, c7⟩ | ⟨kk, hkk, rfl, c7⟩)
              · have W7 := H7.out.1.turn HW.out.2.1 c7 B7
                have F7 := c7.blk H7.out.2.1 (by simpa using H7.out.2.1.ne_ H7.out.1.r (by decide))
                have O7 := H7.out.2.2.1.chg c7 (fun k hk hm => H7.out.2.2.1.ne_blk H7.out.1.r (by decide) (by have e : k = g := (by simpa using hm); rw [← e]; exact hk))
                have hco := H7.out.2.2.2.2.2.1
                rw [hx] at hco
                have H8 := Lib.hid (And.intro W7 (And.intro F7 (And.intro c7 (And.intro hco (insGo_len (by decide) hx))))); clear W7 F7 hco hx B7 c7
                have hS64 := (rdN_len H6.out.2.2.2).2.2
                have hl7 : l.length ≤ 100000000 := by rw [H7.out.2.2.2.2.2.2.2.2.2]; omega
                simp only [insV]
                go_wp2_with (at_builtin; refine wpList_push_g insC_len insC_one tyI x rfl rfl _ _ rfl rfl O7 rfl hl7 ?_; intro A' c' w9 O9 S9; have S9 : Stp (fpv (.slice Al l.length cl)) (fpv (.slice A' (l.length + 1) c')) w7 w9 := S9)
                have nb : w.heap.size ≤ B5 := by rw [HB5.out]; exact H6.out.1.c.size
                have W9 := H8.out.1.other S9.c (fun k hk => ⟨fun e => O7.ne_blk H8.out.1.r (by decide) (by rw [← e]; exact hk), fun e => O7.ne_blk H8.out.1.P (by decide) (by rw [← e]; exact hk), fun e => O7.ne_blk H8.out.1.e (by decide) (by rw [← e]; exact hk), fun e => O7.ne_blk H8.out.1.t (by decide) (by rw [← e]; exact hk)⟩) (fun k hk => Nat.le_trans nb (H7.out.2.2.2.1 k hk)) (fun k hk hF => by have h1 := (H6.out.1.fl k hF).2; have h2 := H7.out.2.2.2.1 k hk; rw [HB5.out] at h2; omega)
                have F9 := S9.c.blk H8.out.2.1 (O7.ne_blk H8.out.2.1 (by decide))
                have hsz : B5 ≤ w7.heap.size := Nat.le_trans H7.out.2.2.2.2.1 H8.out.2.2.1.size
                have hn9 : ∀ k ∈ fpv (.slice A' (l.length + 1) c'), B5 ≤ k := fun k hk => by
                  rcases S9.f k hk with h | h
                  · exact H7.out.2.2.2.1 k h
                  · omega
                have hs9 := S9.c.size
                have H9 := Lib.hid (And.intro W9 (And.intro F9 (And.intro O9 (And.intro hn9 (Nat.le_trans hsz hs9))))); clear W9 F9 O9 S9 hn9 hs9 hsz O7
                go_roundg (S - j)
                case measure => have := H7.out.2.2.2.2.2.2.2.2.1; omega
                case rel => exact ⟨j + 1, a2 + 4, l ++ [x], by have := H7.out.2.2.2.2.2.2.2.2.1; omega, by omega, by go_num, by rw [List.length_append, H7.out.2.2.2.2.2.2.2.2.2]; rfl, by have := H8.out.2.2.2.2; simp at this; omega, by rw [show S - (j + 1) = m2 by have := H7.out.2.2.2.2.2.2.2.1; omega]; exact H8.out.2.2.2.1, H9.out.1, H9.out.2.1, H9.out.2.2.1, H9.out.2.2.2.1, H9.out.2.2.2.2⟩
              · exact H7.out.1.bad HW.out.2.1 c7 (H7.out.2.2.2.2.2.2.1 kk hkk) rfl rfl rfl
            · have hjS' : ¬ (j : Int) < (S : Int) := by omega
              rw [show S - j = 0 by omega, codGo] at hco
              obtain ⟨Af, cf, hvf⟩ := D2.f.o.slice
              rw [List.length_map, List.length_range] at hvf
              have q1 : wr.cell? ⟨gP, 1, none⟩ = some vfn := D2.P.cellv 1 rfl
              have hF' : fs.length ≤ 16 := by have := H5.out.2.2.1; omega
              have hnW : ∀ k ∈ fpv (.slice Al l.length cl), w.heap.size ≤ k := fun k hk => Nat.le_trans (by rw [HB5.out]; exact H6.out.1.c.size) (hnew k hk)
              have H7 := Lib.hid (And.intro D2 (And.intro Ol (And.intro hnW (And.intro hco (And.intro hvf (And.intro ha2 hlj)))))); clear Ol hnW hco hnew hBs Fb2 hgk2 ha2 hlj
              have OF := D2.f.o
              have nPv : gP ∉ fpv vfn := OF.ne_blkV D2.P (by decide)
              have HP2 := Lib.hid (And.intro D2.P (And.intro OF nPv)); clear D2 OF nPv
              rw [hvf] at q1
              go_wp2_with (at_builtin; refine wpList_cat_v tyII rfl _ _ rfl (v := .slice Af fs.length cf) rfl (by rw [← hvf]; exact HP2.out.2.1.alloc (.cells #[.slice Al l.length cl] 34)) rfl (RdV.one_ (Blk.new wr 34 #[.slice Al l.length cl]) rfl) (by simp; omega) ?_; intro A' c' w9 O9 S9; have B9 := S9.c.blk (HP2.out.1.alloc _) (by rw [← hvf]; exact HP2.out.2.2); have q9 : w9.cell? ⟨gP, 1, none⟩ = some vfn := B9.cellv 1 rfl; have y9 := B9.frozen 1; clear B9)
              have el : (List.map vf (List.range fs.length)).length + [Value.slice Al l.length cl].length = fs.length + 1 := by simp
              rw [el] at O9 S9
              have S9' : Stp (fpv vfn) (fpv (.slice A' (fs.length + 1) c')) (wr.alloc (.cells #[.slice Al l.length cl] 34)) w9 := by rw [H7.out.2.2.2.2.1]; exact S9
              have W9 := H7.out.1.push HW.out.2.1 H7.out.2.1 H7.out.2.2.1 ((Chg.refl [] wr).alloc _) O9 S9'
              have H9 := Lib.hid W9; clear W9 O9 S9 S9' q9 y9 el
              have hfun : funGo G F bs m a2 (fs ++ [l]) = funGo G F bs F 2 [] := by
                rw [← H5.out.2.1, funGo, H6.out.2.2.2]
                simp only [← H7.out.2.2.2.1]
              have HF := Lib.hid hfun; clear hfun
              go_roundg (F - i)
              case measure => have := H5.out.2.2.2.1; omega
              case rel => exact ⟨i + 1, a2, _, _, fs ++ [l], by have := H5.out.2.2.2.1; omega, by omega, by go_num, by rw [List.length_append, H5.out.2.2.1]; rfl, H7.out.2.2.2.2.2.1, by rw [show F - (i + 1) = m by have := H5.out.2.2.2.2; omega]; exact HF.out, H9.out⟩
        · have hi' : ¬ (i : Int) < (F : Int) := by omega
          rw [show F - i = 0 by omega, funGo] at hgo
          have hdec := H4.out.2
          rw [← hgo] at hdec
          have r1 : wr.cell? ⟨g, 1, none⟩ = some (.int .i64 (a : Nat)) := D.r.cellv 1 rfl
          by_cases hab : a < bs.length
          · have d1 : (a : Int) < (bs.length : Int) := by omega
            have d2 : decide ((a : Int) < (bs.length : Int)) = true := decide_eq_true d1
            have hk : decP bs = .error a := by rw [hdec, decK, if_pos hab]
            have H5 := Lib.hid (And.intro D hk); clear D hdec hgo hfs hgk hk
            go_wp2_with fail
            exact H5.out.1.bad HW.out.2.1 (Chg.refl [g] wr) H5.out.2 rfl rfl rfl
          · have d1 : ¬ (a : Int) < (bs.length : Int) := by omega
            have d2 : decide ((a : Int) < (bs.length : Int)) = false := decide_eq_false d1
            have hk : decP bs = .ok (G, fs) := by rw [hdec, decK, if_neg hab]
            obtain ⟨Af, cf, hvf⟩ := D.f.o.slice
            have q0 : wr.cell? ⟨gP, 0, none⟩ = some (.int .i64 (G : Nat)) := D.P.cellv 0 rfl
            have q1 : wr.cell? ⟨gP, 1, none⟩ = some vfn := D.P.cellv 1 rfl
            have e0 : wr.cell? ⟨gE, 0, none⟩ = some (.int .i64 0) := D.e.cellv 0 rfl
            have a0 : wr.cell? ⟨gA, 0, none⟩ = some (.int .i64 0) := D.t.cellv 0 rfl
            have y0 := D.P.frozen 0
            have y1 := D.P.frozen 1
            have y2 := D.e.frozen 0
            have y3 := D.t.frozen 0
            have m1 : ¬ gE = gP := D.e.ne_ D.P (by decide)
            have m2 : ¬ gA = gP := D.t.ne_ D.P (by decide)
            have m3 : ¬ gP = gE := fun e => m1 e.symm
            have m4 : ¬ gP = gA := fun e => m2 e.symm
            have m5 : ¬ gE = gA := HW.out.2.1.ne
            have m6 : ¬ gA = gE := fun e => m5 e.symm
            have H5 := Lib.hid (And.intro D (And.intro hk hvf)); clear D hdec hgo hfs hgk hk
            rw [hvf] at q1
            obtain ⟨nf, hn'⟩ : ∃ nf, (List.map vf (List.range fs.length)).length = nf := ⟨_, rfl⟩
            rw [hn'] at q1
            have hn' := Lib.hid hn'
            clear hvf
            go_wp2_with fail
            have PB := (H5.out.1.P.set_ 0 (.int .i64 (G : Nat))).setv 1 (.slice Af nf cf) (cs' := #[.int .i64 (G : Nat), vfn]) (by rw [H5.out.2.2, hn'.out]; rfl)
            have PB4 := (PB.far (p := ⟨gE, 0, none⟩) m3 (.int .i64 0)).far (p := ⟨gA, 0, none⟩) m4 (.int .i64 0)
            have EB4 := ((((H5.out.1.e.far (p := ⟨gP, 0, none⟩) m1 (.int .i64 (G : Nat))).far (p := ⟨gP, 1, none⟩) m1 (.slice Af nf cf)).setv 0 (.int .i64 0) (cs' := #[.int .i64 0]) rfl)).far (p := ⟨gA, 0, none⟩) m5 (.int .i64 0)
            have AB4 := ((((H5.out.1.t.far (p := ⟨gP, 0, none⟩) m2 (.int .i64 (G : Nat))).far (p := ⟨gP, 1, none⟩) m2 (.slice Af nf cf)).far (p := ⟨gE, 0, none⟩) m6 (.int .i64 0))).setv 0 (.int .i64 0) (cs' := #[.int .i64 0]) rfl
            have C4 := ((((Chg.refl [gP, gE, gA] wr).setCell (p := ⟨gP, 0, none⟩) (.inl (by simp)) (.int .i64 (G : Nat))).setCell (p := ⟨gP, 1, none⟩) (.inl (by simp)) (.slice Af nf cf)).setCell (p := ⟨gE, 0, none⟩) (.inl (by simp)) (.int .i64 0)).setCell (p := ⟨gA, 0, none⟩) (.inl (by simp)) (.int .i64 0)
            generalize World.setCell _ ⟨gA, 0, none⟩ (.int .i64 0) = w9 at PB4 EB4 AB4 C4 ⊢
            have D := H5.out.1
            have K := HW.out.2.1
            have nF : ∀ k, FnF vfn vf fs.length k → k ∉ [gP, gE, gA] := fun k hk hm => by
              simp only [List.mem_cons, List.not_mem_nil, or_false] at hm
              rcases hm with rfl | rfl | rfl
              · exact D.f.ne D.P (by decide) (by decide) hk
              · exact D.f.ne D.e (by decide) (by decide) hk
              · exact D.f.ne D.t (by decide) (by decide) hk
            have F9 := D.f.far C4 nF
            have c9 := D.c.newS C4 (by have := K.n1; have := K.n2; have := K.n3; simp; omega)
            refine leaves_cons (f := 101) (args := #[.pointer (some ⟨gP, 0, none⟩), .pointer (some ⟨gE, 0, none⟩), .pointer (some ⟨gA, 0, none⟩)]) (by simp) (by simp [go_sem]) ?_
            refine (cd_catch_idle w9 gP gE gA _ _ _ _ PB4 EB4 AB4).mono ?_
            rintro e u' w'' ⟨rfl, rfl, c⟩
            show Leaves _ _ _ _ [] .returning w''
            exact ⟨_, results_cell3 (by rfl) rfl rfl rfl (ld_prog _ (c.blk PB4 (by simp))) (ld_int _ (c.blk EB4 (by simp))) (ld_int _ (c.blk AB4 (by simp))), .inl ⟨G, fs, vfn, vf, H5.out.2.1, rfl, F9.far c (by simp), fun k hk => (D.fl k hk).1, c9.trans c⟩⟩
    · exact H2.out.1.bad HW.out.2.1 c3 (by unfold decP; simp only [H2.out.2, hk]) rfl rfl rfl
  · exact HW.out.1.bad HW.out.2.1 c2 (by unfold decP; simp only [hk]) rfl rfl rfl
end Go.Proofs.YtcpljjacamibeaaGreatDoor
