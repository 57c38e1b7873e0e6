/- The document's Decode: any bytes. -/
import Derived.Test.YtcpljjacamibeaaGreatDoorQb
import Derived.Test.YtcpljjacamibeaaGreatDoorMcN
import Derived.Test.YtcpljjacamibeaaGreatDoorMd7
namespace Go.Proofs.YtcpljjacamibeaaGreatDoor
set_option maxHeartbeats 16000000
set_option maxRecDepth 100000
open Go.RowKit Go.Maps
theorem results_ctt {P : Program} {fn : Func} {p q r : Tmp} {t1 : TypeId} (h : fn.results = #[.cell p t1, .tmp q, .tmp r]) {tmps : Array Value} {w : World} {a : Addr} {v1 v2 v3 : Value}
    (hp : tmps.getD p undef = .pointer (some a)) (h1 : (loadVar t1 a).run P w = .ok v1 w) (h2 : tmps.getD q undef = v2) (h3 : tmps.getD r undef = v3) :
    (results fn tmps).run P w = .ok (.tuple #[v1, v2, v3]) w := by
  have hp' : tmps[p]?.getD undef = .pointer (some a) := by simpa using hp
  have hq' : tmps[q]?.getD undef = v2 := by simpa using h2
  have hr' : tmps[r]?.getD undef = v3 := by simpa using h3
  simp [results, h, hp', hq', hr', asAddr, h1, Sem.run_bind, Result.andThen]
def RbdPost (k : Int) (w : World) (e : Ending) (w' : World) : Prop := e = .returned (.tuple #[.agg #[.int .i64 0, .slice none 0 0], .int .i64 6, .int .i64 k]) ∧ Chg [] w w'
theorem rbad_ok (w : World) (k : Int) : Calls Tryz.prog 64 #[.int .i64 k] w (RbdPost k w) := by
  go_enter Tryz.func64, Tryz.ntmps64
  go_wp2_with fail
  exact ⟨rfl, _, results_ctt (fn := Tryz.f64) rfl rfl (ld_prog _ (Blk.new w 30 #[.int .i64 0, .slice none 0 0])) rfl rfl, rfl, (Chg.refl [] w).alloc _⟩
def RdcPost (bs : List Nat) (w : World) (e : Ending) (w' : World) : Prop :=
  (∃ (G : Nat) (fs : List (List Ins)) (A : Option Addr) (n c : Nat), decP bs = .ok (G, fs) ∧ e = .returned (.tuple #[.agg #[.int .i64 (G : Nat), .slice A n c], .int .i64 0, .int .i64 0]) ∧ Chg [] w w') ∨
  (∃ k : Nat, decP bs = .error k ∧ e = .returned (.tuple #[.agg #[.int .i64 0, .slice none 0 0], .int .i64 6, .int .i64 (k : Nat)]) ∧ Chg [] w w')
structure RdK (w0 : World) (g2 gP : Nat) (vb : Value) (bs : List Nat) (G : Nat) (vfn : Value) (vls : List Value) (w : World) : Prop where
  B2 : Blk w g2 30 #[.int .i64 0, .slice none 0 0]
  P : Blk w gP 30 #[.int .i64 (G : Nat), vfn]
  o : OwnV 34 w vfn vls
  fr : ∀ k ∈ fpv vfn, w0.heap.size ≤ k
  R : RdV w w0.heap.size vb (u8s bs)
  c : Chg [] w0 w
theorem RdK.chg0 {w0 w w' : World} {g2 gP : Nat} {vb : Value} {bs : List Nat} {G : Nat} {vfn : Value} {vls : List Value} (K : RdK w0 g2 gP vb bs G vfn vls w) (c : Chg [] w w') : RdK w0 g2 gP vb bs G vfn vls w' :=
  ⟨c.blk K.B2 (by simp), c.blk K.P (by simp), K.o.chg c (by simp), K.fr, K.R.chg0 c, K.c.trans c⟩
theorem RdK.far {w0 w w' : World} {g2 gP : Nat} {vb : Value} {bs : List Nat} {G : Nat} {vfn : Value} {vls : List Value} {S : List Nat} (K : RdK w0 g2 gP vb bs G vfn vls w) (c : Chg S w w') (h : ∀ k ∈ S, w0.heap.size ≤ k ∧ k ≠ g2 ∧ k ≠ gP ∧ k ∉ fpv vfn) : RdK w0 g2 gP vb bs G vfn vls w' :=
  ⟨c.blk K.B2 (fun hm => (h _ hm).2.1 rfl), c.blk K.P (fun hm => (h _ hm).2.2.1 rfl), K.o.chg c (fun k hk hm => (h k hm).2.2.2 hk), K.fr, K.R.far c (fun k hk => (h k hk).1), K.c.newS c (fun k hk => (h k hk).1)⟩
theorem RdK.far1 {w0 w w' : World} {g2 gP : Nat} {vb : Value} {bs : List Nat} {G : Nat} {vfn : Value} {vls : List Value} {gp : Nat} {cs : Array Value} (K : RdK w0 g2 gP vb bs G vfn vls w) (c : Chg [gp] w w') (B : Blk w gp 3 cs) (h : w0.heap.size ≤ gp) : RdK w0 g2 gP vb bs G vfn vls w' :=
  K.far c (fun k hk => by
    have e : k = gp := by simpa using hk
    subst e
    exact ⟨h, (K.B2.ne_ B (by decide)).symm, (K.P.ne_ B (by decide)).symm, K.o.ne_blkV B (by decide)⟩)
theorem RdK.farG {w0 w w' : World} {g2 gP : Nat} {vb : Value} {bs : List Nat} {G : Nat} {vfn : Value} {vls : List Value} {vl : Value} {l : List Ins} (K : RdK w0 g2 gP vb bs G vfn vls w) (c : Chg (fpv vl) w w') (O : OwnG insC 4 33 w vl l) (h : ∀ k ∈ fpv vl, w0.heap.size ≤ k) : RdK w0 g2 gP vb bs G vfn vls w' :=
  K.far c (fun k hk => ⟨h k hk, fun e => O.ne_blk K.B2 (by decide) (e ▸ hk), fun e => O.ne_blk K.P (by decide) (e ▸ hk), fun hm => by
    rcases K.o.o.2 with ⟨e, _⟩ | ⟨g', cap, cur, e, _, hh, _⟩
    · rw [e] at hm; simp [fpv, Value.ownBlock] at hm
    · have e2 : k = g' := by rw [e] at hm; simpa [fpv, Value.ownBlock] using hm
      rw [e2] at hk
      exact O.ne_blk (t := 34) (cs := cur) hh (by decide) hk⟩)
theorem RdK.push {w0 w w1 w2 : World} {g2 gP : Nat} {vb : Value} {bs : List Nat} {G : Nat} {vfn vfn' vl : Value} {vls : List Value} (K : RdK w0 g2 gP vb bs G vfn vls w) (nP : w0.heap.size ≤ gP) (ne : g2 ≠ gP) (c1 : Chg [] w w1) (O : OwnV 34 w2 vfn' (vls ++ [vl])) (s : Stp (fpv vfn) (fpv vfn') w1 w2) :
    RdK w0 g2 gP vb bs G vfn' (vls ++ [vl]) (w2.setCell ⟨gP, 1, none⟩ vfn') := by
  have K1 := K.chg0 c1
  have ng2 : g2 ∉ fpv vfn := K1.o.ne_blkV K1.B2 (by decide)
  have ngP : gP ∉ fpv vfn := K1.o.ne_blkV K1.P (by decide)
  have BP := s.c.blk K1.P ngP
  have nP' : gP ∉ fpv vfn' := O.ne_blkV BP (by decide)
  have c3 : Chg [gP] w2 (w2.setCell ⟨gP, 1, none⟩ vfn') := (Chg.refl [gP] w2).setCell (.inl (by simp)) _
  refine ⟨c3.blk (s.c.blk K1.B2 ng2) (by simpa using ne), BP.setv 1 _ rfl, O.chg c3 (fun k hk hm => nP' (by have e : k = gP := (by simpa using hm); rw [← e]; exact hk)), fun k hk => ?_, (K1.R.far s.c K1.fr).far c3 (by simpa using nP), (K1.c.newS s.c K1.fr).newS c3 (by simpa using nP)⟩
  rcases s.f k hk with h | h
  · exact K.fr k h
  · have := K1.c.size; omega
theorem rd_bad {bs : List Nat} {w0 w : World} {g2 : Nat} (n2 : w0.heap.size ≤ g2) {k : Nat} (hB : Blk w g2 30 #[.int .i64 0, .slice none 0 0]) (C : Chg [] w0 w) (hk : decP bs = .error k) {tmps : Array Value} (t2 : tmps.getD 2 undef = .pointer (some ⟨g2, 0, none⟩)) (t3 : tmps.getD 3 undef = .int .i64 6) (t4 : tmps.getD 4 undef = .int .i64 (k : Nat)) :
    bodyPost Tryz.prog Tryz.f17 (RdcPost bs w0) .ret { tmps := tmps, defers := [] } ((w.setCell ⟨g2, 0, none⟩ (.int .i64 0)).setCell ⟨g2, 1, none⟩ (.slice none 0 0)) := by
  have B := (hB.setv 0 (.int .i64 0) rfl).setv 1 (.slice none 0 0) rfl
  exact ⟨rfl, _, results_ctt (fn := Tryz.f17) rfl t2 (ld_prog _ B) t3 t4, .inr ⟨k, hk, rfl, (C.setCell (.inr n2) _).setCell (.inr n2) _⟩⟩
theorem RdK.byte {w0 w : World} {g2 gP : Nat} {bs : List Nat} {G : Nat} {vfn : Value} {vls : List Value} {A : Option Addr} {n c : Nat} (K : RdK w0 g2 gP (.slice A n c) bs G vfn vls w) (hb : ∀ x ∈ bs, x < 256) {a : Nat} (h : a < bs.length) :
    ∃ bb off x, A = some ⟨bb, off, none⟩ ∧ bs[a]? = some x ∧ bs.getD a 0 = x ∧ x < 256 ∧ w.cell? ⟨bb, off + a, none⟩ = some (.int .u8 (x : Nat)) := by
  obtain ⟨x, hx⟩ : ∃ x, bs[a]? = some x := ⟨bs[a], List.getElem?_eq_getElem h⟩
  obtain ⟨bb, off, hA, -, ca⟩ := K.R.at_ A _ c rfl a _ (u8s_at hx)
  exact ⟨bb, off, x, hA, hx, by rw [List.getD_eq_getElem?_getD, hx]; rfl, hb x (List.mem_of_getElem? hx), ca⟩
def RdARel (w0 : World) (g2 gP : Nat) (vb : Value) (bs : List Nat) (G F : Nat) (gk : Nat) (va vf : Value) (w : World) : Prop :=
  ∃ (f a : Nat) (vfn : Value) (vls : List Value) (fs : List (List Ins)), gk + f = F + 1 ∧ f ≤ F ∧ va = .int .i64 (a : Nat) ∧ vf = .int .i64 (f : Nat) ∧ a ≤ bs.length ∧ vls.length = f ∧ fs.length = f ∧ funGo G F bs (F - f) a fs = funGo G F bs F 2 [] ∧ RdK w0 g2 gP vb bs G vfn vls w
def RdBRel (w0 : World) (g2 gP : Nat) (vb : Value) (bs : List Nat) (G F S a1 : Nat) (vfn : Value) (vls : List Value) (B : Nat) (gk : Nat) (va vl vi : Value) (w : World) : Prop :=
  ∃ (i a : Nat) (l : List Ins), gk + i = S + 1 ∧ i ≤ S ∧ va = .int .i64 (a : Nat) ∧ vi = .int .i64 (i : Nat) ∧ a ≤ bs.length ∧ l.length = i ∧ codGo G F S bs (S - i) a l = codGo G F S bs S a1 [] ∧ OwnG insC 4 33 w vl l ∧ (∀ k ∈ fpv vl, B ≤ k) ∧ B ≤ w.heap.size ∧ RdK w0 g2 gP vb bs G vfn vls w
theorem cod_err {G F S : Nat} {bs : List Nat} {a m k : Nat} {l : List Ins} (h : insGo G F S bs a 4 [] = .error k) : codGo G F S bs (m + 1) a l = .error k := by
  rw [codGo, h]
theorem fun_err {G F S : Nat} {bs : List Nat} {a m k : Nat} {fs : List (List Ins)} (hr : rdN bs a 1 64 = .ok S) (h : codGo G F S bs S (a + 1) [] = .error k) : decK G bs (funGo G F bs (m + 1) a fs) = .error k := by
  rw [funGo, hr]
  simp only [h]
  rfl
theorem ins_end {G F S : Nat} {bs : List Nat} {a m : Nat} {v : List Nat} (h : bs.length ≤ a + v.length) : insGo G F S bs a (m + 1) v = .error bs.length := by
  rw [insGo, if_pos h]
theorem ins_bad {G F S : Nat} {bs : List Nat} {a m x : Nat} {v : List Nat} (h : ¬ bs.length ≤ a + v.length) (hx : bs.getD (a + v.length) 0 = x) (h2 : 0 ≤ wrI G F S (insL (v ++ [x])) ∧ wrI G F S (insL (v ++ [x])) ≤ (v.length : Int)) : insGo G F S bs a (m + 1) v = .error (a + (wrI G F S (insL (v ++ [x]))).toNat) := by
  rw [insGo, if_neg h, hx, if_pos h2]
theorem ins_next {G F S : Nat} {bs : List Nat} {a m x : Nat} {v : List Nat} (h : ¬ bs.length ≤ a + v.length) (hx : bs.getD (a + v.length) 0 = x) (h2 : ¬ (0 ≤ wrI G F S (insL (v ++ [x])) ∧ wrI G F S (insL (v ++ [x])) ≤ (v.length : Int))) : insGo G F S bs a (m + 1) v = insGo G F S bs a m (v ++ [x]) := by
  rw [insGo, if_neg h, hx, if_neg h2]
def ptC (v : List Nat) : Array Value := #[.int .i64 (v.getD 0 0 : Nat), .int .i64 (v.getD 1 0 : Nat), .int .i64 (v.getD 2 0 : Nat), .int .i64 (v.getD 3 0 : Nat)]
theorem ptC_set {v : List Nat} {j : Nat} (h : v.length = j) (hj : j < 4) (x : Nat) : (ptC v).setIfInBounds j (.int .i64 (x : Nat)) = ptC (v ++ [x]) := by
  match v, h with
  | [], h => subst h; rfl
  | [a], h => subst h; rfl
  | [a, b], h => subst h; rfl
  | [a, b, c], h => subst h; rfl
  | a :: b :: c :: d :: r, h => simp at h; omega
theorem ptC_at {v : List Nat} {j : Nat} (hj : j < 4) : (ptC v)[j]? = some (.int .i64 (v.getD j 0 : Nat)) := by
  have : j = 0 ∨ j = 1 ∨ j = 2 ∨ j = 3 := by omega
  rcases this with rfl | rfl | rfl | rfl <;> rfl
def RdCRel (w0 : World) (wb : World) (g2 gP gp : Nat) (vb : Value) (bs : List Nat) (G F S a : Nat) (vfn : Value) (vls : List Value) (gk : Nat) (vj : Value) (w : World) : Prop :=
  ∃ (j : Nat) (v : List Nat), gk + j = 5 ∧ j ≤ 4 ∧ vj = .int .i64 (j : Nat) ∧ v.length = j ∧ a + j ≤ bs.length ∧ (∀ x ∈ v, x < 256) ∧ insGo G F S bs a (4 - j) v = insGo G F S bs a 4 [] ∧ Blk w gp 3 (ptC v) ∧ Chg [gp] wb w ∧ RdK w0 g2 gP vb bs G vfn vls w
theorem rdecode_ok (w : World) (vb : Value) (bs : List Nat) (R : RdV w w.heap.size vb (u8s bs)) (hl : bs.length ≤ 100000) (hb : ∀ x ∈ bs, x < 256) : Calls Tryz.prog 17 #[vb] w (RdcPost bs w) := by
  obtain ⟨Ab, cb, hvb⟩ := R.ex
  rw [u8s_len] at hvb
  subst hvb
  have HR := Lib.hid (And.intro R hb); clear R hb
  go_enter Tryz.func17, Tryz.ntmps17
  go_upto_region 2 with fail
  generalize hw1 : World.alloc _ (.cells #[.int .i64 0, .slice none 0 0] 30) = w1
  have K1 : RdK w w.heap.size (w.heap.size + 1) (.slice Ab bs.length cb) bs 0 (.slice none 0 0) [] w1 := by
    rw [← hw1]
    have b1 := Blk.new w 30 #[.int .i64 0, .slice none 0 0]
    have b2 := Blk.new (w.alloc (.cells #[.int .i64 0, .slice none 0 0] 30)) 30 #[.int .i64 0, .slice none 0 0]
    simp only [World.size_alloc] at b2
    exact ⟨b1.alloc _, b2, OwnV.nil _ _, fun k hk => by simp [fpv, Value.ownBlock] at hk, HR.out.1.chg0 (((Chg.refl [] w).alloc _).alloc _), ((Chg.refl [] w).alloc _).alloc _⟩
  clear hw1
  obtain ⟨g2, hg2⟩ : ∃ g, g = w.heap.size := ⟨_, rfl⟩
  obtain ⟨gP, hgP⟩ : ∃ g, g = w.heap.size + 1 := ⟨_, rfl⟩
  rw [← hgP, ← hg2] at K1
  rw [← hgP, ← hg2]
  have n2 : w.heap.size ≤ g2 := by omega
  have nP : w.heap.size ≤ gP := by omega
  have ne2 : g2 ≠ gP := by omega
  have HN := Lib.hid (And.intro n2 (And.intro nP ne2)); clear n2 nP ne2 hg2 hgP
  by_cases h0 : bs.length < 1
  · have hk : decP bs = .error 0 := by
      unfold decP rdN
      rw [if_pos (by omega)]
      have : bs.length = 0 := by omega
      rw [this]
    have d1 : decide ((bs.length : Int) < 1) = true := decide_eq_true (by omega)
    have HX := Lib.hid (And.intro K1 hk); clear K1 hk
    go_wp2_with fail
    refine (rbad_ok w1 0).mono ?_
    rintro e w2 ⟨rfl, c2⟩
    have B2 := (HX.out.1.chg0 c2).B2
    have z0 := B2.frozen 0
    have z1 := B2.frozen 1
    have y0 : w2.cell? ⟨g2, 0, none⟩ = some (.int .i64 0) := B2.cellv 0 rfl
    have y1 : w2.cell? ⟨g2, 1, none⟩ = some (.slice none 0 0) := B2.cellv 1 rfl
    have HY := Lib.hid (And.intro B2 (HX.out.1.chg0 c2).c); clear B2 c2
    go_wp2_with fail
    exact rd_bad HN.out.1 HY.out.1 HY.out.2 HX.out.2 rfl rfl rfl
  obtain ⟨bb, off, n, rfl, hx0, ex0, hn, c0⟩ := K1.byte HR.out.2 (a := 0) (by omega)
  rw [Nat.add_zero] at c0
  have d1 : decide ((bs.length : Int) < 1) = false := decide_eq_false (by omega)
  have d2 : (0 : Int) < (bs.length : Int) := by omega
  have HK1 := Lib.hid (And.intro K1 (And.intro hx0 ex0)); clear K1 hx0 ex0
  go_upto_region 5 with fail
  clear c0
  by_cases h1 : n < 1 ∨ 16 < n
  · have hk : decP bs = .error 0 := by
      unfold decP rdN
      rw [if_neg (by omega), HK1.out.2.2, if_pos h1]
    have HX := Lib.hid (And.intro HK1.out.1 hk); clear hk
    by_cases h1a : n < 1
    · have e1 : decide ((n : Int) < 1) = true := decide_eq_true (by omega)
      go_wp2_with fail
      refine (rbad_ok _ 0).mono ?_
      rintro e wx ⟨rfl, cx⟩
      have Bx := (HX.out.1.chg0 cx).B2
      have z0 := Bx.frozen 0
      have z1 := Bx.frozen 1
      have y0 : wx.cell? ⟨g2, 0, none⟩ = some (.int .i64 0) := Bx.cellv 0 rfl
      have y1 : wx.cell? ⟨g2, 1, none⟩ = some (.slice none 0 0) := Bx.cellv 1 rfl
      have HY := Lib.hid (And.intro Bx (HX.out.1.chg0 cx).c); clear Bx cx
      go_wp2_with fail
      exact rd_bad HN.out.1 HY.out.1 HY.out.2 HX.out.2 rfl rfl rfl
    · have e1 : decide ((n : Int) < 1) = false := decide_eq_false (by omega)
      have e2 : decide ((n : Int) > 16) = true := decide_eq_true (by omega)
      go_wp2_with fail
      refine (rbad_ok _ 0).mono ?_
      rintro e wx ⟨rfl, cx⟩
      have Bx := (HX.out.1.chg0 cx).B2
      have z0 := Bx.frozen 0
      have z1 := Bx.frozen 1
      have y0 : wx.cell? ⟨g2, 0, none⟩ = some (.int .i64 0) := Bx.cellv 0 rfl
      have y1 : wx.cell? ⟨g2, 1, none⟩ = some (.slice none 0 0) := Bx.cellv 1 rfl
      have HY := Lib.hid (And.intro Bx (HX.out.1.chg0 cx).c); clear Bx cx
      go_wp2_with fail
      exact rd_bad HN.out.1 HY.out.1 HY.out.2 HX.out.2 rfl rfl rfl
  have hF : rdN bs 0 1 16 = .ok n := by
    unfold rdN
    rw [if_neg (by omega), HK1.out.2.2, if_neg h1]
  have e1 : decide ((n : Int) < 1) = false := decide_eq_false (by omega)
  have e2 : decide ((n : Int) > 16) = false := decide_eq_false (by omega)
  have HF := Lib.hid (And.intro hF (show 1 ≤ n ∧ n ≤ 16 by omega)); clear hF h1
  by_cases h2 : bs.length < 2
  · have hk : decP bs = .error 1 := by
      unfold decP
      rw [HF.out.1]
      unfold rdN
      simp only
      rw [if_pos (by omega)]
      have : bs.length = 1 := by omega
      rw [this]
    have d3 : decide ((bs.length : Int) < 2) = true := decide_eq_true (by omega)
    have HX := Lib.hid (And.intro HK1.out.1 hk); clear hk
    go_wp2_with fail
    refine (rbad_ok _ 1).mono ?_
    rintro e wx ⟨rfl, cx⟩
    have Bx := (HX.out.1.chg0 cx).B2
    have z0 := Bx.frozen 0
    have z1 := Bx.frozen 1
    have y0 : wx.cell? ⟨g2, 0, none⟩ = some (.int .i64 0) := Bx.cellv 0 rfl
    have y1 : wx.cell? ⟨g2, 1, none⟩ = some (.slice none 0 0) := Bx.cellv 1 rfl
    have HY := Lib.hid (And.intro Bx (HX.out.1.chg0 cx).c); clear Bx cx
    go_wp2_with fail
    exact rd_bad HN.out.1 HY.out.1 HY.out.2 HX.out.2 rfl rfl rfl
  have d3 : decide ((bs.length : Int) < 2) = false := decide_eq_false (by omega)
  have d4 : (1 : Int) < (bs.length : Int) := by omega
  obtain ⟨bb', off', G, hbb, hx1, ex1, hG, c1⟩ := HK1.out.1.byte HR.out.2 (a := 1) (by omega)
  injection hbb with hbb
  injection hbb with hb1 hb2 _
  subst hb1 hb2
  have zP := HK1.out.1.P.frozen 0
  have yP : w1.cell? ⟨gP, 0, none⟩ = some (.int .i64 0) := HK1.out.1.P.cellv 0 rfl
  have HK2 := Lib.hid ex1; clear hx1 ex1 h2
  go_upto_region 10 with fail
  generalize hw4 : World.setCell w1 ⟨gP, 0, none⟩ (.int .i64 (G : Nat)) = w4
  have K4 : RdK w g2 gP (.slice (some ⟨bb, off, none⟩) bs.length cb) bs G (.slice none 0 0) [] w4 := by
    have D := HK1.out.1
    have cP : Chg [gP] w1 w4 := by rw [← hw4]; exact (Chg.refl [gP] w1).setCell (.inl (by simp)) _
    exact ⟨cP.blk D.B2 (by simpa using HN.out.2.2), by rw [← hw4]; exact D.P.setv 0 _ rfl, OwnV.nil _ _, D.fr, D.R.far cP (by simpa using HN.out.2.1), D.c.newS cP (by simpa using HN.out.2.1)⟩
  clear hw4 c1 zP yP
  have q0 : w4.cell? ⟨gP, 0, none⟩ = some (.int .i64 (G : Nat)) := K4.P.cellv 0 rfl
  have HK4 := Lib.hid K4; clear K4
  by_cases h3 : 32 < G
  · have hk : decP bs = .error 1 := by
      unfold decP
      rw [HF.out.1]
      simp only
      unfold rdN
      rw [if_neg (by omega), HK2.out, if_pos (.inr h3)]
    have e3 : decide ((G : Int) > 32) = true := decide_eq_true (by omega)
    have HX := Lib.hid (And.intro HK4.out hk); clear hk
    go_wp2_with fail
    refine (rbad_ok _ 1).mono ?_
    rintro e wx ⟨rfl, cx⟩
    have Bx := (HX.out.1.chg0 cx).B2
    have z0 := Bx.frozen 0
    have z1 := Bx.frozen 1
    have y0 : wx.cell? ⟨g2, 0, none⟩ = some (.int .i64 0) := Bx.cellv 0 rfl
    have y1 : wx.cell? ⟨g2, 1, none⟩ = some (.slice none 0 0) := Bx.cellv 1 rfl
    have HY := Lib.hid (And.intro Bx (HX.out.1.chg0 cx).c); clear Bx cx
    go_wp2_with fail
    exact rd_bad HN.out.1 HY.out.1 HY.out.2 HX.out.2 rfl rfl rfl
  have hG2 : rdN bs 1 0 32 = .ok G := by
    unfold rdN
    rw [if_neg (by omega), HK2.out, if_neg (by omega)]
  have e3 : decide ((G : Int) > 32) = false := decide_eq_false (by omega)
  have hdec := decP_k HF.out.1 hG2
  have HD := Lib.hid hdec; clear hdec hG2
  go_wp2_with fail
  go_loopg [7, 8] (n + 1) (fun gk va vf wr => RdARel w g2 gP (.slice (some ⟨bb, off, none⟩) bs.length cb) bs G n gk va vf wr)
  case atStart => exact ⟨0, 2, _, [], [], by omega, by omega, rfl, rfl, by omega, rfl, rfl, rfl, HK4.out⟩
  case round =>
    obtain ⟨f, a, vfn, vls, fs, hgk, hf, rfl, rfl, ha, hvl, hfs, hgo, K⟩ := hrel
    have HK := Lib.hid (And.intro K (And.intro hgo (And.intro hvl hfs))); clear K hgo hvl hfs
    have Ha := Lib.hid ha; clear ha
    by_cases hfn : f < n
    · have k1 : decide ((f : Int) < (n : Int)) = true := decide_eq_true (by omega)
      have k1' : (f : Int) < (n : Int) := by omega
      obtain ⟨m, hm⟩ : ∃ m, n - f = m + 1 := ⟨n - f - 1, by omega⟩
      have hgo : decP bs = decK G bs (funGo G n bs (m + 1) a fs) := by rw [← hm, HK.out.2.1]; exact HD.out
      have HG := Lib.hid (And.intro hgo hm); clear hgo hm
      by_cases h5 : bs.length ≤ a
      · have hk : decP bs = .error bs.length := by
          rw [HG.out.1]
          unfold funGo rdN
          rw [if_pos h5]
          rfl
        have e5 : decide ((a : Int) ≥ (bs.length : Int)) = true := decide_eq_true (by omega)
        have e5' : (bs.length : Int) ≤ (a : Int) := by omega
        have HX := Lib.hid hk; clear hk
        go_wp2_with fail
        refine (rbad_ok _ bs.length).mono ?_
        rintro e wx ⟨rfl, cx⟩
        have Bx := (HK.out.1.chg0 cx).B2
        have z0 := Bx.frozen 0
        have z1 := Bx.frozen 1
        have y0 : wx.cell? ⟨g2, 0, none⟩ = some (.int .i64 0) := Bx.cellv 0 rfl
        have y1 : wx.cell? ⟨g2, 1, none⟩ = some (.slice none 0 0) := Bx.cellv 1 rfl
        have HY := Lib.hid (And.intro Bx (HK.out.1.chg0 cx).c); clear Bx cx
        go_wp2_with fail
        try rw [Exit.noGoto_ret]
        exact rd_bad HN.out.1 HY.out.1 HY.out.2 HX.out rfl rfl rfl
      have e5 : decide ((a : Int) ≥ (bs.length : Int)) = false := decide_eq_false (by omega)
      have e5' : (a : Int) < (bs.length : Int) := by omega
      have e6 : (0 : Int) ≤ (a : Int) := by omega
      obtain ⟨bb', off', S, hbb, hx5, ex5, hS, c5⟩ := HK.out.1.byte HR.out.2 (a := a) (by omega)
      injection hbb with hbb
      injection hbb with hb1 hb2 _
      subst hb1 hb2
      have HS := Lib.hid ex5; clear hx5 ex5
      go_upto_region 19 with fail
      clear c5
      by_cases h6 : S < 1 ∨ 64 < S
      · have hk : decP bs = .error a := by
          rw [HG.out.1]
          unfold funGo rdN
          rw [if_neg h5, HS.out, if_pos h6]
          rfl
        have HX := Lib.hid hk; clear hk
        by_cases h6a : S < 1
        · have e7 : decide ((S : Int) < 1) = true := decide_eq_true (by omega)
          go_wp2_with fail
          refine (rbad_ok _ a).mono ?_
          rintro e wx ⟨rfl, cx⟩
          have Bx := (HK.out.1.chg0 cx).B2
          have z0 := Bx.frozen 0
          have z1 := Bx.frozen 1
          have y0 : wx.cell? ⟨g2, 0, none⟩ = some (.int .i64 0) := Bx.cellv 0 rfl
          have y1 : wx.cell? ⟨g2, 1, none⟩ = some (.slice none 0 0) := Bx.cellv 1 rfl
          have HY := Lib.hid (And.intro Bx (HK.out.1.chg0 cx).c); clear Bx cx
          go_wp2_with fail
          try rw [Exit.noGoto_ret]
          exact rd_bad HN.out.1 HY.out.1 HY.out.2 HX.out rfl rfl rfl
        · have e7 : decide ((S : Int) < 1) = false := decide_eq_false (by omega)
          have e8 : decide ((S : Int) > 64) = true := decide_eq_true (by omega)
          go_wp2_with fail
          refine (rbad_ok _ a).mono ?_
          rintro e wx ⟨rfl, cx⟩
          have Bx := (HK.out.1.chg0 cx).B2
          have z0 := Bx.frozen 0
          have z1 := Bx.frozen 1
          have y0 : wx.cell? ⟨g2, 0, none⟩ = some (.int .i64 0) := Bx.cellv 0 rfl
          have y1 : wx.cell? ⟨g2, 1, none⟩ = some (.slice none 0 0) := Bx.cellv 1 rfl
          have HY := Lib.hid (And.intro Bx (HK.out.1.chg0 cx).c); clear Bx cx
          go_wp2_with fail
          try rw [Exit.noGoto_ret]
          exact rd_bad HN.out.1 HY.out.1 HY.out.2 HX.out rfl rfl rfl
      have e7 : decide ((S : Int) < 1) = false := decide_eq_false (by omega)
      have e8 : decide ((S : Int) > 64) = false := decide_eq_false (by omega)
      have hSr : rdN bs a 1 64 = .ok S := by
        unfold rdN
        rw [if_neg h5, HS.out, if_neg h6]
      have HSr := Lib.hid (And.intro hSr (show 1 ≤ S ∧ S ≤ 64 by omega)); clear hSr h6
      have Hl := Lib.hid (And.intro hl (show a < bs.length by omega)); clear h5
      have HEA := Lib.hid (fun (k : Nat) (h : codGo G n S bs S (a + 1) [] = .error k) => HG.out.1.trans (fun_err HSr.out.1 h))
      obtain ⟨wk, hwk⟩ : ∃ wk, wk = wr := ⟨_, rfl⟩
      subst hwk
      go_wp2_with fail
      go_loopg [7, 10, 11] (S + 1) (fun gk va vl vi wr => RdBRel w g2 gP (.slice (some ⟨bb, off, none⟩) bs.length cb) bs G n S (a + 1) vfn vls wk.heap.size gk va vl vi wr)
      case atStart => exact ⟨0, a + 1, [], by omega, by omega, by go_num, rfl, by have := Hl.out.2; omega, rfl, rfl, OwnG.nil _ _, by simp [fpv, Value.ownBlock], Nat.le_refl _, HK.out.1⟩
      case round =>
        obtain ⟨i, a2, l, hgk2, hi, rfl, rfl, ha2, hil, hgo2, Ol, hfl, hBw, K2⟩ := hrel
        have HB := Lib.hid (And.intro K2 (And.intro Ol (And.intro hfl (And.intro hgo2 (And.intro hil (And.intro ha2 hBw)))))); clear K2 Ol hfl hgo2 hil ha2 hBw
        obtain ⟨Al, cl, rfl⟩ := HB.out.2.1.slice
        by_cases hiS : i < S
        · have k2 : decide ((i : Int) < (S : Int)) = true := decide_eq_true (by omega)
          have k2' : (i : Int) < (S : Int) := by omega
          obtain ⟨m2, hm2⟩ : ∃ m, S - i = m + 1 := ⟨S - i - 1, by omega⟩
          have HM2 := Lib.hid hm2
          have HEB := Lib.hid (fun (k : Nat) (h : insGo G n S bs a2 4 [] = .error k) => HEA.out k (by rw [← HB.out.2.2.2.1, hm2]; exact cod_err h)); clear hm2
          go_upto_block 4 with fail
          obtain ⟨wc, hwc⟩ : ∃ y, y = wr.alloc (.cells #[.int .i64 0, .int .i64 0, .int .i64 0, .int .i64 0] 3) := ⟨_, rfl⟩
          obtain ⟨gp, hgp⟩ : ∃ y, y = wr.heap.size := ⟨_, rfl⟩
          rw [← hwc, ← hgp]
          have Kc : RdK w g2 gP (.slice (some ⟨bb, off, none⟩) bs.length cb) bs G vfn vls wc := HB.out.1.chg0 (by rw [hwc]; exact (Chg.refl [] wr).alloc _)
          have Bp : Blk wc gp 3 (ptC []) := by rw [hwc, hgp]; exact Blk.new _ _ _
          have Oc : OwnG insC 4 33 wc (.slice Al l.length cl) l := by rw [hwc]; exact HB.out.2.1.chg0 ((Chg.refl [] wr).alloc _)
          have ngp : gp ∉ fpv (.slice Al l.length cl) := fun hm => by have := HB.out.2.1.lt hm; omega
          have hgw : wk.heap.size ≤ gp := by rw [hgp]; exact HB.out.2.2.2.2.2.2
          have HC0 := Lib.hid (And.intro Kc (And.intro Bp (And.intro Oc (And.intro ngp hgw)))); clear Kc Bp Oc ngp hgw hwc hgp
          go_wp2_with fail
          go_loopg [13] 5 (fun gk vj wr => RdCRel w wc g2 gP gp (.slice (some ⟨bb, off, none⟩) bs.length cb) bs G n S a2 vfn vls gk vj wr)
          case atStart => exact ⟨0, [], by omega, by omega, rfl, rfl, by have := HB.out.2.2.2.2.2.1; omega, by simp, rfl, HC0.out.2.1, Chg.refl _ _, HC0.out.1⟩
          case round =>
            obtain ⟨j, v, hgk3, hj, rfl, hvj, haj, hv6, hgo3, Bp, Cp, K3⟩ := hrel
            have HC := Lib.hid (And.intro K3 (And.intro Bp (And.intro Cp (And.intro hgo3 (And.intro hv6 (And.intro hvj haj)))))); clear K3 Bp Cp hgo3 hv6 hvj haj
            by_cases hj4 : j < 4
            · have k3 : decide ((j : Int) < 4) = true := decide_eq_true (by omega)
              have k3' : (j : Int) < 4 := by omega
              have k3'' : (0 : Int) ≤ (j : Int) := by omega
              have ba2 : a2 ≤ 100000 := by have := HB.out.2.2.2.2.2.1; omega
              obtain ⟨m3, hm3⟩ : ∃ m, 4 - j = m + 1 := ⟨4 - j - 1, by omega⟩
              have HM3 := Lib.hid hm3; clear hm3
              by_cases h7 : bs.length ≤ a2 + j
              · have hk : decP bs = .error bs.length := HEB.out _ (by rw [← HC.out.2.2.2.1, HM3.out]; exact ins_end (by rw [HC.out.2.2.2.2.2.1]; exact h7))
                have e9 : decide ((a2 : Int) + (j : Int) ≥ (bs.length : Int)) = true := decide_eq_true (by omega)
                have e9' : (bs.length : Int) ≤ (a2 : Int) + (j : Int) := by omega
                have HX := Lib.hid hk; clear hk
                go_wp2_with fail
                refine (rbad_ok _ bs.length).mono ?_
                rintro e wx ⟨rfl, cx⟩
                have Bx := (HC.out.1.chg0 cx).B2
                have z0 := Bx.frozen 0
                have z1 := Bx.frozen 1
                have y0 : wx.cell? ⟨g2, 0, none⟩ = some (.int .i64 0) := Bx.cellv 0 rfl
                have y1 : wx.cell? ⟨g2, 1, none⟩ = some (.slice none 0 0) := Bx.cellv 1 rfl
                have HY := Lib.hid (And.intro Bx (HC.out.1.chg0 cx).c); clear Bx cx
                go_wp2_with fail
                try rw [Exit.noGoto_ret]
                exact rd_bad HN.out.1 HY.out.1 HY.out.2 HX.out rfl rfl rfl
              have e9 : decide ((a2 : Int) + (j : Int) ≥ (bs.length : Int)) = false := decide_eq_false (by omega)
              have e9' : (a2 : Int) + (j : Int) < (bs.length : Int) := by omega
              have e9'' : (0 : Int) ≤ (a2 : Int) + (j : Int) := by omega
              obtain ⟨bb', off', x, hbb, hx5, ex5, hx6, c5⟩ := HC.out.1.byte HR.out.2 (a := a2 + j) (by omega)
              injection hbb with hbb
              injection hbb with hb1 hb2 _
              subst hb1 hb2
              have zp := HC.out.2.1.frozen j
              have yp : wr.cell? ⟨gp, j, none⟩ = some (.int .i64 (v.getD j 0 : Nat)) := HC.out.2.1.cellv j (ptC_at hj4)
              have HX := Lib.hid ex5; clear hx5 ex5
              go_upto_region 33 with fail
              generalize hw6 : World.setCell wr _ _ = w6
              have B6 : Blk w6 gp 3 (ptC (v ++ [x])) := by
                rw [← hw6, ← ptC_set HC.out.2.2.2.2.2.1 hj4 x]
                exact HC.out.2.1.set_ j _
              have C6 : Chg [gp] wr w6 := by rw [← hw6]; exact (Chg.refl [gp] wr).setCell (.inl (by simp)) _
              have K6 : RdK w g2 gP (.slice (some ⟨bb, off, none⟩) bs.length cb) bs G vfn vls w6 := HC.out.1.far1 C6 HC.out.2.1 (Nat.le_trans HK.out.1.c.size HC0.out.2.2.2.2)
              clear hw6 c5 zp yp
              have hgl := B6.lt
              have c0 : w6.cell? ⟨gp, 0, none⟩ = some (.int .i64 ((v ++ [x]).getD 0 0 : Nat)) := B6.cellv 0 rfl
              have c1 : w6.cell? ⟨gp, 1, none⟩ = some (.int .i64 ((v ++ [x]).getD 1 0 : Nat)) := B6.cellv 1 rfl
              have c2 : w6.cell? ⟨gp, 2, none⟩ = some (.int .i64 ((v ++ [x]).getD 2 0 : Nat)) := B6.cellv 2 rfl
              have c3 : w6.cell? ⟨gp, 3, none⟩ = some (.int .i64 ((v ++ [x]).getD 3 0 : Nat)) := B6.cellv 3 rfl
              obtain ⟨p0, hp0⟩ : ∃ p, p = (v ++ [x]).getD 0 0 := ⟨_, rfl⟩
              obtain ⟨p1, hp1⟩ : ∃ p, p = (v ++ [x]).getD 1 0 := ⟨_, rfl⟩
              obtain ⟨p2, hp2⟩ : ∃ p, p = (v ++ [x]).getD 2 0 := ⟨_, rfl⟩
              obtain ⟨p3, hp3⟩ : ∃ p, p = (v ++ [x]).getD 3 0 := ⟨_, rfl⟩
              have hpi : insL (v ++ [x]) = ⟨p0, p1, p2, p3⟩ := by rw [hp0, hp1, hp2, hp3]; rfl
              have hp6 : p0 < 256 := by
                rw [hp0, List.getD_eq_getElem?_getD]
                cases hq : (v ++ [x])[0]? with
                | none => exact Nat.zero_lt_succ _
                | some y =>
                  have hm := List.mem_of_getElem? hq
                  rw [List.mem_append, List.mem_singleton] at hm
                  rcases hm with hm | rfl
                  · exact HC.out.2.2.2.2.1 y hm
                  · exact hx6
              rw [← hp0] at c0; rw [← hp1] at c1; rw [← hp2] at c2; rw [← hp3] at c3
              have H6 := Lib.hid (And.intro B6 (And.intro C6 (And.intro K6 (And.intro hpi hp6)))); clear B6 C6 K6 hpi hp6 hp0 hp1 hp2 hp3
              refine wp_region_takes (fuel := 2) 14 (fun w' => Chg [] w6 w') [0, 1, 2, 3, 4, 5, 6, 7, 8, 9, 10, 11, 12] (by kernel_rfl) (by kernel_rfl) (fun _ _ _ _ _ h => h) ((Chg.refl [] w6).drew) ?_
              simp only [List.filterMap_cons, List.filterMap_nil, qGa, qGb]
              refine wpTake_step (fun K hK => ?_)
              rw [if_pos (by rfl)]
              refine ⟨?_, fun w' hS' => ?_, ?_⟩
              rotate_left 1
              focus
                have s0 := hS'.cellv hgl (by simp) c0
                have s1 := hS'.cellv hgl (by simp) c1
                have s2 := hS'.cellv hgl (by simp) c2
                have s3 := hS'.cellv hgl (by simp) c3
                go_simp
                try with_reducible rfl
                done
              simp only [Act.put, qSa, qSb, qSc]
              refine hK _ ?_
              clear hK K
              refine wpTake_step (fun K hK => ?_)
              rw [if_pos (by rfl)]
              refine ⟨?_, fun w' hS' => ?_, ?_⟩
              rotate_left 1
              focus
                have s0 := hS'.cellv hgl (by simp) c0
                have s1 := hS'.cellv hgl (by simp) c1
                have s2 := hS'.cellv hgl (by simp) c2
                have s3 := hS'.cellv hgl (by simp) c3
                go_simp
                try with_reducible rfl
                done
              simp only [Act.put, qSa, qSb, qSc]
              refine hK _ ?_
              clear hK K
              refine wpTake_step (fun K hK => ?_)
              rw [if_pos (by rfl)]
              refine ⟨?_, fun w' hS' => ?_, ?_⟩
              rotate_left 1
              focus
                have s0 := hS'.cellv hgl (by simp) c0
                have s1 := hS'.cellv hgl (by simp) c1
                have s2 := hS'.cellv hgl (by simp) c2
                have s3 := hS'.cellv hgl (by simp) c3
                go_simp
                try with_reducible rfl
                done
              simp only [Act.put, qSa, qSb, qSc]
              refine hK _ ?_
              clear hK K
              refine wpTake_step (fun K hK => ?_)
              rw [if_pos (by rfl)]
              refine ⟨?_, fun w' hS' => ?_, ?_⟩
              rotate_left 1
              focus
                have s0 := hS'.cellv hgl (by simp) c0
                have s1 := hS'.cellv hgl (by simp) c1
                have s2 := hS'.cellv hgl (by simp) c2
                have s3 := hS'.cellv hgl (by simp) c3
                go_simp
                try with_reducible rfl
                done
              simp only [Act.put, qSa, qSb, qSc]
              refine hK _ ?_
              clear hK K
              refine wpTake_step (fun K hK => ?_)
              rw [if_pos (by rfl)]
              refine ⟨?_, fun w' hS' => ?_, ?_⟩
              rotate_left 1
              focus
                have s0 := hS'.cellv hgl (by simp) c0
                have s1 := hS'.cellv hgl (by simp) c1
                have s2 := hS'.cellv hgl (by simp) c2
                have s3 := hS'.cellv hgl (by simp) c3
                go_simp
                try with_reducible rfl
                done
              simp only [Act.put, qSa, qSb, qSc]
              refine hK _ ?_
              clear hK K
              refine wpTake_step (fun K hK => ?_)
              rw [if_pos (by rfl)]
              refine ⟨?_, fun w' hS' => ?_, ?_⟩
              rotate_left 1
              focus
                have s0 := hS'.cellv hgl (by simp) c0
                have s1 := hS'.cellv hgl (by simp) c1
                have s2 := hS'.cellv hgl (by simp) c2
                have s3 := hS'.cellv hgl (by simp) c3
                go_simp
                try with_reducible rfl
                done
              simp only [Act.put, qSa, qSb, qSc]
              refine hK _ ?_
              clear hK K
              refine wpTake_step (fun K hK => ?_)
              rw [if_pos (by rfl)]
              refine ⟨?_, fun w' hS' => ?_, ?_⟩
              rotate_left 1
              focus
                have s0 := hS'.cellv hgl (by simp) c0
                have s1 := hS'.cellv hgl (by simp) c1
                have s2 := hS'.cellv hgl (by simp) c2
                have s3 := hS'.cellv hgl (by simp) c3
                go_simp
                try with_reducible rfl
                done
              simp only [Act.put, qSa, qSb, qSc]
              refine hK _ ?_
              clear hK K
              refine wpTake_step (fun K hK => ?_)
              rw [if_pos (by rfl)]
              refine ⟨?_, fun w' hS' => ?_, ?_⟩
              rotate_left 1
              focus
                have s0 := hS'.cellv hgl (by simp) c0
                have s1 := hS'.cellv hgl (by simp) c1
                have s2 := hS'.cellv hgl (by simp) c2
                have s3 := hS'.cellv hgl (by simp) c3
                go_simp
                try with_reducible rfl
                done
              simp only [Act.put, qSa, qSb, qSc]
              refine hK _ ?_
              clear hK K
              refine wpTake_step (fun K hK => ?_)
              rw [if_pos (by rfl)]
              refine ⟨?_, fun w' hS' => ?_, ?_⟩
              rotate_left 1
              focus
                have s0 := hS'.cellv hgl (by simp) c0
                have s1 := hS'.cellv hgl (by simp) c1
                have s2 := hS'.cellv hgl (by simp) c2
                have s3 := hS'.cellv hgl (by simp) c3
                go_simp
                try with_reducible rfl
                done
              simp only [Act.put, qSa, qSb, qSc]
              refine hK _ ?_
              clear hK K
              refine wpTake_step (fun K hK => ?_)
              rw [if_pos (by rfl)]
              refine ⟨?_, fun w' hS' => ?_, ?_⟩
              rotate_left 1
              focus
                have s0 := hS'.cellv hgl (by simp) c0
                have s1 := hS'.cellv hgl (by simp) c1
                have s2 := hS'.cellv hgl (by simp) c2
                have s3 := hS'.cellv hgl (by simp) c3
                go_simp
                try with_reducible rfl
                done
              simp only [Act.put, qSa, qSb, qSc]
              refine hK _ ?_
              clear hK K
              refine wpTake_step (fun K hK => ?_)
              rw [if_pos (by rfl)]
              refine ⟨?_, fun w' hS' => ?_, ?_⟩
              rotate_left 1
              focus
                have s0 := hS'.cellv hgl (by simp) c0
                have s1 := hS'.cellv hgl (by simp) c1
                have s2 := hS'.cellv hgl (by simp) c2
                have s3 := hS'.cellv hgl (by simp) c3
                go_simp
                try with_reducible rfl
                done
              simp only [Act.put, qSa, qSb, qSc]
              refine hK _ ?_
              clear hK K
              refine wpTake_step (fun K hK => ?_)
              rw [if_pos (by rfl)]
              refine ⟨?_, fun w' hS' => ?_, ?_⟩
              rotate_left 1
              focus
                have s0 := hS'.cellv hgl (by simp) c0
                have s1 := hS'.cellv hgl (by simp) c1
                have s2 := hS'.cellv hgl (by simp) c2
                have s3 := hS'.cellv hgl (by simp) c3
                go_simp
                try with_reducible rfl
                done
              simp only [Act.put, qSa, qSb, qSc]
              refine hK _ ?_
              clear hK K
              refine wpTake_step (fun K hK => ?_)
              rw [if_pos (by rfl)]
              refine ⟨?_, fun w' hS' => ?_, ?_⟩
              rotate_left 1
              focus
                have s0 := hS'.cellv hgl (by simp) c0
                have s1 := hS'.cellv hgl (by simp) c1
                have s2 := hS'.cellv hgl (by simp) c2
                have s3 := hS'.cellv hgl (by simp) c3
                go_simp
                try with_reducible rfl
                done
              simp only [Act.put, qSa, qSb, qSc]
              refine hK _ ?_
              clear hK K
              refine wpTake_nil ?_
              generalize hx0 : w6.drew = x0
              have D0 : Chg [] w6 x0 := by rw [← hx0]; exact (Chg.refl [] w6).drew
              clear hx0
              refine wpAnyS_ready (rs := [13]) (by kernel_rfl) (by simp) ?_
              refine AllReadyS.o (fun K hK => ?_)
              rw [if_pos (by rfl)]
              go_simp
              obtain ⟨x1, hx1⟩ : ∃ y, y = x0.alloc (.cells #[.int .i64 0, .int .i64 0, .int .i64 0, .int .i64 0] 33) := ⟨_, rfl⟩
              obtain ⟨gx, hgx⟩ : ∃ y, y = x0.heap.size := ⟨_, rfl⟩
              have Bx1 : Blk x1 gx 33 #[.int .i64 0, .int .i64 0, .int .i64 0, .int .i64 0] := by rw [hx1, hgx]; exact Blk.new _ _ _
              have D1 : Chg [] w6 x1 := by rw [hx1]; exact D0.alloc _
              have hgx6 : w6.heap.size ≤ gx := by rw [hgx]; exact D0.size
              rw [← hx1, ← hgx]
              clear hx1 hgx
              refine hK _ _ (D1) ?_
              clear hK K
              try simp only [Act.put, qSa, qSb, qSc]
              refine wpAnyS_tail 14 1 (by kernel_rfl) rfl ?_
              simp only [qDa, qDb]
              have z0 := Bx1.frozen 0
              have z1 := Bx1.frozen 1
              have z2 := Bx1.frozen 2
              have z3 := Bx1.frozen 3
              have y0 : x1.cell? ⟨gx, 0, none⟩ = some (.int .i64 0) := Bx1.cellv 0 rfl
              have y1 : x1.cell? ⟨gx, 1, none⟩ = some (.int .i64 0) := Bx1.cellv 1 rfl
              have y2 : x1.cell? ⟨gx, 2, none⟩ = some (.int .i64 0) := Bx1.cellv 2 rfl
              have y3 : x1.cell? ⟨gx, 3, none⟩ = some (.int .i64 0) := Bx1.cellv 3 rfl
              have HB1 := Lib.hid (And.intro Bx1 (And.intro D1 hgx6)); clear Bx1 D1 hgx6 D0 c0 c1 c2 c3 hgl
              go_upto_region 34 with fail
              generalize hw7 : World.setCell (World.setCell (World.setCell (World.setCell x1 ⟨gx, 0, none⟩ _) ⟨gx, 1, none⟩ _) ⟨gx, 2, none⟩ _) ⟨gx, 3, none⟩ _ = w7
              have B7 : Blk w7 gx 33 #[.int .i64 (p0 : Nat), .int .i64 (p1 : Nat), .int .i64 (p2 : Nat), .int .i64 (p3 : Nat)] := by rw [← hw7]; exact (((HB1.out.1.setv 0 _ rfl).setv 1 _ rfl).setv 2 _ rfl).setv 3 _ rfl
              have C7 : Chg [] w6 w7 := by
                rw [← hw7]
                exact (((HB1.out.2.1.setCell (.inr HB1.out.2.2) _).setCell (.inr HB1.out.2.2) _).setCell (.inr HB1.out.2.2) _).setCell (.inr HB1.out.2.2) _
              clear hw7 z0 z1 z2 z3 y0 y1 y2 y3
              have q0 : w7.cell? ⟨gx, 0, none⟩ = some (.int .i64 (p0 : Nat)) := B7.cellv 0 rfl
              have q1 : w7.cell? ⟨gx, 1, none⟩ = some (.int .i64 (p1 : Nat)) := B7.cellv 1 rfl
              have q2 : w7.cell? ⟨gx, 2, none⟩ = some (.int .i64 (p2 : Nat)) := B7.cellv 2 rfl
              have q3 : w7.cell? ⟨gx, 3, none⟩ = some (.int .i64 (p3 : Nat)) := B7.cellv 3 rfl
              have K7 := H6.out.2.2.1.chg0 C7
              have qP : w7.cell? ⟨gP, 0, none⟩ = some (.int .i64 (G : Nat)) := K7.P.cellv 0 rfl
              have H7 := Lib.hid (And.intro K7 C7); clear K7 C7 B7
              go_wp2_with fail
              refine (rwrong_any w7 ⟨p0, p1, p2, p3⟩ G n S H6.out.2.2.2.2).mono ?_
              rintro e w8 ⟨rfl, c8⟩
              obtain ⟨wI, hwI⟩ : ∃ y, y = wrI G n S ⟨p0, p1, p2, p3⟩ := ⟨_, rfl⟩
              rw [← hwI]
              have hwv : wI = wrI G n S (insL (v ++ [x])) := by rw [hwI, H6.out.2.2.2.1]
              have K8 := H7.out.1.chg0 c8
              have C8 : Chg [gp] wc w8 := (HC.out.2.2.1.trans H6.out.2.1).trans ((H7.out.2.trans c8).mono (by simp))
              have B8 : Blk w8 gp 3 (ptC (v ++ [x])) := c8.blk (H7.out.2.blk H6.out.1 (by simp)) (by simp)
              have hx' : bs.getD (a2 + v.length) 0 = x := by rw [HC.out.2.2.2.2.2.1]; exact HX.out
              have h7' : ¬ bs.length ≤ a2 + v.length := by rw [HC.out.2.2.2.2.2.1]; omega
              have H8 := Lib.hid (And.intro K8 (And.intro C8 (And.intro B8 (And.intro hx' (And.intro h7' hwv))))); clear K8 C8 B8 hx' h7' hwv hwI c8 q0 q1 q2 q3 qP
              by_cases hw : 0 ≤ wI ∧ wI ≤ (j : Int)
              · obtain ⟨wn, rfl⟩ : ∃ wn : Nat, wI = wn := ⟨wI.toNat, by omega⟩
                have hk : decP bs = .error (a2 + wn) := HEB.out _ (by
                  rw [← HC.out.2.2.2.1, HM3.out, ins_bad H8.out.2.2.2.2.1 H8.out.2.2.2.1 (by rw [← H8.out.2.2.2.2.2, HC.out.2.2.2.2.2.1]; exact hw), ← H8.out.2.2.2.2.2]
                  rfl)
                have f1 : decide ((wn : Int) ≥ 0) = true := decide_eq_true (by omega)
                have f2 : decide ((wn : Int) ≤ (j : Int)) = true := decide_eq_true (by omega)
                have f3 : wn ≤ j := by omega
                have HX := Lib.hid hk; clear hk hw
                go_wp2_with fail
                refine (rbad_ok _ (a2 + wn : Nat)).mono ?_
                rintro e wx ⟨rfl, cx⟩
                have Bx := (H8.out.1.chg0 cx).B2
                have z0 := Bx.frozen 0
                have z1 := Bx.frozen 1
                have y0 : wx.cell? ⟨g2, 0, none⟩ = some (.int .i64 0) := Bx.cellv 0 rfl
                have y1 : wx.cell? ⟨g2, 1, none⟩ = some (.slice none 0 0) := Bx.cellv 1 rfl
                have HY := Lib.hid (And.intro Bx (H8.out.1.chg0 cx).c); clear Bx cx
                go_wp2_with fail
                try rw [Exit.noGoto_ret]
                exact rd_bad HN.out.1 HY.out.1 HY.out.2 HX.out rfl rfl (by go_num)
              have hgo4 : insGo G n S bs a2 m3 (v ++ [x]) = insGo G n S bs a2 4 [] := by
                rw [← HC.out.2.2.2.1, HM3.out]
                exact (ins_next H8.out.2.2.2.2.1 H8.out.2.2.2.1 (by rw [← H8.out.2.2.2.2.2, HC.out.2.2.2.2.2.1]; exact hw)).symm
              have H9 := Lib.hid (And.intro hgo4 hx6); clear hgo4
              by_cases hw0 : 0 ≤ wI
              · have f1 : decide (wI ≥ 0) = true := decide_eq_true (by omega)
                have f2 : decide (wI ≤ (j : Int)) = false := decide_eq_false (by omega)
                have f3 : ¬ wI ≤ (j : Int) := by omega
                clear hw
                go_wp2_with fail
                go_roundg (4 - j)
                case measure => omega
                case rel =>
                  exact ⟨j + 1, v ++ [x], by omega, by omega, by go_num, by rw [List.length_append, HC.out.2.2.2.2.2.1]; rfl, by omega, fun y hy => by
                  rw [List.mem_append, List.mem_singleton] at hy
                  rcases hy with hy | rfl
                  · exact HC.out.2.2.2.2.1 y hy
                  · exact H9.out.2, by have e : 4 - (j + 1) = m3 := by { have := HM3.out; omega }
                                       rw [e]; exact H9.out.1, H8.out.2.2.1, H8.out.2.1, H8.out.1⟩
              · have f1 : decide (wI ≥ 0) = false := decide_eq_false (by omega)
                clear hw
                go_wp2_with fail
                go_roundg (4 - j)
                case measure => omega
                case rel =>
                  exact ⟨j + 1, v ++ [x], by omega, by omega, by go_num, by rw [List.length_append, HC.out.2.2.2.2.2.1]; rfl, by omega, fun y hy => by
                  rw [List.mem_append, List.mem_singleton] at hy
                  rcases hy with hy | rfl
                  · exact HC.out.2.2.2.2.1 y hy
                  · exact H9.out.2, by have e : 4 - (j + 1) = m3 := by { have := HM3.out; omega }
                                       rw [e]; exact H9.out.1, H8.out.2.2.1, H8.out.2.1, H8.out.1⟩
            · have hj4' : j = 4 := by omega
              subst hj4'
              have k3 : decide (((4 : Nat) : Int) < 4) = false := decide_eq_false (by omega)
              have hok : insGo G n S bs a2 4 [] = .ok (insL v) := HC.out.2.2.2.1.symm
              have HOK := Lib.hid hok; clear hok
              have B6 := HC.out.2.1
              have hgl := B6.lt
              obtain ⟨p0, hp0⟩ : ∃ p, p = v.getD 0 0 := ⟨_, rfl⟩
              obtain ⟨p1, hp1⟩ : ∃ p, p = v.getD 1 0 := ⟨_, rfl⟩
              obtain ⟨p2, hp2⟩ : ∃ p, p = v.getD 2 0 := ⟨_, rfl⟩
              obtain ⟨p3, hp3⟩ : ∃ p, p = v.getD 3 0 := ⟨_, rfl⟩
              have c0 : wr.cell? ⟨gp, 0, none⟩ = some (.int .i64 (p0 : Nat)) := by rw [hp0]; exact B6.cellv 0 rfl
              have c1 : wr.cell? ⟨gp, 1, none⟩ = some (.int .i64 (p1 : Nat)) := by rw [hp1]; exact B6.cellv 1 rfl
              have c2 : wr.cell? ⟨gp, 2, none⟩ = some (.int .i64 (p2 : Nat)) := by rw [hp2]; exact B6.cellv 2 rfl
              have c3 : wr.cell? ⟨gp, 3, none⟩ = some (.int .i64 (p3 : Nat)) := by rw [hp3]; exact B6.cellv 3 rfl
              have hpi : insL v = ⟨p0, p1, p2, p3⟩ := by rw [hp0, hp1, hp2, hp3]; rfl
              have ng := HC0.out.2.2.2.1
              have Ow : OwnG insC 4 33 wr (.slice Al l.length cl) l := HC0.out.2.2.1.chg HC.out.2.2.1 (fun k hk hm => ng (by have e : k = gp := (by simpa using hm); rw [← e]; exact hk))
              have H6 := Lib.hid (And.intro Ow hpi); clear Ow hpi hp0 hp1 hp2 hp3 B6
              go_upto_region 37 with fail
              refine wp_region_takes (fuel := 3) 16 (fun w' => Chg (fpv (.slice Al l.length cl)) wr w') [0, 1, 2, 3, 4, 5, 6, 7, 8, 9, 10, 11, 12, 13] (by kernel_rfl) (by kernel_rfl) (fun _ _ _ _ _ h => h) (((Chg.refl [] wr).drew.mono (by simp))) ?_
              simp only [List.filterMap_cons, List.filterMap_nil, qGa, qGb]
              refine wpTake_step (fun K hK => ?_)
              rw [if_pos (by rfl)]
              refine ⟨?_, fun w' hS' => ?_, ?_⟩
              rotate_left 1
              focus
                have s0 := hS'.cellv hgl ng c0
                have s1 := hS'.cellv hgl ng c1
                have s2 := hS'.cellv hgl ng c2
                have s3 := hS'.cellv hgl ng c3
                go_simp
                try with_reducible rfl
                done
              simp only [Act.put, qSa, qSb, qSc]
              refine hK _ ?_
              clear hK K
              refine wpTake_step (fun K hK => ?_)
              rw [if_pos (by rfl)]
              refine ⟨?_, fun w' hS' => ?_, ?_⟩
              rotate_left 1
              focus
                have s0 := hS'.cellv hgl ng c0
                have s1 := hS'.cellv hgl ng c1
                have s2 := hS'.cellv hgl ng c2
                have s3 := hS'.cellv hgl ng c3
                go_simp
                try with_reducible rfl
                done
              simp only [Act.put, qSa, qSb, qSc]
              refine hK _ ?_
              clear hK K
              refine wpTake_step (fun K hK => ?_)
              rw [if_pos (by rfl)]
              refine ⟨?_, fun w' hS' => ?_, ?_⟩
              rotate_left 1
              focus
                have s0 := hS'.cellv hgl ng c0
                have s1 := hS'.cellv hgl ng c1
                have s2 := hS'.cellv hgl ng c2
                have s3 := hS'.cellv hgl ng c3
                go_simp
                try with_reducible rfl
                done
              simp only [Act.put, qSa, qSb, qSc]
              refine hK _ ?_
              clear hK K
              refine wpTake_step (fun K hK => ?_)
              rw [if_pos (by rfl)]
              refine ⟨?_, fun w' hS' => ?_, ?_⟩
              rotate_left 1
              focus
                have s0 := hS'.cellv hgl ng c0
                have s1 := hS'.cellv hgl ng c1
                have s2 := hS'.cellv hgl ng c2
                have s3 := hS'.cellv hgl ng c3
                go_simp
                try with_reducible rfl
                done
              simp only [Act.put, qSa, qSb, qSc]
              refine hK _ ?_
              clear hK K
              refine wpTake_step (fun K hK => ?_)
              rw [if_pos (by rfl)]
              refine ⟨?_, fun w' hS' => ?_, ?_⟩
              rotate_left 1
              focus
                have s0 := hS'.cellv hgl ng c0
                have s1 := hS'.cellv hgl ng c1
                have s2 := hS'.cellv hgl ng c2
                have s3 := hS'.cellv hgl ng c3
                go_simp
                try with_reducible rfl
                done
              simp only [Act.put, qSa, qSb, qSc]
              refine hK _ ?_
              clear hK K
              refine wpTake_step (fun K hK => ?_)
              rw [if_pos (by rfl)]
              refine ⟨?_, fun w' hS' => ?_, ?_⟩
              rotate_left 1
              focus
                have s0 := hS'.cellv hgl ng c0
                have s1 := hS'.cellv hgl ng c1
                have s2 := hS'.cellv hgl ng c2
                have s3 := hS'.cellv hgl ng c3
                go_simp
                try with_reducible rfl
                done
              simp only [Act.put, qSa, qSb, qSc]
              refine hK _ ?_
              clear hK K
              refine wpTake_step (fun K hK => ?_)
              rw [if_pos (by rfl)]
              refine ⟨?_, fun w' hS' => ?_, ?_⟩
              rotate_left 1
              focus
                have s0 := hS'.cellv hgl ng c0
                have s1 := hS'.cellv hgl ng c1
                have s2 := hS'.cellv hgl ng c2
                have s3 := hS'.cellv hgl ng c3
                go_simp
                try with_reducible rfl
                done
              simp only [Act.put, qSa, qSb, qSc]
              refine hK _ ?_
              clear hK K
              refine wpTake_step (fun K hK => ?_)
              rw [if_pos (by rfl)]
              refine ⟨?_, fun w' hS' => ?_, ?_⟩
              rotate_left 1
              focus
                have s0 := hS'.cellv hgl ng c0
                have s1 := hS'.cellv hgl ng c1
                have s2 := hS'.cellv hgl ng c2
                have s3 := hS'.cellv hgl ng c3
                go_simp
                try with_reducible rfl
                done
              simp only [Act.put, qSa, qSb, qSc]
              refine hK _ ?_
              clear hK K
              refine wpTake_step (fun K hK => ?_)
              rw [if_pos (by rfl)]
              refine ⟨?_, fun w' hS' => ?_, ?_⟩
              rotate_left 1
              focus
                have s0 := hS'.cellv hgl ng c0
                have s1 := hS'.cellv hgl ng c1
                have s2 := hS'.cellv hgl ng c2
                have s3 := hS'.cellv hgl ng c3
                go_simp
                try with_reducible rfl
                done
              simp only [Act.put, qSa, qSb, qSc]
              refine hK _ ?_
              clear hK K
              refine wpTake_step (fun K hK => ?_)
              rw [if_pos (by rfl)]
              refine ⟨?_, fun w' hS' => ?_, ?_⟩
              rotate_left 1
              focus
                have s0 := hS'.cellv hgl ng c0
                have s1 := hS'.cellv hgl ng c1
                have s2 := hS'.cellv hgl ng c2
                have s3 := hS'.cellv hgl ng c3
                go_simp
                try with_reducible rfl
                done
              simp only [Act.put, qSa, qSb, qSc]
              refine hK _ ?_
              clear hK K
              refine wpTake_step (fun K hK => ?_)
              rw [if_pos (by rfl)]
              refine ⟨?_, fun w' hS' => ?_, ?_⟩
              rotate_left 1
              focus
                have s0 := hS'.cellv hgl ng c0
                have s1 := hS'.cellv hgl ng c1
                have s2 := hS'.cellv hgl ng c2
                have s3 := hS'.cellv hgl ng c3
                go_simp
                try with_reducible rfl
                done
              simp only [Act.put, qSa, qSb, qSc]
              refine hK _ ?_
              clear hK K
              refine wpTake_step (fun K hK => ?_)
              rw [if_pos (by rfl)]
              refine ⟨?_, fun w' hS' => ?_, ?_⟩
              rotate_left 1
              focus
                have s0 := hS'.cellv hgl ng c0
                have s1 := hS'.cellv hgl ng c1
                have s2 := hS'.cellv hgl ng c2
                have s3 := hS'.cellv hgl ng c3
                go_simp
                try with_reducible rfl
                done
              simp only [Act.put, qSa, qSb, qSc]
              refine hK _ ?_
              clear hK K
              refine wpTake_step (fun K hK => ?_)
              rw [if_pos (by rfl)]
              refine ⟨?_, fun w' hS' => ?_, ?_⟩
              rotate_left 1
              focus
                have s0 := hS'.cellv hgl ng c0
                have s1 := hS'.cellv hgl ng c1
                have s2 := hS'.cellv hgl ng c2
                have s3 := hS'.cellv hgl ng c3
                go_simp
                try with_reducible rfl
                done
              simp only [Act.put, qSa, qSb, qSc]
              refine hK _ ?_
              clear hK K
              refine wpTake_step (fun K hK => ?_)
              rw [if_pos (by rfl)]
              refine ⟨?_, fun w' hS' => ?_, ?_⟩
              rotate_left 1
              focus
                have s0 := hS'.cellv hgl ng c0
                have s1 := hS'.cellv hgl ng c1
                have s2 := hS'.cellv hgl ng c2
                have s3 := hS'.cellv hgl ng c3
                go_simp
                try with_reducible rfl
                done
              simp only [Act.put, qSa, qSb, qSc]
              refine hK _ ?_
              clear hK K
              refine wpTake_nil ?_
              generalize hx0 : wr.drew = x0
              have D0 : Chg [] wr x0 := by rw [← hx0]; exact (Chg.refl [] wr).drew
              clear hx0
              refine wpAnyS_ready (rs := [14]) (by kernel_rfl) (by simp) ?_
              refine AllReadyS.o (fun K hK => ?_)
              rw [if_pos (by rfl)]
              go_simp
              obtain ⟨gs, hgs⟩ : ∃ y, y = x0.heap.size := ⟨_, rfl⟩
              rw [← hgs]
              have D2 : Chg (fpv (.slice Al l.length cl)) wr (x0.alloc (.cells #[.int .i64 (p0 : Nat), .int .i64 (p1 : Nat), .int .i64 (p2 : Nat), .int .i64 (p3 : Nat)] 33)) := (D0.mono (by simp)).alloc _
              have hll : l.length ≤ 100000000 := by have := HB.out.2.2.2.2.1; omega
              refine hK _ _ (D2) ?_
              clear hK K
              try simp only [Act.put, qSa, qSb, qSc]
              refine wpAnyS_ready (rs := [15]) (by kernel_rfl) (by simp) ?_
              refine AllReadyS.o (fun K hK => ?_)
              refine step_push_g insC_len insC_one tyI (⟨p0, p1, p2, p3⟩ : Ins) (by rfl) (by rfl) _ _ (by rfl) (by rfl) (v := .slice Al l.length cl) (H6.out.1.chg0 D0) (by rw [hgs]; rfl) hll ?_
              intro A3 c3 x3 O3 S3
              have D3 : Chg (fpv (.slice Al l.length cl)) wr x3 := (D0.mono (by simp)).trans S3.c
              refine hK _ _ (D3) ?_
              clear hK K
              try simp only [Act.put, qSa, qSb, qSc]
              refine wpAnyS_tail 16 1 (by kernel_rfl) rfl ?_
              simp only [qDa, qDb]
              have K9 := HC.out.1.farG D3 H6.out.1 (fun k hk => Nat.le_trans HK.out.1.c.size (HB.out.2.2.1 k hk))
              have hfl9 : ∀ k ∈ fpv (.slice A3 (l.length + 1) c3), wk.heap.size ≤ k := fun k hk => by
                rcases S3.f k hk with h | h
                · exact HB.out.2.2.1 k h
                · have a1 := HC0.out.2.2.2.2
                  have a2 := HC.out.2.1.lt
                  have a3 := D0.size
                  have h : x0.heap.size ≤ k := h
                  omega
              have hsz : wk.heap.size ≤ x3.heap.size := by
                have a1 := HC0.out.2.2.2.2
                have a2 := HC.out.2.1.lt
                have a3 := D3.size
                omega
              have h9 : codGo G n S bs (S - (i + 1)) (a2 + 4) (l ++ [⟨p0, p1, p2, p3⟩]) = codGo G n S bs S (a + 1) [] := by
                rw [← HB.out.2.2.2.1, HM2.out, codGo, HOK.out, H6.out.2]
                have e : S - (i + 1) = m2 := by { have := HM2.out; omega }
                rw [e]
              have h10 : a2 + 4 ≤ bs.length := HC.out.2.2.2.2.2.2
              have HZ := Lib.hid (And.intro K9 (And.intro hfl9 (And.intro hsz (And.intro h9 (And.intro O3 h10))))); clear K9 hfl9 hsz h9 O3 S3 D3 D2 D0 h10 c0 c1 c2 hgl hgs
              have ba2 : a2 ≤ 100000 := by have := HB.out.2.2.2.2.2.1; omega
              go_wp2_with fail
              go_roundg (S - i)
              case measure => omega
              case rel => exact ⟨i + 1, a2 + 4, l ++ [⟨p0, p1, p2, p3⟩], by omega, by omega, by go_num, by go_num, HZ.out.2.2.2.2.2, by rw [List.length_append, HB.out.2.2.2.2.1]; rfl, HZ.out.2.2.2.1, HZ.out.2.2.2.2.1, HZ.out.2.1, HZ.out.2.2.1, HZ.out.1⟩
        · have hiS' : i = S := by omega
          subst hiS'
          have k2 : decide ((i : Int) < (i : Int)) = false := decide_eq_false (by omega)
          have k2' : ¬ (i : Int) < (i : Int) := by omega
          have hcod : codGo G n i bs i (a + 1) [] = .ok (l, a2) := by
            rw [← HB.out.2.2.2.1, Nat.sub_self]; rfl
          have zP := HB.out.1.P.frozen 1
          have ng2 : g2 ∉ fpv vfn := HB.out.1.o.ne_blkV HB.out.1.B2 (by decide)
          have ngP : gP ∉ fpv vfn := HB.out.1.o.ne_blkV HB.out.1.P (by decide)
          obtain ⟨Af, cf, hvf⟩ := HB.out.1.o.slice
          subst hvf
          have qP : wr.cell? ⟨gP, 1, none⟩ = some (.slice Af vls.length cf) := HB.out.1.P.cellv 1 rfl
          have HE := Lib.hid (And.intro hcod (And.intro ng2 ngP)); clear hcod ng2 ngP
          go_wp2_with (at_builtin; refine wpList_cat_v tyII rfl _ _ rfl (v := .slice Af vls.length cf) rfl (HB.out.1.o.alloc (.cells #[.slice Al l.length cl] 34)) rfl (RdV.one_ (Blk.new wr 34 #[.slice Al l.length cl]) rfl) (by have := HK.out.2.2.1; simp; omega) ?_; intro A' c' w9 O9 S9; have B9 := S9.c.blk (HB.out.1.P.alloc _) HE.out.2.2; have z9 := B9.frozen 1; have y9 : w9.cell? ⟨gP, 1, none⟩ = some (.slice Af vls.length cf) := B9.cellv 1 rfl)
          have el : vls.length + [Value.slice Al l.length cl].length = vls.length + 1 := rfl
          rw [el] at O9 S9
          have K10 := HB.out.1.push HN.out.2.1 HN.out.2.2 ((Chg.refl [] wr).alloc (.cells #[.slice Al l.length cl] 34)) O9 S9
          have hfun : funGo G n bs m a2 (fs ++ [l]) = funGo G n bs n 2 [] := by
            have e1 := HK.out.2.1
            rw [HG.out.2, funGo, HSr.out.1] at e1
            simp only [HE.out.1] at e1
            exact e1
          have em : n - (f + 1) = m := by { have := HG.out.2; omega }
          have HQ := Lib.hid (And.intro K10 (And.intro hfun em)); clear K10 hfun em O9 S9 el y9 z9 qP zP B9
          go_roundg (n - f)
          case measure => omega
          case rel => exact ⟨f + 1, a2, _, _, fs ++ [l], by omega, by omega, rfl, by go_num, HB.out.2.2.2.2.2.1, by rw [List.length_append, HK.out.2.2.1]; rfl, by rw [List.length_append, HK.out.2.2.2]; rfl, by rw [HQ.out.2.2]; exact HQ.out.2.1, HQ.out.1⟩
    · have hfn' : f = n := by omega
      subst hfn'
      have k1 : decide ((f : Int) < (f : Int)) = false := decide_eq_false (by omega)
      have k1' : ¬ (f : Int) < (f : Int) := by omega
      have hgo2 : decP bs = decK G bs (.ok (fs, a)) := by
        rw [HD.out, ← HK.out.2.1, Nat.sub_self]; rfl
      obtain ⟨Af, cf, hvf⟩ := HK.out.1.o.slice
      subst hvf
      by_cases h9 : a < bs.length
      · have hk : decP bs = .error a := by rw [hgo2]; exact if_pos h9
        have e9 : decide ((a : Int) < (bs.length : Int)) = true := decide_eq_true (by omega)
        have e9' : (a : Int) < (bs.length : Int) := by omega
        have HX := Lib.hid hk; clear hk hgo2
        go_wp2_with fail
        refine (rbad_ok _ a).mono ?_
        rintro e wx ⟨rfl, cx⟩
        have Bx := (HK.out.1.chg0 cx).B2
        have z0 := Bx.frozen 0
        have z1 := Bx.frozen 1
        have y0 : wx.cell? ⟨g2, 0, none⟩ = some (.int .i64 0) := Bx.cellv 0 rfl
        have y1 : wx.cell? ⟨g2, 1, none⟩ = some (.slice none 0 0) := Bx.cellv 1 rfl
        have HY := Lib.hid (And.intro Bx (HK.out.1.chg0 cx).c); clear Bx cx
        go_wp2_with fail
        try rw [Exit.noGoto_ret]
        exact rd_bad HN.out.1 HY.out.1 HY.out.2 HX.out rfl rfl rfl
      · have hk : decP bs = .ok (G, fs) := by rw [hgo2]; exact if_neg h9
        have e9 : decide ((a : Int) < (bs.length : Int)) = false := decide_eq_false (by omega)
        have e9' : ¬ (a : Int) < (bs.length : Int) := by omega
        have HX := Lib.hid hk; clear hk hgo2
        have p0 : wr.cell? ⟨gP, 0, none⟩ = some (.int .i64 (G : Nat)) := HK.out.1.P.cellv 0 rfl
        have p1 : wr.cell? ⟨gP, 1, none⟩ = some (.slice Af vls.length cf) := HK.out.1.P.cellv 1 rfl
        have z0 := HK.out.1.B2.frozen 0
        have z1 := HK.out.1.B2.frozen 1
        have y0 : wr.cell? ⟨g2, 0, none⟩ = some (.int .i64 0) := HK.out.1.B2.cellv 0 rfl
        have y1 : wr.cell? ⟨g2, 1, none⟩ = some (.slice none 0 0) := HK.out.1.B2.cellv 1 rfl
        go_wp2_with fail
        have B := (HK.out.1.B2.setv 0 (.int .i64 (G : Nat)) rfl).setv 1 (.slice Af vls.length cf) rfl
        exact ⟨rfl, _, results_ctt (fn := Tryz.f17) rfl rfl (ld_prog _ B) rfl rfl, .inl ⟨G, fs, _, _, _, HX.out, rfl, (HK.out.1.c.setCell (.inr HN.out.1) _).setCell (.inr HN.out.1) _⟩⟩
end Go.Proofs.YtcpljjacamibeaaGreatDoor
