/- The walks of package view: Path. -/
import Derived.Test.YtfkgooliglcjkaaVwPathLaw2
import Derived.Test.YtfkgooliglcjkaaOwnI2
import Derived.Deep.DeepCutAuto
namespace Go.Proofs.Ytfkgooliglcjkaa
open Go.RowKit Go.Maps

theorem contains_sl {w : World} {B : Nat} {v : Value} {xs : List Int} (h : SlI w B v xs) (x : Int) :
    Calls Try.prog 44 #[v, .int .i64 x] w fun e w' => e = .returned (.bool (xs.contains x)) ∧ w' = w := by
  obtain ⟨A, c, rfl⟩ := h.ex
  have hl := h.len
  unfold maxLen at hl
  cases xs with
  | nil => exact (Try.slices_Contains_int_empty A c x w).mono fun e w' ⟨he, hw⟩ => ⟨by simpa using he, hw⟩
  | cons y t =>
    obtain ⟨b, off, rfl, hb, _⟩ := h.at_ _ _ _ rfl 0 y rfl
    refine (Try.slices_Contains_int b off (y :: t).length c (y :: t) x w (Nat.le_refl _) (by omega) (fun j hj => ?_)).mono fun e w' ⟨he, hw⟩ => ⟨by rw [he, List.take_length], hw⟩
    obtain ⟨b', off', e, _, hc⟩ := h.at_ _ _ _ rfl j _ (List.getElem?_eq_getElem hj)
    injection e with e
    injection e with e1 e2
    subst e1 e2
    rw [hc]; simp [List.getD, List.getElem?_eq_getElem hj]

/-- What Path keeps: the level's slice, where things are, from where one came. -/
structure PtM (w0 : World) (V : Vw) (bV bA bF : Nat) (cV : Array Value) (w : World) (v7 : Value) (L : List Int) (F : Int → Option Int) (N : Nat) : Prop where
  A : IMap Try.prog 3 w bA V.objects.length (atF V)
  m : IMap Try.prog 3 w bF N F
  o : OwnI 3 w v7 L
  V : Blk w bV 26 cV
  dA : bA ≠ bF
  c : Chg [] w0 w
  f : ∀ k ∈ fpv v7, w0.heap.size ≤ k
  fF : w0.heap.size ≤ bF
section
variable {w0 w w' w1 : World} {V : Vw} {bV bA bF N M : Nat} {cV : Array Value} {v v' : Value} {L L' : List Int} {F F' : Int → Option Int}
theorem PtM.chg0 (I : PtM w0 V bV bA bF cV w v L F N) (c : Chg [] w w') : PtM w0 V bV bA bF cV w' v L F N :=
  ⟨I.A.chg c (by simp), I.m.chg c (by simp), I.o.chg0 c, c.blk I.V (by simp), I.dA, I.c.trans c, I.f, I.fF⟩
/-- One more in the list. -/
theorem PtM.push (I : PtM w0 V bV bA bF cV w v L F N) (O : OwnI 3 w' v' L') (S : Stp (fpv v) (fpv v') w w') : PtM w0 V bV bA bF cV w' v' L' F N :=
  ⟨I.A.chg S.c (I.A.ne_own I.o), I.m.chg S.c (I.m.ne_own I.o), O, S.c.blk I.V (I.o.ne_blk I.V (by decide)), I.dA, I.c.new S.c I.f, fresh_ge S I.c I.f, I.fF⟩
/-- One more in from. -/
theorem PtM.put (I : PtM w0 V bV bA bF cV w v L F N) (M1 : IMap Try.prog 3 w1 bF M F') (C : Chg [bF] w w1) : PtM w0 V bV bA bF cV w1 v L F' M :=
  ⟨I.A.chg C (by simpa using I.dA), M1, I.o.chg C (fun k hk hm => I.m.ne_own I.o (only1 hm ▸ hk)), C.blk I.V (by simpa using Ne.symm (I.m.ne_blk I.V)), I.dA, I.c.new C (by simpa using I.fF), I.f, I.fF⟩
end
/-- .. and another list beside. -/
structure PtM2 (w0 : World) (V : Vw) (bV bA bF : Nat) (cV : Array Value) (w : World) (v7 v8 : Value) (L T : List Int) (F : Int → Option Int) (N : Nat) : Prop where
  I : PtM w0 V bV bA bF cV w v7 L F N
  o : OwnI 3 w v8 T
  d : ∀ k ∈ fpv v7, k ∉ fpv v8
  f : ∀ k ∈ fpv v8, w0.heap.size ≤ k
section
variable {w0 w w' w1 : World} {V : Vw} {bV bA bF N M : Nat} {cV : Array Value} {v v' u u' : Value} {L L' T T' : List Int} {F F' : Int → Option Int}
theorem PtM2.chg0 (I : PtM2 w0 V bV bA bF cV w v u L T F N) (c : Chg [] w w') : PtM2 w0 V bV bA bF cV w' v u L T F N := ⟨I.I.chg0 c, I.o.chg0 c, I.d, I.f⟩
theorem PtM2.push2 (I : PtM2 w0 V bV bA bF cV w v u L T F N) (O : OwnI 3 w' u' T') (S : Stp (fpv u) (fpv u') w w') : PtM2 w0 V bV bA bF cV w' v u' L T' F N :=
  ⟨⟨I.I.A.chg S.c (I.I.A.ne_own I.o), I.I.m.chg S.c (I.I.m.ne_own I.o), I.I.o.chg S.c (fun k hk hm => I.d k hk hm), S.c.blk I.I.V (I.o.ne_blk I.I.V (by decide)), I.I.dA, I.I.c.new S.c I.f, I.I.f, I.I.fF⟩,
    O, fun k hk hm => fresh_not I.I.o S (fun j h1 h2 => I.d j h2 h1) k hm hk, fresh_ge S I.I.c I.f⟩
theorem PtM2.push1 (I : PtM2 w0 V bV bA bF cV w v u L T F N) (O : OwnI 3 w' v' L') (S : Stp (fpv v) (fpv v') w w') : PtM2 w0 V bV bA bF cV w' v' u L' T F N :=
  ⟨I.I.push O S, I.o.chg S.c (fun k hk hm => I.d k hm hk), fresh_not I.o S I.d, I.f⟩
theorem PtM2.put (I : PtM2 w0 V bV bA bF cV w v u L T F N) (M1 : IMap Try.prog 3 w1 bF M F') (C : Chg [bF] w w1) : PtM2 w0 V bV bA bF cV w1 v u L T F' M :=
  ⟨I.I.put M1 C, I.o.chg C (fun k hk hm => I.I.m.ne_own I.o (only1 hm ▸ hk)), I.d, I.f⟩
end

/-- What Path answers. -/
def IsPath (V : Vw) (addr : Int) (p : List Int) : Prop := (p = [] ∧ (V.at_ addr = none ∨ ¬ Rch V addr)) ∨ ((V.at_ addr).isSome = true ∧ LeastWay V p addr)
def PathPost (V : Vw) (addr : Int) (w : World) (e : Ending) (w' : World) : Prop := ∃ p, IsPath V addr p ∧ NewI p w e w'
def Pt1Rel (w0 : World) (V : Vw) (addr : Int) (bV bA bF : Nat) (cV : Array Value) (gk : Nat) (v7 : Value) (w : World) : Prop :=
  ∃ n F W S N, gk + n = V.names.length + 1 ∧ N ≤ S.length ∧ PthL V n F W S ∧ (∀ q : List Int, ∀ x, Way V q x → q.length ≤ n → x ≠ addr) ∧ PtM w0 V bV bA bF cV w v7 (W.map (·.2)) F N

theorem Way.mem {V : Vw} {p : List Int} {x : Int} (h : Way V p x) : ∀ a ∈ p, Rch V a := by
  induction h with
  | @root x h1 h2 => intro a ha; have e : a = x := by simpa using ha
                     rw [e]; exact .root h1 h2
  | @step p b x hp hx h0 ih =>
    intro a ha
    rcases List.mem_append.1 ha with g | g
    · exact ih a g
    · have e : a = x := by simpa using g
      rw [e]; exact (Way.step hp hx h0).rch
theorem fpv_slice (A : Option Addr) (n c n' c' : Nat) : fpv (.slice A n c) = fpv (.slice A n' c') := by cases A <;> rfl
def Pt5Rel (w0 : World) (p : List Int) (bF : Nat) (F : Int → Option Int) (N : Nat) (gk : Nat) (v22 v23 v24 : Value) (w : World) : Prop :=
  ∃ j c v, gk = j + 1 ∧ p[j]? = some c ∧ v23 = .int .i64 ((F c).getD 0) ∧ v24 = .bool (F c).isSome ∧ v22 = v ∧ OwnI 3 w v (p.drop j) ∧ IMap Try.prog 3 w bF N F ∧ Chg [] w0 w ∧ ∀ k ∈ fpv v, w0.heap.size ≤ k
def Pt3Rel (w0 : World) (V : Vw) (bV bA bF : Nat) (cV : Array Value) (v8 : Value) (W W' : List (List Int × Int)) (F : Int → Option Int) (N : Nat) (gk : Nat) (v13 idx : Value) (w : World) : Prop :=
  ∃ i F' Nl N', gk + i = W'.length + 1 ∧ i ≤ W'.length ∧ idx = .int .i64 (i : Nat) ∧ PthN V F W (D3 V W' i) F' Nl ∧ N' ≤ N + Nl.length ∧ PtM2 w0 V bV bA bF cV w v13 v8 (Nl.map (·.2)) (W'.map (·.2)) F' N'
def Pt4Rel (w0 : World) (V : Vw) (bV bA bF : Nat) (cV : Array Value) (v8 v71 : Value) (W W' : List (List Int × Int)) (F : Int → Option Int) (N i : Nat) (xs : List Int) (gk : Nat) (v13 idx : Value) (w : World) : Prop :=
  ∃ j F' Nl N', gk + j = xs.length + 1 ∧ j ≤ xs.length ∧ idx = .int .i64 (j : Nat) ∧ PthN V F W (D4 V W' i j) F' Nl ∧ N' ≤ N + Nl.length ∧ PtM2 w0 V bV bA bF cV w v13 v8 (Nl.map (·.2)) (W'.map (·.2)) F' N' ∧ OwnI 3 w v71 xs ∧ (∀ k ∈ fpv v13, k ∉ fpv v71)
def Pt2Rel (w0 : World) (V : Vw) (addr : Int) (bV bA bF : Nat) (cV : Array Value) (v7 : Value) (L : List Int) (F : Int → Option Int) (N : Nat) (gk : Nat) (v8 idx : Value) (w : World) : Prop :=
  ∃ i, gk + i = L.length + 1 ∧ i ≤ L.length ∧ idx = .int .i64 (i : Nat) ∧ PtM2 w0 V bV bA bF cV w v7 v8 L (thereL V (L.take i)) F N ∧ addr ∉ L.take i
set_option maxHeartbeats 6400000 in
set_option maxRecDepth 100000 in
theorem path_ok (w : World) (v : Value) (V : Vw) (addr : Int) (h : VwAt w w.heap.size v V) (hS : Small V) (ha : WfI addr) : Calls Try.prog 15 #[v, .int .i64 addr] w (PathPost V addr w) := by
  have hmm := @run_makeMap Try.prog
  have HV := Lib.hid h
  obtain ⟨g, A1, c1, A2, c2, rfl, h1, h2, h3, h4, h5⟩ := h.ex
  obtain ⟨A0, c0, rfl⟩ := h1.ex
  have H := Lib.hid h3; clear h h1 h2 h3 h4 h5
  have C1 := (Chg.refl [] w).alloc (.cells #[.int .i64 V.phase, .int .i64 V.cycle, .int .i64 V.clock, .slice A0 V.globals.length c0, .slice A1 V.gs.length c1, .slice A2 V.objects.length c2, .int .i64 V.grey, .int .i64 V.notes, .int .i64 V.roots] 26)
  have B1 := Blk.new w 26 #[.int .i64 V.phase, .int .i64 V.cycle, .int .i64 V.clock, .slice A0 V.globals.length c0, .slice A1 V.gs.length c1, .slice A2 V.objects.length c2, .int .i64 V.grey, .int .i64 V.notes, .int .i64 V.roots]
  have HB := Lib.hid (And.intro C1 B1); clear C1 B1
  have hnw := Lib.hid HV.out.names_wf
  have hrl : V.rootsL.length ≤ 1000000 := Nat.le_trans (WkL.start V).len hS.n
  go_enter Try.func15, Try.ntmps15
  go_wp2_with fail
  go_step3
  go_wp2_with fail
  refine (places_ok _ _ V ((HV.out.chg HB.out.1 (Nat.le_refl _) (by simp)).mono (by simp))).mono ?_
  rintro e w2 ⟨bA, rfl, MA, C2, hbA⟩
  have B2 := (C2.alloc (.map #[] 0)).blk HB.out.2 (by simp)
  have x2 := (HB.out.1.trans C2).alloc (.map #[] 0)
  have hne : bA ≠ w2.heap.size := by have := MA.lt; omega
  have hgw : w.heap.size ≤ w2.heap.size := (HB.out.1.trans C2).size
  have b0 := B2.cellv 0 rfl
  have b1 := B2.cellv 1 rfl
  have b2 := B2.cellv 2 rfl
  have b3 := B2.cellv 3 rfl
  have b4 := B2.cellv 4 rfl
  have b5 := B2.cellv 5 rfl
  have b6 := B2.cellv 6 rfl
  have b7 := B2.cellv 7 rfl
  have b8 := B2.cellv 8 rfl
  have HC := Lib.hid (And.intro x2 (And.intro B2 (And.intro (MA.alloc (.map #[] 0)) (And.intro (IMap.made w2 Try.prog 3) (And.intro hne hgw))))); clear x2 B2 MA C2 hne hgw hbA
  go_wp2_with fail
  refine (roots_ok _ _ V ((HV.out.chg HC.out.1 (Nat.le_refl _) (by simp)).mono HC.out.1.size) hS).mono ?_
  rintro e w3 ⟨v5, rfl, O5, C3, F5⟩
  obtain ⟨A5, c5, rfl⟩ := O5.slice
  have hroots : ∀ x ∈ V.rootsL, WfI x := fun x hx => hnw.out x (rootsL_named hx)
  have HD := Lib.hid (And.intro O5 (And.intro C3 hroots)); clear O5 C3 F5 hroots b0 b1 b2 b3 b4 b5 b6 b7 b8
  go_wp2_with fail
  refine (values_ok _ _ _ _).mono ?_
  rintro e w4 ⟨rfl, rfl⟩
  go_wp2_with fail
  refine (sorted_at (HD.out.1.sl HD.out.2.2 (by unfold maxLen; omega)) (Nat.le_refl _) (Chg.refl [] w3) (by omega)).mono ?_
  rintro e w5 ⟨v7, rfl, O7, C7, F7⟩
  have C47 := ((Chg.refl [] w3).alloc (.cells #[.slice A5 V.rootsL.length c5] 22)).trans C7
  have C37 := HD.out.2.1.trans C47
  have e0 : ((srt V.rootsL).map fun x => ([x], x)).map (·.2) = srt V.rootsL := by rw [List.map_map]; exact List.map_id _
  have I0 : PtM w V w.heap.size bA w2.heap.size #[.int .i64 V.phase, .int .i64 V.cycle, .int .i64 V.clock, .slice A0 V.globals.length c0, .slice A1 V.gs.length c1, .slice A2 V.objects.length c2, .int .i64 V.grey, .int .i64 V.notes, .int .i64 V.roots] w5 v7 (((srt V.rootsL).map fun x => ([x], x)).map (·.2)) (fun _ => none) 0 :=
    ⟨HC.out.2.2.1.chg C37 (by simp), HC.out.2.2.2.1.chg C37 (by simp), by rw [e0]; exact O7, C37.blk HC.out.2.1 (by simp), HC.out.2.2.2.2.1, HC.out.1.trans C37, fun k hk => Nat.le_trans (HC.out.1.trans (HD.out.2.1.trans ((Chg.refl [] w3).alloc (.cells #[.slice A5 V.rootsL.length c5] 22)))).size (F7 k hk), HC.out.2.2.2.2.2⟩
  obtain ⟨A7, c7, rfl⟩ := O7.slice
  have HI := Lib.hid I0; clear I0 O7 C7 F7 C47 C37 e0
  go_wp2_with fail
  generalize w2.heap.size = bF at HI HC ⊢
  go_step3
  go_wp2_with fail
  go_loopg [7] (V.names.length + 1) (fun gk v7 wr => Pt1Rel w V addr w.heap.size bA bF #[.int .i64 V.phase, .int .i64 V.cycle, .int .i64 V.clock, .slice A0 V.globals.length c0, .slice A1 V.gs.length c1, .slice A2 V.objects.length c2, .int .i64 V.grey, .int .i64 V.notes, .int .i64 V.roots] gk v7 wr)
  case atStart => exact ⟨0, _, _, V.rootsL, 0, by omega, by omega, PthL.start V, fun q x hq hl => by have := hq.pos; omega, by rw [← srt_len V.rootsL] at *; exact HI.out⟩
  case round =>
    obtain ⟨n, F, W, S, N, hgk, hN, hL, hA, hM⟩ := hrel
    have hW1 := hL.wlen
    have hSn := hL.named
    have hnS := hL.len
    have hn := hS.n
    have hwl : (W.map (·.2)).length = W.length := List.length_map ..
    obtain ⟨A7', c7', rfl⟩ := hM.o.slice
    rw [hwl]
    by_cases hWe : W = []
    · subst hWe
      have hU : ¬ Rch V addr := fun hr => by
        obtain ⟨p, hp⟩ := hr.way
        obtain ⟨q, hq, hl⟩ := hL.empty hp
        exact hA q addr hq hl rfl
      have HA := Lib.hid (And.intro hM hU); clear hM hU hL hA hwl hnS hgk
      cases hk : V.at_ addr with
      | none =>
        have h1 : (atF V addr).isSome = false := by unfold atF; rw [hk]; rfl
        have h2 : (atF V addr).getD 0 = 0 := by unfold atF; rw [hk]; rfl
        go_wp2_with (at_lookup; refine wpList_imap_lookOk rfl _ _ rfl HA.out.1.A ity rfl rfl ha ?_)
        try rw [Exit.noGoto_ret]
        go_ret
        exact ⟨[], .inl ⟨rfl, .inr HA.out.2⟩, _, rfl, OwnI.nil _ _, HA.out.1.c, by simp [fpv, Value.ownBlock]⟩
      | some k =>
        have h1 : (atF V addr).isSome = true := by unfold atF; rw [hk]; rfl
        have h2 : (atF V addr).getD 0 = (k : Int) := by unfold atF; rw [hk]; rfl
        go_wp2_with (at_lookup; refine wpList_imap_lookOk rfl _ _ rfl HA.out.1.A ity rfl rfl ha ?_)
        try rw [Exit.noGoto_ret]
        go_ret
        exact ⟨[], .inl ⟨rfl, .inr HA.out.2⟩, _, rfl, OwnI.nil _ _, HA.out.1.c, by simp [fpv, Value.ownBlock]⟩
    · have hWp : (0 : Int) < (W.length : Int) := by have := List.length_pos_iff.2 hWe; omega
      have hWp2 : 0 < W.length := by omega
      have hWp3 : decide (0 < W.length) = true := decide_eq_true hWp2
      have hS1 := hnS.2 hWe
      have HL := Lib.hid (And.intro hL hA); clear hL hA hnS
      have HM := Lib.hid hM; clear hM
      obtain ⟨wq, rfl⟩ : ∃ wq : World, wq = wr := ⟨_, rfl⟩
      go_wp2_with fail
      go_loopg [8, 37] (W.length + 1) (fun gk v8 idx wr => Pt2Rel w V addr w.heap.size bA bF #[.int .i64 V.phase, .int .i64 V.cycle, .int .i64 V.clock, .slice A0 V.globals.length c0, .slice A1 V.gs.length c1, .slice A2 V.objects.length c2, .int .i64 V.grey, .int .i64 V.notes, .int .i64 V.roots] (.slice A7' W.length c7') (W.map (·.2)) F N gk v8 idx wr)
      case atStart => exact ⟨0, by omega, by omega, rfl, ⟨by rw [← hwl]; exact HM.out, OwnI.nil _ _, by simp [fpv, Value.ownBlock], by simp [fpv, Value.ownBlock]⟩, by simp⟩
      case round =>
        obtain ⟨i, hgk2, hin, rfl, M2, hno⟩ := hrel
        by_cases e : i < W.length
        · obtain ⟨x, hx⟩ : ∃ x, (W.map (·.2))[i]? = some x := ⟨_, List.getElem?_eq_getElem (by rw [hwl]; exact e)⟩
          obtain ⟨g7, rfl, i0, -⟩ := M2.I.o.cell hx
          obtain ⟨A8', c8', rfl⟩ := M2.o.slice
          have hi' : (i : Int) < (W.length : Int) := by omega
          have hth := thereL_len V (W.map (·.2)) i
          have hbound : (thereL V ((W.map (·.2)).take i)).length + 1 ≤ 1000000000000 := by omega
          have hxw := HL.out.1.lv
          by_cases hxa : x = addr
          · have hq : (x == addr) = true := by rw [beq_iff_eq]; exact hxa
            obtain ⟨q, hqm, hq2⟩ : ∃ q ∈ W, q.2 = addr := by
              obtain ⟨q, hq1, hq2⟩ := List.mem_map.1 (List.mem_of_getElem? hx)
              exact ⟨q, hq1, hq2.trans hxa⟩
            obtain ⟨hlw, hlen⟩ := hxw q hqm
            have hch := HL.out.1.ch q hqm
            rw [hq2] at hlw
            have HX := Lib.hid (And.intro hlw (And.intro hch hlen)); clear hlw hch hlen hxw
            have H2 := Lib.hid M2; clear M2 hno hx
            cases hk : V.at_ addr with
            | none =>
              have h1 : (atF V addr).isSome = false := by unfold atF; rw [hk]; rfl
              have h2 : (atF V addr).getD 0 = 0 := by unfold atF; rw [hk]; rfl
              subst hxa
              go_wp2_with (at_lookup; refine wpList_imap_lookOk rfl _ _ rfl H2.out.I.A ity rfl rfl ha ?_)
              try rw [Exit.noGoto_ret]
              go_ret
              exact ⟨[], .inl ⟨rfl, .inl hk⟩, _, rfl, OwnI.nil _ _, H2.out.I.c, by simp [fpv, Value.ownBlock]⟩
            | some k =>
              have h1 : (atF V addr).isSome = true := by unfold atF; rw [hk]; rfl
              have h2 : (atF V addr).getD 0 = (k : Int) := by unfold atF; rw [hk]; rfl
              subst hxa
              go_wp2_with (first
                | (at_lookup; refine wpList_imap_lookOk rfl _ _ rfl H2.out.I.A ity rfl rfl ha ?_)
                | (at_builtin; refine wpList_push_int rfl _ _ rfl slty rfl H2.out.o rfl hbound ?_))
              intro A9 c9 w9 O9 S9
              have H9 := Lib.hid (H2.out.push2 O9 S9); clear O9 S9
              obtain ⟨p, rfl⟩ : ∃ p, p = q.1 := ⟨_, rfl⟩
              have hpl := HX.out.2.2
              have hlast : q.1[n]? = some x := by
                have := HX.out.1.1.last
                rw [List.getLast?_eq_getElem?, hpl] at this
                exact this
              have hdl : q.1.drop n = [x] := by
                rw [drop_cons_get hlast, List.drop_of_length_le (by omega)]
              have HXX := Lib.hid (And.intro hlast hdl); clear hlast hdl
              go_wp2_with (first
                | (at_lookup; refine wpList_imap_lookOk rfl _ _ rfl H9.out.I.A ity rfl rfl ha ?_)
                | (at_lookup; refine wpList_imap_lookOk rfl _ _ rfl (H9.out.I.m.alloc _) ity rfl rfl ha ?_))
              have O5 := OwnI.one 3 w9 x
              rw [← HXX.out.2] at O5
              have H5 := Lib.hid (And.intro O5 (And.intro (H9.out.I.m.alloc (.cells #[.int .i64 x] 3)) (H9.out.I.c.alloc (.cells #[.int .i64 x] 3)))); clear O5
              have hw9 := H9.out.I.c.size
              have hwx : ∀ i a, q.1[i]? = some a → WfI a := fun i a hi => hnw.out a (HX.out.1.1.mem a (List.mem_of_getElem? hi)).named
              have HWX := Lib.hid hwx; clear hwx
              go_loopg [22, 23, 24] (n + 1) (fun gk v22 v23 v24 wr => Pt5Rel w q.1 bF F N gk v22 v23 v24 wr)
              case atStart => exact ⟨n, x, _, by omega, HXX.out.1, rfl, rfl, rfl, H5.out.1, H5.out.2.1, H5.out.2.2, by simp [fpv, Value.ownBlock]; omega⟩
              case round =>
                obtain ⟨j, c, v5, hgk5, hc, rfl, rfl, rfl, O, M, C, hf⟩ := hrel
                obtain ⟨A5', c5', rfl⟩ := O.slice
                have hjl := (List.getElem?_eq_some_iff.1 hc).1
                cases j with
                | zero =>
                  have hF := HX.out.2.1.hd c hc
                  have f1 : (F c).isSome = false := by rw [hF]; rfl
                  have f2 : (F c).getD 0 = 0 := by rw [hF]; rfl
                  have HO := Lib.hid (And.intro O (And.intro C hf)); clear O M C hf hc
                  rw [f1, f2]
                  clear f1 f2 hF
                  go_wp2_with fail
                  try rw [Exit.noGoto_ret]
                  go_ret
                  exact ⟨q.1, .inr ⟨by rw [hk]; rfl, HX.out.1⟩, _, rfl, HO.out.1, HO.out.2.1, HO.out.2.2⟩
                | succ j =>
                  obtain ⟨a, hja⟩ : ∃ a, q.1[j]? = some a := ⟨_, List.getElem?_eq_getElem (by omega)⟩
                  have hF := HX.out.2.1.st j a c hja hc
                  have f1 : (F c).isSome = true := by rw [hF]; rfl
                  have f2 : (F c).getD 0 = a := by rw [hF]; rfl
                  have hwa := HWX.out j a hja
                  have hdd := drop_cons_get hja
                  obtain ⟨g6, rfl, -⟩ := O.cell (i := 0) (x := c) (by rw [List.getElem?_drop]; exact hc)
                  have hln : (q.1.drop (j + 1)).length ≤ 1000000 := by rw [List.length_drop]; omega
                  have HO := Lib.hid (And.intro O (And.intro M (And.intro C (And.intro hf (And.intro hja (And.intro hdd hwa)))))); clear O M C hf hc hja hdd hwa
                  rw [f1, f2]
                  clear f1 f2 hF
                  go_wp2_with (first
                    | (at_lookup; refine wpList_imap_lookOk rfl _ _ rfl (by assumption) ity rfl rfl HO.out.2.2.2.2.2.2 ?_)
                    | (at_builtin; refine wpList_cat_int rfl _ _ rfl slty rfl (OwnI.one 3 wr a) rfl (HO.out.1.alloc _) (by simp only [List.length_singleton]; omega) ?_))
                  intro A' c' w10 O10 S10
                  have M10 := (HO.out.2.1.alloc (.cells #[.int .i64 a] 3)).chg S10.c (by have := HO.out.2.1.lt; simp [fpv, Value.ownBlock]; omega)
                  have C10 := (HO.out.2.2.1.alloc (.cells #[.int .i64 a] 3)).new S10.c (by have := HO.out.2.2.1.size; simp [fpv, Value.ownBlock]; omega)
                  have F10 : ∀ m, ∀ k ∈ fpv (.slice A' m c'), w.heap.size ≤ k := fun m k hk => by
                    have h0 := HO.out.2.2.1.size
                    rw [fpv_slice A' m c' _ c'] at hk
                    rcases S10.f k hk with g | g
                    · have : k = wr.heap.size := by simpa [fpv, Value.ownBlock, eq_comm] using g
                      omega
                    · rw [World.size_alloc] at g; omega
                  have HQ := Lib.hid (And.intro O10 (And.intro M10 (And.intro C10 F10))); clear O10 S10 C10 F10 M10
                  go_wp2_with (at_lookup; refine wpList_imap_lookOk rfl _ _ rfl HQ.out.2.1 ity rfl rfl HO.out.2.2.2.2.2.2 ?_)
                  go_roundg (j + 1)
                  case measure => omega
                  case rel => exact ⟨j, a, _, by omega, HO.out.2.2.2.2.1, rfl, rfl, rfl, by rw [HO.out.2.2.2.2.2.1]; exact HQ.out.1, HQ.out.2.1, HQ.out.2.2.1, HQ.out.2.2.2 _⟩
          · have hq : (x == addr) = false := by rw [beq_eq_false_iff_ne]; exact hxa
            have hwx : WfI x := by
              obtain ⟨q, hq1, rfl⟩ := List.mem_map.1 (List.mem_of_getElem? hx)
              exact hnw.out _ (hxw q hq1).1.1.rch.named
            have hno' : addr ∉ (W.map (·.2)).take (i + 1) := by
              rw [take_succ_get hx, List.mem_append]
              rintro (g | g)
              · exact hno g
              · exact hxa (by simpa using g : addr = x).symm
            have H2 := Lib.hid (And.intro M2 (And.intro hno' hx)); clear M2 hno hno' hx hxw
            cases hk : V.at_ x with
            | none =>
              have h1 : (atF V x).isSome = false := by unfold atF; rw [hk]; rfl
              have h2 : (atF V x).getD 0 = 0 := by unfold atF; rw [hk]; rfl
              have HK := Lib.hid (thereL_no H2.out.2.2 hk); clear hk
              go_wp2_with (at_lookup; refine wpList_imap_lookOk rfl _ _ rfl H2.out.1.I.A ity rfl rfl hwx ?_)
              go_roundg (W.length - i)
              case measure => omega
              case rel => exact ⟨i + 1, by omega, by omega, by go_num, by rw [HK.out]; exact H2.out.1, H2.out.2.1⟩
            | some k =>
              have h1 : (atF V x).isSome = true := by unfold atF; rw [hk]; rfl
              have h2 : (atF V x).getD 0 = (k : Int) := by unfold atF; rw [hk]; rfl
              have HK := Lib.hid (thereL_yes H2.out.2.2 hk); clear hk
              go_wp2_with (first
                | (at_lookup; refine wpList_imap_lookOk rfl _ _ rfl H2.out.1.I.A ity rfl rfl hwx ?_)
                | (at_builtin; refine wpList_push_int rfl _ _ rfl slty rfl H2.out.1.o rfl hbound ?_))
              intro A9 c9 w9 O9 S9
              have H9 := Lib.hid (H2.out.1.push2 O9 S9); clear O9 S9
              go_wp2_with fail
              go_roundg (W.length - i)
              case measure => omega
              case rel => exact ⟨i + 1, by omega, by omega, by go_num, by rw [HK.out]; exact H9.out, H2.out.2.1⟩
        · obtain rfl : i = W.length := by omega
          have et : (W.map (·.2)).take W.length = W.map (·.2) := by rw [← hwl, List.take_length]
          rw [et] at M2 hno
          rw [thereL_map] at M2
          have hA2 := HL.out.1.notYet HL.out.2 hno
          obtain ⟨W', hW'⟩ : ∃ W', W' = objW V W := ⟨_, rfl⟩
          rw [← hW'] at M2
          obtain ⟨A8', c8', rfl⟩ := M2.o.slice
          have M3 : PtM2 w V w.heap.size bA bF #[.int .i64 V.phase, .int .i64 V.cycle, .int .i64 V.clock, .slice A0 V.globals.length c0, .slice A1 V.gs.length c1, .slice A2 V.objects.length c2, .int .i64 V.grey, .int .i64 V.notes, .int .i64 V.roots] wr (.slice none 0 0) (.slice A8' (W'.map (·.2)).length c8') (([] : List (List Int × Int)).map (·.2)) (W'.map (·.2)) F N :=
            ⟨⟨M2.I.A, M2.I.m, OwnI.nil _ _, M2.I.V, M2.I.dA, M2.I.c, by simp [fpv, Value.ownBlock], M2.I.fF⟩, M2.o, by simp [fpv, Value.ownBlock], M2.f⟩
          have hwl' : (W'.map (·.2)).length = W'.length := List.length_map ..
          have hW3 : W'.length ≤ W.length := by rw [hW']; exact List.length_filter_le _ _
          have HQ := Lib.hid (And.intro M3 (And.intro hA2 (And.intro hwl' hW'))); clear M2 M3 hA2 hno et e hin hgk2 hW'
          rw [hwl']
          clear hwl'
          obtain ⟨wq2, rfl⟩ : ∃ wq2 : World, wq2 = wr := ⟨_, rfl⟩
          go_wp2_with fail
          go_loopg [13, 58] (W'.length + 1) (fun gk v13 idx wr => Pt3Rel w V w.heap.size bA bF #[.int .i64 V.phase, .int .i64 V.cycle, .int .i64 V.clock, .slice A0 V.globals.length c0, .slice A1 V.gs.length c1, .slice A2 V.objects.length c2, .int .i64 V.grey, .int .i64 V.notes, .int .i64 V.roots] (.slice A8' W'.length c8') W W' F N gk v13 idx wr)
          case atStart => exact ⟨0, F, [], N, by omega, by omega, rfl, (PthN.start V F W).congr (D3_zero V W'), by omega, by rw [← HQ.out.2.2.1]; exact HQ.out.1⟩
          case round =>
            obtain ⟨i, F', Nl, N', hgk2, hin, rfl, hPN, hNN, M⟩ := hrel
            have hNl := hPN.len
            obtain ⟨A13, c13, hv13⟩ := M.I.o.slice
            rw [List.length_map] at hv13
            subst hv13
            by_cases e : i < W'.length
            · obtain ⟨c, hc⟩ : ∃ c, W'[i]? = some c := ⟨_, List.getElem?_eq_getElem e⟩
              have hcc : c ∈ W ∧ (V.at_ c.2).isSome = true := objW_mem (by rw [← HQ.out.2.2.2]; exact hc)
              have hwc : WfI c.2 := hnw.out _ (HL.out.1.lv c hcc.1).1.1.rch.named
              obtain ⟨k, hk⟩ := Option.isSome_iff_exists.1 hcc.2
              obtain ⟨o, ho, _⟩ := at_lt hk
              have hsl := slotsAt_of hk ho
              have hkl : (k : Int) < (V.objects.length : Int) := by have := (List.getElem?_eq_some_iff.1 ho).1; omega
              have hk0 : (0 : Int) ≤ (k : Int) := by omega
              have hat : atF V c.2 = some (k : Int) := by unfold atF; rw [hk]; rfl
              obtain ⟨bo, off, s, rfl, hbo, -, j1, -, hss, -⟩ := H.out.at_ k o ho
              obtain ⟨As, cs, rfl⟩ := hss.ex
              have hsm : o.slots.length ≤ 1000000 := slots_le hS ho
              have j1' := M.I.c.cellv hbo (by simp) j1
              have b5 := M.I.V.cellv 5 rfl
              obtain ⟨a, ha'⟩ : ∃ a, a = c.2 := ⟨_, rfl⟩
              obtain ⟨g8, rfl, i0, -⟩ := M.o.cell (i := i) (x := a) (by rw [List.getElem?_map, hc, ha']; rfl)
              have hi' : (i : Int) < (W'.length : Int) := by omega
              have HX := Lib.hid (And.intro hPN (And.intro M (And.intro hc (And.intro hcc (And.intro hwc (And.intro hat (And.intro hss (And.intro hsl ha')))))))); clear hPN M hc hcc hwc hat hss hsl ha' hk ho hbo j1
              go_wp2_with (at_lookup; refine wpList_imap_val rfl _ _ rfl HX.out.2.1.I.A ity rfl rfl (by rw [HX.out.2.2.2.2.2.2.2.2]; exact HX.out.2.2.2.2.1) (by rw [HX.out.2.2.2.2.2.2.2.2]; exact HX.out.2.2.2.2.2.1) ?_)
              refine (values_ok _ _ _ _).mono ?_
              rintro e w6 ⟨rfl, rfl⟩
              go_wp2_with fail
              refine (sorted_at HX.out.2.2.2.2.2.2.1 (Nat.le_refl _) HX.out.2.1.I.c (by omega)).mono ?_
              rintro e w7 ⟨v71, rfl, O71, C71, F71⟩
              obtain ⟨A71, c71, rfl⟩ := O71.slice
              have M7 := HX.out.2.1.chg0 (((Chg.refl [] wr).alloc (.cells #[.slice As o.slots.length cs] 22)).trans C71)
              have hd71 : ∀ k ∈ fpv (.slice A13 Nl.length c13), k ∉ fpv (.slice A71 (srt o.slots).length c71) := fun k hk hm => by
                have g1 := HX.out.2.1.I.o.lt hk
                have g2 := F71 k hm
                rw [World.size_alloc] at g2; omega
              have hsl71 : (srt o.slots).length ≤ 1000000 := by rw [srt_len]; exact hsm
              have HY := Lib.hid (And.intro M7 (And.intro O71 hd71)); clear M7 O71 C71 F71 hd71 j1' b5 i0
              go_wp2_with fail
              obtain ⟨wq3, rfl⟩ : ∃ wq3 : World, wq3 = wr := ⟨_, rfl⟩
              go_loopg [13, 73] ((srt o.slots).length + 1) (fun gk v13 idx wr => Pt4Rel w V w.heap.size bA bF #[.int .i64 V.phase, .int .i64 V.cycle, .int .i64 V.clock, .slice A0 V.globals.length c0, .slice A1 V.gs.length c1, .slice (some ⟨bo, off, none⟩) V.objects.length c2, .int .i64 V.grey, .int .i64 V.notes, .int .i64 V.roots] (.slice (some ⟨g8, 0, none⟩) W'.length c8') (.slice A71 (srt o.slots).length c71) W W' F N i (srt o.slots) gk v13 idx wr)
              case atStart => exact ⟨0, F', Nl, N', by omega, by omega, rfl, HX.out.1.congr (D4_zero V W' i), hNN, HY.out.1, HY.out.2.1, HY.out.2.2⟩
              case round =>
                obtain ⟨j, F2, N2, M2, hgk3, hjn, rfl, hPN2, hNN2, MM, O71, hd71⟩ := hrel
                have hN2 := hPN2.len
                obtain ⟨A14, c14, hv14⟩ := MM.I.o.slice
                rw [List.length_map] at hv14
                subst hv14
                by_cases ej : j < (srt o.slots).length
                · obtain ⟨y, hy⟩ : ∃ y, (srt o.slots)[j]? = some y := ⟨_, List.getElem?_eq_getElem ej⟩
                  obtain ⟨g9, rfl, y0, -⟩ := O71.cell hy
                  have hy' : (srt (V.slotsAt c.2))[j]? = some y := by rw [HX.out.2.2.2.2.2.2.2.1]; exact hy
                  have hDb := D4_before (by rw [HQ.out.2.2.2]; exact objW_so HL.out.1.so : W'.Pairwise fun a b => lexLt a.1 b.1) HX.out.2.2.1 hy'
                  have hmem : y ∈ V.slotsAt c.2 := srt_mem.1 (List.mem_of_getElem? hy')
                  have hwy := HX.out.2.2.2.2.2.2.1.wf y (by rw [← HX.out.2.2.2.2.2.2.2.1]; exact hmem)
                  have hold := fun ho => (hPN2.old HX.out.2.2.2.1.1 hmem hDb ho).congr (D4_succ V HX.out.2.2.1 hy')
                  have hnew := fun h0 h1 h2 => (hPN2.new (n := n) (fun q hq => (HL.out.1.lv q hq).2) HX.out.2.2.2.1.1 hmem hDb h0 h1 h2).congr (D4_succ V HX.out.2.2.1 hy')
                  have hj' : (j : Int) < ((srt o.slots).length : Int) := by omega
                  have HZ := Lib.hid (And.intro hold (And.intro hnew (And.intro MM (And.intro O71 (And.intro hd71 hwy))))); clear hold hnew MM O71 hd71 hwy hmem hDb hy' hy hPN2
                  cases hF : F2 y with
                  | some u =>
                    have HO := Lib.hid (HZ.out.1 (.inr (.inr (by rw [hF]; rfl)))); 
                    have HF := Lib.hid hF; clear hF
                    by_cases h0 : y = 0
                    · have hb0 : (y != 0) = false := by simpa using h0
                      clear h0
                      go_wp2_with (at_lookup; refine wpList_imap_yes rfl _ _ rfl HZ.out.2.2.1.I.m ity rfl rfl HZ.out.2.2.2.2.2 HF.out ?_)
                      go_roundg ((srt o.slots).length - j)
                      case measure => omega
                      case rel => exact ⟨j + 1, F2, N2, M2, by omega, by omega, by go_num, HO.out, hNN2, HZ.out.2.2.1, HZ.out.2.2.2.1, HZ.out.2.2.2.2.1⟩
                    · have hb0 : (y != 0) = true := by simpa using h0
                      clear h0
                      go_wp2_with (at_lookup; refine wpList_imap_yes rfl _ _ rfl HZ.out.2.2.1.I.m ity rfl rfl HZ.out.2.2.2.2.2 HF.out ?_)
                      go_roundg ((srt o.slots).length - j)
                      case measure => omega
                      case rel => exact ⟨j + 1, F2, N2, M2, by omega, by omega, by go_num, HO.out, hNN2, HZ.out.2.2.1, HZ.out.2.2.2.1, HZ.out.2.2.2.2.1⟩
                  | none =>
                    have HF := Lib.hid hF; clear hF
                    by_cases h0 : y = 0
                    · have HO := Lib.hid (HZ.out.1 (.inl h0))
                      have hb0 : (y != 0) = false := by simpa using h0
                      clear h0
                      go_wp2_with (at_lookup; refine wpList_imap_no rfl _ _ rfl HZ.out.2.2.1.I.m ity rfl rfl HZ.out.2.2.2.2.2 HF.out ?_)
                      go_roundg ((srt o.slots).length - j)
                      case measure => omega
                      case rel => exact ⟨j + 1, F2, N2, M2, by omega, by omega, by go_num, HO.out, hNN2, HZ.out.2.2.1, HZ.out.2.2.2.1, HZ.out.2.2.2.2.1⟩
                    · have hb0 : (y != 0) = true := by simpa using h0
                      have b0 := HZ.out.2.2.1.I.V.cellv 0 rfl
                      have b1 := HZ.out.2.2.1.I.V.cellv 1 rfl
                      have b2 := HZ.out.2.2.1.I.V.cellv 2 rfl
                      have b3 := HZ.out.2.2.1.I.V.cellv 3 rfl
                      have b4 := HZ.out.2.2.1.I.V.cellv 4 rfl
                      have b5 := HZ.out.2.2.1.I.V.cellv 5 rfl
                      have b6 := HZ.out.2.2.1.I.V.cellv 6 rfl
                      have b7 := HZ.out.2.2.1.I.V.cellv 7 rfl
                      have b8 := HZ.out.2.2.1.I.V.cellv 8 rfl
                      have H0 := Lib.hid h0; clear h0
                      go_wp2_with (at_lookup; refine wpList_imap_no rfl _ _ rfl HZ.out.2.2.1.I.m ity rfl rfl HZ.out.2.2.2.2.2 HF.out ?_)
                      refine (roots_ok _ _ V ((HV.out.chg HZ.out.2.2.1.I.c (Nat.le_refl _) (by simp)).mono HZ.out.2.2.1.I.c.size) hS).mono ?_
                      rintro e w8 ⟨v20, rfl, O20, C20, F20⟩
                      obtain ⟨A20, c20, rfl⟩ := O20.slice
                      have hsl20 := O20.sl (fun x hx => hnw.out x (rootsL_named hx)) (by unfold maxLen; omega)
                      have M8 := HZ.out.2.2.1.chg0 C20
                      have O8 := HZ.out.2.2.2.1.chg0 C20
                      have H8 := Lib.hid (And.intro hsl20 (And.intro M8 O8)); clear hsl20 M8 O8 O20 C20 F20 b0 b1 b2 b3 b4 b5 b6 b7 b8 y0
                      go_wp2_with fail
                      refine (contains_sl H8.out.1 y).mono ?_
                      rintro e w9 ⟨rfl, rfl⟩
                      by_cases hr : y ∈ V.rootsL
                      · have HO := Lib.hid (HZ.out.1 (.inr (.inl hr)))
                        have hbr : V.rootsL.contains y = true := by simpa using hr
                        rw [hbr]
                        clear hr hbr
                        go_wp2_with fail
                        go_roundg ((srt o.slots).length - j)
                        case measure => omega
                        case rel => exact ⟨j + 1, F2, N2, M2, by omega, by omega, by go_num, HO.out, hNN2, H8.out.2.1, H8.out.2.2, HZ.out.2.2.2.2.1⟩
                      · have HO := Lib.hid (HZ.out.2.1 H0.out hr (by rw [HF.out]; rfl))
                        have hbr : V.rootsL.contains y = false := by simpa using hr
                        rw [hbr]
                        clear hr hbr
                        have hSl := HL.out.1.named
                        go_wp2_with (at_mapUpdate; refine wpList_imap_put rfl _ _ _ rfl H8.out.2.1.I.m ity rfl rfl HZ.out.2.2.2.2.2 rfl (by rw [HX.out.2.2.2.2.2.2.2.2]; exact HX.out.2.2.2.2.1) (by unfold maxLen; omega) ?_)
                        intro w10 M10 C10
                        have MM10 := H8.out.2.1.put M10 C10
                        have O10 := H8.out.2.2.chg C10 (fun k hk hm => H8.out.2.1.I.m.ne_own H8.out.2.2 (only1 hm ▸ hk))
                        have H10 := Lib.hid (And.intro MM10 O10); clear MM10 O10 M10 C10
                        have hN2' : (N2.map (·.2)).length = N2.length := List.length_map ..
                        have HN2 := Lib.hid hN2'; clear hN2'
                        go_wp2_with (at_builtin; refine wpList_push_int rfl _ _ rfl slty rfl H10.out.1.I.o rfl (by rw [HN2.out]; omega) ?_)
                        intro A15 c15 w11 O11 S11
                        have hd15 := fresh_not H10.out.2 S11 HZ.out.2.2.2.2.1
                        have M11 := H10.out.1.push1 O11 S11
                        have O12 := H10.out.2.chg S11.c (fun k hk hm => HZ.out.2.2.2.2.1 k hm hk)
                        have e15 : ((N2 ++ [(c.1 ++ [y], y)]).map (·.2)) = N2.map (·.2) ++ [y] := by simp
                        rw [← e15] at M11
                        rw [HX.out.2.2.2.2.2.2.2.2] at M11
                        have H11 := Lib.hid (And.intro M11 (And.intro O12 hd15)); clear M11 O12 hd15 O11 S11 e15
                        go_wp2_with fail
                        go_roundg ((srt o.slots).length - j)
                        case measure => omega
                        case rel => exact ⟨j + 1, putF F2 y c.2, _, M2 + 1, by omega, by omega, by go_num, HO.out, by rw [List.length_append, List.length_singleton]; omega, H11.out.1, H11.out.2.1, H11.out.2.2⟩
                · obtain rfl : j = (srt o.slots).length := by omega
                  have hPN3 := hPN2.congr (D4_all V HX.out.2.2.1 (by rw [HX.out.2.2.2.2.2.2.2.1]))
                  have HZ := Lib.hid (And.intro hPN3 MM); clear hPN2 hPN3 MM O71 hd71 ej hgk3 hjn
                  go_wp2_with fail
                  go_roundg (W'.length - i)
                  case measure => omega
                  case rel => exact ⟨i + 1, F2, N2, M2, by omega, by omega, by go_num, HZ.out.1, hNN2, HZ.out.2⟩
            · obtain rfl : i = W'.length := by omega
              have hnext := HL.out.1.next hPN (by rw [HQ.out.2.2.2]; exact D3_all) hWe
              have HZ := Lib.hid (And.intro hnext M.I); clear hPN hnext M hin e hgk2
              go_wp2_with fail
              go_roundg (V.names.length - n)
              case measure => omega
              case rel => exact ⟨n + 1, F', Nl, _, N', by omega, by rw [List.length_append, List.length_map]; omega, HZ.out.1, HQ.out.2.1, HZ.out.2⟩
end Go.Proofs.Ytfkgooliglcjkaa
