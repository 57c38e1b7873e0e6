/- The walk of package arena: Alloc. -/
import Derived.Test.YtkocikpoagfonaaDoorAr3
import Derived.Deep.RegionLaw
namespace Go.Proofs.YtkocikpoagfonaaDoor
open Go.RowKit

section
variable {P : Program} {T K E : TypeId} {z : Value} {w : World} {b n : Nat} {f : Int → Option Value}
theorem step_vmap_put {ops : Array Oper} {o : Oper} {a : Act} {K' : Act → World → Prop} {Q : Exit → Act → World → Prop} {E' : Prop} (hg : o.guard = none) (m x v : Operand) (hop : o.op = Op.mapUpdate T m x v) (h : VMap P K w b n f) (t : VTy P T K E z) (hm : a.eval m = .map (some b)) {k : Int} {u : Value} (hx : a.eval x = .int .i64 k) (hk : Wf64 k) (hv : a.eval v = u) (hn : n < maxLen)
    (hK : ∀ w', VMap P K w' b (n + 1) (putV f k u) → Chg [b] w w' → w'.heap.size = w.heap.size → K' (a.put o.dst undef) w') : if Region.wanted o (yielded ops a.tmps) = true then Oper.wp P o a w K' Q else E' := by
  have hw : Region.wanted o (yielded ops a.tmps) = true := by simp [Region.wanted, hg]
  rw [if_pos hw]
  obtain ⟨w', hrun, r1, r2, r3⟩ := h.put t hk u hn
  unfold Oper.wp
  simp [execOp, hop, hm, hx, hv, hrun, Result.andThen]
  exact hK w' r1 r2 r3
end
/-- A map turned, as a function of the world. -/
noncomputable def putW (P : Program) (T : TypeId) (b : Nat) (k : Int) (u : Value) (W : World) : World :=
  open Classical in if h : ∃ w', (Instr.mapUpdate T (.map (some b)) (.int .i64 k) u).run P W = .ok () w' then Classical.choose h else W
theorem putW_says {P : Program} {T K E : TypeId} {z : Value} {W : World} {b n : Nat} {f : Int → Option Value} (h : VMap P K W b n f) (t : VTy P T K E z) {k : Int} (hk : Wf64 k) (u : Value) (hn : n < maxLen) :
    (Instr.mapUpdate T (.map (some b)) (.int .i64 k) u).run P W = .ok () (putW P T b k u W) ∧ VMap P K (putW P T b k u W) b (n + 1) (putV f k u) ∧ Chg [b] W (putW P T b k u W) ∧ (putW P T b k u W).heap.size = W.heap.size := by
  obtain ⟨w', hrun, r1, r2, r3⟩ := h.put t hk u hn
  have hex : ∃ w', (Instr.mapUpdate T (.map (some b)) (.int .i64 k) u).run P W = .ok () w' := ⟨w', hrun⟩
  have e : putW P T b k u W = w' := by
    unfold putW
    rw [dif_pos hex]
    have h1 := hrun.symm.trans (Classical.choose_spec hex)
    injection h1 with _ h1
    exact h1.symm
  rw [e]
  exact ⟨hrun, r1, r2, r3⟩
def OKM (P : Program) (K : TypeId) (b : Nat) (W : World) : Prop := ∃ n f, n ≤ 1000002 ∧ VMap P K W b n f
theorem VMap.okm {P : Program} {K : TypeId} {b n : Nat} {W : World} {f : Int → Option Value} (h : VMap P K W b n f) (hn : n ≤ 1000002) : OKM P K b W := ⟨n, f, hn, h⟩
theorem OKM.chg {P : Program} {K : TypeId} {b : Nat} {W W' : World} (h : OKM P K b W) (c : Chg [] W W') : OKM P K b W' := by
  obtain ⟨n, f, hn, h⟩ := h
  exact ⟨n, f, hn, h.chg c (by simp)⟩
theorem OKM.run {P : Program} {T K E : TypeId} {z : Value} {b : Nat} {W : World} (h : OKM P K b W) (t : VTy P T K E z) {k : Int} (hk : Wf64 k) (u : Value) : (Instr.mapUpdate T (.map (some b)) (.int .i64 k) u).run P W = .ok () (putW P T b k u W) := by
  obtain ⟨n, f, hn, h⟩ := h
  exact (putW_says h t hk u (by unfold maxLen; omega)).1
theorem keep_put {P : Program} {T K E : TypeId} {z : Value} {b m g o : Nat} {w3 W : World} {f : Int → Option Value} {k : Int} {v : Value} (c : Chg [] w3 W) (h : VMap P K w3 b m f) (t : VTy P T K E z) (hk : Wf64 k) (hm : m ≤ 1000001) (u : Value) (hc : w3.cell? ⟨g, o, none⟩ = some v) (hne : g ≠ b) :
    (putW P T b k u W).cell? ⟨g, o, none⟩ = some v ∧ OKM P K b (putW P T b k u W) := by
  have hz := putW_says (h.chg c (by simp)) t hk u (by unfold maxLen; omega)
  exact ⟨((c.mono (by simp)).trans hz.2.2.1).cellv (lt_of_cell hc) (by simp [hne]) hc, hz.2.1.okm (by omega)⟩
def spI (a : Ar) (id : Int) : Option Sp := if 0 ≤ id then a.sp id.toNat else none
theorem spV_I (h : ArH) (a : Ar) (id : Int) : natV (spV h a) id = (spI a id).map fun _ => .pointer (some ⟨(h.B id.toNat).g, 0, none⟩) := by
  unfold natV spI spV
  split <;> rfl
def allocS (s : Sp) (y : Nat) (black : Bool) : Sp := ⟨s.first, s.k, setF s.F y, if black then setF s.M y else s.M, y⟩
def allocA (a : Ar) (id : Nat) (s : Sp) (y n : Nat) (black : Bool) : Ar :=
  { a with sp := updF a.sp id (some (allocS s y black)), ob := updF a.ob (s.addr y) (some (List.replicate n 0)), live := a.live + szK s.k }
theorem zc_rep (q : Nat) : zcells (.int .i64 0) q = ((List.replicate q (0 : Int)).map (Value.int .i64)).toArray := by rw [zcells_list, List.map_replicate]
def newH (h : ArH) (x gx : Nat) : ArH := { h with C := fun z => if z = x then gx else h.C z, m := h.m + 1 }
theorem ArM.newob {w w' : World} {h : ArH} {a : Ar} (M : ArM w h a) {x gx : Nat} {xs : List Int} (hgx : w.heap.size ≤ gx) (Bx : Blk w' gx 3 (xs.map (Value.int .i64)).toArray)
    (Vx : VMap Tryd.prog 3 w' h.bj (h.m + 1) (putV (natV (obV h a)) (x : Nat) (.slice (some ⟨gx, 0, none⟩) xs.length xs.length))) (c : Chg [h.bj] w w') : ArM w' (newH h x gx) { a with ob := updF a.ob x (some xs) } := by
  have nb : ∀ {g : Nat} {t : TypeId} {cs : Array Value}, Blk w g t cs → g ∉ [h.bj] := fun hb hm => M.j.ne_blk hb (by simpa using hm : _ = _).symm
  have ec : ∀ y, y ≠ x → (newH h x gx).C y = h.C y := fun y hy => if_neg hy
  have lt : ∀ y, (a.ob y).isSome = true → h.C y < w.heap.size := fun y hy => by
    obtain ⟨ys, hys⟩ := Option.isSome_iff_exists.1 hy
    exact (M.O y ys hys).lt
  have es : spV (newH h x gx) { a with ob := updF a.ob x (some xs) } = spV h a := rfl
  have eo : owV { a with ob := updF a.ob x (some xs) } = owV a := rfl
  refine ⟨c.blk M.b (nb M.b), ⟨c.blk M.P.b (nb M.P.b), own_chg M.P.o c fun k hk hm => ?_⟩, ?_, ?_, Vx.ext fun y => ?_, fun id s hs => (M.S id s hs).chg c (fun k hk hm => ?_), fun y ys hy => ?_, M.d1, fun y y' hy hy' hne => ?_, M.m1, M.m2, M.m3⟩
  · have e : k = h.bj := by simpa using hm
    have hk2 : h.v.ownBlock = some k := hk
    rcases M.P.o.2 with ⟨e1, _⟩ | ⟨g', cap, cur, e1, _, hh, _⟩
    · rw [e1] at hk2; simp [Value.ownBlock] at hk2
    · rw [e1] at hk2
      have e2 : g' = k := by simpa [Value.ownBlock] using hk2
      exact M.j.ne_blk (t := 73) hh (by rw [e2, e])
  · rw [es]; exact (M.s.chg c (by simp [newH, M.m2])).mono (Nat.le_succ _)
  · rw [eo]; exact (M.o.chg c (by simp [newH, M.m3])).mono (Nat.le_succ _)
  · rw [natV_put]
    congr 1
    funext z
    unfold obV updF
    by_cases e : z = x
    · subst e; simp [newH]
    · simp [e, newH]
  · have e : k = h.bj := by simpa using hm
    exact M.j.far (M.S id s hs) (by rw [← e]; exact hk)
  · by_cases e : y = x
    · subst e
      have h2 : some xs = some ys := by rw [← hy]; exact (updF_same _ _ _).symm
      injection h2 with h2
      rw [← h2]
      have : (newH h y gx).C y = gx := if_pos rfl
      rw [this]; exact Bx
    · have h2 : a.ob y = some ys := by rw [← hy]; exact (updF_other _ _ e).symm
      rw [ec y e]
      exact c.blk (M.O y ys h2) (nb (M.O y ys h2))
  · have get : ∀ y, y ≠ x → (updF a.ob x (some xs) y).isSome = true → (a.ob y).isSome = true := fun y e hy => by rwa [updF_other _ _ e] at hy
    have hx : (newH h x gx).C x = gx := if_pos rfl
    by_cases e : y = x
    · have e' : y' ≠ x := fun e2 => hne (e.trans e2.symm)
      rw [e, hx, ec y' e']
      have := lt y' (get y' e' hy')
      omega
    · rw [ec y e]
      by_cases e' : y' = x
      · rw [e', hx]
        have := lt y (get y e hy)
        omega
      · rw [ec y' e']
        exact M.d2 y y' (get y e hy) (get y' e' hy') hne
theorem ArM.turnLive {w w' : World} {h : ArH} {a : Ar} (M : ArM w h a) {v : Nat} (B : Blk w' h.ga 54 #[.pointer (some ⟨h.gp, 0, none⟩), .map (some h.bs), .map (some h.bo), .map (some h.bj), .int .i64 v]) (c : Chg [h.ga] w w') : ArM w' h { a with live := v } := by
  have nb : ∀ {g : Nat} {t : TypeId} {cs : Array Value}, Blk w g t cs → 54 ≠ t → g ∉ [h.ga] := fun hb hne hm => M.b.ne_ hb hne (by simpa using hm : _ = _).symm
  refine ⟨B, ⟨c.blk M.P.b (nb M.P.b (by decide)), own_chg M.P.o c fun k hk hm => ?_⟩, M.s.chg c (fun hm => M.s.ne_blk M.b (by simpa using hm)), M.o.chg c (fun hm => M.o.ne_blk M.b (by simpa using hm)), M.j.chg c (fun hm => M.j.ne_blk M.b (by simpa using hm)), fun id s hs => (M.S id s hs).chg c (fun k hk hm => ?_), fun x xs hx => c.blk (M.O x xs hx) (nb (M.O x xs hx) (by decide)), M.d1, M.d2, M.m1, M.m2, M.m3⟩
  · have e : k = h.ga := by simpa using hm
    exact own_far M.P.o M.b (by decide) (by rw [← e]; exact mem_fpv.2 hk)
  · have e : k = h.ga := by simpa using hm
    exact (M.S id s hs).far M.b (by unfold SpT; decide) (by rw [← e]; exact hk)
/-- The integer in a cell, as a function of the world. -/
def intAt (g o : Nat) (W : World) : Int := match W.cell? ⟨g, o, none⟩ with | some (.int _ v) => v | _ => 0
theorem intAt_of {g o : Nat} {W : World} {v : Int} (h : W.cell? ⟨g, o, none⟩ = some (.int .i64 v)) : intAt g o W = v := by unfold intAt; rw [h]
theorem intAt_cell {g o : Nat} {W : World} {v : Int} (h : W.cell? ⟨g, o, none⟩ = some (.int .i64 v)) : W.cell? ⟨g, o, none⟩ = some (.int .i64 (intAt g o W)) := by rw [intAt_of h]; exact h
theorem keep_live {w5 W : World} {g o : Nat} {t : TypeId} {cs : Array Value} {v : Int} (c : Chg [] w5 W) (B : Blk w5 g t cs) (hv : cs[o]? = some (.int .i64 v)) : W.cell? ⟨g, o, none⟩ = some (.int .i64 (intAt g o W)) ∧ W.frozen? ⟨g, o, none⟩ = false ∧ Chg [g] w5 W :=
  ⟨intAt_cell ((c.blk B (by simp)).cellv o hv), (c.blk B (by simp)).frozen o, c.mono (by simp)⟩
theorem keep_store {w5 W : World} {g o : Nat} {t : TypeId} {cs : Array Value} {v u : Int} (c : Chg [] w5 W) (B : Blk w5 g t cs) (hv : cs[o]? = some (.int .i64 v)) : (W.setCell ⟨g, o, none⟩ (.int .i64 u)).cell? ⟨g, o, none⟩ = some (.int .i64 (intAt g o (W.setCell ⟨g, o, none⟩ (.int .i64 u)))) ∧ (W.setCell ⟨g, o, none⟩ (.int .i64 u)).frozen? ⟨g, o, none⟩ = false ∧ Chg [g] w5 (W.setCell ⟨g, o, none⟩ (.int .i64 u)) := by
  have hb := (c.blk B (by simp)).set_ o (.int .i64 u)
  have hlt : o < cs.size := (Array.getElem?_eq_some_iff.1 hv).1
  exact ⟨intAt_cell (hb.cellv o (v := .int .i64 u) (by simp [hlt])), hb.frozen o, (c.mono (by simp)).setCell (.inl (by simp)) _⟩
def AaPost (h : ArH) (a : Ar) (id n : Int) (black : Bool) (w : World) (e : Ending) (w' : World) : Prop :=
  (∃ c : Int, e = .returned (.tuple #[.int .i64 0, .int .i64 c]) ∧ Chg [] w w' ∧ ((spI a id = none ∧ c = 4) ∨ ∃ s, spI a id = some s ∧ (((n < 1 ∨ (szK s.k : Int) < n) ∧ c = 1) ∨ (1 ≤ n ∧ n ≤ szK s.k ∧ (∀ x, s.fr ≤ x → x < slK s.k → s.F x = true) ∧ c = 3)))) ∨
  ∃ s y h', 0 ≤ id ∧ a.sp id.toNat = some s ∧ 1 ≤ n ∧ n ≤ szK s.k ∧ s.fr ≤ y ∧ y < slK s.k ∧ s.F y = false ∧ (∀ x, s.fr ≤ x → x < y → s.F x = true) ∧ e = .returned (.tuple #[.int .i64 (s.addr y : Nat), .int .i64 0]) ∧ h'.N = h.N ∧ h'.ga = h.ga ∧ h'.m ≤ h.m + 1 ∧ ArM w' h' (allocA a id.toNat s y n.toNat black) ∧ StA h a h' (allocA a id.toNat s y n.toNat black) w w'
section
variable (w : World) (h : ArH) (a : Ar) (M : ArM w h a)
include M
set_option maxHeartbeats 3200000 in
set_option maxRecDepth 100000 in
theorem aalloc_ok (T : Tab w) (hm : h.m ≤ 1000000) (hlive : a.live ≤ 100000000) (id n : Int) (hid : Wf64 id) (black : Bool) : Calls Tryd.prog 11 #[.pointer (some ⟨h.ga, 0, none⟩), .int .i64 id, .int .i64 n, .bool black] w (AaPost h a id n black w) := by
  have b1 : w.cell? ⟨h.ga, 1, none⟩ = some (.map (some h.bs)) := M.b.cellv 1 rfl
  have hl := M.s.look tyS hid
  rw [spV_I] at hl
  cases ho : spI a id with
  | none =>
    rw [ho] at hl
    have hl' : (Instr.lookup 50 (.map (some h.bs)) (.int .i64 id) false).run Tryd.prog w = .ok (.pointer none) w := hl
    have HO := Lib.hid ho; clear ho hl M
    go_enter Tryd.func11, Tryd.ntmps11
    go_wp2_with fail
    go_ret2
    exact .inl ⟨4, rfl, Chg.refl _ _, .inl ⟨HO.out, rfl⟩⟩
  | some s =>
    rw [ho] at hl
    have hl' : (Instr.lookup 50 (.map (some h.bs)) (.int .i64 id) false).run Tryd.prog w = .ok (.pointer (some ⟨(h.B id.toNat).g, 0, none⟩)) w := hl
    have hid0 : 0 ≤ id := by
      unfold spI at ho
      by_cases h0 : 0 ≤ id
      · exact h0
      · rw [if_neg h0] at ho; cases ho
    have hs : a.sp id.toNat = some s := by unfold spI at ho; rwa [if_pos hid0] at ho
    have I := M.S _ s hs
    have hk := I.hk
    obtain ⟨j, rfl⟩ : ∃ j : Nat, id = j := ⟨id.toNat, by omega⟩
    rw [Int.toNat_natCast] at hl' hs I
    have HO := Lib.hid (And.intro ho (And.intro M (And.intro hs (And.intro I T)))); clear ho hl M hs I T
    go_enter Tryd.func11, Tryd.ntmps11
    by_cases hn1 : n < 1
    · have d1 : decide (n < 1) = true := decide_eq_true hn1
      have HN := Lib.hid hn1
      go_wp2_with fail
      go_ret2
      exact .inl ⟨1, rfl, Chg.refl _ _, .inr ⟨s, HO.out.1, .inl ⟨.inl HN.out, rfl⟩⟩⟩
    · have d1 : decide (n < 1) = false := decide_eq_false hn1
      go_wp2_with fail
      refine (sclass_ok w (h.B j) s HO.out.2.2.2.1).mono ?_
      rintro e w1 ⟨rfl, rfl⟩
      go_wp2_with fail
      refine (size_k w1 s.k hk).mono ?_
      rintro e w2 ⟨rfl, c2⟩
      have HC := Lib.hid c2; clear c2
      by_cases hn2 : (szK s.k : Int) < n
      · have d2 : decide ((szK s.k : Int) < n) = true := decide_eq_true hn2
        have HN := Lib.hid hn2
        go_wp2_with fail
        go_ret2
        exact .inl ⟨1, rfl, HC.out, .inr ⟨s, HO.out.1, .inl ⟨.inr HN.out, rfl⟩⟩⟩
      · have d2 : decide ((szK s.k : Int) < n) = false := decide_eq_false hn2
        obtain ⟨q, rfl⟩ : ∃ q : Nat, n = q := ⟨n.toNat, by omega⟩
        have hq1 : 1 ≤ q := by omega
        have hq2 : q ≤ szK s.k := by omega
        go_wp2_with fail
        refine (salloc_ok w2 (h.B j) s (HO.out.2.2.2.1.chg0 HC.out) (HO.out.2.2.2.2.chg HC.out (by simp)) black).mono ?_
        rintro e w3 (⟨rfl, hfull, c3⟩ | ⟨y, rfl, hy1, hy2, hy3, hy4, I3, C3⟩)
        · have H3 := Lib.hid (And.intro hfull (HC.out.trans c3)); clear hfull c3
          go_wp2_with fail
          go_ret2
          exact .inl ⟨3, rfl, H3.out.2, .inr ⟨s, HO.out.1, .inr ⟨by omega, by omega, H3.out.1, rfl⟩⟩⟩
        · have M3 := ArM.span (HO.out.2.1.chg0 HC.out) HO.out.2.2.1 (s' := allocS s y black) I3 C3
          have I4 : IsSp w3 (h.B j) (allocS s y black) := I3
          obtain ⟨s', hs'⟩ : ∃ s', s' = allocS s y black := ⟨_, rfl⟩
          rw [← hs'] at M3 I4
          have ha' : s'.addr y = s.addr y := by rw [hs']; rfl
          have hk' : s'.k = s.k := by rw [hs']; rfl
          have hf' : s'.first = s.first := by rw [hs']; rfl
          have H3 := Lib.hid (And.intro M3 (And.intro ((HC.out.mono (by simp)).trans C3) (And.intro (And.intro hy1 (And.intro hy3 hy4)) I4))); clear M3 C3 I3 I4 hy1 hy3 hy4
          have HS := Lib.hid (And.intro hs' (And.intro ha' (And.intro hk' hf'))); clear hs' ha' hk' hf'
          go_upto_region 11 with fail
          go_cut [42] from 43 to 50 (fun _ wd => ∃ gx, w3.heap.size ≤ gx ∧ Blk wd gx 3 (zcells (.int .i64 0) q) ∧ VMap Tryd.prog 3 wd h.bj (h.m + 1) (putV (natV (obV h { a with sp := updF a.sp j (some s') })) (s'.addr y : Nat) (.slice (some ⟨gx, 0, none⟩) q q)) ∧ Chg [h.bj] w3 wd)
          case first =>
            have hmk : ∀ W : World, (Instr.makeSlice 32 (.int .i64 (q : Nat)) (.int .i64 (q : Nat))).run Tryd.prog W = .ok (.slice (some ⟨W.heap.size, 0, none⟩) q q) (W.alloc (.cells (zcells (.int .i64 0) q) 3)) := fun W => run_make_z (P := Tryd.prog) 32 3 (.int .i64 0) 8 Tryd.underlying32 (by kernel_rfl) rfl .i64 .i64 q (by have := (kF hk).2.2.2.1; omega) (by have := (kF hk).2.2.2.1; omega) W
            have hq256 : q ≤ 256 := by have := (kF hk).2.2.2.1; omega
            have hq0 : (0 : Int) ≤ (q : Int) := by omega
            have hq3 : (q : Int) ≤ 256 := by omega
            have hq4 : ¬ (q : Int) < 0 := by omega
            have hadd : s'.addr y ≤ 100000000 := by
              have h1 := H3.out.2.2.2.f2
              have h2 := sl_sz hk hy2
              have h3 := (kF hk).2.2.2.2.2.1
              rw [HS.out.2.1]
              rw [HS.out.2.2.2] at h1
              unfold Sp.addr
              rw [Nat.add_mul] at h2
              omega
            have b3 : w3.cell? ⟨h.ga, 3, none⟩ = some (.map (some h.bj)) := H3.out.1.b.cellv 3 rfl
            have k1 : Chg [] w3 w3.drew := (Chg.refl [] w3).drew
            have hga := H3.out.1.b.lt
            have hwf : Wf64 ((s'.addr y : Nat) : Int) := by unfold Wf64; omega
            have hput : ∀ (W : World) (u : Value), OKM Tryd.prog 3 h.bj W → (Instr.mapUpdate 52 (.map (some h.bj)) (.int .i64 ((s'.addr y : Nat) : Int)) u).run Tryd.prog W = .ok () (putW Tryd.prog 52 h.bj (s'.addr y : Nat) u W) := fun W u hW => hW.run tyJ hwf u
            have hok0 : OKM Tryd.prog 3 h.bj w3 := H3.out.1.j.okm (by omega)
            have hgj : h.ga ≠ h.bj := fun e => H3.out.1.j.ne_blk H3.out.1.b e.symm
            have HW := Lib.hid hwf
            clear hwf
            go_region_held3 (fun w' => w'.cell? ⟨h.ga, 3, none⟩ = some (.map (some h.bj)) ∧ OKM Tryd.prog 3 h.bj w')
              (first
                | exact ⟨b3, hok0⟩
                | ((refine ⟨(Chg.cellv (S := []) (a := w3) ?_ hga (by simp) b3), (hok0.chg ?_)⟩ <;> repeat (first | assumption | exact Chg.refl [] w3 | refine Chg.alloc ?_ _ | refine Chg.drew ?_)); done)
                | exact keep_put (by repeat (first | assumption | exact Chg.refl [] w3 | refine Chg.alloc ?_ _ | refine Chg.drew ?_)) H3.out.1.j tyJ HW.out (by omega) _ b3 hgj)
              (first
                | (go_at_call 34; refine (saddr_ok _ (h.B j) _ (H3.out.2.2.2.chg0 (by repeat (first | assumption | exact Chg.refl [] w3 | refine Chg.alloc ?_ _ | refine Chg.drew ?_))) y (by rw [HS.out.2.2.1]; exact hy2)).mono ?_; rintro e w' ⟨rfl, C⟩; have D := Chg.trans (S := []) (a := w3) (by repeat (first | assumption | exact Chg.refl [] w3 | refine Chg.alloc ?_ _ | refine Chg.drew ?_)) C; have z1 : w'.cell? ⟨h.ga, 3, none⟩ = some (.map (some h.bj)) := D.cellv hga (by simp) b3; have z2 := hok0.chg D; (first | have X1 := C.blk (Blk.new _ 3 (zcells (.int .i64 0) q)) (by simp) | have X1 := C.blk (Blk.new _ 3 (zcells (.int .i64 0) q)).drew (by simp) | skip)))
            · have hz := putW_says (H3.out.1.j.chg (S := []) (Chg.alloc D (.cells (zcells (.int .i64 0) q) 3)) (by simp)) tyJ HW.out (.slice (some ⟨w'.heap.size, 0, none⟩) q q) (by unfold maxLen; omega)
              have hb := hz.2.2.1.blk (Blk.new w' 3 (zcells (.int .i64 0) q)) (fun hm => (H3.out.1.j.chg (S := []) (Chg.alloc D (.cells (zcells (.int .i64 0) q) 3)) (by simp)).ne_blk (Blk.new w' 3 (zcells (.int .i64 0) q)) (by simpa using hm : _ = _).symm)
              have HZ := Lib.hid (And.intro D.size (And.intro hb (And.intro hz.2.1 (((Chg.alloc D (.cells (zcells (.int .i64 0) q) 3)).mono (T := [h.bj]) (by simp)).trans hz.2.2.1)))); clear hz hb
              go_wp2_with fail
              go_meet
              exact ⟨_, HZ.out⟩
            · have hz := putW_says (H3.out.1.j.chg (S := []) D (by simp)) tyJ HW.out (.slice (some ⟨w3.heap.size, 0, none⟩) q q) (by unfold maxLen; omega)
              have hb := hz.2.2.1.blk X1 (fun hm => (H3.out.1.j.chg (S := []) D (by simp)).ne_blk X1 (by simpa using hm : _ = _).symm)
              have HZ := Lib.hid (And.intro (Nat.le_refl w3.heap.size) (And.intro hb (And.intro hz.2.1 ((D.mono (T := [h.bj]) (by simp)).trans hz.2.2.1)))); clear hz hb
              go_wp2_with fail
              go_meet
              exact ⟨_, HZ.out⟩
          case rest =>
            obtain ⟨gx, hgx, Bx, Vx, Cx⟩ := hcut
            obtain ⟨w5, rfl⟩ : ∃ W : World, W = wc := ⟨_, rfl⟩
            rw [zc_rep] at Bx
            have hlq : (List.replicate q (0 : Int)).length = q := List.length_replicate
            have M5 := H3.out.1.newob (x := s'.addr y) (gx := gx) (xs := List.replicate q 0) hgx Bx (by rw [hlq]; exact Vx) Cx
            have I5 := H3.out.2.2.2.chg Cx (fun k hk hm => H3.out.1.j.far H3.out.2.2.2 (by have e : k = h.bj := (by simpa using hm); rw [← e]; exact hk))
            have H5 := Lib.hid (And.intro M5 (And.intro I5 (And.intro hgx (H3.out.2.1.mono (T := h.bj :: (h.B j).l) (by intro k hk; left; simp [hk]) |>.trans (Cx.mono (by intro k hk; left; have e : k = h.bj := (by simpa using hk); simp [e])))))); clear M5 I5 Bx Vx Cx hgx hlq
            go_upto_region 12 with fail
            go_cut [51] from 52 to 61 (fun _ wd => Blk wd h.ga 54 #[.pointer (some ⟨h.gp, 0, none⟩), .map (some h.bs), .map (some h.bo), .map (some h.bj), .int .i64 ((a.live + szK s.k : Nat) : Int)] ∧ Chg [h.ga] w5 wd)
            case first =>
              have hsz := (kF hk).2.2.2.1
              have hga := H5.out.1.b.lt
              have k1 : Chg [] w5 w5.drew := (Chg.refl [] w5).drew
              have k0 : Chg [] w5 w5 := Chg.refl [] w5
              have b4 : w5.drew.cell? ⟨h.ga, 4, none⟩ = some (.int .i64 (a.live : Nat)) := H5.out.1.b.drew.cellv 4 rfl
              have f4 := H5.out.1.b.drew.frozen 4
              go_region_law
                (first
                  | (rw [if_pos (by rfl)]; go_simp; go_at_call 32; refine (sclass_ok _ (h.B j) _ (H5.out.2.1.chg0 (by assumption))).mono ?_; rintro e w' ⟨rfl, rfl⟩; dsimp only; rw [HS.out.2.2.1])
                  | (rw [if_pos (by rfl)]; go_simp; go_at_call 28; refine (size_k _ s.k hk).mono ?_; rintro e w' ⟨rfl, C⟩; dsimp only; have D := Chg.trans (S := []) (a := w5) (by assumption) C; have z1 : w'.cell? ⟨h.ga, 4, none⟩ = some (.int .i64 (a.live : Nat)) := D.cellv hga (by simp) (H5.out.1.b.cellv 4 rfl); have z2 : w'.frozen? ⟨h.ga, 4, none⟩ = false := (D.blk H5.out.1.b (by simp)).frozen 4))
              all_goals (have hb := (D.blk H5.out.1.b (by simp)).setv 4 (.int .i64 ((a.live + szK s.k : Nat) : Int)) rfl)
              all_goals (have HZ := Lib.hid (And.intro hb ((D.mono (T := [h.ga]) (by simp)).setCell (p := ⟨h.ga, 4, none⟩) (.inl (by simp)) (.int .i64 ((a.live + szK s.k : Nat) : Int)))); clear hb)
              all_goals rw [show IntKind.i64.wrap ((a.live : Int) + (szK s.k : Int)) = ((a.live + szK s.k : Nat) : Int) by rw [IntWalk.i64_in _ (by omega)]; omega]
              all_goals go_wp2_with fail
              all_goals (go_meet; exact HZ.out)
            case rest =>
              obtain ⟨B6, C6⟩ := hcut
              obtain ⟨w6, rfl⟩ : ∃ W : World, W = wc := ⟨_, rfl⟩
              have M6 := H5.out.1.turnLive B6 C6
              have I6 := H5.out.2.1.chg C6 (fun k hk hm => H5.out.2.1.far H5.out.1.b (by unfold SpT; decide) (by have e : k = h.ga := (by simpa using hm); show h.ga ∈ (h.B j).l; rw [← e]; exact hk))
              have Call := (H5.out.2.2.2.mono (T := h.ga :: h.bj :: (h.B j).l) (by intro k hk; left; simp only [List.mem_cons] at hk ⊢; exact .inr hk)).trans (C6.mono (T := h.ga :: h.bj :: (h.B j).l) (by intro k hk; left; have e : k = h.ga := (by simpa using hk); simp [e]))
              have H6 := Lib.hid (And.intro M6 (And.intro I6 Call)); clear M6 I6 Call B6 C6
              go_wp2_with fail
              refine (saddr_ok w6 (h.B j) _ H6.out.2.1 y (by rw [HS.out.2.2.1]; exact hy2)).mono ?_
              rintro e w7 ⟨rfl, c7⟩
              have H7 := Lib.hid c7; clear c7
              rw [HS.out.2.1]
              go_wp2_with fail
              go_ret2
              have hj : ((j : Nat) : Int).toNat = j := Int.toNat_natCast j
              have hqn : ((q : Nat) : Int).toNat = q := Int.toNat_natCast q
              have eA : ({ a with sp := updF a.sp j (some s'), ob := updF a.ob (s'.addr y) (some (List.replicate q 0)), live := a.live + szK s.k } : Ar) = allocA a ((j : Nat) : Int).toNat s y ((q : Nat) : Int).toNat black := by
                unfold allocA
                rw [hj, hqn, HS.out.2.1, HS.out.1]
              refine .inr ⟨s, y, newH h (s'.addr y) gx, by omega, by rw [hj]; exact HO.out.2.2.1, by omega, by omega, H3.out.2.2.1.1, hy2, H3.out.2.2.1.2.1, H3.out.2.2.1.2.2, rfl, rfl, rfl, Nat.le_refl _, by rw [← eA]; exact H6.out.1.chg0 H7.out, ?_⟩
              refine StA.of_chg (H6.out.2.2.trans (H7.out.mono (by simp))) (fun k hk => .inl ?_) (fun k hk => ?_)
              · simp only [List.mem_cons] at hk
                rcases hk with h1 | h1 | h1
                · exact .inl h1
                · exact .inr (.inr (.inr (.inr (.inr (.inl h1)))))
                · exact .inr (.inr (.inr (.inr (.inr (.inr (.inl ⟨j, s, HO.out.2.2.1, h1⟩))))))
              · rw [← eA] at hk
                rcases hk with h1 | h1 | h1 | h1 | h1 | h1 | ⟨i2, t, ht, h1⟩ | ⟨x, hx, h1⟩
                · exact .inl (.inl h1)
                · exact .inl (.inr (.inl h1))
                · exact .inl (.inr (.inr (.inl h1)))
                · exact .inl (.inr (.inr (.inr (.inl h1))))
                · exact .inl (.inr (.inr (.inr (.inr (.inl h1)))))
                · exact .inl (.inr (.inr (.inr (.inr (.inr (.inl h1))))))
                · refine .inl (.inr (.inr (.inr (.inr (.inr (.inr (.inl ?_)))))))
                  by_cases e : i2 = j
                  · exact ⟨j, s, HO.out.2.2.1, by rw [← e]; exact h1⟩
                  · exact ⟨i2, t, by rw [← ht]; exact (updF_other _ _ e).symm, h1⟩
                · by_cases e : x = s'.addr y
                  · right
                    rw [h1, e]
                    have e2 : (newH h (s'.addr y) gx).C (s'.addr y) = gx := if_pos rfl
                    rw [e2]
                    have h3 := H3.out.2.1.size
                    have h4 := H5.out.2.2.1
                    omega
                  · refine .inl (.inr (.inr (.inr (.inr (.inr (.inr (.inr ⟨x, ?_, ?_⟩)))))))
                    · have hx2 : (updF a.ob (s'.addr y) (some (List.replicate q 0)) x).isSome = true := hx
                      rwa [updF_other _ _ e] at hx2
                    · rw [h1]; exact if_neg e
end
end Go.Proofs.YtkocikpoagfonaaDoor
