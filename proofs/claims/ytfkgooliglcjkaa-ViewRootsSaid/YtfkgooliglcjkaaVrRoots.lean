/- The walk of ViewRoots. -/
import Derived.Test.YtfkgooliglcjkaaVrFam
import Derived.Test.YtfkgooliglcjkaaRfAsk
import Derived.Test.YtfkgooliglcjkaaVwOwn2
import Derived.Deep.RegionLaw
import Derived.Deep.RegionHeld3
namespace Go.Proofs.Ytfkgooliglcjkaa
open Go.RowKit Go.Maps

def VrI (w0 : World) (gv gw : Nat) (vG : Value) (G : List Int) (vW : Value) (W : List Int) (vGs : Value) (F : List (Value × Gr)) (w : World) : Prop := VrB w0 gv gw (vrC vG vGs) #[vW] vGs (famL vG G vW W F) F w
section
variable {w0 w w' : World} {gv gw : Nat} {vG vGs vW v' : Value} {G W : List Int} {F : List (Value × Gr)}
theorem VrI.chg0 (h : VrI w0 gv gw vG G vW W vGs F w) (c : Chg [] w w') : VrI w0 gv gw vG G vW W vGs F w' := VrB.chg0 h c
theorem VrI.ownG (h : VrI w0 gv gw vG G vW W vGs F w) : OwnI 3 w vG G := h.fam.own 0 (vG, G) rfl
theorem VrI.ownW (h : VrI w0 gv gw vG G vW W vGs F w) : OwnI 3 w vW W := h.fam.own 1 (vW, W) rfl
theorem VrI.putG {G' : List Int} (h : VrI w0 gv gw vG G vW W vGs F w) (O : OwnI 3 w' v' G') (S : Stp (fpv vG) (fpv v') w w') : VrI w0 gv gw v' G' vW W vGs F (w'.setCell ⟨gv, 3, none⟩ v') :=
  (VrB.up (i := 0) (p := (vG, G)) h rfl O S).setV 3 v' rfl
theorem VrI.putW {W' : List Int} (h : VrI w0 gv gw vG G vW W vGs F w) (O : OwnI 3 w' v' W') (S : Stp (fpv vW) (fpv v') w w') : VrI w0 gv gw vG G v' W' vGs F (w'.setCell ⟨gw, 0, none⟩ v') :=
  (VrB.up (i := 1) (p := (vW, W)) h rfl O S).setW 0 v' rfl
end
theorem vrS_of {w0 wr W : World} {gv gw : Nat} {vG vGs vW : Value} {G L : List Int} {F : List (Value × Gr)} (h : VrI w0 gv gw vG G vW L vGs F wr) (D : Chg [] wr W) :
    W.cell? ⟨gv, 0, none⟩ = some (.int .i64 0) ∧ W.cell? ⟨gv, 1, none⟩ = some (.int .i64 0) ∧ W.cell? ⟨gv, 2, none⟩ = some (.int .i64 0) ∧ W.cell? ⟨gv, 3, none⟩ = some vG ∧ W.cell? ⟨gv, 4, none⟩ = some vGs ∧ W.cell? ⟨gv, 5, none⟩ = some (.slice none 0 0) ∧ W.cell? ⟨gv, 6, none⟩ = some (.int .i64 0) ∧ W.cell? ⟨gv, 7, none⟩ = some (.int .i64 0) ∧ W.cell? ⟨gv, 8, none⟩ = some (.int .i64 0) ∧ W.cell? ⟨gw, 0, none⟩ = some vW ∧ Chg [] wr W := by
  have b := (VrI.chg0 h D).b
  have c := (VrI.chg0 h D).bw
  exact ⟨b.cellv 0 rfl, b.cellv 1 rfl, b.cellv 2 rfl, b.cellv 3 rfl, b.cellv 4 rfl, b.cellv 5 rfl, b.cellv 6 rfl, b.cellv 7 rfl, b.cellv 8 rfl, c.cellv 0 rfl, D⟩
def VaPost (w0 : World) (gv gw : Nat) (vG : Value) (G : List Int) (W : List Int) (vGs : Value) (F : List (Value × Gr)) (e : Ending) (w' : World) : Prop := e = .returned (.tuple #[]) ∧ ∃ vW', VrI w0 gv gw vG G vW' W vGs F w'
set_option maxHeartbeats 1600000 in
set_option maxRecDepth 100000 in
theorem vadd_ok {w0 w : World} {gv gw : Nat} {vG vGs vW : Value} {G W : List Int} {F : List (Value × Gr)} (x : Int) (h : VrI w0 gv gw vG G vW W vGs F w) (hl : W.length ≤ 1000000) :
    Calls Try.prog 24 #[.int .i64 x, .pointer (some ⟨gw, 0, none⟩)] w (VaPost w0 gv gw vG G (addOnce W x) vGs F) := by
  obtain ⟨A, c, rfl⟩ := h.ownW.slice
  have c0 := h.bw.cellv 0 rfl
  have f0 := h.bw.frozen 0
  have H := Lib.hid h; clear h
  go_enter Try.func24, Try.ntmps24
  by_cases h0 : x = 0
  · have hq : (x != 0) = false := by rw [bne_eq_false_iff_eq]; exact h0
    have e0 : addOnce W x = W := by unfold addOnce; rw [if_pos (.inl h0)]
    have HE := Lib.hid e0; clear e0 h0
    go_wp2_with fail
    go_end0
    exact ⟨rfl, _, by rw [HE.out]; exact H.out⟩
  · have hq : (x != 0) = true := by rw [bne_iff_ne]; exact h0
    have H0 := Lib.hid h0; clear h0
    go_wp2_with fail
    refine (has_ok _ _ W x H.out.ownW.rd).mono ?_
    rintro e w1 ⟨rfl, rfl⟩
    by_cases hm : x ∈ W
    · rw [decide_eq_true hm]
      have e0 : addOnce W x = W := by unfold addOnce; rw [if_pos (.inr hm)]
      have HE := Lib.hid e0; clear e0 hm
      go_wp2_with fail
      go_end0
      exact ⟨rfl, _, by rw [HE.out]; exact H.out⟩
    · rw [decide_eq_false hm]
      have e0 : addOnce W x = W ++ [x] := by unfold addOnce; rw [if_neg (fun h => h.elim H0.out hm)]
      have HE := Lib.hid e0; clear e0 hm
      go_wp2_with (at_builtin; refine wpList_push_int rfl _ _ rfl slty rfl H.out.ownW rfl (by omega) ?_)
      intro A' c' w2 O S
      have hb := S.c.blk H.out.bw (H.out.ownW.ne_blk H.out.bw (by decide))
      have e1 := hb.cellv 0 rfl
      have e2 := hb.frozen 0
      have HN := Lib.hid (H.out.putW O S); clear O S hb c0 f0
      go_wp2_with fail
      go_end0
      exact ⟨rfl, _, by rw [HE.out]; exact HN.out⟩
def Vr1Rel (w0 : World) (gv gw n : Nat) (gk : Nat) (idx : Value) (w : World) : Prop :=
  ∃ i vG G vW, gk + i = n + 1 ∧ i ≤ n ∧ idx = .int .i64 (i : Nat) ∧ G.length = i ∧ (∀ x ∈ G, 0 ≤ x ∧ x < 10) ∧ VrI w0 gv gw vG G vW (G.foldl addOnce []) (.slice none 0 0) [] w
def Vr2Rel (w0 : World) (gv gw n : Nat) (vG : Value) (G : List Int) (gk : Nat) (idx : Value) (w : World) : Prop :=
  ∃ i vW vGs F, gk + i = n + 1 ∧ i ≤ n ∧ idx = .int .i64 (i : Nat) ∧ F.length = (i + 15) / 16 ∧ VrN G F i ∧ VrI w0 gv gw vG G vW (vrVw G F).rootsL vGs F w
def Vr2Cut (w0 : World) (gv gw : Nat) (vG : Value) (G : List Int) (i j : Nat) (w : World) : Prop :=
  ∃ vW gG cG F s g, F.length = j ∧ VrN G (F ++ [(s, g)]) i ∧ VrI w0 gv gw vG G vW (vrVw G (F ++ [(s, g)])).rootsL (.slice (some ⟨gG, 0, none⟩) (j + 1) cG) (F ++ [(s, g)]) w
theorem roots_le {G : List Int} {F : List (Value × Gr)} {n : Nat} (h : VrN G F n) : (vrVw G F).rootsL.length ≤ 10 := by
  have h1 : (vrVw G F).rootsL.Nodup := nodup_foldOnce _ _ List.nodup_nil
  have h2 := nodup_le (m := (List.range 10).map fun k : Nat => (k : Int)) h1 fun x hx => by
    have hs := (mem_rootsL.1 hx).1
    have hb : 0 ≤ x ∧ x < 10 := by
      unfold Vw.said vrVw gsOf at hs
      rcases List.mem_append.1 hs with h3 | h3
      · exact h.g x h3
      · obtain ⟨g, hg, hxg⟩ := List.mem_flatMap.1 h3
        obtain ⟨p, hp, rfl⟩ := List.mem_map.1 (List.mem_filter.1 hg).1
        exact (h.f p hp).1 x hxg
    exact List.mem_map.2 ⟨x.toNat, List.mem_range.2 (by omega), by omega⟩
  simpa using h2
theorem modS (x : Int) : ∃ q : Int, wrap64 ((IntKind.u64.wrap x).tmod 10) = q ∧ 0 ≤ q ∧ q < 10 := by
  obtain ⟨n, h1, h2⟩ := mod_n x 10 (by omega) (by omega)
  exact ⟨(n : Int), h2, by omega, by omega⟩
set_option maxHeartbeats 12800000 in
set_option maxRecDepth 100000 in
theorem vroots_any (v u : Value) (xs ys : List Int) (D : Int) (w : World) (hx : SlI w w.heap.size v xs) (hy : SlI w w.heap.size u ys) : Calls Try.prog 6 #[v, u, .int .i64 D] w (TdPost w) := by
  obtain ⟨A0, c0, rfl⟩ := hx.ex
  obtain ⟨A1, c1, rfl⟩ := hy.ex
  have hl0 := hx.len
  have hl1 := hy.len
  unfold maxLen at hl0 hl1
  have HS := Lib.hid (And.intro hx hy); clear hx hy
  go_enter Try.func6, Try.ntmps6
  by_cases h1 : 10 < xs.length
  · have h1' : (10 : Int) < (xs.length : Int) := by omega
    go_wp2_with fail
    refine (told_ok _).mono ?_
    rintro e w2 ⟨rfl, C2⟩
    go_wp2_with fail
    go_ret
    exact ⟨rfl, C2⟩
  have h1' : decide ((10 : Int) < (xs.length : Int)) = false := decide_eq_false (by omega)
  have h1'' : decide (10 < xs.length) = false := decide_eq_false h1
  by_cases h2 : 80 < ys.length
  · have h2' : (80 : Int) < (ys.length : Int) := by omega
    go_wp2_with fail
    refine (told_ok _).mono ?_
    rintro e w2 ⟨rfl, C2⟩
    go_wp2_with fail
    go_ret
    exact ⟨rfl, C2⟩
  have h2' : decide ((80 : Int) < (ys.length : Int)) = false := decide_eq_false (by omega)
  have h2'' : decide (80 < ys.length) = false := decide_eq_false h2
  have hxn : xs.length ≤ 10 := by omega
  have hyn : ys.length ≤ 80 := by omega
  clear h1 h2 hl0 hl1
  have I0 : VrI w w.heap.size (w.heap.size + 1) (.slice none 0 0) [] (.slice none 0 0) ([].foldl addOnce []) (.slice none 0 0) [] ((w.alloc (.cells (vrC (.slice none 0 0) (.slice none 0 0)) 26)).alloc (.cells #[.slice none 0 0] 22)) := by
    refine ⟨(Blk.new w _ _).alloc _, ?_, World.ownsRow_nil _ _ _ _, ⟨fun i p hp => ?_, fun i j p q hij hp hq k hk => ?_⟩, ((Chg.refl [] w).alloc _).alloc _, Nat.le_refl _, Nat.le_succ _, by simp [fpv, Value.ownBlock], fun i p hp k hk => ?_⟩
    · have := Blk.new (w.alloc (.cells (vrC (.slice none 0 0) (.slice none 0 0)) 26)) 22 #[.slice none 0 0]
      rwa [World.size_alloc] at this
    · have := List.mem_of_getElem? hp
      have e : p = (.slice none 0 0, []) := by simpa [famL] using this
      subst e; exact OwnI.nil _ _
    · have := List.mem_of_getElem? hp
      have e : p = (.slice none 0 0, []) := by simpa [famL] using this
      subst e; simp [fpv, Value.ownBlock] at hk
    · have := List.mem_of_getElem? hp
      have e : p = (.slice none 0 0, []) := by simpa [famL] using this
      subst e; simp [fpv, Value.ownBlock] at hk
  unfold vrC at I0
  have HI := Lib.hid I0; clear I0
  go_upto_region 6 with fail
  clear h1' h1'' h2' h2''
  generalize ((w.alloc (.cells #[.int .i64 0, .int .i64 0, .int .i64 0, .slice none 0 0, .slice none 0 0, .slice none 0 0, .int .i64 0, .int .i64 0, .int .i64 0] 26)).alloc (.cells #[.slice none 0 0] 22)) = X at HI ⊢
  obtain ⟨gv, hgv⟩ : ∃ gv, gv = w.heap.size := ⟨_, rfl⟩
  obtain ⟨gw, hgw⟩ : ∃ gw, gw = w.heap.size + 1 := ⟨_, rfl⟩
  rw [← hgw, ← hgv] at HI ⊢
  clear hgw hgv
  go_wp2_with fail
  go_loopg [10] (xs.length + 1) (fun gk idx wr => Vr1Rel w gv gw xs.length gk idx wr)
  case atStart => exact ⟨0, _, [], _, by omega, by omega, rfl, rfl, by simp, HI.out⟩
  case round =>
    obtain ⟨i, vG, G, vW, hgk, hin, rfl, hGl, hG, I⟩ := hrel
    by_cases e : i < xs.length
    · obtain ⟨x, hx⟩ : ∃ x, xs[i]? = some x := ⟨_, List.getElem?_eq_getElem e⟩
      obtain ⟨b, off, rfl, -, i0⟩ := (HS.out.1.chg I.c (Nat.le_refl _) (by simp)).at_ _ _ _ rfl i x hx
      have hi' : (i : Int) < (xs.length : Int) := by omega
      obtain ⟨q, hq, hq1⟩ := modS x
      have HQ := Lib.hid hq; clear hq hx
      obtain ⟨AG, cG, rfl⟩ := I.ownG.slice
      have g3 := I.b.cellv 3 rfl
      have hrl := roots_le (F := []) (n := 0) ⟨hG, by simp⟩
      have hsd : (vrVw G []).rootsL = G.foldl addOnce [] := by unfold Vw.rootsL Vw.said vrVw gsOf; simp
      rw [hsd] at hrl
      have HX := Lib.hid (And.intro I (And.intro hG (And.intro hrl hGl))); clear I hG hrl hsd hGl
      go_upto_region 10 with fail
      rw [HQ.out]
      go_wp2_with (at_builtin; refine wpList_push_int rfl _ _ rfl slty rfl HX.out.1.ownG rfl (by have := HX.out.2.2.2; omega) ?_)
      intro A' c' w2 O S
      have hb := S.c.blk HX.out.1.b (HX.out.1.ownG.ne_blk HX.out.1.b (by decide))
      have e1 := hb.cellv 3 rfl
      have e2 := hb.frozen 3
      have HN := Lib.hid (HX.out.1.putG O S); clear O S hb g3 i0
      go_wp2_with fail
      refine (vadd_ok q HN.out (by have := HX.out.2.2.1; omega)).mono ?_
      rintro e w3 ⟨rfl, vW', I3⟩
      have H3 := Lib.hid I3; clear I3
      go_wp2_with fail
      go_roundg (xs.length - i)
      case measure => omega
      case rel => exact ⟨i + 1, _, G ++ [q], vW', by omega, by omega, by go_num, by rw [List.length_append, List.length_singleton, HX.out.2.2.2], fun y hy => by
        rcases List.mem_append.1 hy with h | h
        · exact HX.out.2.1 y h
        · rw [List.mem_singleton.1 h]; exact hq1, by rw [List.foldl_append]; exact H3.out⟩
    · have hi' : ¬ (i : Int) < (xs.length : Int) := by omega
      have hGn : G.length ≤ 10 := by omega
      have e0 : (vrVw G []).rootsL = G.foldl addOnce [] := by unfold Vw.rootsL Vw.said vrVw gsOf; simp
      rw [← e0] at I
      have HX := Lib.hid (And.intro I hG); clear I hG e0 hGl e hgk hin HI
      go_wp2_with fail
      obtain ⟨wq, rfl⟩ : ∃ wq : World, wq = wr := ⟨_, rfl⟩
      go_loopg [12] (ys.length + 1) (fun gk idx wr => Vr2Rel w gv gw ys.length vG G gk idx wr)
      case atStart => exact ⟨0, vW, _, [], by omega, by omega, rfl, rfl, ⟨HX.out.2, by simp⟩, HX.out.1⟩
      case round =>
        clear HX
        obtain ⟨i, vW, vGs, F, hgk, hin, rfl, hFl, hN, I⟩ := hrel
        by_cases e : i < ys.length
        · obtain ⟨x, hx⟩ : ∃ x, ys[i]? = some x := ⟨_, List.getElem?_eq_getElem e⟩
          obtain ⟨b, off, rfl, hbb, y0⟩ := HS.out.2.at_ _ _ _ rfl i x hx
          have i0 := I.c.cellv hbb (by simp) y0
          have hi' : (i : Int) < (ys.length : Int) := by omega
          obtain ⟨q, hq, hq1⟩ := modS x
          obtain ⟨j, hj⟩ : ∃ j, i / 16 = j := ⟨_, rfl⟩
          have hj1 : (i : Int) / 16 = (j : Int) := by omega
          have hj5 : j < 6 := by omega
          have HQ := Lib.hid (And.intro hq (And.intro hbb y0)); clear hq hx y0 hbb
          obtain ⟨wz, rfl⟩ : ∃ wz : World, wz = wr := ⟨_, rfl⟩
          go_upto_if 54 with fail
          go_cut [] from 52 to 73 (fun wc => Vr2Cut w gv gw vG G i j wc)
          case first =>
            by_cases h16 : i % 16 = 0
            · have h16a : ((i : Int) % 16 == 0) = true := by rw [beq_iff_eq]; omega
              have h16b : (i % 16 == 0) = true := by rw [beq_iff_eq]; exact h16
              obtain rfl : j = F.length := by omega
              have g4 : wz.cell? ⟨gv, 4, none⟩ = some vGs := I.b.cellv 4 rfl
              have HI2 := Lib.hid (And.intro I hN); clear I hN hFl h16
              have g4' : (wz.alloc (.cells #[.int .i64 1, .int .i64 (-1), .slice none 0 0] 41)).cell? ⟨gv, 4, none⟩ = some vGs := (HI2.out.1.b.alloc _).cellv 4 rfl
              go_wp2_with (at_builtin; refine wpList_push_gr rfl _ _ rfl rfl HI2.out.1 rfl (by omega) ?_)
              intro g' c' w2 I2
              have e1 := I2.b.cellv 4 rfl
              have e2 := I2.b.frozen 4
              have T1 : VrI w gv gw vG G vW (vrVw G (F ++ [(.slice none 0 0, ⟨1, -1, []⟩)])).rootsL (.slice (some ⟨g', 0, none⟩) (F.length + 1) c') (F ++ [(.slice none 0 0, ⟨1, -1, []⟩)]) (w2.setCell ⟨gv, 4, none⟩ (.slice (some ⟨g', 0, none⟩) (F.length + 1) c')) := by
                have h3 := I2.setV 4 (.slice (some ⟨g', 0, none⟩) (F.length + 1) c') rfl
                have h4 : (vrVw G (F ++ [((.slice none 0 0 : Value), (⟨1, -1, []⟩ : Gr))])).rootsL = (vrVw G F).rootsL := by unfold Vw.rootsL; rw [said_new]
                unfold VrI; rw [h4, famL_snoc]; exact h3
              have HT := Lib.hid T1; clear T1 I2 g4 g4'
              go_upto_region 17 with fail
              clear e1 e2
              generalize (w2.setCell ⟨gv, 4, none⟩ (.slice (some ⟨g', 0, none⟩) (F.length + 1) c')) = X1 at HT ⊢
              go_cut [67] from 61 to 67 (fun v wc => ∃ b, v = .bool b ∧ wc = X1)
              case first =>
                go_wp2_with fail
                go_meet
                exact ⟨_, rfl, rfl⟩
              case rest =>
                obtain ⟨bb, rfl, rfl⟩ := hcut
                have hNF : ∀ st : Int, 0 ≤ st ∧ st ≤ 5 → VrN G (F ++ [((.slice none 0 0 : Value), (⟨st, -1, []⟩ : Gr))]) i := fun st hst => ⟨HI2.out.2.g, fun p hp => by
                  rcases List.mem_append.1 hp with h | h
                  · exact HI2.out.2.f p h
                  · rw [List.mem_singleton.1 h]; exact ⟨by simp, by simp, hst, rfl⟩⟩
                have HNF := Lib.hid hNF; clear hNF
                cases bb
                · go_wp2_with fail
                  go_meet
                  exact ⟨vW, g', c', F, _, _, rfl, HNF.out 1 (by omega), HT.out⟩
                · obtain ⟨k1, -, k2, -, k3⟩ := HT.out.gcell (i := F.length) (p := (.slice none 0 0, ⟨1, -1, []⟩)) (by simp)
                  have k4 : wc.cell? ⟨gv, 4, none⟩ = some (.slice (some ⟨g', 0, none⟩) (F.length + 1) c') := HT.out.b.cellv 4 rfl
                  have hlt : (F.length : Int) < (F.length : Int) + 1 := by omega
                  have hF0 : (0 : Int) ≤ (F.length : Int) := by omega
                  go_wp2_with fail
                  go_meet
                  refine ⟨vW, g', c', F, .slice none 0 0, ⟨5, -1, []⟩, rfl, HNF.out 5 (by omega), ?_⟩
                  have h3 := VrB.setG (F' := F ++ [((.slice none 0 0 : Value), (⟨5, -1, []⟩ : Gr))]) HT.out (m := F.length * 3) (u := .int .i64 5) (by simp) (gsC_set0 F _ ⟨1, -1, []⟩ 5) (by simp)
                  have h4 : (vrVw G (F ++ [((.slice none 0 0 : Value), (⟨5, -1, []⟩ : Gr))])).rootsL = (vrVw G (F ++ [((.slice none 0 0 : Value), (⟨1, -1, []⟩ : Gr))])).rootsL := by unfold Vw.rootsL; rw [said_new, said_new]
                  have h5 : ∀ W, famL vG G vW W (F ++ [((.slice none 0 0 : Value), (⟨5, -1, []⟩ : Gr))]) = famL vG G vW W (F ++ [((.slice none 0 0 : Value), (⟨1, -1, []⟩ : Gr))]) := fun W => by rw [famL_snoc, famL_snoc]
                  unfold VrI; rw [h4, h5]; exact h3
            · have h16a : ((i : Int) % 16 == 0) = false := by rw [beq_eq_false_iff_ne]; omega
              have h16b : (i % 16 == 0) = false := by rw [beq_eq_false_iff_ne]; exact h16
              have hFj : F.length = j + 1 := by omega
              obtain ⟨F0, ⟨s, g⟩, rfl⟩ : ∃ F0 p, F = F0 ++ [p] := by
                rcases List.eq_nil_or_concat F with h | ⟨F0, p, h⟩
                · rw [h] at hFj; simp at hFj
                · exact ⟨F0, p, by rw [h, List.concat_eq_append]⟩
              obtain rfl : F0.length = j := by simpa using hFj
              obtain ⟨gG, cG, rfl⟩ : ∃ gG cG, vGs = .slice (some ⟨gG, 0, none⟩) (F0.length + 1) cG := by
                rcases I.gsl with ⟨c, _, h⟩ | ⟨gG, c, h⟩
                · simp at h
                · exact ⟨gG, c, by rw [h]; simp⟩
              have HI2 := Lib.hid (And.intro I hN); clear I hN hFl h16 hFj
              go_wp2_with fail
              go_meet
              exact ⟨vW, gG, cG, F0, s, g, rfl, HI2.out.2, HI2.out.1⟩
          case rest =>
            clear I hN hFl i0
            obtain ⟨vW, gG, cG, F, s, g, rfl, hN, I⟩ := hcut
            have i0 := I.c.cellv HQ.out.2.1 (by simp) HQ.out.2.2
            have hf := famL_get vG G vW (vrVw G (F ++ [(s, g)])).rootsL F (s, g)
            have OS : OwnI 3 wc s g.stack := I.fam.own _ _ hf
            obtain ⟨As, cs, rfl⟩ := OS.slice
            obtain ⟨k0, k1, k2, k3, k5⟩ := I.gcell (i := F.length) (p := (.slice As g.stack.length cs, g)) (by simp)
            have k4 : wc.cell? ⟨gv, 4, none⟩ = some (.slice (some ⟨gG, 0, none⟩) (F.length + 1) cG) := I.b.cellv 4 rfl
            have k6 := I.b.lt
            have hlt : (F.length : Int) < (F.length : Int) + 1 := by omega
            have hF0 : (0 : Int) ≤ (F.length : Int) := by omega
            have hw1 : IntKind.i64.wrap (F.length : Int) = (F.length : Int) := by rw [IntKind.wrap_i64]; omega
            have hgs : g.stack.length ≤ 80 := by have := (hN.f _ (List.mem_append_right _ (List.mem_singleton_self _))).2.1; simp at this; omega
            have hqw : WfI q := ⟨by omega, by omega⟩
            have HI2 := Lib.hid (And.intro I (And.intro hN (And.intro hf OS))); clear I hN hf OS
            go_upto_region 20 with fail
            rw [HQ.out.1]
            clear i0 k2
            obtain ⟨wy, rfl⟩ : ∃ wy : World, wy = wc := ⟨_, rfl⟩
            go_cut [] from 81 to 96 (fun wc => ∃ A3 c3, VrI w gv gw vG G vW (vrVw G (F ++ [((.slice As g.stack.length cs : Value), g)])).rootsL (.slice (some ⟨gG, 0, none⟩) (F.length + 1) cG) (F ++ [((.slice A3 (g.stack.length + 1) c3 : Value), { g with stack := g.stack ++ [q] })]) wc)
            case first =>
              go_region_law (refine step_cat_n (by rfl) _ _ (by rfl) slty (by rfl) (by first | exact OwnI.alloc HI2.out.2.2.2 _ | exact (OwnI.alloc HI2.out.2.2.2 _).drew) (by rfl) (by first | exact SlI.one (Blk.new _ _ _) hqw | exact SlI.one (Blk.new _ _ _).drew hqw) (g.stack.length + 1) (by simp) (by omega) ?_; intro A3 c3 w3 O3 S3; have I3 := VrB.up (VrI.chg0 HI2.out.1 (by first | exact ((Chg.refl [] wy).alloc _) | exact ((Chg.refl [] wy).alloc _).drew)) HI2.out.2.2.1 O3 S3; obtain ⟨-, y1, -, y3, -⟩ := VrB.gcell I3 (i := F.length) (p := (.slice As g.stack.length cs, g)) (by simp); have y4 : w3.cell? ⟨gv, 4, none⟩ = some (.slice (some ⟨gG, 0, none⟩) (F.length + 1) cG) := I3.b.cellv 4 rfl)
              all_goals
                have J3 := VrB.setG (F' := F ++ [((.slice A3 (g.stack.length + 1) c3 : Value), { g with stack := g.stack ++ [q] })]) I3 (m := F.length * 3 + 2) (u := .slice A3 (g.stack.length + 1) c3) (by simp; omega) (gsC_set2 F _ g _ (g.stack ++ [q])) (by simp)
                have ef : (famL vG G vW (vrVw G (F ++ [((.slice As g.stack.length cs : Value), g)])).rootsL (F ++ [((.slice As g.stack.length cs : Value), g)])).set (F.length + 2) ((.slice A3 (g.stack.length + 1) c3 : Value), g.stack ++ [q]) = famL vG G vW (vrVw G (F ++ [((.slice As g.stack.length cs : Value), g)])).rootsL (F ++ [((.slice A3 (g.stack.length + 1) c3 : Value), { g with stack := g.stack ++ [q] })]) :=
                  famL_set vG G vW _ F (.slice As g.stack.length cs, g) (.slice A3 (g.stack.length + 1) c3, { g with stack := g.stack ++ [q] })
                rw [ef] at J3
                go_wp2_with fail
                go_meet
                exact ⟨_, _, J3⟩
            case rest =>
              clear k0 k1 k3 k4 k5
              obtain ⟨A3, c3, J3⟩ := hcut
              have hN3 : VrN G (F ++ [((.slice A3 (g.stack.length + 1) c3 : Value), { g with stack := g.stack ++ [q] })]) (i + 1) := ⟨HI2.out.2.1.g, fun p hp => by
                rcases List.mem_append.1 hp with h | h
                · exact (HI2.out.2.1.mono (Nat.le_succ i)).f p (List.mem_append_left _ h)
                · obtain ⟨n1, n2, n3, n4⟩ := HI2.out.2.1.f (.slice As g.stack.length cs, g) (by simp)
                  rw [List.mem_singleton.1 h]
                  refine ⟨fun y hy => ?_, by simp at n2 ⊢; omega, n3, n4⟩
                  rcases List.mem_append.1 hy with h5 | h5
                  · exact n1 y h5
                  · rw [List.mem_singleton.1 h5]; exact hq1⟩
              have hsd := said_put G F (.slice As g.stack.length cs) (.slice A3 (g.stack.length + 1) c3) g q
              have hro := roots_le HI2.out.2.1
              go_upto_region 21 with fail
              have H3 := Lib.hid (And.intro J3 (And.intro hN3 (And.intro hsd hro))); clear J3 hN3 hsd hro
              obtain ⟨m0, -, m2, -, m5⟩ := H3.out.1.gcell (i := F.length) (p := ((.slice A3 (g.stack.length + 1) c3 : Value), { g with stack := g.stack ++ [q] })) (by simp)
              have m4 : wc.cell? ⟨gv, 4, none⟩ = some (.slice (some ⟨gG, 0, none⟩) (F.length + 1) cG) := H3.out.1.b.cellv 4 rfl
              have m0' : wc.cell? ⟨gG, F.length * 3, none⟩ = some (.int .i64 g.state) := m0
              clear m0 m2
              by_cases hst : g.state = 5
              · have hq5 : (g.state != 5) = false := by rw [bne_eq_false_iff_eq]; exact hst
                have er : (vrVw G (F ++ [((.slice A3 (g.stack.length + 1) c3 : Value), { g with stack := g.stack ++ [q] })])).rootsL = (vrVw G (F ++ [((.slice As g.stack.length cs : Value), g)])).rootsL := by unfold Vw.rootsL; rw [H3.out.2.2.1, if_pos hst, List.append_nil]
                have HE := Lib.hid er; clear er hst
                go_wp2_with fail
                go_roundg (ys.length - i)
                case measure => omega
                case rel => exact ⟨i + 1, vW, _, _, by omega, by omega, by go_num, by simp; omega, H3.out.2.1, by rw [HE.out]; exact H3.out.1⟩
              · have hq5 : (g.state != 5) = true := by rw [bne_iff_ne]; exact hst
                have er : (vrVw G (F ++ [((.slice A3 (g.stack.length + 1) c3 : Value), { g with stack := g.stack ++ [q] })])).rootsL = addOnce (vrVw G (F ++ [((.slice As g.stack.length cs : Value), g)])).rootsL q := by unfold Vw.rootsL; rw [H3.out.2.2.1, if_neg hst, List.foldl_append]; rfl
                have HE := Lib.hid er; clear er hst
                go_wp2_with fail
                refine (vadd_ok q H3.out.1 (by have := H3.out.2.2.2; omega)).mono ?_
                rintro e w5 ⟨rfl, vW', I5⟩
                have H5 := Lib.hid I5; clear I5 m0' m4 m5
                go_wp2_with fail
                go_roundg (ys.length - i)
                case measure => omega
                case rel => exact ⟨i + 1, vW', _, _, by omega, by omega, by go_num, by simp; omega, H3.out.2.1, by rw [HE.out]; exact H5.out⟩
        · have hi' : ¬ (i : Int) < (ys.length : Int) := by omega
          have hF6 : F.length ≤ 6 := by omega
          have hN8 := hN.mono (m := 80) (by omega)
          have HX := Lib.hid (And.intro I (And.intro hN8 (And.intro (hN8.few hGn (by omega)) hF6))); clear I hN hN8 hF6 e hgk hin hFl
          go_upto_region 23 with fail
          obtain ⟨AW, cW, rfl⟩ := HX.out.1.ownW.slice
          have k1 : Chg [] wr wr := Chg.refl [] wr
          have KV := Lib.hid (fun (W : World) (c : Chg [] wr W) => (show VwAt W W.heap.size (.agg #[.int .i64 0, .int .i64 0, .int .i64 0, vG, vGs, .slice none 0 0, .int .i64 0, .int .i64 0, .int .i64 0]) (vrVw G F) from VrB.vw (HX.out.1.chg0 c) HX.out.2.1 hGn (by have := HX.out.2.2.2; omega)))
          have KC := Lib.hid (fun (W : World) (c : Chg [] wr W) => vrS_of HX.out.1 c)
          obtain ⟨z0, z1, z2, z3, z4, z5, z6, z7, z8, zw, -⟩ := KC.out wr k1
          go_region_held3 (fun w' => w'.cell? ⟨gv, 0, none⟩ = some (.int .i64 0) ∧ w'.cell? ⟨gv, 1, none⟩ = some (.int .i64 0) ∧ w'.cell? ⟨gv, 2, none⟩ = some (.int .i64 0) ∧ w'.cell? ⟨gv, 3, none⟩ = some vG ∧ w'.cell? ⟨gv, 4, none⟩ = some vGs ∧ w'.cell? ⟨gv, 5, none⟩ = some (.slice none 0 0) ∧ w'.cell? ⟨gv, 6, none⟩ = some (.int .i64 0) ∧ w'.cell? ⟨gv, 7, none⟩ = some (.int .i64 0) ∧ w'.cell? ⟨gv, 8, none⟩ = some (.int .i64 0) ∧ w'.cell? ⟨gw, 0, none⟩ = some (.slice AW (vrVw G F).rootsL.length cW) ∧ Chg [] wr w') ((refine KC.out _ ?_; (first | assumption | exact Chg.refl _ _ | exact (Chg.refl _ _).drew)))
            (first | (go_at_call 13; (with_reducible refine (told_ok _).mono ?_); rintro e xt ⟨rfl, Ct⟩; have Dxt : Chg [] wr xt := Chg.trans (by (first | assumption | exact Chg.refl _ _ | exact (Chg.refl _ _).drew)) Ct) | (go_at_call 14; (with_reducible refine (ints_eq Op1.rd Oq1.rd rfl).mono ?_); rintro e xi ⟨rfl, Ci⟩; have Dxi : Chg [] wr xi := Chg.trans (by (first | assumption | exact Chg.refl _ _ | exact (Chg.refl _ _).drew)) Ci) | (go_at_call 19; (with_reducible refine (roots_ok _ _ (vrVw G F) (KV.out _ (by (first | assumption | exact Chg.refl _ _ | exact (Chg.refl _ _).drew))) HX.out.2.2.1).mono ?_); rintro e x3 ⟨v3, rfl, Op1, C3, F3⟩; obtain ⟨Aa3, ka3, rfl⟩ := Op1.slice; have Dx3 : Chg [] wr x3 := Chg.trans (by (first | assumption | exact Chg.refl _ _ | exact (Chg.refl _ _).drew)) C3; have Oq1 := HX.out.1.ownW.chg0 Dx3) | (go_at_call 17; (with_reducible refine (reach_ok _ _ (vrVw G F) (KV.out _ (by (first | assumption | exact Chg.refl _ _ | exact (Chg.refl _ _).drew))) HX.out.2.2.1).mono ?_); rintro e x5 ⟨l5, h5, v5, rfl, O5, C5, F5⟩; obtain rfl := vr_reach h5; obtain ⟨Aa5, ka5, rfl⟩ := O5.slice; have Dx5 : Chg [] wr x5 := Chg.trans (by (first | assumption | exact Chg.refl _ _ | exact (Chg.refl _ _).drew)) C5) | (go_at_call 18; (with_reducible refine (lost_ok _ _ (vrVw G F) (KV.out _ (by (first | assumption | exact Chg.refl _ _ | exact (Chg.refl _ _).drew))) HX.out.2.2.1).mono ?_); rintro e x9 ⟨l9, h9, v9, rfl, O9, C9, F9⟩; obtain ⟨Aa9, ka9, rfl⟩ := O9.slice; rw [vr_lost h9]; have Dx9 : Chg [] wr x9 := Chg.trans (by (first | assumption | exact Chg.refl _ _ | exact (Chg.refl _ _).drew)) C9))
          have HD := Lib.hid ‹Chg [] wr x9›
          go_wp2_with fail
          go_ret
          exact ⟨rfl, HX.out.1.c.trans HD.out⟩
end Go.Proofs.Ytfkgooliglcjkaa
