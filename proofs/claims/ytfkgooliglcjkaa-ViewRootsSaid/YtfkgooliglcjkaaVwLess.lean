/- The walk of ViewLess. -/
import Derived.Test.YtfkgooliglcjkaaVwFew
import Derived.Test.YtfkgooliglcjkaaVwBuild
import Derived.Test.YtfkgooliglcjkaaVwLessLaw
import Derived.Test.YtfkgooliglcjkaaOwnI3
namespace Go.Proofs.Ytfkgooliglcjkaa
open Go.RowKit Go.Maps

theorem VwAt.box {w : World} {V : Vw} {A0 : Option Addr} {c0 : Nat} {A1 : Option Addr} {c1 : Nat} {A2 : Option Addr} {c2 b : Nat} (h : Blk w b 26 (vwBox V A0 c0 A1 c1 A2 c2)) :
    w.cell? ⟨b, 0, none⟩ = some (.int .i64 V.phase) ∧ w.cell? ⟨b, 1, none⟩ = some (.int .i64 V.cycle) ∧ w.cell? ⟨b, 2, none⟩ = some (.int .i64 V.clock) ∧ w.cell? ⟨b, 3, none⟩ = some (.slice A0 V.globals.length c0) ∧ w.cell? ⟨b, 4, none⟩ = some (.slice A1 V.gs.length c1) ∧
    w.cell? ⟨b, 5, none⟩ = some (.slice A2 V.objects.length c2) ∧ w.cell? ⟨b, 6, none⟩ = some (.int .i64 V.grey) ∧ w.cell? ⟨b, 7, none⟩ = some (.int .i64 V.notes) ∧ w.cell? ⟨b, 8, none⟩ = some (.int .i64 V.roots) :=
  ⟨h.cellv 0 rfl, h.cellv 1 rfl, h.cellv 2 rfl, h.cellv 3 rfl, h.cellv 4 rfl, h.cellv 5 rfl, h.cellv 6 rfl, h.cellv 7 rfl, h.cellv 8 rfl⟩
def lvCells (V : Vw) (vg vs vo : Value) : Array Value := #[.int .i64 V.phase, .int .i64 V.cycle, .int .i64 V.clock, vg, vs, vo, .int .i64 V.grey, .int .i64 V.notes, .int .i64 V.roots]
structure BdV (w0 : World) (B gv : Nat) (V : Vw) (vg vs vo : Value) (os : List Ob) (w : World) : Prop where
  b : Blk w gv 26 (lvCells V vg vs vo)
  o : OwnO w B vo os
  c : Chg [] w0 w
  fo : ∀ k ∈ fpv vo, w0.heap.size ≤ k
  fv : w0.heap.size ≤ gv
section
variable {w0 w w' : World} {B gv : Nat} {V : Vw} {vg vs vo v' : Value} {os : List Ob}
theorem BdV.chg (h : BdV w0 B gv V vg vs vo os w) (c : Chg [] w w') : BdV w0 B gv V vg vs vo os w' := ⟨c.blk h.b (by simp), h.o.chg0 c, h.c.trans c, h.fo, h.fv⟩
theorem BdV.putO {os' : List Ob} (h : BdV w0 B gv V vg vs vo os w) (O : OwnO w' B v' os') (S : Stp (fpv vo) (fpv v') w w') : BdV w0 B gv V vg vs v' os' (w'.setCell ⟨gv, 5, none⟩ v') := by
  have hb := S.c.blk h.b (h.o.ne_blk h.b (by decide))
  have C : Chg [gv] w' (w'.setCell ⟨gv, 5, none⟩ v') := (Chg.refl [gv] w').setCell (.inl (by simp)) v'
  refine ⟨hb.setv 5 v' rfl, O.chgT C hb (by decide) (by decide), (h.c.new S.c h.fo).new C (by intro k hk; have := only1 hk; subst this; exact h.fv), fun k hk => ?_, h.fv⟩
  rcases S.f k hk with h1 | h1
  · exact h.fo k h1
  · exact Nat.le_trans h.c.size h1
theorem BdV.fin {vg' : Value} (h : BdV w0 B gv V vg vs vo os w) (c : Chg [gv] w w') (hb : Blk w' gv 26 (lvCells V vg' vs vo)) : BdV w0 B gv V vg' vs vo os w' :=
  ⟨hb, h.o.chgT c h.b (by decide) (by decide), h.c.new c (by intro k hk; have := only1 hk; subst this; exact h.fv), h.fo, h.fv⟩
theorem BdV.cells (h : BdV w0 B gv V vg vs vo os w) : w.cell? ⟨gv, 0, none⟩ = some (.int .i64 V.phase) ∧ w.cell? ⟨gv, 1, none⟩ = some (.int .i64 V.cycle) ∧ w.cell? ⟨gv, 2, none⟩ = some (.int .i64 V.clock) ∧ w.cell? ⟨gv, 3, none⟩ = some vg ∧ w.cell? ⟨gv, 4, none⟩ = some vs ∧
    w.cell? ⟨gv, 5, none⟩ = some vo ∧ w.cell? ⟨gv, 6, none⟩ = some (.int .i64 V.grey) ∧ w.cell? ⟨gv, 7, none⟩ = some (.int .i64 V.notes) ∧ w.cell? ⟨gv, 8, none⟩ = some (.int .i64 V.roots) :=
  ⟨h.b.cellv 0 rfl, h.b.cellv 1 rfl, h.b.cellv 2 rfl, h.b.cellv 3 rfl, h.b.cellv 4 rfl, h.b.cellv 5 rfl, h.b.cellv 6 rfl, h.b.cellv 7 rfl, h.b.cellv 8 rfl⟩
end
structure LsO (V : Vw) (os : List Ob) : Prop where
  l : LessOs V.objects os
  w : ∀ o ∈ os, WfI o.addr ∧ ∀ x ∈ o.slots, WfI x
  n : ∀ o ∈ os, o.slots.length ≤ 300
theorem LsO.snoc {V : Vw} {os : List Ob} {o : Ob} {ys : List Int} (h : LsO V os) (ho : V.objects[os.length]? = some o) (hl : ys.length = o.slots.length) (hy : ∀ x ∈ ys, x = 0 ∨ x ∈ o.slots) (h1 : WfI o.addr) (h2 : ∀ x ∈ o.slots, WfI x) (h3 : o.slots.length ≤ 300) : LsO V (os ++ [⟨o.addr, ys, true⟩]) := by
  refine ⟨h.l.snoc ho ⟨rfl, rfl, hl, hy⟩, fun a ha => ?_, fun a ha => ?_⟩
  · rcases List.mem_append.1 ha with h4 | h4
    · exact h.w a h4
    · have e := List.mem_singleton.1 h4
      subst e
      refine ⟨h1, fun x hx => ?_⟩
      rcases hy x hx with h5 | h5
      · subst h5; exact ⟨by decide, by decide⟩
      · exact h2 x h5
  · rcases List.mem_append.1 ha with h4 | h4
    · exact h.n a h4
    · have e := List.mem_singleton.1 h4
      subst e
      show ys.length ≤ 300
      omega
def LsRel (w0 : World) (gv : Nat) (V : Vw) (vg vs : Value) (gk : Nat) (idx : Value) (w : World) : Prop :=
  ∃ i os v, gk + i = V.objects.length + 1 ∧ i ≤ V.objects.length ∧ idx = .int .i64 (i : Nat) ∧ os.length = i ∧ LsO V os ∧ BdV w0 gv gv V vg vs v os w
def LnRel (w0 : World) (n : Nat) (gk : Nat) (idx : Value) (w : World) : Prop := ∃ i, gk + i = n + 1 ∧ i ≤ n ∧ idx = .int .i64 (i : Nat) ∧ Chg [] w0 w
def lsV (V : Vw) (gl : List Int) (os : List Ob) : Vw := { V with globals := gl, objects := os }
theorem ls_few {V : Vw} {gl : List Int} {os : List Ob} (h : FewV V) (hg : gl.length ≤ 40) (hl : os.length = V.objects.length) (ho : LsO V os) : FewV (lsV V gl os) :=
  ⟨by show os.length ≤ 40; have := h.o; omega, ho.n, h.g, h.t, hg⟩
theorem ls_less {V : Vw} {gl : List Int} {os : List Ob} (hg : ∀ x ∈ gl, x = 0 ∨ x ∈ V.globals) (hl : os.length = V.objects.length) (ho : LsO V os) : LessV V (lsV V gl os) := by
  refine ⟨hl, ho.l, fun x hx => ?_⟩
  unfold Vw.said lsV at hx
  rcases List.mem_append.1 hx with h1 | h1
  · rcases hg x h1 with h2 | h2
    · exact .inl h2
    · exact .inr (by unfold Vw.said; exact List.mem_append_left _ h2)
  · exact .inr (by unfold Vw.said; exact List.mem_append_right _ h1)
theorem ls_vw {w0 W : World} {B gv : Nat} {V : Vw} {vg vo : Value} {gl : List Int} {os : List Ob} {A1 : Option Addr} {c1 : Nat} {v : Value} {B0 : Nat} {w : World} (h : VwAt w B0 v V) (I : BdV w0 B gv V vg (.slice A1 V.gs.length c1) vo os W) (hs : SlI W W.heap.size vg gl) (hg : GrsAt W W.heap.size A1 V.gs) (hf : FewV V) (hl : os.length = V.objects.length) (ho : LsO V os) :
    VwAt W W.heap.size (.agg (lvCells V vg (.slice A1 V.gs.length c1) vo)) (lsV V gl os) := by
  obtain ⟨A, c, rfl⟩ := I.o.slice
  have hm : (1000000 : Nat) ≤ maxLen := by decide
  refine ⟨⟨vg, A1, c1, A, c, rfl, hs, hg, I.o.obs ho.w (fun o hx => Nat.le_trans (ho.n o hx) (by decide)), ?_, ?_⟩, h.wf⟩
  · have := hf.g; show V.gs.length ≤ maxLen; omega
  · have := hf.o; show os.length ≤ maxLen; omega
set_option maxHeartbeats 6400000 in
set_option maxRecDepth 100000 in
theorem less_any (v : Value) (V : Vw) (P S : Int) (w : World) (h : VwAt w w.heap.size v V) : Calls Try.prog 5 #[v, .int .i64 P, .int .i64 S] w (TdPost w) := by
  have HV := Lib.hid h
  obtain ⟨g, A1, c1, A2, c2, rfl, h1, h2, h3, h4, h5⟩ := h.ex
  obtain ⟨A0, c0, rfl⟩ := h1.ex
  have C1 := (Chg.refl [] w).alloc (.cells (vwBox V A0 c0 A1 c1 A2 c2) 26)
  have B1 := Blk.new w 26 (vwBox V A0 c0 A1 c1 A2 c2)
  have HS := Lib.hid (And.intro h1 (And.intro h2 h3))
  have HB := Lib.hid (And.intro C1 B1); clear C1 B1 h h1 h2 h3 h4 h5
  go_enter Try.func5, Try.ntmps5
  obtain ⟨b0, b1, b2, b3, b4, b5, b6, b7, b8⟩ := VwAt.box HB.out.2
  go_wp2_with fail
  refine (few_ok _ _ V ((HV.out.chg HB.out.1 (Nat.le_refl _) (by simp)).mono HB.out.1.size)).mono ?_
  rintro e w1 ⟨b, rfl, hf, C1⟩
  have D1 := HB.out.1.trans C1
  have K1 := C1.blk HB.out.2 (by simp)
  have H1 := Lib.hid (And.intro D1 (And.intro K1 hf)); clear D1 K1 hf C1 HB b0 b1 b2 b3 b4 b5 b6 b7 b8
  cases b
  · go_wp2_with fail
    refine (told_ok _).mono ?_
    rintro e w2 ⟨rfl, C2⟩
    have C := H1.out.1.trans C2
    go_wp2_with fail
    go_ret
    exact ⟨rfl, C⟩
  have hfew := H1.out.2.2 rfl
  have hn := hfew.o
  have HF := Lib.hid hfew; clear hfew
  obtain ⟨b0, b1, b2, b3, b4, b5, b6, b7, b8⟩ := VwAt.box H1.out.2.1
  go_wp2_with fail
  refine (reach_ok _ _ V ((HV.out.chg H1.out.1 (Nat.le_refl _) (by simp)).mono H1.out.1.size) HF.out.small).mono ?_
  rintro e w2 ⟨l, hr, v2, rfl, O2, C2, F2⟩
  obtain ⟨A7, c7, rfl⟩ := O2.slice
  have D2 := H1.out.1.trans C2
  have K2 := C2.blk H1.out.2.1 (by simp)
  have H2 := Lib.hid (And.intro D2 (And.intro K2 (And.intro hr O2))); clear D2 K2 C2 F2 O2 hr H1 b0 b1 b2 b3 b4 b5 b6 b7 b8
  obtain ⟨b0, b1, b2, b3, b4, b5, b6, b7, b8⟩ := VwAt.box H2.out.2.1
  have hlt := H2.out.2.1.lt
  go_upto_region 6 with fail
  have B0 : BdV w2 w2.heap.size w2.heap.size V (.slice A0 V.globals.length c0) (.slice A1 V.gs.length c1) (.slice none 0 0) [] (w2.alloc (.cells (lvCells V (.slice A0 V.globals.length c0) (.slice A1 V.gs.length c1) (.slice none 0 0)) 26)) :=
    ⟨Blk.new _ _ _, OwnO.nil _ _, (Chg.refl [] w2).alloc _, by simp [fpv, Value.ownBlock], Nat.le_refl _⟩
  have CW := (Chg.refl [] w2).alloc (.cells (lvCells V (.slice A0 V.globals.length c0) (.slice A1 V.gs.length c1) (.slice none 0 0)) 26)
  have HB0 := Lib.hid B0; clear B0
  clear b0 b1 b2 b3 b4 b5 b6 b7 b8
  unfold lvCells at HB0 CW
  generalize (w2.alloc (.cells #[.int .i64 V.phase, .int .i64 V.cycle, .int .i64 V.clock, .slice A0 V.globals.length c0, .slice A1 V.gs.length c1, .slice none 0 0, .int .i64 V.grey, .int .i64 V.notes, .int .i64 V.roots] 26)) = W at HB0 CW ⊢
  generalize hgv : w2.heap.size = gv at HB0 ⊢
  have hgv' := Lib.hid hgv; clear hgv
  have hCW := Lib.hid CW; clear CW
  obtain ⟨b0, b1, b2, b3, b4, b5, b6, b7, b8⟩ := VwAt.box (hCW.out.blk H2.out.2.1 (by simp))
  go_upto_if 25 with fail
  generalize hbb : decide (0 < V.objects.length) = bb
  have hB := Lib.hid hbb; clear hbb
  go_cut [9] from 26 to 33 (fun v9 wc => ∃ p : Nat, v9 = .int .i64 (p : Nat) ∧ p ≤ 40 ∧ wc = W)
  case first =>
    cases bb
    · go_wp2_with fail
      go_meet
      exact ⟨0, rfl, by omega, rfl⟩
    · have h0 := of_decide_eq_true hB.out
      have h0' : (0 : Int) < (V.objects.length : Int) := by omega
      obtain ⟨p, hp, ep⟩ := mod_n P V.objects.length h0 (by omega)
      have hu : IntKind.u64.wrap (V.objects.length : Int) = (V.objects.length : Int) := by rw [IntKind.wrap_u64]; omega
      have hz : ¬ V.objects.length = 0 := by omega
      have hz2 : ¬ V.objects = [] := by intro e; rw [e] at h0; simp at h0
      have EP := Lib.hid ep; clear ep
      go_wp2_with fail
      go_meet
      exact ⟨p, by rw [EP.out], by omega, rfl⟩
  case rest =>
    obtain ⟨p, rfl, hp, rfl⟩ := hcut
    clear b0 b1 b2 b3 b4 b5 b6 b7 b8
    go_wp2_with fail
    go_loopg [10] (V.objects.length + 1) (fun gk idx wr => LsRel w2 gv V (.slice A0 V.globals.length c0) (.slice A1 V.gs.length c1) gk idx wr)
    case atStart => exact ⟨0, [], _, by omega, by omega, rfl, rfl, ⟨⟨by simp⟩, by simp, by simp⟩, HB0.out⟩
    case round =>
      obtain ⟨i, os, vo, hgk, hin, rfl, hol, hls, I⟩ := hrel
      obtain ⟨A, cc, rfl⟩ := I.o.slice
      have hol' := Lib.hid hol; clear hol
      have HI := Lib.hid (And.intro I hls); clear I hls
      obtain ⟨b0, b1, b2, b3, b4, b5, b6, b7, b8⟩ := VwAt.box (HI.out.1.c.blk H2.out.2.1 (by simp))
      by_cases e : i < V.objects.length
      · obtain ⟨o, ho⟩ : ∃ o, V.objects[i]? = some o := ⟨_, List.getElem?_eq_getElem e⟩
        obtain ⟨b, off, s, rfl, hbb, i0, i1, i2, hsl, hwa⟩ := (HS.out.2.2.chg (H2.out.1.trans HI.out.1.c) (Nat.le_refl _) (by simp)).at_ i o ho
        obtain ⟨As, cs, rfl⟩ := hsl.ex
        have hi' : (i : Int) < (V.objects.length : Int) := by omega
        have hso := HF.out.s o (List.mem_of_getElem? ho)
        have HX := Lib.hid (And.intro ho (And.intro hsl hwa)); clear ho hsl hwa hbb
        go_upto_region 14 with fail
        have C1 := (Chg.refl [] wr).alloc (.cells #[.int .i64 o.addr, .slice As o.slots.length cs, .bool true] 30)
        have B1 := Blk.new wr 30 #[.int .i64 o.addr, .slice As o.slots.length cs, .bool true]
        have hgo : gv < wr.heap.size := HI.out.1.b.lt
        generalize (wr.alloc (.cells #[.int .i64 o.addr, .slice As o.slots.length cs, .bool true] 30)) = W1 at C1 B1 ⊢
        generalize hgo' : wr.heap.size = go at B1 hgo ⊢
        have H3 := Lib.hid (And.intro C1 (And.intro B1 hgo')); clear C1 B1 hgo'
        have d1 : W1.cell? ⟨go, 1, none⟩ = some (.slice As o.slots.length cs) := H3.out.2.1.cellv 1 rfl
        have d2 : (W1.alloc (.cells #[] 3)).cell? ⟨go, 1, none⟩ = some (.slice As o.slots.length cs) := (H3.out.2.1.alloc _).cellv 1 rfl
        have d3 := H3.out.2.1.lt
        have hsl' := (HX.out.2.1).chg (H3.out.1) (Nat.le_trans (Nat.le_refl _) (H2.out.1.trans HI.out.1.c).size) (by simp)
        have hbl : w.heap.size ≤ W1.heap.size := ((H2.out.1.trans HI.out.1.c).trans H3.out.1).size
        go_wp2_with (at_builtin; refine wpList_copy_sl rfl _ _ rfl slty rfl rfl hsl' hbl (by omega) ?_)
        intro A' c' w' O' S'
        clear hsl' d1 d2
        have S0 : Chg [] W1 w' := S'.c
        have K3 := S0.blk H3.out.2.1 (by simp)
        have e1 : w'.cell? ⟨go, 1, none⟩ = some (.slice As o.slots.length cs) := K3.cellv 1 rfl
        have e2 := K3.frozen 1
        go_upto_region 15 with fail
        have CA : Chg [] wr (w'.setCell ⟨go, 1, none⟩ (.slice A' o.slots.length c')) := (H3.out.1.trans S0).setCell (.inr (by have := H3.out.2.2; simp; omega)) _
        have BA : Blk (w'.setCell ⟨go, 1, none⟩ (.slice A' o.slots.length c')) go 30 #[.int .i64 o.addr, .slice A' o.slots.length c', .bool true] := K3.setv 1 _ rfl
        have OA : OwnI 3 (w'.setCell ⟨go, 1, none⟩ (.slice A' o.slots.length c')) (.slice A' o.slots.length c') o.slots :=
          O'.chg ((Chg.refl [go] w').setCell (.inl (by simp)) _) (fun k hk hm => by have := only1 hm; subst this; exact O'.ne_blk K3 (by decide) hk)
        have FA : ∀ k ∈ fpv (.slice A' o.slots.length c'), wr.heap.size ≤ k := fun k hk => by
          rcases S'.f k hk with h1 | h1
          · simp at h1
          · have := H3.out.1.size; omega
        generalize (w'.setCell ⟨go, 1, none⟩ (.slice A' o.slots.length c')) = W2 at CA BA OA ⊢
        have H4 := Lib.hid (And.intro CA (And.intro BA (And.intro OA FA))); clear CA BA OA FA O' S' S0 K3 e1 e2 d3
        have e1 : W2.cell? ⟨go, 1, none⟩ = some (.slice A' o.slots.length c') := H4.out.2.1.cellv 1 rfl
        by_cases hip : i = p
        · have hip1 : ((i : Int) == (p : Int)) = true := by rw [beq_iff_eq]; omega
          have hip2 : (i == p) = true := by rw [beq_iff_eq]; exact hip
          clear hip
          by_cases h0 : 0 < o.slots.length
          · have h0' : (0 : Int) < (o.slots.length : Int) := by omega
            have h0'' : decide (0 < o.slots.length) = true := decide_eq_true h0
            obtain ⟨q, hq, eq0⟩ := mod_n S o.slots.length h0 (by omega)
            have eq1 : wrap64 ((IntKind.u64.wrap S).tmod (o.slots.length : Int)) = (q : Int) := eq0
            have hu : IntKind.u64.wrap (o.slots.length : Int) = (o.slots.length : Int) := by rw [IntKind.wrap_u64]; omega
            have hz : ¬ o.slots.length = 0 := by omega
            have hz2 : ¬ o.slots = [] := by intro e; rw [e] at h0; simp at h0
            have hq' : (q : Int) < (o.slots.length : Int) := by omega
            obtain ⟨xq, hxq⟩ : ∃ x, o.slots[q]? = some x := ⟨_, List.getElem?_eq_getElem hq⟩
            obtain ⟨ga, rfl, q0, q1, -⟩ := H4.out.2.2.1.cell hxq
            clear eq0 hxq
            go_upto_region 16 with fail
            go_region
            go_upto_region 17 with fail
            have hga : wr.heap.size ≤ ga := H4.out.2.2.2 ga (by simp [fpv, Value.ownBlock])
            have hne : go ≠ ga := fun e => by subst e; exact H4.out.2.2.1.ne_blk H4.out.2.1 (by decide) (by simp [fpv, Value.ownBlock])
            clear q0 q1 eq1 hz hz2 hu h0 h0' h0'' hip1 hip2
            have CX : Chg [] wr ((W2.setCell ⟨ga, q, none⟩ (.int .i64 0)).drew) := (H4.out.1.setCell (.inr hga) _).drew
            have BX : Blk ((W2.setCell ⟨ga, q, none⟩ (.int .i64 0)).drew) go 30 #[.int .i64 o.addr, .slice (some ⟨ga, 0, none⟩) o.slots.length c', .bool true] := (H4.out.2.1.far hne _).drew
            obtain ⟨ys, OX, YL⟩ : ∃ ys : List Int, OwnI 3 ((W2.setCell ⟨ga, q, none⟩ (.int .i64 0)).drew) (.slice (some ⟨ga, 0, none⟩) o.slots.length c') ys ∧ (ys.length = o.slots.length ∧ ∀ x ∈ ys, x = 0 ∨ x ∈ o.slots) := ⟨o.slots.set q 0, ⟨(H4.out.2.2.1.set_ hq 0).o⟩, ⟨by simp, fun x hx => (List.mem_or_eq_of_mem_set hx).elim .inr .inl⟩⟩
            generalize ((W2.setCell ⟨ga, q, none⟩ (.int .i64 0)).drew) = W3 at CX BX OX ⊢
            have L3 := HI.out.2.snoc (by rw [hol'.out]; exact HX.out.1) YL.1 YL.2 HX.out.2.2 HX.out.2.1.wf hso
            have I3 := HI.out.1.chg CX
            have F3 : ∀ k ∈ fpv (.slice (some ⟨ga, 0, none⟩) o.slots.length c'), gv ≤ k := fun k hk => by have := H4.out.2.2.2 k hk; have := H3.out.2.2; omega
            have g5 : W3.cell? ⟨gv, 5, none⟩ = some (.slice A os.length cc) := I3.b.cellv 5 rfl
            have d0 := BX.cellv 0 rfl
            have d1 := BX.cellv 1 rfl
            have d2 := BX.cellv 2 rfl
            have H5 := Lib.hid (And.intro I3 (And.intro L3 (And.intro OX F3))); clear CX BX OX YL L3 I3 F3 e1
            go_wp2_with (at_builtin; refine wpList_push_ob (v := .slice A os.length cc) rfl _ _ rfl rfl H5.out.1.o (o := ⟨o.addr, ys, true⟩) rfl rfl H5.out.2.2.1 H5.out.2.2.2 (by have := hol'.out; omega) ?_)
            intro A9 c9 w9 O9 S9
            have P9 := H5.out.1.putO O9 S9
            have hb9 := S9.c.blk H5.out.1.b (H5.out.1.o.ne_blk H5.out.1.b (by decide))
            have H9 := Lib.hid P9; clear P9 O9 S9
            have g6 := hb9.cellv 5 rfl
            have f5 := hb9.frozen 5
            clear hb9 g5 d0 d1 d2
            go_wp2_with fail
            go_roundg (V.objects.length - i)
            case measure => omega
            case rel => exact ⟨i + 1, _, _, by omega, by omega, by go_num, by rw [List.length_append, List.length_singleton, hol'.out], H5.out.2.1, H9.out⟩
          · have h0'' : decide (0 < o.slots.length) = false := decide_eq_false h0
            clear h0
            go_upto_region 17 with fail
            clear h0'' hip1 hip2
            have CX : Chg [] wr (W2) := H4.out.1
            have BX : Blk (W2) go 30 #[.int .i64 o.addr, .slice (A') o.slots.length c', .bool true] := H4.out.2.1
            obtain ⟨ys, OX, YL⟩ : ∃ ys : List Int, OwnI 3 (W2) (.slice (A') o.slots.length c') ys ∧ (ys.length = o.slots.length ∧ ∀ x ∈ ys, x = 0 ∨ x ∈ o.slots) := ⟨o.slots, H4.out.2.2.1, ⟨rfl, fun x hx => .inr hx⟩⟩
            generalize (W2) = W3 at CX BX OX ⊢
            have L3 := HI.out.2.snoc (by rw [hol'.out]; exact HX.out.1) YL.1 YL.2 HX.out.2.2 HX.out.2.1.wf hso
            have I3 := HI.out.1.chg CX
            have F3 : ∀ k ∈ fpv (.slice (A') o.slots.length c'), gv ≤ k := fun k hk => by have := H4.out.2.2.2 k hk; have := H3.out.2.2; omega
            have g5 : W3.cell? ⟨gv, 5, none⟩ = some (.slice A os.length cc) := I3.b.cellv 5 rfl
            have d0 := BX.cellv 0 rfl
            have d1 := BX.cellv 1 rfl
            have d2 := BX.cellv 2 rfl
            have H5 := Lib.hid (And.intro I3 (And.intro L3 (And.intro OX F3))); clear CX BX OX YL L3 I3 F3 e1
            go_wp2_with (at_builtin; refine wpList_push_ob (v := .slice A os.length cc) rfl _ _ rfl rfl H5.out.1.o (o := ⟨o.addr, ys, true⟩) rfl rfl H5.out.2.2.1 H5.out.2.2.2 (by have := hol'.out; omega) ?_)
            intro A9 c9 w9 O9 S9
            have P9 := H5.out.1.putO O9 S9
            have hb9 := S9.c.blk H5.out.1.b (H5.out.1.o.ne_blk H5.out.1.b (by decide))
            have H9 := Lib.hid P9; clear P9 O9 S9
            have g6 := hb9.cellv 5 rfl
            have f5 := hb9.frozen 5
            clear hb9 g5 d0 d1 d2
            go_wp2_with fail
            go_roundg (V.objects.length - i)
            case measure => omega
            case rel => exact ⟨i + 1, _, _, by omega, by omega, by go_num, by rw [List.length_append, List.length_singleton, hol'.out], H5.out.2.1, H9.out⟩
        · have hip1 : ((i : Int) == (p : Int)) = false := by rw [beq_eq_false_iff_ne]; omega
          have hip2 : (i == p) = false := by rw [beq_eq_false_iff_ne]; exact hip
          clear hip
          go_upto_region 17 with fail
          clear hip1 hip2
          have CX : Chg [] wr (W2) := H4.out.1
          have BX : Blk (W2) go 30 #[.int .i64 o.addr, .slice (A') o.slots.length c', .bool true] := H4.out.2.1
          obtain ⟨ys, OX, YL⟩ : ∃ ys : List Int, OwnI 3 (W2) (.slice (A') o.slots.length c') ys ∧ (ys.length = o.slots.length ∧ ∀ x ∈ ys, x = 0 ∨ x ∈ o.slots) := ⟨o.slots, H4.out.2.2.1, ⟨rfl, fun x hx => .inr hx⟩⟩
          generalize (W2) = W3 at CX BX OX ⊢
          have L3 := HI.out.2.snoc (by rw [hol'.out]; exact HX.out.1) YL.1 YL.2 HX.out.2.2 HX.out.2.1.wf hso
          have I3 := HI.out.1.chg CX
          have F3 : ∀ k ∈ fpv (.slice (A') o.slots.length c'), gv ≤ k := fun k hk => by have := H4.out.2.2.2 k hk; have := H3.out.2.2; omega
          have g5 : W3.cell? ⟨gv, 5, none⟩ = some (.slice A os.length cc) := I3.b.cellv 5 rfl
          have d0 := BX.cellv 0 rfl
          have d1 := BX.cellv 1 rfl
          have d2 := BX.cellv 2 rfl
          have H5 := Lib.hid (And.intro I3 (And.intro L3 (And.intro OX F3))); clear CX BX OX YL L3 I3 F3 e1
          go_wp2_with (at_builtin; refine wpList_push_ob (v := .slice A os.length cc) rfl _ _ rfl rfl H5.out.1.o (o := ⟨o.addr, ys, true⟩) rfl rfl H5.out.2.2.1 H5.out.2.2.2 (by have := hol'.out; omega) ?_)
          intro A9 c9 w9 O9 S9
          have P9 := H5.out.1.putO O9 S9
          have hb9 := S9.c.blk H5.out.1.b (H5.out.1.o.ne_blk H5.out.1.b (by decide))
          have H9 := Lib.hid P9; clear P9 O9 S9
          have g6 := hb9.cellv 5 rfl
          have f5 := hb9.frozen 5
          clear hb9 g5 d0 d1 d2
          go_wp2_with fail
          go_roundg (V.objects.length - i)
          case measure => omega
          case rel => exact ⟨i + 1, _, _, by omega, by omega, by go_num, by rw [List.length_append, List.length_singleton, hol'.out], H5.out.2.1, H9.out⟩
      · have e2 : V.objects.length = i := by omega
        have hi' : ¬ (i : Int) < (V.objects.length : Int) := by omega
        have hol2 := Lib.hid (hol'.out.trans e2.symm)
        have hi2 : decide (i < V.objects.length) = false := decide_eq_false e
        clear hol' hgk hin e2
        go_upto_region 18 with fail
        have hgl := HF.out.l
        have hsl := HS.out.1.chg (H2.out.1.trans HI.out.1.c) (Nat.le_refl _) (by simp)
        have HG := Lib.hid hsl; clear hsl
        have hbl : w.heap.size ≤ wr.heap.size := (H2.out.1.trans HI.out.1.c).size
        go_cut [86] from 78 to 86 (fun v wc => ∃ b, v = .bool b ∧ (b = true → 0 < V.globals.length) ∧ wc = wr)
        case first =>
          by_cases h0 : 0 < V.globals.length
          · have h0' : (0 : Int) < (V.globals.length : Int) := by omega
            have h0'' : decide (0 < V.globals.length) = true := decide_eq_true h0
            go_wp2_with fail
            go_meet
            exact ⟨_, rfl, fun _ => h0, rfl⟩
          · have h0'' : decide (0 < V.globals.length) = false := decide_eq_false h0
            go_wp2_with fail
            go_meet
            exact ⟨false, by simp, fun h => absurd h (by decide), rfl⟩
        case rest =>
          obtain ⟨b, rfl, hb, rfl⟩ := hcut
          have HB2 := Lib.hid hb; clear hb
          obtain ⟨wz, rfl⟩ : ∃ wz : World, wz = wc := ⟨_, rfl⟩
          go_upto_if 86 with fail
          go_cut [] from 87 to 102 (fun wc => ∃ vg gl, BdV w2 gv gv V vg (.slice A1 V.gs.length c1) (.slice A os.length cc) os wc ∧ SlI wc wc.heap.size vg gl ∧ gl.length ≤ 40 ∧ ∀ x ∈ gl, x = 0 ∨ x ∈ V.globals)
          case first =>
            cases b
            · go_wp2_with fail
              go_meet
              exact ⟨_, V.globals, HI.out.1, HG.out.mono hbl, hgl, fun x hx => .inr hx⟩
            · have h0 := HB2.out rfl
              have hslz := HG.out
              have d1 : wz.cell? ⟨w.heap.size, 3, none⟩ = some (.slice A0 V.globals.length c0) := (HI.out.1.c.blk H2.out.2.1 (by simp)).cellv 3 rfl
              have d2 : (wz.alloc (.cells #[] 3)).cell? ⟨w.heap.size, 3, none⟩ = some (.slice A0 V.globals.length c0) := ((HI.out.1.c.blk H2.out.2.1 (by simp)).alloc _).cellv 3 rfl
              have d3 := (HI.out.1.c.blk H2.out.2.1 (by simp)).lt
              go_wp2_with (at_builtin; refine wpList_copy_sl rfl _ _ rfl slty rfl rfl hslz hbl (by omega) ?_)
              intro A' c' w' O' S'
              clear hslz d1 d2 d3
              have S0 : Chg [] wz w' := S'.c
              have K3 := S0.blk HI.out.1.b (by simp)
              have e2 := K3.frozen 3
              have e1 := K3.cellv 3 rfl
              go_upto_region 20 with fail
              have CA : Chg [gv] wz (w'.setCell ⟨gv, 3, none⟩ (.slice A' V.globals.length c')) := (S0.mono (by simp)).setCell (.inl (by simp)) _
              have BA : Blk (w'.setCell ⟨gv, 3, none⟩ (.slice A' V.globals.length c')) gv 26 (lvCells V (.slice A' V.globals.length c') (.slice A1 V.gs.length c1) (.slice A os.length cc)) := K3.setv 3 _ rfl
              have OA : OwnI 3 (w'.setCell ⟨gv, 3, none⟩ (.slice A' V.globals.length c')) (.slice A' V.globals.length c') V.globals :=
                O'.chg ((Chg.refl [gv] w').setCell (.inl (by simp)) _) (fun k hk hm => by have := only1 hm; subst this; exact O'.ne_blk K3 (by decide) hk)
              have FA : ∀ k ∈ fpv (.slice A' V.globals.length c'), wz.heap.size ≤ k := fun k hk => by
                rcases S'.f k hk with h1 | h1
                · simp at h1
                · exact h1
              generalize (w'.setCell ⟨gv, 3, none⟩ (.slice A' V.globals.length c')) = W2 at CA BA OA ⊢
              have H4 := Lib.hid (And.intro CA (And.intro BA (And.intro OA FA))); clear CA BA OA FA O' S' S0 K3 e1 e2
              have e1 : W2.cell? ⟨gv, 3, none⟩ = some (.slice A' V.globals.length c') := H4.out.2.1.cellv 3 rfl
              obtain ⟨q, hq, eq0⟩ := mod_n S V.globals.length h0 (by omega)
              have eq1 : wrap64 ((IntKind.u64.wrap S).tmod (V.globals.length : Int)) = (q : Int) := eq0
              have hu : IntKind.u64.wrap (V.globals.length : Int) = (V.globals.length : Int) := by rw [IntKind.wrap_u64]; omega
              have hz : ¬ V.globals.length = 0 := by omega
              have hz2 : ¬ V.globals = [] := by intro e; rw [e] at h0; simp at h0
              have hq' : (q : Int) < (V.globals.length : Int) := by omega
              obtain ⟨xq, hxq⟩ : ∃ x, V.globals[q]? = some x := ⟨_, List.getElem?_eq_getElem hq⟩
              obtain ⟨ga, rfl, q0, q1, -⟩ := H4.out.2.2.1.cell hxq
              clear eq0 hxq
              go_region
              go_wp2_with fail
              go_meet
              have hga : wz.heap.size ≤ ga := H4.out.2.2.2 ga (by simp [fpv, Value.ownBlock])
              have hne : gv ≠ ga := by have := HI.out.1.b.lt; omega
              have OZ : OwnI 3 (W2.setCell ⟨ga, q, none⟩ (.int .i64 0)).drew (.slice (some ⟨ga, 0, none⟩) V.globals.length c') (V.globals.set q 0) := ⟨(H4.out.2.2.1.set_ hq 0).o⟩
              have hm : (1000000 : Nat) ≤ maxLen := by decide
              have hY : ∀ x ∈ V.globals.set q 0, x = 0 ∨ x ∈ V.globals := fun x hx => (List.mem_or_eq_of_mem_set hx).elim .inr .inl
              refine ⟨_, V.globals.set q 0, HI.out.1.fin ((H4.out.1.setCell (.inr hga) _).drew) (H4.out.2.1.far hne _).drew, OZ.sl (fun x hx => ?_) (by rw [List.length_set]; omega), by rw [List.length_set]; exact hgl, hY⟩
              rcases hY x hx with h5 | h5
              · subst h5; exact ⟨by decide, by decide⟩
              · exact HG.out.wf x h5
          case rest =>
            obtain ⟨vg, gl, I2, hs2, hg2, hy2⟩ := hcut
            have hvw := ls_vw HV.out I2 hs2 ((HS.out.2.1.chg (H2.out.1.trans I2.c) (Nat.le_refl _) (by simp)).mono (H2.out.1.trans I2.c).size) HF.out hol2.out HI.out.2
            have hfw := ls_few HF.out hg2 hol2.out HI.out.2
            have hls := ls_less hy2 hol2.out HI.out.2
            have HQ := Lib.hid (And.intro I2 (And.intro hvw (And.intro hfw.small hls))); clear I2 hs2 hg2 hy2 hvw hfw hls
            obtain ⟨b0, b1, b2, b3, b4, b5, b6, b7, b8⟩ := HQ.out.1.cells
            go_wp2_with fail
            clear b0 b1 b2 b3 b4 b5 b6 b7 b8
            refine (reach_ok _ _ _ HQ.out.2.1 HQ.out.2.2.1).mono ?_
            rintro e w3 ⟨l2, hr2, v3, rfl, O3, C3, F3⟩
            obtain ⟨A8, c8, rfl⟩ := O3.slice
            have hsub := HQ.out.2.2.2.sub H2.out.2.2.1 hr2
            have hle := HQ.out.2.2.2.le H2.out.2.2.1 hr2
            have hlb : l2.length ≤ 1000000 := Nat.le_trans hle (Nat.le_trans H2.out.2.2.1.len HF.out.small.n)
            have OL := (H2.out.2.2.2.chg0 HQ.out.1.c).chg0 C3
            have HR := Lib.hid (And.intro OL (And.intro O3 (And.intro hsub (And.intro hle C3)))); clear OL O3 hsub hle C3 F3 hr2
            go_wp2_with fail
            obtain ⟨wy, rfl⟩ : ∃ wy : World, wy = w3 := ⟨_, rfl⟩
            go_loopg [13] (l2.length + 1) (fun gk idx wr => LnRel wy l2.length gk idx wr)
            case atStart => exact ⟨0, by omega, by omega, rfl, Chg.refl [] _⟩
            case round =>
              obtain ⟨i, hgk, hin, rfl, C⟩ := hrel
              by_cases e : i < l2.length
              · obtain ⟨x, hx⟩ : ∃ x, l2[i]? = some x := ⟨_, List.getElem?_eq_getElem e⟩
                obtain ⟨g8, rfl, i0, -⟩ := (HR.out.2.1.chg0 C).cell hx
                have hi' : (i : Int) < (l2.length : Int) := by omega
                have hmx := HR.out.2.2.1 x (List.mem_of_getElem? hx)
                have hi3 := Lib.hid (And.intro e hgk)
                have HM := Lib.hid (And.intro hmx C); clear hmx C hx
                go_wp2_with fail
                refine (has_ok _ _ l x (HR.out.1.chg0 HM.out.2).rd).mono ?_
                rintro e w4 ⟨rfl, rfl⟩
                rw [decide_eq_true HM.out.1]
                go_wp2_with fail
                go_roundg (l2.length - i)
                case measure => have := hi3.out; omega
                case rel => exact ⟨i + 1, by have := hi3.out; omega, by have := hi3.out; omega, by go_num, HM.out.2⟩
              · have e2 : l2.length = i := by omega
                have hi' : ¬ (i : Int) < (l2.length : Int) := by omega
                have HC := Lib.hid (And.intro C e2); clear C e2 hgk hin
                go_wp2_with fail
                refine (told_ok _).mono ?_
                rintro e w4 ⟨rfl, C4⟩
                have D4 := (HR.out.2.2.2.2.trans HC.out.1).trans C4
                have I4 := HQ.out.1.chg D4
                have HD := Lib.hid (And.intro D4 I4); clear D4 I4 C4
                obtain ⟨b0, b1, b2, b3, b4, b5, b6, b7, b8⟩ := HD.out.2.cells
                go_wp2_with fail
                clear b0 b1 b2 b3 b4 b5 b6 b7 b8
                refine (white_ok _ _ _ ((HQ.out.2.1.chg HD.out.1 (Nat.le_refl _) (by simp)).mono HD.out.1.size) HQ.out.2.2.1).mono ?_
                rintro e w5 ⟨l3, hr3, v5, rfl, O5, C5, F5⟩
                rw [HQ.out.2.2.2.white hr3] at O5
                obtain ⟨A9, c9, rfl⟩ := O5.slice
                have hle := HR.out.2.2.2.1
                have hle' : (l2.length : Int) ≤ (l.length : Int) := by omega
                have hle'' : decide (l2.length ≤ l.length) = true := decide_eq_true hle
                have CF := H2.out.1.trans ((HQ.out.1.c.trans HD.out.1).trans C5)
                have HF2 := Lib.hid CF; clear CF O5 C5 F5 hr3 e
                go_wp2_with fail
                go_ret
                exact ⟨rfl, HF2.out⟩
end Go.Proofs.Ytfkgooliglcjkaa
