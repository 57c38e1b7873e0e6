/- The walk of the document's Path. -/
import Derived.Test.YtfkgooliglcjkaaRfPathLaw
import Derived.Test.YtfkgooliglcjkaaRfAsk
import Derived.Test.YtfkgooliglcjkaaVwOwn2
namespace Go.Proofs.Ytfkgooliglcjkaa
open Go.RowKit Go.Maps

/-- What Path keeps. -/
structure FpM (w0 : World) (bV bF : Nat) (cV : Array Value) (v5 : Value) (R : List Int) (F : Int → Option Int) (N : Nat) (w : World) : Prop where
  m : IMap Try.prog 3 w bF N F
  o : OwnI 3 w v5 R
  b : Blk w bV 26 cV
  c : Chg [] w0 w
  f : w0.heap.size ≤ bF
section
variable {w0 w w' : World} {bV bF N M : Nat} {cV : Array Value} {v5 : Value} {R : List Int} {F F' : Int → Option Int}
theorem FpM.chg0 (h : FpM w0 bV bF cV v5 R F N w) (c : Chg [] w w') : FpM w0 bV bF cV v5 R F N w' := ⟨h.m.chg c (by simp), h.o.chg0 c, c.blk h.b (by simp), h.c.trans c, h.f⟩
theorem FpM.put (h : FpM w0 bV bF cV v5 R F N w) (M1 : IMap Try.prog 3 w' bF M F') (C : Chg [bF] w w') : FpM w0 bV bF cV v5 R F' M w' :=
  ⟨M1, h.o.chg C (fun k hk hm => h.m.ne_own h.o (only1 hm ▸ hk)), C.blk h.b (by simpa using Ne.symm (h.m.ne_blk h.b)), h.c.new C (by simpa using h.f), h.f⟩
theorem FpM.look (h : FpM w0 bV bF cV v5 R F N w) {x u : Int} (hx : WfI x) (hu : (F x).getD 0 = u) : (Instr.lookup 51 (.map (some bF)) (.int .i64 x) false).run Try.prog w = .ok (.int .i64 u) w := by rw [← hu]; exact h.m.look ity hx
theorem FpM.lookN (h : FpM w0 bV bF cV v5 R F N w) {x u : Int} (hx : WfI x) (hu : (F x).getD 0 = u) : ∀ n, (Instr.lookup 51 (.map (some bF)) (.int .i64 x) false).run Try.prog (w.drewN n) = .ok (.int .i64 u) (w.drewN n) := fun n => (h.chg0 ((Chg.refl [] w).drewN n)).look hx hu
end
def Fp1Rel (w0 : World) (V : Vw) (R : List Int) (addr : Int) (bV bF : Nat) (cV : Array Value) (v5 : Value) (gk : Nat) (v7 : Value) (w : World) : Prop :=
  ∃ d F N, gk + d = R.length + 2 ∧ 1 ≤ d ∧ d ≤ R.length + 1 ∧ v7 = .int .i64 (d : Nat) ∧ FarI V R addr d [] F ∧ N ≤ 1 + 12000 * d ∧ FpM w0 bV bF cV v5 R F N w
def Fp2Rel (w0 : World) (V : Vw) (R : List Int) (addr : Int) (bV bF : Nat) (cV : Array Value) (v5 : Value) (d N0 : Nat) (gk : Nat) (idx : Value) (w : World) : Prop :=
  ∃ i F N, gk + i = R.length + 1 ∧ i ≤ R.length ∧ idx = .int .i64 (i : Nat) ∧ FarI V R addr d (R.take i) F ∧ N ≤ N0 + 300 * i ∧ FpM w0 bV bF cV v5 R F N w
def Fp3Rel (w0 : World) (R : List Int) (bV bF : Nat) (cV : Array Value) (v5 : Value) (F : Int → Option Int) (d N1 : Nat) (x : Int) (s : List Int) (gk : Nat) (idx : Value) (w : World) : Prop :=
  ∃ k N, gk + k = s.length + 1 ∧ k ≤ s.length ∧ idx = .int .i64 (k : Nat) ∧ N ≤ N1 + k ∧ FpM w0 bV bF cV v5 R (farNow F R d x (s.take k)) N w
def Fp4Rel (w0 : World) (R : List Int) (bV bF : Nat) (cV : Array Value) (v5 v12 : Value) (F : Int → Option Int) (N : Nat) (S : List Int) (gk : Nat) (v13 idx : Value) (w : World) : Prop :=
  ∃ i b, gk + i = R.length + 1 ∧ i ≤ R.length ∧ idx = .int .i64 (i : Nat) ∧ v13 = .int .i64 b ∧ BestI F S (R.take i) b ∧ FpM w0 bV bF cV v5 R F N w ∧ OwnI 3 w v12 S
def Fp5Rel (w0 : World) (V : Vw) (R : List Int) (addr : Int) (bV bF : Nat) (cV : Array Value) (v5 : Value) (F : Int → Option Int) (N L : Nat) (gk : Nat) (v13 v16 : Value) (w : World) : Prop :=
  ∃ n b p, gk = n + 1 ∧ v13 = .int .i64 b ∧ b ∈ R ∧ DwnI V R addr F L p b n ∧ FpM w0 bV bF cV v5 R F N w ∧ OwnI 3 w v16 p ∧ (∀ k ∈ fpv v16, k ∉ fpv v5) ∧ ∀ k ∈ fpv v16, w0.heap.size ≤ k
def Fp6Rel (F : Int → Option Int) (t : Int) (s : List Int) (gk : Nat) (v18 idx : Value) (w0 w : World) : Prop :=
  ∃ k b, gk + k = s.length + 1 ∧ k ≤ s.length ∧ idx = .int .i64 (k : Nat) ∧ v18 = .int .i64 b ∧ NextI F t (s.take k) b ∧ Chg [] w0 w
theorem wfi_small {x : Int} (h1 : 0 ≤ x) (h2 : x ≤ 1000000) : WfI x := ⟨by omega, by omega⟩
theorem wrap_small {x : Int} (h1 : 0 ≤ x) (h2 : x ≤ 1000000) : wrap64 x = x := by unfold wrap64; omega
theorem fpS_of {wr W : World} {V : Vw} {A0 : Option Addr} {c0 : Nat} {A1 : Option Addr} {c1 : Nat} {A2 : Option Addr} {c2 b : Nat} (h : Blk wr b 26 (vwBox V A0 c0 A1 c1 A2 c2)) {p : Addr} {x : Value} (hp : p.spot = none) (e1 : wr.cell? p = some x) (D : Chg [] wr W) :
    W.cell? ⟨b, 0, none⟩ = some (.int .i64 V.phase) ∧ W.cell? ⟨b, 1, none⟩ = some (.int .i64 V.cycle) ∧ W.cell? ⟨b, 2, none⟩ = some (.int .i64 V.clock) ∧ W.cell? ⟨b, 3, none⟩ = some (.slice A0 V.globals.length c0) ∧ W.cell? ⟨b, 4, none⟩ = some (.slice A1 V.gs.length c1) ∧
    W.cell? ⟨b, 5, none⟩ = some (.slice A2 V.objects.length c2) ∧ W.cell? ⟨b, 6, none⟩ = some (.int .i64 V.grey) ∧ W.cell? ⟨b, 7, none⟩ = some (.int .i64 V.notes) ∧ W.cell? ⟨b, 8, none⟩ = some (.int .i64 V.roots) ∧ W.cell? p = some x ∧ Chg [] wr W := by
  obtain ⟨z0, z1, z2, z3, z4, z5, z6, z7, z8⟩ := VwAt.boxR (D.blk h (by simp))
  obtain ⟨pb, po, ps⟩ := p
  simp only at hp
  subst hp
  exact ⟨z0, z1, z2, z3, z4, z5, z6, z7, z8, D.cellv (lt_of_cell' e1) (by simp) e1, D⟩
theorem wpList_imap_at {P : Program} {T K : TypeId} {w : World} {b n : Nat} {f : Int → Option Int} {ops : Array Oper} {rest : List Oper} {o : Oper} {a : Act} {Q : Exit → Act → World → Prop} (hg : o.guard = none) (m x : Operand) (hop : o.op = Op.lookup T m x false) (h : IMap P K w b n f) (t : IntTy P T K) (hm : a.eval m = .map (some b)) {k u : Int} (hx : a.eval x = .int .i64 k) (hk : WfI k) (hu : (f k).getD 0 = u)
    (hK : wpList P ops Q rest (a.put o.dst (.int .i64 u)) w) : wpList P ops Q (o :: rest) a w := by
  refine wpList_imap_look hg m x hop h t hm hx hk ?_
  rw [hu]; exact hK
theorem names_ok (w : World) (v : Value) (xs : List Int) (x : Int) (hv : RdI w v xs) : Calls Try.prog 45 #[v, .int .i64 x] w fun e w' => e = .returned (.bool (decide (x ∈ xs))) ∧ w' = w := by
  go_enter Try.func45, Try.ntmps45
  go_wp2_with fail
  refine (has_ok _ _ xs x hv).mono ?_
  rintro e w1 ⟨rfl, rfl⟩
  go_wp2_with fail
  go_ret
  exact ⟨rfl, rfl⟩
set_option maxHeartbeats 6400000 in
set_option maxRecDepth 100000 in
theorem rpath_ok (w : World) (v : Value) (V : Vw) (addr : Int) (h : VwAt w w.heap.size v V) (hF : FewV V) (ha : WfI addr) : Calls Try.prog 16 #[v, .int .i64 addr] w (PathPost V addr w) := by
  have hmm := @run_makeMap Try.prog
  have hS := hF.small
  have HV := Lib.hid h
  obtain ⟨g, A1, c1, A2, c2, rfl, h1, h2, h3, h4, h5⟩ := h.ex
  obtain ⟨A0, c0, rfl⟩ := h1.ex
  have C1 := (Chg.refl [] w).alloc (.cells (vwBox V A0 c0 A1 c1 A2 c2) 26)
  have B1 := Blk.new w 26 (vwBox V A0 c0 A1 c1 A2 c2)
  have HB := Lib.hid (And.intro C1 B1)
  have HO := Lib.hid h3; clear C1 B1 h h1 h2 h3 h4 h5
  have HF := Lib.hid hF
  have HSm := Lib.hid hS; clear hF hS
  have hnw := Lib.hid HV.out.names_wf
  go_enter Try.func16, Try.ntmps16
  obtain ⟨b0, b1, b2, b3, b4, b5, b6, b7, b8⟩ := VwAt.boxR HB.out.2
  by_cases h0 : addr = 0
  · have hq : (addr == 0) = true := by rw [beq_iff_eq]; exact h0
    have H0 := Lib.hid h0; clear h0
    go_wp2_with fail
    go_ret
    exact ⟨[], .inl ⟨rfl, .inr (fun hr => hr.ne H0.out)⟩, _, rfl, OwnI.nil _ _, HB.out.1, by simp [fpv, Value.ownBlock]⟩
  have hq : (addr == 0) = false := by rw [beq_eq_false_iff_ne]; exact h0
  have H0 := Lib.hid h0; clear h0
  go_wp2_with fail
  have KF := rfind_ok _ _ V addr ((HV.out.chg HB.out.1 (Nat.le_refl _) (by simp)).mono HB.out.1.size) HSm.out
  rw [findI_eq] at KF
  cases hat : V.at_ addr with
  | none =>
    rw [hat] at KF
    have HA := Lib.hid hat; clear hat
    refine KF.mono ?_
    rintro e w1 ⟨rfl, C1⟩
    have HC := Lib.hid (HB.out.1.trans C1); clear C1 KF b0 b1 b2 b3 b4 b5 b6 b7 b8
    go_wp2_with fail
    go_ret
    exact ⟨[], .inl ⟨rfl, .inl HA.out⟩, _, rfl, OwnI.nil _ _, HC.out, by simp [fpv, Value.ownBlock]⟩
  | some ka =>
    rw [hat] at KF
    have HA := Lib.hid hat; clear hat
    have hk0 : decide ((ka : Int) < 0) = false := decide_eq_false (by omega)
    refine KF.mono ?_
    rintro e w1 ⟨rfl, C1⟩
    have HC := Lib.hid (And.intro (HB.out.1.trans C1) (C1.blk HB.out.2 (by simp))); clear C1 KF b0 b1 b2 b3 b4 b5 b6 b7 b8 HB
    obtain ⟨b0, b1, b2, b3, b4, b5, b6, b7, b8⟩ := VwAt.boxR HC.out.2
    go_wp2_with fail
    refine (rreach_ok _ _ V ((HV.out.chg HC.out.1 (Nat.le_refl _) (by simp)).mono HC.out.1.size) HSm.out).mono ?_
    rintro e w2 ⟨l, hr, vl, rfl, Ol, C2, Fl⟩
    have HD := Lib.hid (And.intro (HC.out.1.trans C2) (And.intro (C2.blk HC.out.2 (by simp)) hr)); clear C2 HC b0 b1 b2 b3 b4 b5 b6 b7 b8 hk0 hr
    go_wp2_with fail
    refine (has_ok _ _ l addr Ol.rd).mono ?_
    rintro e w3 ⟨rfl, rfl⟩
    by_cases hal : addr ∈ l
    rotate_left
    · rw [decide_eq_false hal]
      have HN := Lib.hid hal; clear hal Ol Fl
      go_wp2_with fail
      go_ret
      exact ⟨[], .inl ⟨rfl, .inr (fun hx => HN.out ((HD.out.2.2.m addr).2 ⟨hx, by rw [HA.out]; rfl⟩))⟩, _, rfl, OwnI.nil _ _, HD.out.1, by simp [fpv, Value.ownBlock]⟩
    rw [decide_eq_true hal]
    have HL := Lib.hid hal
    clear hal Ol Fl
    obtain ⟨b0, b1, b2, b3, b4, b5, b6, b7, b8⟩ := VwAt.boxR HD.out.2.1
    go_wp2_with fail
    refine (rreach_ok _ _ V ((HV.out.chg HD.out.1 (Nat.le_refl _) (by simp)).mono HD.out.1.size) HSm.out).mono ?_
    rintro e w4 ⟨R, hR, v5, rfl, O5, C4, F5⟩
    obtain rfl := HD.out.2.2.uniq hR
    obtain ⟨A5, c5, rfl⟩ := O5.slice
    have M0 := IMap.made w4 Try.prog 3
    obtain ⟨w5, hrun, M1, C5⟩ := M0.put ity (x := addr) (v := 1) ha ⟨by omega, by omega⟩ (by unfold maxLen; omega)
    have z4 := (HD.out.1.trans C4).size
    have I0 : FpM w w.heap.size w4.heap.size (vwBox V A0 c0 A1 c1 A2 c2) (.slice A5 l.length c5) l (putF (fun _ => none) addr 1) 1 w5 :=
      ⟨M1, (O5.alloc _).chg C5 (fun k hk hm => by have := O5.lt hk; have := only1 hm; omega), C5.blk ((C4.blk HD.out.2.1 (by simp)).alloc _) (fun hm => by have := only1 hm; have := (C4.blk HD.out.2.1 (by simp)).lt; omega), ((HD.out.1.trans C4).alloc (.map #[] 0)).new C5 (fun k hk => by have := only1 hk; omega), z4⟩
    have HR := Lib.hid hR
    have hl40 : l.length ≤ 40 := Nat.le_trans (rch_objs hR) HF.out.o
    have HI := Lib.hid I0; clear I0 M0 M1 C5 z4 O5 C4 F5 hR b0 b1 b2 b3 b4 b5 b6 b7 b8 HD
    go_upto_region 5 with fail
    clear hrun
    generalize w4.heap.size = bF at HI ⊢
    go_wp2_with fail
    go_loopg [7] (l.length + 1) (fun gk v7 wr => Fp1Rel w V l addr w.heap.size bF (vwBox V A0 c0 A1 c1 A2 c2) (.slice A5 l.length c5) gk v7 wr)
    case atStart => exact ⟨1, _, 1, by omega, by omega, by omega, rfl, FarI.start, by omega, HI.out⟩
    case round =>
      clear HI
      obtain ⟨d, F, N, hgk, hd1, hd2, rfl, hFar, hN, I⟩ := hrel
      by_cases e : d ≤ l.length
      · have hd' : (d : Int) ≤ (l.length : Int) := by omega
        have HI := Lib.hid (And.intro hFar I); clear hFar I
        go_wp2_with fail
        obtain ⟨wq, rfl⟩ : ∃ wq : World, wq = wr := ⟨_, rfl⟩
        go_loopg [8] (l.length + 1) (fun gk idx wr => Fp2Rel w V l addr w.heap.size bF (vwBox V A0 c0 A1 c1 A2 c2) (.slice A5 l.length c5) d N gk idx wr)
        case atStart => exact ⟨0, F, N, by omega, by omega, rfl, by simpa using HI.out.1, by omega, HI.out.2⟩
        case round =>
          clear HI
          obtain ⟨i, F', N', hgk2, hin, rfl, hFar, hN2, I⟩ := hrel
          by_cases e2 : i < l.length
          · obtain ⟨x, hx⟩ : ∃ x, l[i]? = some x := ⟨_, List.getElem?_eq_getElem e2⟩
            obtain ⟨g5, rfl, y0, -, -⟩ := I.o.cell hx
            have hxl := List.mem_of_getElem? hx
            obtain ⟨hxr, hxs⟩ := (HR.out.m x).1 hxl
            obtain ⟨kk, hkk⟩ := Option.isSome_iff_exists.1 hxs
            obtain ⟨o, ho, hoa⟩ := at_lt hkk
            have hwx := hnw.out x hxr.named
            have hi' : (i : Int) < (l.length : Int) := by omega
            have htk := take_succ_get hx
            cases hFx : F' x with
            | some v =>
              obtain ⟨n, hv, _⟩ := hFar.c x v hFx
              have hq1 : (v != 0) = true := by rw [bne_iff_ne]; omega
              have HX := Lib.hid (And.intro (hFar.skip (x := x) (by rw [hFx]; rfl)) (And.intro I (And.intro htk (And.intro hwx hFx)))); clear hFar I htk hwx hFx hxr hxs hkk ho hoa hv hx hxl
              go_wp2_with (at_lookup; refine wpList_imap_val rfl _ _ rfl HX.out.2.1.m ity rfl rfl HX.out.2.2.2.1 HX.out.2.2.2.2 ?_)
              go_roundg (l.length - i)
              case measure => omega
              case rel => exact ⟨i + 1, F', N', by omega, by omega, by go_num, by rw [HX.out.2.2.1]; exact HX.out.1, by omega, HX.out.2.1⟩
            | none =>
              obtain ⟨b, off, s, rfl, hbb, i0, i1, i2, hsl, hwa⟩ := HO.out.at_ kk o ho
              obtain ⟨As, cs, rfl⟩ := hsl.ex
              have hkl : (kk : Int) < (V.objects.length : Int) := by have := (List.getElem?_eq_some_iff.1 ho).1; omega
              have hkl0 : (0 : Int) ≤ (kk : Int) := by omega
              have j1 := I.c.cellv hbb (by simp) i1
              have hso := HF.out.s o (List.mem_of_getElem? ho)
              have hNm : N' ≤ 600000 := by omega
              have HNN := Lib.hid (And.intro hN hN2); clear hN hN2
              have hsa := slotsAt_of hkk ho
              have KF := Lib.hid (fun (W : World) (v : Value) (h : VwAt W W.heap.size v V) => (show Calls Try.prog 26 #[v, .int .i64 x] W (IntPost ((kk : Nat) : Int) W) by
                have := rfind_ok W v V x h HSm.out
                rw [findI_eq, hkk] at this; exact this))
              have HX := Lib.hid (And.intro hFar (And.intro I (And.intro htk (And.intro hwx (And.intro hFx (And.intro hxl (And.intro hsl (And.intro hsa j1))))))))
              clear hFar I htk hwx hFx hxr hxs hkk ho hoa hx hxl hsl i0 i1 i2 hwa hbb
              go_upto_region 13 with (at_lookup; refine wpList_imap_nil rfl _ _ rfl HX.out.2.1.m ity rfl rfl HX.out.2.2.2.1 HX.out.2.2.2.2.1 ?_)
              clear y0
              obtain ⟨b0, b1, b2, b3, b4, b5, b6, b7, b8⟩ := VwAt.boxR HX.out.2.1.b
              go_region_held3 (fun w' => w'.cell? ⟨w.heap.size, 0, none⟩ = some (.int .i64 V.phase) ∧ w'.cell? ⟨w.heap.size, 1, none⟩ = some (.int .i64 V.cycle) ∧ w'.cell? ⟨w.heap.size, 2, none⟩ = some (.int .i64 V.clock) ∧ w'.cell? ⟨w.heap.size, 3, none⟩ = some (.slice A0 V.globals.length c0) ∧ w'.cell? ⟨w.heap.size, 4, none⟩ = some (.slice A1 V.gs.length c1) ∧ w'.cell? ⟨w.heap.size, 5, none⟩ = some (.slice (some ⟨b, off, none⟩) V.objects.length c2) ∧ w'.cell? ⟨w.heap.size, 6, none⟩ = some (.int .i64 V.grey) ∧ w'.cell? ⟨w.heap.size, 7, none⟩ = some (.int .i64 V.notes) ∧ w'.cell? ⟨w.heap.size, 8, none⟩ = some (.int .i64 V.roots) ∧ w'.cell? ⟨b, off + kk * 3 + 1, none⟩ = some (.slice As o.slots.length cs) ∧ Chg [] wr w') ((refine fpS_of HX.out.2.1.b rfl j1 ?_; (repeat (first | assumption | exact Chg.refl [] wr | refine Chg.alloc ?_ _ | refine Chg.drew ?_))))
                (first | (go_at_call 26; refine (KF.out _ _ (ow_vw HV.out HX.out.2.1.c ?_)).mono ?_; (first | assumption | exact Chg.refl _ _ | exact (Chg.refl _ _).drew); rintro e wf ⟨rfl, CF⟩; have D : Chg [] wr wf := Chg.trans (by first | assumption | exact Chg.refl _ _ | exact (Chg.refl _ _).drew) CF; obtain ⟨z0, z1, z2, z3, z4, z5, z6, z7, z8, z9, -⟩ := fpS_of HX.out.2.1.b rfl j1 D))
              have HY := Lib.hid (HX.out.2.1.chg0 ‹Chg [] wr _›)
              clear b0 b1 b2 b3 b4 b5 b6 b7 b8 z0 z1 z2 z3 z4 z5 z6 z7 z8 z9 CF D j1
              go_wp2_with fail
              obtain ⟨wp, rfl⟩ : ∃ wp : World, wp = wr := ⟨_, rfl⟩
              go_loopg [11] (o.slots.length + 1) (fun gk idx wr => Fp3Rel w l w.heap.size bF (vwBox V A0 c0 A1 c1 (some ⟨b, off, none⟩) c2) (.slice (some ⟨g5, 0, none⟩) l.length c5) F' d N' x o.slots gk idx wr)
              case atStart => exact ⟨0, N', by omega, by omega, rfl, by omega, by rw [List.take_zero, farNow_nil]; exact HY.out⟩
              case round =>
                clear HY
                obtain ⟨k, N3, hgk3, hkn, rfl, hN3, I⟩ := hrel
                by_cases e3 : k < o.slots.length
                · obtain ⟨y, hy⟩ : ∃ y, o.slots[k]? = some y := ⟨_, List.getElem?_eq_getElem e3⟩
                  have hsl2 := HX.out.2.2.2.2.2.2.1.chg I.c (Nat.le_refl _) (by simp)
                  obtain ⟨b9, o9, rfl, -, y0⟩ := hsl2.at_ _ _ _ rfl k y hy
                  have hwy := hsl2.wf y (List.mem_of_getElem? hy)
                  have hk' : (k : Int) < (o.slots.length : Int) := by omega
                  have hk0 : (0 : Int) ≤ (k : Int) := by omega
                  have htk := take_succ_get hy
                  obtain ⟨u, hu⟩ : ∃ u, (farNow F' l d x (o.slots.take k) y).getD 0 = u := ⟨_, rfl⟩
                  have hdw : WfI ((d : Int) + 1) := wfi_small (by omega) (by omega)
                  by_cases hyd : F' y = some (d : Int)
                  · have hu2 : u = (d : Int) := by rw [← hu, (farNow_at HX.out.2.2.2.2.1).2 hyd]; rfl
                    have hq1 : (u == (d : Int)) = true := by rw [beq_iff_eq]; exact hu2
                    have HU := Lib.hid (And.intro hu (And.intro hwy (And.intro htk (And.intro I (And.intro hdw hyd))))); clear hu hwy htk I hdw hyd hu2 hsl2 hy
                    go_wp2_with (at_lookup; refine wpList_imap_at rfl _ _ rfl HU.out.2.2.2.1.m ity rfl rfl HU.out.2.1 HU.out.1 ?_)
                    refine (has_ok _ _ l y HU.out.2.2.2.1.o.rd).mono ?_
                    rintro e w1 ⟨rfl, rfl⟩
                    by_cases hyl : y ∈ l
                    · rw [decide_eq_true hyl]
                      have HYL := Lib.hid hyl; clear hyl
                      have hd0 : wrap64 ((d : Int) + 1) = (d : Int) + 1 := wrap_small (by omega) (by omega)
                      have hNx : N3 < maxLen := by unfold maxLen; omega
                      go_wp2_with (at_mapUpdate; refine wpList_imap_put rfl _ _ _ rfl HU.out.2.2.2.1.m ity rfl rfl HX.out.2.2.2.1 (congrArg (Value.int .i64) hd0) HU.out.2.2.2.2.1 hNx ?_; intro w1 M1 C1)
                      clear hd0 hNx
                      have HM := Lib.hid (HU.out.2.2.2.1.put M1 C1); clear M1 C1 y0
                      go_wp2_with fail
                      go_roundg (o.slots.length - k)
                      case measure => omega
                      case rel => exact ⟨k + 1, N3 + 1, by omega, by omega, by go_num, by omega, by rw [HU.out.2.2.1, ← funext (farNow_yes HU.out.2.2.2.2.2 HYL.out)]; exact HM.out⟩
                    · rw [decide_eq_false hyl]
                      have HYL := Lib.hid hyl; clear hyl
                      go_wp2_with fail
                      go_roundg (o.slots.length - k)
                      case measure => omega
                      case rel => exact ⟨k + 1, N3, by omega, by omega, by go_num, by omega, by rw [HU.out.2.2.1, farNow_no (fun h => HYL.out h.2)]; exact HU.out.2.2.2.1⟩
                  · have hu2 : u ≠ (d : Int) := fun e => by
                      cases e4 : farNow F' l d x (o.slots.take k) y with
                      | none => rw [e4] at hu; simp at hu; omega
                      | some u' =>
                        rw [e4] at hu
                        have e5 : u' = (d : Int) := by rw [← e, ← hu]; rfl
                        rw [e5] at e4
                        exact hyd ((farNow_at HX.out.2.2.2.2.1).1 e4)
                    have hq1 : (u == (d : Int)) = false := by rw [beq_eq_false_iff_ne]; exact hu2
                    have HU := Lib.hid (And.intro hu (And.intro hwy (And.intro htk (And.intro I hyd)))); clear hu hwy htk I hdw hyd hu2 hsl2 hy
                    go_wp2_with (at_lookup; refine wpList_imap_at rfl _ _ rfl HU.out.2.2.2.1.m ity rfl rfl HU.out.2.1 HU.out.1 ?_)
                    go_roundg (o.slots.length - k)
                    case measure => omega
                    case rel => exact ⟨k + 1, N3, by omega, by omega, by go_num, by omega, by rw [HU.out.2.2.1, farNow_no (fun h => HU.out.2.2.2.2 h.1)]; exact HU.out.2.2.2.1⟩
                · have e4 : o.slots.length = k := by omega
                  have e5 : o.slots.take k = V.slotsAt x := by rw [← e4, List.take_length]; exact HX.out.2.2.2.2.2.2.2.1.symm
                  have hk' : ¬ (k : Int) < (o.slots.length : Int) := by omega
                  have hP := HX.out.1.pass hd1 HX.out.2.2.2.2.2.1 HX.out.2.2.2.2.1
                  rw [e5] at I
                  have HP := Lib.hid (And.intro hP I); clear hP I e5 hgk3 e3
                  go_wp2_with fail
                  go_roundg (l.length - i)
                  case measure => omega
                  case rel => exact ⟨i + 1, _, N3, by omega, by omega, by go_num, by rw [HX.out.2.2.1]; exact HP.out.1, by have := HNN.out.2; omega, HP.out.2⟩
          · have e3 : l.length = i := by omega
            have e4 : l.take i = l := by rw [← e3, List.take_length]
            rw [e4] at hFar
            have hi' : ¬ (i : Int) < (l.length : Int) := by omega
            have hd0 : wrap64 ((d : Int) + 1) = (d : Int) + 1 := wrap_small (by omega) (by omega)
            have HI := Lib.hid (And.intro (hFar.next HL.out) I); clear hFar I e4 hgk2 e2 e3
            go_wp2_with fail
            clear hd0
            go_roundg (l.length + 1 - d)
            case measure => omega
            case rel => exact ⟨d + 1, F', N', by omega, by omega, by omega, by go_num, HI.out.1, by omega, HI.out.2⟩
      · have e2 : d = l.length + 1 := by omega
        subst e2
        have hd' : ¬ (((l.length + 1 : Nat) : Int)) ≤ (l.length : Int) := by omega
        have hd2' : ¬ ((l.length : Int) + 1) ≤ (l.length : Int) := by omega
        have HI := Lib.hid (And.intro hFar I); clear hFar I hgk e hd1 hd2
        obtain ⟨b0, b1, b2, b3, b4, b5, b6, b7, b8⟩ := VwAt.boxR HI.out.2.b
        go_wp2_with fail
        refine (rroots_ok _ _ V ((HV.out.chg HI.out.2.c (Nat.le_refl _) (by simp)).mono HI.out.2.c.size) HSm.out).mono ?_
        rintro e w6 ⟨v12, rfl, O12, C6, F6⟩
        obtain ⟨A12, c12, rfl⟩ := O12.slice
        have HJ := Lib.hid (And.intro (HI.out.2.chg0 C6) O12); clear C6 O12 F6 b0 b1 b2 b3 b4 b5 b6 b7 b8 hd' hd2'
        go_wp2_with fail
        go_loopg [13, 14] (l.length + 1) (fun gk v13 idx wr => Fp4Rel w l w.heap.size bF (vwBox V A0 c0 A1 c1 A2 c2) (.slice A5 l.length c5) (.slice A12 V.rootsL.length c12) F N V.rootsL gk v13 idx wr)
        case atStart => exact ⟨0, 0, by omega, by omega, rfl, rfl, BestI.start _ _, HJ.out.1, HJ.out.2⟩
        case round =>
          clear HJ
          obtain ⟨i, b, hgk, hin, rfl, rfl, hB, I, O12⟩ := hrel
          by_cases e2 : i < l.length
          · obtain ⟨x, hx⟩ : ∃ x, l[i]? = some x := ⟨_, List.getElem?_eq_getElem e2⟩
            obtain ⟨g5, rfl, y0, -, -⟩ := I.o.cell hx
            have hxl := List.mem_of_getElem? hx
            obtain ⟨hxr, -⟩ := (HR.out.m x).1 hxl
            have hwx := hnw.out x hxr.named
            have hx0 := hxr.ne
            have hi' : (i : Int) < (l.length : Int) := by omega
            have htk := take_succ_get hx
            have hlt := rising_take HR.out.s hx
            have HX := Lib.hid (And.intro hB (And.intro I (And.intro O12 (And.intro htk (And.intro hlt hx0))))); clear hB I O12 htk hlt hxr hx hxl hx0
            go_wp2_with fail
            refine (names_ok _ _ V.rootsL x HX.out.2.2.1.rd).mono ?_
            rintro e w7 ⟨rfl, rfl⟩
            by_cases hxS : x ∈ V.rootsL
            · rw [decide_eq_true hxS]
              have HXS := Lib.hid hxS; clear hxS
              cases hFx : F x with
              | none =>
                have lkx := HX.out.2.1.look (u := 0) hwx (by rw [hFx]; rfl)
                have HFx := Lib.hid hFx; clear hFx
                go_wp2_with fail
                go_roundg (l.length - i)
                case measure => omega
                case rel => exact ⟨i + 1, b, by omega, by omega, by go_num, rfl, by rw [HX.out.2.2.2.1]; exact HX.out.1.skip (fun h => by rw [HFx.out] at h; simp at h), HX.out.2.1, HX.out.2.2.1⟩
              | some u =>
                have lkx := HX.out.2.1.look (u := u) hwx (by rw [hFx]; rfl)
                obtain ⟨n, hv, _⟩ := HI.out.1.c x u hFx
                have hq1 : (u != 0) = true := by rw [bne_iff_ne]; omega
                have HFx := Lib.hid (And.intro hFx hv); clear hFx hv
                by_cases hb0 : b = 0
                · have hq2 : (b == 0) = true := by rw [beq_iff_eq]; exact hb0
                  have HB0 := Lib.hid hb0; clear hb0
                  go_wp2_with fail
                  go_roundg (l.length - i)
                  case measure => omega
                  case rel => exact ⟨i + 1, x, by omega, by omega, by go_num, rfl, by rw [HX.out.2.2.2.1]; exact HX.out.1.turn HX.out.2.2.2.2.2 HXS.out HFx.out.1 (.inl HB0.out), HX.out.2.1, HX.out.2.2.1⟩
                · have hq2 : (b == 0) = false := by rw [beq_eq_false_iff_ne]; exact hb0
                  obtain ⟨v, hFb, hwb⟩ : ∃ v, F b = some v ∧ WfI b := by
                    rcases HX.out.1 with ⟨h1, _⟩ | ⟨_, h2, _, v, h4, _⟩
                    · exact absurd h1 hb0
                    · exact ⟨v, h4, hnw.out b ((HR.out.m b).1 (List.mem_of_mem_take h2)).1.named⟩
                  have lkb := HX.out.2.1.look (u := v) hwb (by rw [hFb]; rfl)
                  have HB0 := Lib.hid (And.intro hb0 hFb); clear hb0 hFb
                  by_cases huv : u < v
                  · have HUV := Lib.hid huv
                    go_wp2_with fail
                    go_roundg (l.length - i)
                    case measure => omega
                    case rel => exact ⟨i + 1, x, by omega, by omega, by go_num, rfl, by rw [HX.out.2.2.2.1]; exact HX.out.1.turn HX.out.2.2.2.2.2 HXS.out HFx.out.1 (.inr ⟨v, HB0.out.2, HUV.out⟩), HX.out.2.1, HX.out.2.2.1⟩
                  · have HUV := Lib.hid huv
                    have hd3 : decide (u < v) = false := decide_eq_false huv
                    go_wp2_with fail
                    go_roundg (l.length - i)
                    case measure => omega
                    case rel => exact ⟨i + 1, b, by omega, by omega, by go_num, rfl, by rw [HX.out.2.2.2.1]; exact HX.out.1.keep HB0.out.1 HB0.out.2 HFx.out.1 (by have := HUV.out; omega) HX.out.2.2.2.2.1, HX.out.2.1, HX.out.2.2.1⟩
            · rw [decide_eq_false hxS]
              have HXS := Lib.hid hxS; clear hxS
              go_wp2_with fail
              go_roundg (l.length - i)
              case measure => omega
              case rel => exact ⟨i + 1, b, by omega, by omega, by go_num, rfl, by rw [HX.out.2.2.2.1]; exact HX.out.1.skip (fun h => HXS.out h.1), HX.out.2.1, HX.out.2.2.1⟩
          · have e3 : l.length = i := by omega
            have e4 : l.take i = l := by rw [← e3, List.take_length]
            rw [e4] at hB
            have hi' : ¬ (i : Int) < (l.length : Int) := by omega
            obtain ⟨hb0, hbl, n, hn, hD⟩ := DwnI.start HR.out HL.out HI.out.1 hB
            have O16 := OwnI.one 3 wr b
            have I2 := I.chg0 ((Chg.refl [] wr).alloc (.cells #[.int .i64 b] 3))
            have hne : ∀ k ∈ fpv (.slice (some ⟨wr.heap.size, 0, none⟩) 1 1), k ∉ fpv (.slice A5 l.length c5) := fun k hk hm => by
              have h1 : k = wr.heap.size := by simpa [fpv, Value.ownBlock, eq_comm] using hk
              have := I.o.lt hm; omega
            have hge : ∀ k ∈ fpv (.slice (some ⟨wr.heap.size, 0, none⟩) 1 1), w.heap.size ≤ k := fun k hk => by
              have h1 : k = wr.heap.size := by simpa [fpv, Value.ownBlock, eq_comm] using hk
              have := I.c.size; omega
            have HX := Lib.hid (And.intro hD (And.intro hbl (And.intro I2 (And.intro O16 (And.intro hne hge))))); clear hD hb0 hbl hB I O12 I2 O16 hne hge e4 e2 hgk hin
            go_wp2_with fail
            go_loopg [13, 16] (n + 1) (fun gk v13 v16 wr => Fp5Rel w V l addr w.heap.size bF (vwBox V A0 c0 A1 c1 A2 c2) (.slice A5 l.length c5) F N (n + 1) gk v13 v16 wr)
            case atStart => exact ⟨n, b, [b], by omega, rfl, HX.out.2.1, HX.out.1, HX.out.2.2.1, HX.out.2.2.2.1, HX.out.2.2.2.2.1, HX.out.2.2.2.2.2⟩
            case round =>
              clear HX
              obtain ⟨m, b, p, rfl, rfl, hbl, hD, I, O16, hne, hge⟩ := hrel
              obtain ⟨A16, c16, rfl⟩ := O16.slice
              have hpn := hD.l
              by_cases hba : b = addr
              · have hq2 : (b != addr) = false := by rw [bne_eq_false_iff_eq]; exact hba
                have HX := Lib.hid (And.intro (hD.end_ HI.out.1 hba) (And.intro I (And.intro O16 hge))); clear hD I O16 hne hge hba hbl
                go_wp2_with fail
                go_ret
                exact ⟨p, .inr ⟨by rw [HA.out]; rfl, HX.out.1⟩, _, rfl, HX.out.2.2.1, HX.out.2.1.c, HX.out.2.2.2⟩
              · have hq2 : (b != addr) = true := by rw [bne_iff_ne]; exact hba
                have hm1 := hD.pos HI.out.1 hba
                obtain ⟨m', rfl⟩ : ∃ m', m = m' + 1 := ⟨m - 1, by omega⟩
                obtain ⟨hbr, hbs⟩ := (HR.out.m b).1 hbl
                obtain ⟨kk, hkk⟩ := Option.isSome_iff_exists.1 hbs
                obtain ⟨o, ho, hoa⟩ := at_lt hkk
                have hwb := hnw.out b hbr.named
                obtain ⟨bo, off, s, rfl, hbb, i0, i1, i2, hsl, hwa⟩ := HO.out.at_ kk o ho
                obtain ⟨As, cs, rfl⟩ := hsl.ex
                have hkl : (kk : Int) < (V.objects.length : Int) := by have := (List.getElem?_eq_some_iff.1 ho).1; omega
                have hkl0 : (0 : Int) ≤ (kk : Int) := by omega
                have j1 := I.c.cellv hbb (by simp) i1
                have hso := HF.out.s o (List.mem_of_getElem? ho)
                have hsa := slotsAt_of hkk ho
                have KF := Lib.hid (fun (W : World) (v : Value) (h : VwAt W W.heap.size v V) => (show Calls Try.prog 26 #[v, .int .i64 b] W (IntPost ((kk : Nat) : Int) W) by
                  have := rfind_ok W v V b h HSm.out
                  rw [findI_eq, hkk] at this; exact this))
                have HX := Lib.hid (And.intro hD (And.intro I (And.intro O16 (And.intro hne (And.intro hge (And.intro hsl hsa))))))
                clear hD I O16 hne hge hbr hbs hkk ho hoa hsl i0 i1 i2 hwa hbb hba hbl hsa
                go_upto_region 29 with fail
                obtain ⟨b0, b1, b2, b3, b4, b5, b6, b7, b8⟩ := VwAt.boxR HX.out.2.1.b
                go_region_held3 (fun w' => w'.cell? ⟨w.heap.size, 0, none⟩ = some (.int .i64 V.phase) ∧ w'.cell? ⟨w.heap.size, 1, none⟩ = some (.int .i64 V.cycle) ∧ w'.cell? ⟨w.heap.size, 2, none⟩ = some (.int .i64 V.clock) ∧ w'.cell? ⟨w.heap.size, 3, none⟩ = some (.slice A0 V.globals.length c0) ∧ w'.cell? ⟨w.heap.size, 4, none⟩ = some (.slice A1 V.gs.length c1) ∧ w'.cell? ⟨w.heap.size, 5, none⟩ = some (.slice (some ⟨bo, off, none⟩) V.objects.length c2) ∧ w'.cell? ⟨w.heap.size, 6, none⟩ = some (.int .i64 V.grey) ∧ w'.cell? ⟨w.heap.size, 7, none⟩ = some (.int .i64 V.notes) ∧ w'.cell? ⟨w.heap.size, 8, none⟩ = some (.int .i64 V.roots) ∧ w'.cell? ⟨bo, off + kk * 3 + 1, none⟩ = some (.slice As o.slots.length cs) ∧ Chg [] wr w') ((refine fpS_of HX.out.2.1.b rfl j1 ?_; (repeat (first | assumption | exact Chg.refl [] wr | refine Chg.alloc ?_ _ | refine Chg.drew ?_))))
                  (first | (go_at_call 26; refine (KF.out _ _ (ow_vw HV.out HX.out.2.1.c ?_)).mono ?_; (first | assumption | exact Chg.refl _ _ | exact (Chg.refl _ _).drew); rintro e wf ⟨rfl, CF⟩; have D : Chg [] wr wf := Chg.trans (by first | assumption | exact Chg.refl _ _ | exact (Chg.refl _ _).drew) CF; obtain ⟨z0, z1, z2, z3, z4, z5, z6, z7, z8, z9, -⟩ := fpS_of HX.out.2.1.b rfl j1 D))
                have HY := Lib.hid (And.intro (HX.out.2.1.chg0 ‹Chg [] wr _›) (HX.out.2.2.1.chg0 ‹Chg [] wr _›))
                clear b0 b1 b2 b3 b4 b5 b6 b7 b8 z0 z1 z2 z3 z4 z5 z6 z7 z8 z9 CF D j1
                obtain ⟨t, ht⟩ : ∃ t : Int, t = (m' : Int) + 1 := ⟨_, rfl⟩
                have ht1 : 1 ≤ t ∧ t ≤ 100 := by omega
                have hFb : F b = some (t + 1) := by rw [HX.out.1.f, ht]; norm_cast
                have HT := Lib.hid (And.intro ht hFb); clear ht hFb
                go_wp2_with fail
                obtain ⟨wp, rfl⟩ : ∃ wp : World, wp = wf := ⟨_, rfl⟩
                go_loopg [18, 19] (o.slots.length + 1) (fun gk v18 idx wr => Fp6Rel F t o.slots gk v18 idx wp wr)
                case atStart => exact ⟨0, 0, by omega, by omega, rfl, rfl, by rw [List.take_zero]; exact NextI.start _ _, Chg.refl [] _⟩
                case round =>
                  obtain ⟨k, nx, hgk3, hkn, rfl, rfl, hNx, C⟩ := hrel
                  by_cases e3 : k < o.slots.length
                  · obtain ⟨y, hy⟩ : ∃ y, o.slots[k]? = some y := ⟨_, List.getElem?_eq_getElem e3⟩
                    have I3 := HY.out.1.chg0 C
                    have hsl2 := HX.out.2.2.2.2.2.1.chg I3.c (Nat.le_refl _) (by simp)
                    obtain ⟨b9, o9, rfl, -, y0⟩ := hsl2.at_ _ _ _ rfl k y hy
                    have hwy := hsl2.wf y (List.mem_of_getElem? hy)
                    have hk' : (k : Int) < (o.slots.length : Int) := by omega
                    have hk0 : (0 : Int) ≤ (k : Int) := by omega
                    have htk := take_succ_get hy
                    obtain ⟨u, hu⟩ : ∃ u, (F y).getD 0 = u := ⟨_, rfl⟩
                    have lkb := I3.lookN (u := t + 1) hwb (by rw [HT.out.2]; rfl)
                    have lky := I3.lookN hwy hu
                    have ew1 : wrap64 (t + 1 - 1) = t := by rw [Int.add_sub_cancel]; exact wrap_small (by omega) (by omega)
                    have ew2 : wrap64 t = t := wrap_small (by omega) (by omega)
                    have HU := Lib.hid (And.intro hNx (And.intro C (And.intro htk hu))); clear hNx C htk hsl2 hy I3 hwy
                    by_cases hy0 : y = 0
                    · have hq3 : (y != 0) = false := by rw [bne_eq_false_iff_eq]; exact hy0
                      have HY0 := Lib.hid hy0; clear hy0
                      go_upto_region 34 with fail
                      go_quiet (fail)
                      go_wp2_with fail
                      go_roundg (o.slots.length - k)
                      case measure => omega
                      case rel => exact ⟨k + 1, nx, by omega, by omega, by go_num, rfl, by rw [HU.out.2.2.1]; exact HU.out.1.skip (.inl HY0.out), HU.out.2.1.drewN _⟩
                    · have hq3 : (y != 0) = true := by rw [bne_iff_ne]; exact hy0
                      have HY0 := Lib.hid hy0; clear hy0
                      by_cases hut : F y = some t
                      · have hu2 : u = t := by rw [← hu, hut]; rfl
                        have hq4 : (u == t) = true := by rw [beq_iff_eq]; exact hu2
                        have HUT := Lib.hid hut; clear hut hu2 hu
                        by_cases hnx : nx = 0
                        · have hq5 : (nx == 0) = true := by rw [beq_iff_eq]; exact hnx
                          have HNX := Lib.hid hnx; clear hnx
                          go_upto_region 34 with fail
                          go_quiet (fail)
                          go_wp2_with fail
                          go_roundg (o.slots.length - k)
                          case measure => omega
                          case rel => exact ⟨k + 1, y, by omega, by omega, by go_num, rfl, by rw [HU.out.2.2.1]; exact HU.out.1.turn HY0.out HUT.out (.inl HNX.out), HU.out.2.1.drewN _⟩
                        · have hq5 : (nx == 0) = false := by rw [beq_eq_false_iff_ne]; exact hnx
                          have HNX := Lib.hid hnx; clear hnx
                          by_cases hyn : y < nx
                          · have hd3 : decide (y < nx) = true := decide_eq_true hyn
                            have HYN := Lib.hid hyn
                            go_upto_region 34 with fail
                            go_quiet (fail)
                            go_wp2_with fail
                            go_roundg (o.slots.length - k)
                            case measure => omega
                            case rel => exact ⟨k + 1, y, by omega, by omega, by go_num, rfl, by rw [HU.out.2.2.1]; exact HU.out.1.turn HY0.out HUT.out (.inr HYN.out), HU.out.2.1.drewN _⟩
                          · have hd3 : decide (y < nx) = false := decide_eq_false hyn
                            have HYN := Lib.hid hyn
                            go_upto_region 34 with fail
                            go_quiet (fail)
                            go_wp2_with fail
                            go_roundg (o.slots.length - k)
                            case measure => omega
                            case rel => exact ⟨k + 1, nx, by omega, by omega, by go_num, rfl, by rw [HU.out.2.2.1]; exact HU.out.1.keep HNX.out (by have := HYN.out; omega), HU.out.2.1.drewN _⟩
                      · have hu2 : u ≠ t := fun e => by
                          cases e4 : F y with
                          | none => rw [e4] at hu; simp at hu; omega
                          | some u' => rw [e4] at hu; exact hut (by rw [e4, ← e, ← hu]; rfl)
                        have hq4 : (u == t) = false := by rw [beq_eq_false_iff_ne]; exact hu2
                        have HUT := Lib.hid hut; clear hut hu2 hu
                        go_upto_region 34 with fail
                        go_quiet (fail)
                        go_wp2_with fail
                        go_roundg (o.slots.length - k)
                        case measure => omega
                        case rel => exact ⟨k + 1, nx, by omega, by omega, by go_num, rfl, by rw [HU.out.2.2.1]; exact HU.out.1.skip (.inr HUT.out), HU.out.2.1.drewN _⟩
                  · have e4 : o.slots.length = k := by omega
                    have e5 : o.slots.take k = V.slotsAt b := by rw [← e4, List.take_length]; exact HX.out.2.2.2.2.2.2.symm
                    have hk' : ¬ (k : Int) < (o.slots.length : Int) := by omega
                    rw [e5, HT.out.1] at hNx
                    obtain ⟨hnx0, hnxl, hDn⟩ := DwnI.step HR.out HL.out HI.out.1 HX.out.1 hNx
                    have I3 := HY.out.1.chg0 C
                    have O3 := HY.out.2.chg0 C
                    have HU := Lib.hid (And.intro hnxl (And.intro hDn (And.intro I3 O3))); clear hnx0 hnxl hDn I3 O3 C hNx e5 e3 hgk3
                    go_wp2_with (at_builtin; refine wpList_push_int rfl _ _ rfl slty rfl HU.out.2.2.2 rfl (by omega) ?_)
                    intro A' c' w8 O8 S8
                    have I8 : FpM w w.heap.size bF (vwBox V A0 c0 A1 c1 (some ⟨bo, off, none⟩) c2) (.slice A5 l.length c5) l F N w8 := ⟨HU.out.2.2.1.m.chg S8.c (HU.out.2.2.1.m.ne_own HU.out.2.2.2), HU.out.2.2.1.o.chg S8.c (fun k hk hm => HX.out.2.2.2.1 k hm hk), S8.c.blk HU.out.2.2.1.b (HU.out.2.2.2.ne_blk HU.out.2.2.1.b (by decide)), HU.out.2.2.1.c.new S8.c HX.out.2.2.2.2.1, HU.out.2.2.1.f⟩
                    have N8 := fresh_not HU.out.2.2.1.o S8 HX.out.2.2.2.1
                    have G8 := fresh_ge S8 HU.out.2.2.1.c HX.out.2.2.2.2.1
                    have H8 := Lib.hid (And.intro I8 (And.intro O8 (And.intro N8 G8))); clear I8 O8 N8 G8 S8
                    go_wp2_with fail
                    go_roundg (m' + 1)
                    case measure => omega
                    case rel => exact ⟨m', nx, p ++ [nx], by omega, rfl, HU.out.1, HU.out.2.1, H8.out.1, H8.out.2.1, H8.out.2.2.1, H8.out.2.2.2⟩
end Go.Proofs.Ytfkgooliglcjkaa
