/- The walk of package arena: Span. -/
import Derived.Test.YtkocikpoagfonaaDoorAr6
namespace Go.Proofs.YtkocikpoagfonaaDoor
open Go.RowKit

def spanA (a : Ar) (l' : List R) (id q f : Nat) : Ar := { a with l := l', sp := updF a.sp id (some ⟨f, q, fun _ => false, fun _ => false, 0⟩), ow := fun p => if f ≤ p ∧ p < f + pgK q then some id else a.ow p }
def ApPost (h : ArH) (a : Ar) (k : Int) (w : World) (e : Ending) (w' : World) : Prop :=
  (¬ isK k ∧ e = .returned (.tuple #[.int .i64 0, .int .i64 1]) ∧ Chg [] w w') ∨
  ∃ q : Nat, k = q ∧ q < 16 ∧ ∃ x c l', AllocSays a.l (pgK q : Nat) x c l' ∧
    ((c ≠ 0 ∧ e = .returned (.tuple #[.int .i64 0, .int .i64 c]) ∧ ∃ h' : ArH, ArM w' h' { a with l := l' } ∧ StA h a h' { a with l := l' } w w' ∧ h'.m = h.m ∧ h'.N = h.N ∧ h'.ga = h.ga) ∨
     (c = 0 ∧ ∃ (f id : Nat) (h' : ArH), x = f ∧ a.sp id = none ∧ (∀ j, j < id → a.sp j ≠ none) ∧ e = .returned (.tuple #[.int .i64 (id : Nat), .int .i64 0]) ∧ ArM w' h' (spanA a l' id q f) ∧ StA h a h' (spanA a l' id q f) w w' ∧ h'.m ≤ h.m + 6 ∧ h'.N = h.N ∧ h'.ga = h.ga))
theorem pages_k (w : World) (q : Nat) (h : q < 16) : Calls Tryd.prog 30 #[.int .i64 q] w (NwPost (.int .i64 (pgK q)) w) := by
  have := pages_ok w q
  rwa [pgI_nat h] at this
def IdRel (w0 : World) (a : Ar) (N : Nat) (gk : Nat) (idx : Value) (w : World) : Prop := ∃ i, gk + i = N + 1 ∧ i ≤ N ∧ idx = .int .i64 (i : Nat) ∧ (∀ j, j < i → a.sp j ≠ none) ∧ w = w0
def owT (a : Ar) (f t id p : Nat) : Option Nat := if f ≤ p ∧ p < f + t then some id else a.ow p
theorem owT_zero (a : Ar) (f id : Nat) : owT a f 0 id = a.ow := by funext p; unfold owT; rw [if_neg (by omega)]
theorem owT_succ (a : Ar) (f t id : Nat) : updF (owT a f t id) (f + t) (some id) = owT a f (t + 1) id := by
  funext p
  unfold updF owT
  by_cases e : p = f + t
  · rw [if_pos e, if_pos (by omega)]
  · rw [if_neg e]
    by_cases h : f ≤ p ∧ p < f + t
    · rw [if_pos h, if_pos (by omega)]
    · rw [if_neg h, if_neg (by omega)]
def owHn (h : ArH) (t : Nat) : ArH := { h with m := h.m + t }
def OwRel (w0 : World) (h0 h4 : ArH) (a0 a4 : Ar) (f id P : Nat) (gk : Nat) (idx : Value) (w : World) : Prop :=
  ∃ t, gk + t = P + 1 ∧ t ≤ P ∧ idx = .int .i64 (t : Nat) ∧ ArM w (owHn h4 t) { a4 with ow := owT a4 f t id } ∧ StA h0 a0 (owHn h4 t) { a4 with ow := owT a4 f t id } w0 w
set_option maxHeartbeats 3200000 in
set_option maxRecDepth 100000 in
theorem aspan_ok (w : World) (h : ArH) (a : Ar) (M : ArM w h a) (ok : Okn a.n a.l) (hn : a.n ≤ 262144) (hm : h.m ≤ 1000000) (N : Nat) (hN : N ≤ 1000000) (top : ∀ id, N ≤ id → a.sp id = none) (k : Int) :
    Calls Tryd.prog 9 #[.pointer (some ⟨h.ga, 0, none⟩), .int .i64 k] w (ApPost h a k w) := by
  have HM := Lib.hid M; clear M
  go_enter Tryd.func9, Tryd.ntmps9
  go_wp2_with fail
  refine (size_ok w k).mono ?_
  rintro e w1 ⟨rfl, c1⟩
  by_cases hk : isK k
  · obtain ⟨q, rfl⟩ : ∃ q : Nat, k = q := ⟨k.toNat, by have := hk.1; omega⟩
    have hq : q < 16 := by have := hk.2; omega
    obtain ⟨_, _, h3, h4, h5, h6, _⟩ := kF hq
    rw [szI_nat hq]
    have hz : ((szK q : Int) == 0) = false := by rw [beq_eq_false_iff_ne]; omega
    have hz2 : (szK q == 0) = false := by rw [beq_eq_false_iff_ne]; omega
    have HC := Lib.hid (And.intro (HM.out.chg0 c1) c1); clear c1 hk
    go_upto_region 3 with fail
    clear hz hz2
    have k1 : Chg [] w1 w1.drew := (Chg.refl [] w1).drew
    have b0 : w1.cell? ⟨h.ga, 0, none⟩ = some (.pointer (some ⟨h.gp, 0, none⟩)) := HC.out.1.b.cellv 0 rfl
    have hga := HC.out.1.b.lt
    have hgp : h.ga ∉ h.gp :: fpv h.v := fun hm => by
      rcases List.mem_cons.1 hm with e | e
      · exact HC.out.1.P.b.ne_ HC.out.1.b (by decide) e.symm
      · exact own_far HC.out.1.P.o HC.out.1.b (by decide) e
    go_region_held3 (fun w' => w'.cell? ⟨h.ga, 0, none⟩ = some (.pointer (some ⟨h.gp, 0, none⟩))) (go_keep)
      (first
        | (go_at_call 30; refine (pages_k _ q hq).mono ?_; rintro e w' ⟨rfl, C⟩; have D := Chg.trans (S := []) (a := w1) (by repeat (first | assumption | exact Chg.refl [] w1 | refine Chg.drew ?_)) C; have z1 : w'.cell? ⟨h.ga, 0, none⟩ = some (.pointer (some ⟨h.gp, 0, none⟩)) := D.cellv hga (by simp) b0)
        | (go_at_call 29; refine (alloc_ok _ h.gp a.n h.v a.l (HC.out.1.P.chg0 (by assumption : Chg [] w1 _)) ok hn (pgK q : Nat)).mono ?_; rintro e w' ⟨x, c, l', hs, rfl, v', P', st⟩; have D2 := (Chg.mono (T := h.gp :: fpv h.v) (by assumption : Chg [] w1 _) (by simp)).trans st.c; have z2 : w'.cell? ⟨h.ga, 0, none⟩ = some (.pointer (some ⟨h.gp, 0, none⟩)) := D2.cellv hga hgp b0; have HA := Lib.hid (And.intro hs (And.intro P' (And.intro st D2))); clear hs P' st D2))
    have hs := HA.out.1
    have M2 := HC.out.1.pages HA.out.2.1 HA.out.2.2.2
    have st2 := (StA.same (h := h) (a := a) HC.out.2).trans (StA.pages (a := a) (l' := l') HA.out.2.2.2 (fun k hk => by
      rcases HA.out.2.2.1.f k (List.mem_cons_of_mem _ hk) with h1 | h1
      · exact .inl h1
      · exact .inr (Nat.le_trans (Chg.size (by assumption : Chg [] w1 _)) h1)))
    have H2 := Lib.hid (And.intro M2 (And.intro st2 hs)); clear M2 st2 hs HA
    by_cases hc : c = 0
    · subst hc
      obtain ⟨f, rfl⟩ : ∃ f : Nat, x = f := by
        rcases H2.out.2.2 with ⟨h1, _⟩ | ⟨_, _, _, h1, _⟩ | ⟨_, r, _, h1, _⟩
        · omega
        · omega
        · exact ⟨r.f, h1⟩
      obtain ⟨w2, rfl⟩ : ∃ W : World, W = w' := ⟨_, rfl⟩
      go_wp2_with fail
      go_loopg [8] (N + 1) (fun gk idx wr => IdRel w2 a N gk idx wr)
      case atStart => exact ⟨0, by omega, by omega, rfl, by intro j hj; omega, rfl⟩
      case round =>
        obtain ⟨i, hgk, hiN, rfl, hall, rfl⟩ := hrel
        have b1 : wr.cell? ⟨h.ga, 1, none⟩ = some (.map (some h.bs)) := H2.out.1.b.cellv 1 rfl
        have hl := H2.out.1.s.look tyS (x := (i : Int)) (by unfold Wf64; omega)
        rw [natV_nat] at hl
        cases hsp : a.sp i with
        | some s =>
          have e9 : (spV (pgH h v') { a with l := l' } i).getD (.pointer none) = .pointer (some ⟨(h.B i).g, 0, none⟩) := by unfold spV; rw [hsp]; rfl
          rw [e9] at hl
          have hl' : (Instr.lookup 50 (.map (some h.bs)) (.int .i64 (i : Nat)) false).run Tryd.prog wr = .ok (.pointer (some ⟨(h.B i).g, 0, none⟩)) wr := hl
          have hlt : i < N := by
            rcases Nat.lt_or_ge i N with h1 | h1
            · exact h1
            · rw [top i h1] at hsp; cases hsp
          have HX := Lib.hid (And.intro hall hsp); clear hall hsp hl e9
          go_wp2_with fail
          go_roundg (N - i)
          case measure => omega
          case rel => exact ⟨i + 1, by omega, by omega, by go_num, fun j hj => by
            by_cases e : j = i
            · rw [e, HX.out.2]; simp
            · exact HX.out.1 j (by omega), rfl⟩
        | none =>
          have e9 : (spV (pgH h v') { a with l := l' } i).getD (.pointer none) = .pointer none := by unfold spV; rw [hsp]; rfl
          rw [e9] at hl
          have hl' : (Instr.lookup 50 (.map (some h.bs)) (.int .i64 (i : Nat)) false).run Tryd.prog wr = .ok (.pointer none) wr := hl
          have HX := Lib.hid (And.intro hall hsp); clear hall hsp hl e9
          have hf : 1 ≤ f ∧ f ≤ 262144 ∧ f + pgK q ≤ a.n := by
            rcases H2.out.2.2 with ⟨_, h1, h2, _⟩ | ⟨_, _, _, h2, _⟩ | ⟨_, r, hr, h1, _⟩
            · omega
            · omega
            · have hb := ok.bd r hr.1
              have h2 := hr.2.1
              rw [Int.toNat_natCast] at h2
              omega
          have hf1 := hf.1
          have hf2 := hf.2.1
          have hgj : h.ga ≠ h.bs := fun e => H2.out.1.s.ne_blk H2.out.1.b e.symm
          go_upto_region 9 with fail
          go_cut [39] from 40 to 49 (fun _ wd => ∃ (b : SpB) (w3 : World), IsSp w3 b ⟨f, q, fun _ => false, fun _ => false, 0⟩ ∧ Chg [] wr w3 ∧ (∀ j ∈ b.l, wr.heap.size ≤ j) ∧ VMap Tryd.prog 3 wd h.bs (h.m + 1) (putV (natV (spV (pgH h v') { a with l := l' })) (i : Nat) (.pointer (some ⟨b.g, 0, none⟩))) ∧ Chg [h.bs] w3 wd)
          case first =>
            have k1 : Chg [] wr wr.drew := (Chg.refl [] wr).drew
            have hwf : Wf64 ((i : Nat) : Int) := by unfold Wf64; omega
            have hput : ∀ (W : World) (u : Value), OKM Tryd.prog 3 h.bs W → (Instr.mapUpdate 50 (.map (some h.bs)) (.int .i64 ((i : Nat) : Int)) u).run Tryd.prog W = .ok () (putW Tryd.prog 50 h.bs (i : Nat) u W) := fun W u hW => hW.run tyS hwf u
            have hok0 : OKM Tryd.prog 3 h.bs wr := H2.out.1.s.okm (by show h.m ≤ 1000002; omega)
            have HW := Lib.hid hwf
            clear hwf hl'
            have hga2 := H2.out.1.b.lt
            go_region_held3 (fun w' => w'.cell? ⟨h.ga, 1, none⟩ = some (.map (some h.bs)) ∧ OKM Tryd.prog 3 h.bs w')
              (first
                | exact ⟨b1, hok0⟩
                | ((refine ⟨(Chg.cellv (S := []) (a := wr) ?_ hga2 (by simp) b1), (hok0.chg ?_)⟩ <;> repeat (first | assumption | exact Chg.refl [] wr | refine Chg.drew ?_)); done)
                | exact keep_put (by repeat (first | assumption | exact Chg.refl [] wr | refine Chg.drew ?_)) H2.out.1.s tyS HW.out (by show h.m ≤ 1000001; omega) _ b1 hgj)
              (first
                | (go_at_call 31; refine (snew_ok _ f q hq hf1 hf2).mono ?_; rintro e w' ⟨b, rfl, I, C, hb⟩; have D := Chg.trans (S := []) (a := wr) (by repeat (first | assumption | exact Chg.refl [] wr | refine Chg.drew ?_)) C; have z1 : w'.cell? ⟨h.ga, 1, none⟩ = some (.map (some h.bs)) := D.cellv hga2 (by simp) b1; have z2 := hok0.chg D; have HS := Lib.hid (And.intro I (And.intro D hb)); clear I hb))
            have hz := putW_says (H2.out.1.s.chg (S := []) D (by simp)) tyS HW.out (.pointer (some ⟨b.g, 0, none⟩)) (by show h.m < maxLen; unfold maxLen; omega)
            have HZ := Lib.hid hz; clear hz
            go_wp2_with fail
            go_meet
            exact ⟨b, w', HS.out.1, HS.out.2.1, HS.out.2.2, HZ.out.2.1, HZ.out.2.2.1⟩
          case rest =>
            obtain ⟨b, w3, I3, c3, hb3, V4, c4⟩ := hcut
            obtain ⟨w4, rfl⟩ : ∃ W : World, W = wc := ⟨_, rfl⟩
            have M4 := H2.out.1.newspan (id := i) HX.out.2 I3 c3 hb3 V4 c4
            have st4 := H2.out.2.1.trans (StA.newspan (h := pgH h v') (a := { a with l := l' }) (id := i) (b := b) (s := ⟨f, q, fun _ => false, fun _ => false, 0⟩) ((c3.mono (by simp)).trans c4) hb3)
            have H4 := Lib.hid (And.intro M4 st4); clear M4 st4 I3 c3 hb3 V4 c4 b1 hl'
            go_wp2_with fail
            refine (pages_k w4 q hq).mono ?_
            rintro e w5 ⟨rfl, c5⟩
            have M5 := H4.out.1.chg0 c5
            have st5 := H4.out.2.trans (StA.same c5)
            obtain ⟨h4, hh4⟩ : ∃ h4, h4 = spanH (pgH h v') i b := ⟨_, rfl⟩
            obtain ⟨a4, ha4⟩ : ∃ a4 : Ar, a4 = { ({ a with l := l' } : Ar) with sp := updF a.sp i (some ⟨f, q, fun _ => false, fun _ => false, 0⟩) } := ⟨_, rfl⟩
            obtain ⟨P, hP⟩ : ∃ P, P = pgK q := ⟨_, rfl⟩
            rw [← hP] at h6 ⊢
            have hfn := hf.2.2
            rw [← hP] at hfn
            have M5' : ArM w5 h4 a4 := by rw [hh4, ha4]; exact M5
            have st5' : StA h a h4 a4 w w5 := by rw [hh4, ha4]; exact st5
            have H5 := Lib.hid (And.intro M5' (And.intro st5' (And.intro hh4 (And.intro ha4 hP)))); clear M5 st5 M5' st5' hh4 ha4 c5 hP hf h5
            have g1 : h4.ga = h.ga := by rw [H5.out.2.2.1]; rfl
            have g2 : h4.m = h.m + 1 := by rw [H5.out.2.2.1]; rfl
            have HG := Lib.hid (And.intro g1 g2); clear g1 g2
            go_wp2_with fail
            obtain ⟨w6, rfl⟩ : ∃ W : World, W = w5 := ⟨_, rfl⟩
            go_loopg [52] (P + 1) (fun gk idx wr => OwRel w h h4 a a4 f i P gk idx wr)
            case atStart => exact ⟨0, by omega, by omega, rfl, by rw [owT_zero]; exact H5.out.1, by rw [owT_zero]; exact H5.out.2.1⟩
            case round =>
              obtain ⟨t, hgk2, htP, rfl, M, st⟩ := hrel
              by_cases et : t < P
              · have ht' : (t : Int) < (P : Int) := by omega
                have b2 : wr.cell? ⟨h.ga, 2, none⟩ = some (.map (some h4.bo)) := by rw [← HG.out.1]; exact M.b.cellv 2 rfl
                have hb1 : (f : Int) + (t : Int) ≤ 300000 := by omega
                have hb2 : (0 : Int) ≤ (f : Int) + (t : Int) := by omega
                have hwf : Wf64 ((f + t : Nat) : Int) := by unfold Wf64; omega
                have hmm : (owHn h4 t).m < maxLen := by show h4.m + t < maxLen; have := HG.out.2; unfold maxLen; omega
                have HX2 := Lib.hid (And.intro M st); clear M st
                go_wp2_with (at_mapUpdate; refine wpList_vmap_put rfl _ _ _ rfl HX2.out.1.o tyO rfl (k := ((f + t : Nat) : Int)) rfl hwf rfl hmm ?_)
                intro w7 V7 C7 _
                have M7 := HX2.out.1.owner (p := f + t) (id := i) V7 C7
                have st7 := HX2.out.2.trans (StA.owner (h := owHn h4 t) (a := { a4 with ow := owT a4 f t i }) (f := updF (owT a4 f t i) (f + t) (some i)) C7)
                have e7 : ({ ({ a4 with ow := owT a4 f t i } : Ar) with ow := updF (owT a4 f t i) (f + t) (some i) } : Ar) = { a4 with ow := owT a4 f (t + 1) i } := by rw [owT_succ]
                have H7 := Lib.hid (And.intro M7 (And.intro st7 e7)); clear M7 st7 e7 V7 C7 hwf hmm
                go_wp2_with fail
                go_roundg (P - t)
                case measure => omega
                case rel => exact ⟨t + 1, by omega, by omega, by go_num, by rw [← H7.out.2.2]; exact H7.out.1, by rw [← H7.out.2.2]; exact H7.out.2.1⟩
              · have et2 : t = P := by omega
                subst et2
                have ht' : ¬ (t : Int) < (t : Int) := by omega
                have HX2 := Lib.hid (And.intro M st); clear M st
                go_wp2_with fail
                go_ret2
                have eA : ({ a4 with ow := owT a4 f t i } : Ar) = spanA a l' i q f := by
                  rw [H5.out.2.2.2.1, H5.out.2.2.2.2]; rfl
                refine .inr ⟨q, rfl, hq, f, 0, l', H2.out.2.2, .inr ⟨rfl, f, i, owHn h4 t, rfl, HX.out.2, HX.out.1, rfl, by rw [← eA]; exact HX2.out.1, by rw [← eA]; exact HX2.out.2, ?_, ?_, ?_⟩⟩
                · show h4.m + t ≤ h.m + 6
                  have := HG.out.2; omega
                · show h4.N = h.N
                  rw [H5.out.2.2.1]; rfl
                · exact HG.out.1
    · have hc1 : (c != 0) = true := by rw [bne_iff_ne]; exact hc
      have HQ := Lib.hid hc; clear hc
      go_wp2_with fail
      go_ret2
      exact .inr ⟨q, rfl, hq, x, c, l', H2.out.2.2, .inl ⟨HQ.out, rfl, _, H2.out.1, H2.out.2.1, rfl, rfl, rfl⟩⟩
  · rw [szI_no hk]
    have HC := Lib.hid (And.intro c1 hk); clear c1 hk
    go_wp2_with fail
    go_ret2
    exact .inl ⟨HC.out.2, rfl, HC.out.1⟩
end Go.Proofs.YtkocikpoagfonaaDoor
