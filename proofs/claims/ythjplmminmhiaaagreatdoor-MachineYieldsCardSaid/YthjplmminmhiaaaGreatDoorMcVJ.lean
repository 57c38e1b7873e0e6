/- Package state: Move, a turn that may be. -/
/- Package machine: take, where the P's own ring serves. -/
import Derived.Test.YthjplmminmhiaaaGreatDoorMcEJ
import Derived.Test.YthjplmminmhiaaaGreatDoorMcTJ
import Derived.Test.YthjplmminmhiaaaGreatDoorMcOJ
import Derived.Test.YthjplmminmhiaaaGreatDoorMd4
namespace Go.Proofs.YthjplmminmhiaaaGreatDoor
open Go.RowKit Go.Maps

theorem stC_dec {xs : List Int} {k f t : Nat} (hx : xs[k]? = some (f : Int)) (hf : f < 6) (ht : t < 6) (hne : f ≠ t) (i : Nat) :
    cntI (xs.set k (t : Int)) (i : Int) = if i = t then cntI xs (i : Int) + 1 else if i = f then cntI xs (i : Int) - 1 else cntI xs (i : Int) := by
  have hk := (List.getElem?_eq_some_iff.1 hx).1
  have hxk := (List.getElem?_eq_some_iff.1 hx).2
  unfold cntI
  rw [List.count_set hk, hxk]
  by_cases h1 : i = t
  · subst h1
    rw [if_pos rfl]
    have e1 : ¬ ((f : Int) == (i : Int)) = true := by simp; omega
    have e2 : ((i : Int) == (i : Int)) = true := by simp
    simp only [e1, e2, if_true, if_false]
    simp
  · rw [if_neg h1]
    by_cases h2 : i = f
    · subst h2
      rw [if_pos rfl]
      have e2 : ¬ ((t : Int) == (i : Int)) = true := by simp; omega
      simp [e2]
    · rw [if_neg h2]
      have e1 : ¬ ((f : Int) == (i : Int)) = true := by simp; omega
      have e2 : ¬ ((t : Int) == (i : Int)) = true := by simp; omega
      simp [e1, e2]
theorem cntI_pos {xs : List Int} {k f : Nat} (hx : xs[k]? = some (f : Int)) : 1 ≤ cntI xs (f : Int) := List.count_pos_iff.2 (List.mem_of_getElem? hx)
def MvPost (g : Nat) (v : Value) (xs : List Int) (w : World) (e : Ending) (w' : World) : Prop := e = .returned (.int .i64 0) ∧ IsSt w' g v xs ∧ Stp (g :: fpv v) (g :: fpv v) w w'
set_option maxHeartbeats 1600000 in
set_option maxRecDepth 100000 in
theorem st_move (w : World) (g : Nat) (v : Value) (xs : List Int) (I : IsSt w g v xs) (k f t : Nat) (hx : xs[k]? = some (f : Int)) (h : okT f t) (hl : xs.length ≤ 1000000) : Calls Tryz.prog 47 #[.pointer (some ⟨g, 0, none⟩), .int .i64 (k : Nat), .int .i64 (t : Nat)] w (MvPost g v (xs.set k (t : Int)) w) := by
  have hb : 1 ≤ f ∧ f < 6 ∧ 1 ≤ t ∧ t < 6 ∧ f ≠ t := by rcases h with ⟨rfl, rfl⟩ | ⟨rfl, rfl⟩ | ⟨rfl, rfl⟩ | ⟨rfl, rfl⟩ | ⟨rfl, rfl⟩ | ⟨rfl, rfl⟩ | ⟨rfl, rfl⟩ <;> decide
  have K1 := st_of w g v xs I k (f : Int) hx
  obtain ⟨A, c, hv⟩ := I.o.slice
  have c0 : w.cell? ⟨g, 0, none⟩ = some v := I.b.cellv 0 rfl
  obtain ⟨n, hn⟩ : ∃ n, n = xs.length := ⟨_, rfl⟩
  rw [hv, ← hn] at c0
  have O := I.o
  rw [hv, ← hn] at O
  obtain ⟨b, hA, ck, fk, -⟩ := O.cell hx
  subst hA
  have hk : k < n := by rw [hn]; exact (List.getElem?_eq_some_iff.1 hx).1
  have hbv : b ∈ fpv v := by rw [hv]; simp [fpv, Value.ownBlock]
  have e1 : (0 : Int) ≤ k := by omega
  have e2 : (k : Int) < (n : Int) := by omega
  have e3 : ¬ (f : Int) = 0 := by omega
  have e4 : ((f : Int) == 0) = false := by rw [beq_eq_false_iff_ne]; omega
  have HI := Lib.hid (And.intro I (And.intro hn (And.intro hv (And.intro hbv (And.intro hx (And.intro K1 O)))))); clear I hn hv hbv hx K1 O
  go_enter Tryz.func47, Tryz.ntmps47
  go_wp2_with fail
  refine HI.out.2.2.2.2.2.1.mono ?_
  rintro e w1 ⟨rfl, rfl⟩
  go_wp2_with fail
  refine (st_may w1 f t h).mono ?_
  rintro e w2 ⟨rfl, c2⟩
  have I2 : IsSt w2 g v xs := ⟨c2.blk HI.out.1.b (by simp), HI.out.1.o.chg0 c2, HI.out.1.r⟩
  have c0' : w2.cell? ⟨g, 0, none⟩ = some (.slice (some ⟨b, 0, none⟩) n c) := by
    have e : w2.cell? ⟨g, 0, none⟩ = some v := I2.b.cellv 0 rfl
    rw [e, HI.out.2.1]; exact congrArg some HI.out.2.2.1
  have ck' : w2.cell? ⟨b, k, none⟩ = some (.int .i64 (f : Nat)) := c2.cellv (lt_of_cellM ck) (by simp) ck
  have cf : w2.cell? ⟨g, 1 + f, none⟩ = some (.int .i64 (cntI xs (f : Int) : Nat)) := I2.b.cellv (1 + f) (stC_at v _ (by omega))
  have ff := I2.b.frozen (1 + f)
  have g0 : (0 : Int) ≤ (f : Int) := by omega
  have g1 : (f : Int) < 6 := by omega
  have g2 : (0 : Int) ≤ (t : Int) := by omega
  have g3 : (t : Int) < 6 := by omega
  have HJ := Lib.hid (And.intro I2 c2); clear I2 c2 c0 ck fk
  go_upto_region 7 with fail
  go_still_tail 15, (by kernel_rfl)
  change wpList _ _ _ _ _ w2.drew
  obtain ⟨p, hp⟩ : ∃ p, cntI xs (f : Int) = p + 1 := ⟨cntI xs (f : Int) - 1, by have := cntI_pos HI.out.2.2.2.2.1; omega⟩
  have hpl : p ≤ 1000000 := by have := cntI_le xs (f : Int); omega
  rw [hp] at cf ⊢
  have ew : IntKind.i64.wrap (((p + 1 : Nat) : Int) - 1) = (p : Int) := by rw [show ((p + 1 : Nat) : Int) - 1 = (p : Int) by omega]; exact IntWalk.i64_in _ (by omega)
  rw [ew]
  have cf' : w2.drew.cell? ⟨g, 1 + f, none⟩ = some (.int .i64 ((p + 1 : Nat) : Int)) := cf
  have ff' : w2.drew.frozen? ⟨g, 1 + f, none⟩ = false := ff
  go_upto_region 8 with fail
  generalize hw3 : World.drew (World.setCell w2 ⟨g, 1 + f, none⟩ (.int .i64 (p : Nat))) = w3
  have B3 : Blk w3 g 135 (stC v fun i => if i = f then p else cntI xs (i : Int)) := by
    rw [← hw3]
    exact (HJ.out.1.b.setv (1 + f) (.int .i64 (p : Nat)) (stC_set _ _ (by omega) p)).drew
  have C3 : Chg [g] w1 w3 := by rw [← hw3]; exact (((HJ.out.2.mono (by simp)).setCell (p := ⟨g, 1 + f, none⟩) (.inl (by simp)) (.int .i64 (p : Nat))).drew)
  clear hw3 cf cf' ff ff' c0' ck' ew
  have ct : w3.cell? ⟨g, 1 + t, none⟩ = some (.int .i64 (cntI xs (t : Int) : Nat)) := by
    have := B3.cellv (1 + t) (stC_at v _ (i := t) (by omega))
    rwa [if_neg (fun e => hb.2.2.2.2 e.symm)] at this
  have ft := B3.frozen (1 + t)
  have HK := Lib.hid (And.intro B3 (And.intro C3 hp)); clear B3 C3 hp
  obtain ⟨q, hq⟩ : ∃ q, cntI xs (t : Int) = q := ⟨_, rfl⟩
  have hql : q ≤ 1000000 := by have := cntI_le xs (t : Int); omega
  rw [hq] at ct
  have hq := Lib.hid hq
  go_still_tail 9, (by kernel_rfl)
  change wpList _ _ _ _ _ w3.drew
  have ew : IntKind.i64.wrap ((q : Int) + 1) = ((q + 1 : Nat) : Int) := by rw [show (q : Int) + 1 = ((q + 1 : Nat) : Int) by omega]; exact IntWalk.i64_in _ (by omega)
  rw [ew]
  have ct' : w3.drew.cell? ⟨g, 1 + t, none⟩ = some (.int .i64 (q : Int)) := ct
  have ft' : w3.drew.frozen? ⟨g, 1 + t, none⟩ = false := ft
  clear ew
  go_upto_region 9 with fail
  have eq1 : (q : Int) + 1 = ((q + 1 : Nat) : Int) := rfl
  rw [eq1]
  clear eq1
  generalize hw4 : World.drew (World.setCell w3 ⟨g, 1 + t, none⟩ (.int .i64 ((q + 1 : Nat) : Int))) = w4
  have B4 : Blk w4 g 135 (stC v fun i => if i = t then q + 1 else if i = f then p else cntI xs (i : Int)) := by
    rw [← hw4]
    exact (HK.out.1.setv (1 + t) (.int .i64 ((q + 1 : Nat) : Int)) (stC_set _ _ (by omega) (q + 1))).drew
  have C4 : Chg [g] w1 w4 := by rw [← hw4]; exact ((HK.out.2.1.setCell (p := ⟨g, 1 + t, none⟩) (.inl (by simp)) (.int .i64 ((q + 1 : Nat) : Int))).drew)
  clear hw4 ct ct' ft ft'
  have hgv : g ∉ fpv v := fun hm => own_ne HI.out.1.o.o HI.out.1.b (by decide) (mem_fpv.1 hm)
  have O4 := HI.out.1.o.chg C4 (fun k' hk' hm => hgv (by have e : k' = g := (by simpa using hm); rw [← e]; exact hk'))
  have c4 : w4.cell? ⟨g, 0, none⟩ = some (.slice (some ⟨b, 0, none⟩) n c) := by
    have e : w4.cell? ⟨g, 0, none⟩ = some v := B4.cellv 0 rfl
    rw [e, HI.out.2.1]; exact congrArg some HI.out.2.2.1
  have O4' := O4
  rw [HI.out.2.2.1] at O4'
  obtain ⟨b', hb', ck, fk, -⟩ := O4'.cell HI.out.2.2.2.2.1
  injection hb' with hb'
  injection hb' with hb'
  subst hb'
  have HL := Lib.hid (And.intro B4 (And.intro C4 (And.intro hgv O4'))); clear B4 C4 hgv O4 O4'
  go_wp2_with fail
  go_ret
  have hk2 : k < xs.length := by rw [← HI.out.2.1]; exact hk
  have cb : Chg [b] w4 (w4.setCell ⟨b, k, none⟩ (.int .i64 (t : Nat))) := (Chg.refl [b] w4).setCell (.inl (by simp)) _
  have hgb : g ≠ b := fun e => HL.out.2.2.1 (by rw [e]; exact HI.out.2.2.2.1)
  refine ⟨rfl, ⟨?_, ?_, fun x hx => ?_⟩, ⟨(HL.out.2.1.mono (by simp)).trans (cb.mono (fun k' hk' => .inl (by have e : k' = b := (by simpa using hk'); rw [e]; exact List.mem_cons_of_mem _ HI.out.2.2.2.1))), fun k' hk' => .inl hk'⟩⟩
  · have h5 := cb.blk HL.out.1 (by simpa using hgb)
    have e : (fun i : Nat => cntI (xs.set k (t : Int)) (i : Int)) = fun i => if i = t then q + 1 else if i = f then p else cntI xs (i : Int) := by
      funext i
      rw [stC_dec (xs := xs) HI.out.2.2.2.2.1 hb.2.1 hb.2.2.2.1 hb.2.2.2.2 i]
      by_cases h1 : i = t
      · subst h1; rw [if_pos rfl, if_pos rfl, hq.out]
      · rw [if_neg h1, if_neg h1]
        by_cases h2 : i = f
        · subst h2; rw [if_pos rfl, if_pos rfl, HK.out.2.2]; omega
        · rw [if_neg h2, if_neg h2]
    rw [e]; exact h5
  · have h6 := OwnI.set_ HL.out.2.2.2 hk2 (t : Int)
    rw [← HI.out.2.2.1] at h6
    exact h6
  · rcases List.mem_or_eq_of_mem_set hx with h1 | h1
    · exact HI.out.1.r x h1
    · omega
end Go.Proofs.YthjplmminmhiaaaGreatDoor
namespace Go.Proofs.YthjplmminmhiaaaGreatDoor
open Go.RowKit Go.Maps

def takeA (m : Mac) (q g : Nat) : Mac := { m with ps := updV m.ps q { m.ps q with g := (g : Nat), row := 0, picks := (m.ps q).picks + 1 }, rg := updV m.rg q (rgPop (m.rg q)), sts := m.sts.set g 2, gs := updV m.gs g { m.gs g with p := (q : Nat) } }
theorem updV_updV {α : Type} (f : Nat → α) (i : Nat) (x y : α) : updV (updV f i x) i y = updV f i y := by
  funext k; unfold updV; by_cases h : k = i <;> simp [h]
section
variable {W : Bs} {w : World} {p : MAt} {m : Mac} (M : MM W w p m)
include M
set_option maxHeartbeats 6400000 in
set_option maxRecDepth 100000 in
theorem m_take (q g : Nat) (vic : Int) (hq : q < m.np) (h0 : m.ph.ph = 0) (hvq : p.vq = .slice none 0 0) (pk : Nat) (hpk : (m.ps q).picks = pk) (bpk : pk ≤ 1000000) (hs : (m.rg q).hs = false) (hfr : (m.rg q).fr < 256) (hn0 : 0 < (m.rg q).n) (hn : (m.rg q).n ≤ 256) (hg : (m.rg q).l (m.rg q).fr = (g : Nat)) (hgn : g < m.ng) (hst : m.sts[g]? = some 1) (hsl : m.sts.length ≤ 1000000) :
    Calls Tryz.prog 51 #[.pointer (some ⟨p.gm, 0, none⟩), .int .i64 (q : Nat), .int .i64 vic] w (fun e w' => e = .returned (.tuple #[]) ∧ MM W w' p (takeA m q g)) := by
  obtain ⟨b, cap, c9, hps⟩ := M.psl
  obtain ⟨hv, hbq, hbl⟩ := hps q hq
  rw [hv] at c9
  have e1 : (0 : Int) ≤ q := by omega
  have e2 : (q : Int) < (m.np : Int) := by omega
  have k2 : w.cell? ⟨p.bp q, 2, none⟩ = some (.int .i64 (pk : Nat)) := by rw [← hpk]; exact (M.pb hq).cellv 2 rfl
  have f2 := (M.pb hq).frozen 2
  have HM := Lib.hid M
  clear hps hv M
  go_enter Tryz.func51, Tryz.ntmps51
  go_upto_region 3 with fail
  obtain ⟨w1, hw1⟩ : ∃ w1, w1 = w.setCell ⟨p.bp q, 2, none⟩ (.int .i64 ((pk : Int) + 1)) := ⟨_, rfl⟩
  rw [← hw1]
  have M1 : MM W w1 p { m with ps := updV m.ps q { m.ps q with picks := (m.ps q).picks + 1 } } := by
    rw [hw1, ← hpk]
    exact HM.out.pset hq 2 _ _ rfl
  obtain ⟨m1, hm1⟩ : ∃ m1, m1 = { m with ps := updV m.ps q { m.ps q with picks := (m.ps q).picks + 1 } } := ⟨_, rfl⟩
  rw [← hm1] at M1
  have x1 : m1.ps q = { m.ps q with picks := (m.ps q).picks + 1 } := by rw [hm1]; exact updV_same _ _ _
  have k2 : w1.cell? ⟨p.bp q, 2, none⟩ = some (.int .i64 ((pk : Int) + 1)) := by
    have h := (M1.pb (q := q) (by rw [hm1]; exact hq)).cellv 2 (show (prcC (m1.ps q) (p.vsc q) (p.bn q))[2]? = some (.int .i64 ((m1.ps q).picks)) from rfl)
    rw [x1] at h
    rw [h]
    show some (Value.int .i64 ((m.ps q).picks + 1)) = _
    rw [hpk]
  have c15 : w1.cell? ⟨p.gm, 15, none⟩ = some (.pointer (some ⟨p.gph, 0, none⟩)) := M1.mb.cellv 15 rfl
  have c10 : w1.cell? ⟨p.gm, 10, none⟩ = some (.pointer (some ⟨p.gsd, 0, none⟩)) := M1.mb.cellv 10 rfl
  have c7 : w1.cell? ⟨p.gm, 7, none⟩ = some (.pointer (some ⟨p.gst, 0, none⟩)) := M1.mb.cellv 7 rfl
  have KP := ph_phase_ok p.gph p.bsd m1.ph w1 M1.ph
  have hm1ph : m1.ph = m.ph := by rw [hm1]
  rw [hm1ph, h0] at KP
  have KS := sc_pick_own M1.sc hvq q (by rw [hm1]; exact hq) 61 vic (.inr rfl) (by rw [hm1]; exact hs) (by rw [hm1]; exact hfr) (by rw [hm1]; exact hn0) (by rw [hm1]; exact hn)
  have H1 := Lib.hid (And.intro M1 (And.intro KP (And.intro KS hm1)))
  clear M1 KP KS hw1 c9 hbq hbl f2 hm1ph x1
  by_cases hpar : ((pk : Int) + 1) % 2 = 0
  · have d1 : (((pk : Int) + 1) % 2 == 0) = true := by rw [beq_iff_eq]; exact hpar
    go_wp2_with fail
    clear d1 hpar k2 c15
    refine H1.out.2.2.1.mono ?_
    rintro e w2 ⟨rfl, I2, C2⟩
    have M2 := H1.out.1.scT I2 C2 (fun j hj => .inl (.inr (.inr (.inr (.inr ⟨q, by rw [H1.out.2.2.2]; exact hq, by simpa using hj⟩))))) (fun j hj => .inl hj)
    have eg : (m1.rg q).l (m1.rg q).fr = (g : Nat) := by rw [H1.out.2.2.2]; exact hg
    rw [eg]
    have Cl := C2.blk (by exact H1.out.1.mb) (by have := H1.out.1.ap .mach .sched p.gm rfl; simp; intro e; exact absurd (this (.inr (.inr (.inr (.inr ⟨q, by rw [H1.out.2.2.2]; exact hq, e⟩))))) (by simp))
    have c7' : w2.cell? ⟨p.gm, 7, none⟩ = some (.pointer (some ⟨p.gst, 0, none⟩)) := Cl.cellv 7 rfl
    have H2 := Lib.hid M2; clear M2 I2 C2 Cl c10 c7 eg
    go_wp2_with fail
    obtain ⟨m2, hm2⟩ : ∃ m2, m2 = { m1 with rg := updV m1.rg q (rgPop (m1.rg q)), com := m1.com } := ⟨_, rfl⟩
    have M2 : MM W w2 p m2 := by rw [hm2]; exact H2.out
    have KM := st_move w2 p.gst p.vst m2.sts M2.st g 1 2 (by rw [hm2, H1.out.2.2.2]; exact hst) (.inl ⟨rfl, rfl⟩) (by rw [hm2, H1.out.2.2.2]; exact hsl)
    refine KM.mono ?_
    rintro e w3 ⟨rfl, I3, S3⟩
    have M3 := M2.stT I3 rfl S3
    obtain ⟨m3, hm3⟩ : ∃ m3, m3 = { m2 with sts := m2.sts.set g ((2 : Nat) : Int) } := ⟨_, rfl⟩
    rw [← hm3] at M3
    have hgn3 : g < m3.ng := by rw [hm3, hm2, H1.out.2.2.2]; exact hgn
    have hq3 : q < m3.np := by rw [hm3, hm2, H1.out.2.2.2]; exact hq
    obtain ⟨bb, cap2, c8, hgs⟩ := M3.gsl
    obtain ⟨hv8, hbg, -⟩ := hgs g hgn3
    rw [hv8] at c8
    have z0 := (M3.pb hq3).cellv 0 rfl
    have z1 := (M3.pb hq3).cellv 1 rfl
    have y0 := (M3.pb hq3).frozen 0
    have y1 := (M3.pb hq3).frozen 1
    have z2 := (M3.gb hgn3).cellv 19 (gorC_19 _)
    have y2 := (M3.gb hgn3).frozen 19
    have n1 : ¬ p.bg g = p.bp q := (M3.gb hgn3).ne_ (M3.pb hq3) (by decide)
    have n2 : ¬ p.bp q = p.bg g := fun e => n1 e.symm
    have u1 : (0 : Int) ≤ (g : Int) := by omega
    have u2 : (g : Int) < (m3.ng : Int) := by omega
    have H3 := Lib.hid (And.intro M3 (And.intro hm3 hm2)); clear M3 I3 S3 KM M2 hgs hv8 hm3 hm2
    go_wp2_with fail
    go_end0
    have M4 := ((H3.out.1.pset hq3 0 (.int .i64 (g : Nat)) { m3.ps q with g := (g : Nat) } rfl).pset (q := q) hq3 1 (.int .i64 0) { m3.ps q with g := (g : Nat), row := 0 } (by show (prcC (updV m3.ps q _ q) _ _).setIfInBounds 1 _ = _; rw [updV_same]; rfl)).gset (g := g) hgn3 19 (.int .i64 (q : Nat)) { m3.gs g with p := (q : Nat) } rfl
    refine ⟨rfl, ?_⟩
    have h := M4
    rw [H3.out.2.1, H3.out.2.2, H1.out.2.2.2] at h
    simp only [updV_same, updV_updV] at h
    exact h
  · have d1 : (((pk : Int) + 1) % 2 == 0) = false := by rw [beq_eq_false_iff_ne]; exact hpar
    go_wp2_with fail
    refine H1.out.2.1.mono ?_
    rintro e w1 ⟨rfl, rfl⟩
    go_wp2_with fail
    clear d1 hpar k2 c15
    refine H1.out.2.2.1.mono ?_
    rintro e w2 ⟨rfl, I2, C2⟩
    have M2 := H1.out.1.scT I2 C2 (fun j hj => .inl (.inr (.inr (.inr (.inr ⟨q, by rw [H1.out.2.2.2]; exact hq, by simpa using hj⟩))))) (fun j hj => .inl hj)
    have eg : (m1.rg q).l (m1.rg q).fr = (g : Nat) := by rw [H1.out.2.2.2]; exact hg
    rw [eg]
    have Cl := C2.blk (by exact H1.out.1.mb) (by have := H1.out.1.ap .mach .sched p.gm rfl; simp; intro e; exact absurd (this (.inr (.inr (.inr (.inr ⟨q, by rw [H1.out.2.2.2]; exact hq, e⟩))))) (by simp))
    have c7' : w2.cell? ⟨p.gm, 7, none⟩ = some (.pointer (some ⟨p.gst, 0, none⟩)) := Cl.cellv 7 rfl
    have H2 := Lib.hid M2; clear M2 I2 C2 Cl c10 c7 eg
    go_wp2_with fail
    obtain ⟨m2, hm2⟩ : ∃ m2, m2 = { m1 with rg := updV m1.rg q (rgPop (m1.rg q)), com := m1.com } := ⟨_, rfl⟩
    have M2 : MM W w2 p m2 := by rw [hm2]; exact H2.out
    have KM := st_move w2 p.gst p.vst m2.sts M2.st g 1 2 (by rw [hm2, H1.out.2.2.2]; exact hst) (.inl ⟨rfl, rfl⟩) (by rw [hm2, H1.out.2.2.2]; exact hsl)
    refine KM.mono ?_
    rintro e w3 ⟨rfl, I3, S3⟩
    have M3 := M2.stT I3 rfl S3
    obtain ⟨m3, hm3⟩ : ∃ m3, m3 = { m2 with sts := m2.sts.set g ((2 : Nat) : Int) } := ⟨_, rfl⟩
    rw [← hm3] at M3
    have hgn3 : g < m3.ng := by rw [hm3, hm2, H1.out.2.2.2]; exact hgn
    have hq3 : q < m3.np := by rw [hm3, hm2, H1.out.2.2.2]; exact hq
    obtain ⟨bb, cap2, c8, hgs⟩ := M3.gsl
    obtain ⟨hv8, hbg, -⟩ := hgs g hgn3
    rw [hv8] at c8
    have z0 := (M3.pb hq3).cellv 0 rfl
    have z1 := (M3.pb hq3).cellv 1 rfl
    have y0 := (M3.pb hq3).frozen 0
    have y1 := (M3.pb hq3).frozen 1
    have z2 := (M3.gb hgn3).cellv 19 (gorC_19 _)
    have y2 := (M3.gb hgn3).frozen 19
    have n1 : ¬ p.bg g = p.bp q := (M3.gb hgn3).ne_ (M3.pb hq3) (by decide)
    have n2 : ¬ p.bp q = p.bg g := fun e => n1 e.symm
    have u1 : (0 : Int) ≤ (g : Int) := by omega
    have u2 : (g : Int) < (m3.ng : Int) := by omega
    have H3 := Lib.hid (And.intro M3 (And.intro hm3 hm2)); clear M3 I3 S3 KM M2 hgs hv8 hm3 hm2
    go_wp2_with fail
    go_end0
    have M4 := ((H3.out.1.pset hq3 0 (.int .i64 (g : Nat)) { m3.ps q with g := (g : Nat) } rfl).pset (q := q) hq3 1 (.int .i64 0) { m3.ps q with g := (g : Nat), row := 0 } (by show (prcC (updV m3.ps q _ q) _ _).setIfInBounds 1 _ = _; rw [updV_same]; rfl)).gset (g := g) hgn3 19 (.int .i64 (q : Nat)) { m3.gs g with p := (q : Nat) } rfl
    refine ⟨rfl, ?_⟩
    have h := M4
    rw [H3.out.2.1, H3.out.2.2, H1.out.2.2.2] at h
    simp only [updV_same, updV_updV] at h
    exact h
end
end Go.Proofs.YthjplmminmhiaaaGreatDoor
