/- Package machine: one Step of a P that takes a goroutine of its own, or goes on with the one that it runs. -/
/- Package ring: Steal, where nobody is told to be next and the thief has none. -/
/- Package sched: Pick, where the queue in common is empty and the P's own ring is empty, too: half of the victim's row, or nobody. (Printed by wip/genmj2.py.) -/
import Derived.Test.YtcpljjacamibeaaGreatDoorMg4
import Derived.Test.YtcpljjacamibeaaGreatDoorMcSfJ
import Derived.LaidEqlPtr
namespace Go.Proofs.YtcpljjacamibeaaGreatDoor
set_option maxHeartbeats 16000000
set_option maxRecDepth 100000
open Go.RowKit Go.Maps
section
variable {W : Bs} {w : World} {p : MAt} {m : Mac} (M : MM W w p m)
include M
end
def rgMv (x : RgR × RgR) : RgR × RgR := (rgPut x.1 (x.2.l x.2.fr), rgPop x.2)
def rgMvN : Nat → RgR × RgR → RgR × RgR
  | 0, x => x
  | n + 1, x => rgMv (rgMvN n x)
theorem rgMvN_n (n : Nat) (r o : RgR) (hn : n ≤ o.n) : (rgMvN n (r, o)).1.n = r.n + n ∧ (rgMvN n (r, o)).2.n = o.n - n := by
  induction n with
  | zero => exact ⟨rfl, rfl⟩
  | succ n ih =>
    obtain ⟨h1, h2⟩ := ih (by omega)
    refine ⟨?_, ?_⟩
    · show (rgMvN n (r, o)).1.n + 1 = _
      omega
    · show (rgMvN n (r, o)).2.n - 1 = _
      omega
theorem rgMvN_fr (n : Nat) (r o : RgR) (h1 : r.fr < 256) (h2 : o.fr < 256) : (rgMvN n (r, o)).1.fr < 256 ∧ (rgMvN n (r, o)).2.fr < 256 := by
  induction n with
  | zero => exact ⟨h1, h2⟩
  | succ n ih => exact ⟨ih.1, by show ((rgMvN n (r, o)).2.fr + 1) % 256 < 256; omega⟩
def StlRel (w1 : World) (g1 g2 : Nat) (r o : RgR) (k gk : Nat) (idx : Value) (w : World) : Prop := ∃ j : Nat, gk + j = k + 1 ∧ j ≤ k ∧ idx = .int .i64 (j : Nat) ∧ Blk w g1 263 (rgC (rgMvN j (r, o)).1) ∧ Blk w g2 263 (rgC (rgMvN j (r, o)).2) ∧ Chg [g1, g2] w1 w
def StlPost (g1 g2 : Nat) (r o : RgR) (k : Nat) (w : World) (e : Ending) (w' : World) : Prop := e = .returned (.int .i64 (k : Nat)) ∧ Blk w' g1 263 (rgC (rgMvN k (r, o)).1) ∧ Blk w' g2 263 (rgC (rgMvN k (r, o)).2) ∧ Chg [g1, g2] w w'
theorem rg_steal (w : World) (g1 g2 : Nat) (r o : RgR) (B1 : Blk w g1 263 (rgC r)) (B2 : Blk w g2 263 (rgC o)) (hne : g1 ≠ g2) (h0 : r.n = 0) (hf1 : r.fr < 256) (hf2 : o.fr < 256) (hs : o.hs = false) (hn : o.n ≤ 256) :
    Calls Tryz.prog 213 #[.pointer (some ⟨g1, 0, none⟩), .pointer (some ⟨g2, 0, none⟩)] w (StlPost g1 g2 r o (o.n - o.n / 2) w) := by
  obtain ⟨k, hk⟩ : ∃ k, k = o.n - o.n / 2 := ⟨_, rfl⟩
  rw [← hk]
  have hko : k ≤ o.n := by omega
  obtain ⟨n, hnn⟩ : ∃ n, n = o.n := ⟨_, rfl⟩
  have c2 : w.cell? ⟨g2, 257, none⟩ = some (.int .i64 (n : Nat)) := by rw [hnn]; exact B2.cellv 257 (rgC_n o)
  have c1 : w.cell? ⟨g1, 257, none⟩ = some (.int .i64 0) := by have h := B1.cellv 257 (rgC_n r); rw [h0] at h; exact h
  have c3 : w.cell? ⟨g2, 259, none⟩ = some (.bool false) := by rw [← hs]; exact B2.cellv 259 (rgC_hs o)
  obtain ⟨ti, hti, hsz⟩ : ∃ ti, Tryz.prog.info? 263 = some ti ∧ ti.size ≠ 0 := by
    have h := rg_zero
    cases e : Tryz.prog.info? 263 with
    | none => rw [e] at h; cases h
    | some ti =>
      rw [e] at h
      refine ⟨ti, rfl, fun e0 => ?_⟩
      have h2 := congrArg (fun x : Option (Option (Array Value) × Nat) => x.map Prod.snd) h
      simp [e0] at h2
  have hbin : (binOp .eql 173 (.pointer (some ⟨g1, 0, none⟩)) (.pointer (some ⟨g2, 0, none⟩))).run Tryz.prog w = .ok (.bool false) w := run_eql_ptr_other w Tryz.underlying173 hti hsz (fun e => hne (congrArg Addr.block e)) B1 B2
  have l1 := B1.lt
  have l2 := B2.lt
  have HB := Lib.hid (And.intro B1 (And.intro B2 (And.intro hk (And.intro hko hnn)))); clear B1 B2 hk hnn
  by_cases hz : n = 0
  · subst hz
    have hk0 : k = 0 := by have := HB.out.2.2.1; have := HB.out.2.2.2.2; omega
    go_enter Tryz.func213, Tryz.ntmps213
    go_upto_region 7 with fail
    go_quiet (fail)
    go_wp2_with fail
    go_loopg [61] 1 (fun gk idx wr => gk = 1 ∧ idx = .int .i64 0 ∧ wr = w.drewN nq)
    case atStart => exact ⟨rfl, rfl, rfl⟩
    case round =>
      obtain ⟨rfl, rfl, rfl⟩ := hrel
      go_wp2_with fail
      go_ret
      have c : Chg [] w (w.drewN nq) := (Chg.refl [] w).drewN _
      rw [hk0]
      exact ⟨rfl, c.blk HB.out.1 (by simp), c.blk HB.out.2.1 (by simp), c.mono (by simp)⟩
  · have dz : ((n : Int) == 0) = false := by rw [beq_eq_false_iff_ne]; omega
    have dz2 : ¬ (n : Int) = 0 := by omega
    have bk : k ≤ 256 := by have := HB.out.2.2.2.2; omega
    have e2 : (n : Int) - (n : Int) / 2 = (k : Int) := by have := HB.out.2.2.1; have := HB.out.2.2.2.2; omega
    go_enter Tryz.func213, Tryz.ntmps213
    go_upto_region 7 with fail
    clear hbin
    go_quiet (fail)
    generalize hw1 : World.drewN _ nq = w1
    have c1' : Chg [] w w1 := by rw [← hw1]; exact (Chg.refl [] w).drewN _
    clear hw1 c1 c2 c3 e2 dz dz2
    have B1 := c1'.blk HB.out.1 (by simp)
    have B2 := c1'.blk HB.out.2.1 (by simp)
    have H1 := Lib.hid (And.intro B1 (And.intro B2 c1')); clear B1 B2 c1'
    go_wp2_with fail
    go_loopg [61] (k + 1) (fun gk idx wr => StlRel w1 g1 g2 r o k gk idx wr)
    case atStart => exact ⟨0, by omega, by omega, rfl, H1.out.1, H1.out.2.1, Chg.refl _ w1⟩
    case round =>
      obtain ⟨j, hgk, hj, rfl, Ba, Bb, cW⟩ := hrel
      have HR := Lib.hid (And.intro Ba (And.intro Bb cW)); clear Ba Bb cW
      by_cases hlt : j < k
      · have d1 : (j : Int) < (k : Int) := by omega
        obtain ⟨hn1, hn2⟩ := rgMvN_n j r o (by omega)
        obtain ⟨hfa, hfb⟩ := rgMvN_fr j r o hf1 hf2
        have KF := rg_first wr g2 (rgMvN j (r, o)).2 HR.out.2.1 hfb (by omega) (by omega)
        have HF := Lib.hid KF; clear KF
        go_wp2_with fail
        refine (HF.out).mono ?_
        rintro e w2 ⟨rfl, Bb, cb⟩
        have Ba := cb.blk HR.out.1 (by simpa using hne)
        have KB := rg_behind w2 g1 (rgMvN j (r, o)).1 Ba ((rgMvN j (r, o)).2.l (rgMvN j (r, o)).2.fr) hfa (by omega)
        have HG := Lib.hid (And.intro KB (And.intro Bb cb)); clear KB Ba Bb cb hn1 hn2 hfa hfb
        go_wp2_with fail
        refine (HG.out.1).mono ?_
        rintro e w3 ⟨rfl, Ba, ca⟩
        have Bb := ca.blk HG.out.2.1 (by simpa using hne.symm)
        have cc : Chg [g1, g2] w1 w3 := (HR.out.2.2.trans (HG.out.2.2.mono (by simp))).trans (ca.mono (by simp))
        have HE := Lib.hid (And.intro Ba (And.intro Bb cc)); clear Ba Bb cc ca
        go_wp2_with fail
        go_roundg (k - j)
        case measure => omega
        case rel => exact ⟨j + 1, by omega, by omega, by go_num, HE.out.1, HE.out.2.1, HE.out.2.2⟩
      · have d1 : ¬ (j : Int) < (k : Int) := by omega
        have ej : j = k := by omega
        have HJ := Lib.hid ej; clear ej
        go_wp2_with fail
        go_ret
        have ej := HJ.out
        subst ej
        exact ⟨rfl, HR.out.1, HR.out.2.1, (H1.out.2.2.mono (by simp)).trans HR.out.2.2⟩
theorem q_get0 (w : World) (g P : Nat) (B : Blk w g 267 #[.slice none 0 0]) (h1 : 1 ≤ P) (hP : P ≤ 64) : Calls Tryz.prog 210 #[.pointer (some ⟨g, 0, none⟩), .int .i64 (P : Nat), .int .i64 64] w fun e w' => e = .returned (.slice none 0 0) ∧ Blk w' g 267 #[.slice none 0 0] ∧ Chg [g] w w' := by
  have c0 := B.cellv 0 rfl
  have e1 : ¬ (P : Int) = 0 := by omega
  have e2 : ¬ (P : Int) < 1 := by omega
  have e3 : ¬ P = 0 := by omega
  have ew0 : IntKind.i64.wrap 0 = 0 := by decide
  have ew1 : IntKind.i64.wrap 1 = 1 := by decide
  have hmin : ∀ (ts : Array TypeId) (t : TypeId) (w' : World), (Builtin.min_ ts t #[.int .i64 1, .int .i64 64, .int .i64 128, .int .i64 0]).run Tryz.prog w' = .ok (.int .i64 0) w' := fun _ _ _ => by simp [Builtin.min_, Builtin.min2]
  have HB := Lib.hid B; clear B
  go_enter Tryz.func210, Tryz.ntmps210
  go_upto_region 3 with fail
  go_quiet (fail)
  generalize hw1 : World.drewN _ nq = w1
  have c01 : Chg [] w w1 := by rw [← hw1]; exact (Chg.refl [] w).drewN _
  clear hw1 c0
  have B1 := c01.blk HB.out (by simp)
  have c0 := B1.cellv 0 rfl
  have H1 := Lib.hid (And.intro B1 c01); clear B1 c01
  go_wp2_with fail
  refine (lclone_nil w1).mono ?_
  rintro e w2 ⟨rfl, c12⟩
  have B2 := c12.blk H1.out.1 (by simp)
  have c0 := B2.cellv 0 rfl
  have H2 := Lib.hid (And.intro B2 c12); clear B2 c12
  go_wp2_with fail
  refine (lclone_nil w2).mono ?_
  rintro e w3 ⟨rfl, c23⟩
  have B3 := c23.blk H2.out.1 (by simp)
  have c0 := B3.cellv 0 rfl
  have f0 := B3.frozen 0
  have H3 := Lib.hid (And.intro B3 c23); clear B3 c23
  go_wp2_with fail
  go_ret
  exact ⟨rfl, H3.out.1.setv 0 (.slice none 0 0) rfl, (((H1.out.2.trans H2.out.2).trans H3.out.2).mono (by simp)).trans ((Chg.refl [g] w3).setCell (.inl (by simp)) _)⟩
def stealR (r : Nat → RgR) (p v : Nat) : Nat → RgR := updV (updV r v (rgMvN ((r v).n - (r v).n / 2) (r p, r v)).2) p (rgMvN ((r v).n - (r v).n / 2) (r p, r v)).1
theorem rgMvN_hs (n : Nat) (r o : RgR) : (rgMvN n (r, o)).1.hs = r.hs ∧ (rgMvN n (r, o)).2.hs = o.hs := by
  induction n with
  | zero => exact ⟨rfl, rfl⟩
  | succ n ih => exact ⟨ih.1, ih.2⟩
def stlR (r : Nat → RgR) (p v : Nat) : Nat → RgR := if (r v).n = 0 then stealR r p v else updV (stealR r p v) p (rgPop (stealR r p v p))
def stlX (r : Nat → RgR) (p v : Nat) : Int := if (r v).n = 0 then 0 else (stealR r p v p).l (stealR r p v p).fr
def Pk3Post (g gq P : Nat) (vr vq : Value) (gp : Nat → Nat) (r' : Nat → RgR) (com : List Int) (x : Int) (b : Bool) (S : List Nat) (w : World) (e : Ending) (w' : World) : Prop :=
  e = .returned (.tuple #[.int .i64 x, .bool b]) ∧ IsSc w' g gq P vr vq gp r' com ∧ Chg S w w'
section
variable {w : World} {g gq P : Nat} {vr vq : Value} {gp : Nat → Nat} {r : Nat → RgR} {com : List Int} (I : IsSc w g gq P vr vq gp r com)
include I
theorem sc_part0 (hq : vq = .slice none 0 0) (h1 : 1 ≤ P) (hP : P ≤ 64) (gs gr b : Nat) (cs : w.cell? ⟨gs, 0, none⟩ = some (.pointer (some ⟨g, 0, none⟩))) :
    Calls Tryz.prog 211 #[.pointer (some ⟨gs, 0, none⟩), .pointer (some ⟨gr, 0, none⟩)] w (Pk3Post g gq P vr vq gp r com 0 false [gq] w) := by
  obtain ⟨A, c, hv⟩ := I.o.slice
  rw [ptrs_len] at hv
  have c0 : w.cell? ⟨g, 0, none⟩ = some vr := I.b.cellv 0 rfl
  rw [hv] at c0
  have c1 : w.cell? ⟨g, 1, none⟩ = some (.pointer (some ⟨gq, 0, none⟩)) := I.b.cellv 1 rfl
  have KQ := fun (w' : World) (c : Chg [] w w') => q_get0 w' gq P (by have := (I.chg0 c).q; rw [hq] at this; exact this) h1 hP
  have ls := lt_of_cellM cs
  have lg := I.b.lt
  have HK := Lib.hid (And.intro I (And.intro hq KQ)); clear I hq KQ hv
  go_enter Tryz.func211, Tryz.ntmps211
  go_upto_region 1 with fail
  go_still_tail 9, (by kernel_rfl)
  change wpList _ _ _ _ _ w.drew
  go_wp2_with fail
  refine (HK.out.2.2 _ (Chg.refl [] w).drew).mono ?_
  rintro e w2 ⟨rfl, B2, c2⟩
  have I2 : IsSc w2 g gq P vr vq gp r com := (HK.out.1.chg0 (Chg.refl [] w).drew).queue0 HK.out.2.1 B2 c2
  have H2 := Lib.hid (And.intro I2 c2); clear I2 c2 B2
  go_wp2_with fail
  go_ret2
  exact ⟨rfl, H2.out.1, ((Chg.refl [] w).drew.mono (by simp)).trans H2.out.2⟩
theorem sc_steal_no (p : Nat) (hp : p < P) (vic : Int) (hvic : vic < 0 ∨ (P : Int) ≤ vic ∨ vic = (p : Nat)) (hs : (r p).hs = false) (h0 : (r p).n = 0) (gs gv gk gr : Nat) (cs : w.cell? ⟨gs, 0, none⟩ = some (.pointer (some ⟨g, 0, none⟩))) (cv : w.cell? ⟨gv, 0, none⟩ = some (.int .i64 vic)) (ck : w.cell? ⟨gk, 0, none⟩ = some (.int .i64 (p : Nat))) (cr : w.cell? ⟨gr, 0, none⟩ = some (.pointer (some ⟨gp p, 0, none⟩))) :
    Calls Tryz.prog 212 #[.pointer (some ⟨gs, 0, none⟩), .pointer (some ⟨gv, 0, none⟩), .pointer (some ⟨gk, 0, none⟩), .pointer (some ⟨gr, 0, none⟩)] w (Pk3Post g gq P vr vq gp r com 0 false [] w) := by
  have KG := rg_get0 w (gp p) (r p) (I.r p hp) hs h0
  have HK := Lib.hid (And.intro I KG); clear KG
  have KH : Calls Tryz.prog 126 #[.pointer (some ⟨g, 0, none⟩), .int .i64 vic] w (QuPost (.bool (decide (vic = (p : Nat)))) w) := by
    by_cases e : vic = (p : Nat)
    · rw [decide_eq_true e, e]
      exact sc_has I p hp
    · rw [decide_eq_false e]
      obtain ⟨A, c, hv⟩ := I.o.slice
      rw [ptrs_len] at hv
      have c0 : w.cell? ⟨g, 0, none⟩ = some vr := I.b.cellv 0 rfl
      rw [hv] at c0
      rcases hvic with h | h | h
      · have d1 : ¬ (0 : Int) ≤ vic := by omega
        go_enter Tryz.func126, Tryz.ntmps126
        go_wp2_with fail
        go_ret
        exact ⟨by simp, rfl⟩
      · have d1 : (0 : Int) ≤ vic := by omega
        have d2 : ¬ vic < (P : Int) := by omega
        go_enter Tryz.func126, Tryz.ntmps126
        go_wp2_with fail
        go_ret
        exact ⟨by first | (simp; done) | (simp; omega), rfl⟩
      · exact absurd h e
  have HH := Lib.hid KH; clear KH I
  by_cases e : vic = (p : Nat)
  · subst e
    have HH2 := Lib.hid (by have h := HH.out; rw [decide_eq_true rfl] at h; exact h : Calls Tryz.prog 126 #[.pointer (some ⟨g, 0, none⟩), .int .i64 (p : Nat)] w (QuPost (.bool true) w))
    go_enter Tryz.func212, Tryz.ntmps212
    go_wp2_with fail
    refine HH2.out.mono ?_
    rintro e w1 ⟨rfl, rfl⟩
    go_wp2_with fail
    refine HK.out.2.mono ?_
    rintro e w2 ⟨rfl, c12⟩
    have H2 := Lib.hid c12; clear c12
    go_wp2_with fail
    go_ret2
    exact ⟨rfl, HK.out.1.chg0 H2.out, H2.out⟩
  · have HH2 := Lib.hid (by have h := HH.out; rw [decide_eq_false e] at h; exact h : Calls Tryz.prog 126 #[.pointer (some ⟨g, 0, none⟩), .int .i64 vic] w (QuPost (.bool false) w))
    clear hvic e
    go_enter Tryz.func212, Tryz.ntmps212
    go_wp2_with fail
    refine HH2.out.mono ?_
    rintro e w1 ⟨rfl, rfl⟩
    go_wp2_with fail
    refine HK.out.2.mono ?_
    rintro e w2 ⟨rfl, c12⟩
    have H2 := Lib.hid c12; clear c12
    go_wp2_with fail
    go_ret2
    exact ⟨rfl, HK.out.1.chg0 H2.out, H2.out⟩
theorem sc_steal_yes (p v : Nat) (hp : p < P) (hv : v < P) (hne : v ≠ p) (hs : (r p).hs = false) (h0 : (r p).n = 0) (hf : (r p).fr < 256) (hsv : (r v).hs = false) (hfv : (r v).fr < 256) (hnv : (r v).n ≤ 256) (gs gv gk gr : Nat) (cs : w.cell? ⟨gs, 0, none⟩ = some (.pointer (some ⟨g, 0, none⟩))) (cv : w.cell? ⟨gv, 0, none⟩ = some (.int .i64 (v : Nat))) (ck : w.cell? ⟨gk, 0, none⟩ = some (.int .i64 (p : Nat))) (cr : w.cell? ⟨gr, 0, none⟩ = some (.pointer (some ⟨gp p, 0, none⟩)))
    (nr : gr ≠ gp p ∧ gr ≠ gp v) :
    Calls Tryz.prog 212 #[.pointer (some ⟨gs, 0, none⟩), .pointer (some ⟨gv, 0, none⟩), .pointer (some ⟨gk, 0, none⟩), .pointer (some ⟨gr, 0, none⟩)] w (Pk3Post g gq P vr vq gp (stlR r p v) com (stlX r p v) (decide (¬ (r v).n = 0)) [gp p, gp v] w) := by
  have KH := sc_has I v hv
  obtain ⟨A, c, hvr⟩ := I.o.slice
  rw [ptrs_len] at hvr
  have o := I.o
  rw [hvr] at o
  obtain ⟨b, hA, hc, -, -⟩ := o.cell (ptrs_at gp hv)
  subst hA
  have c0 : w.cell? ⟨g, 0, none⟩ = some vr := I.b.cellv 0 rfl
  rw [hvr] at c0
  have ls := lt_of_cellM cs
  have lr := lt_of_cellM cr
  have lg := I.b.lt
  have KS := fun (w' : World) (c : Chg [] w w') => rg_steal w' (gp p) (gp v) (r p) (r v) ((I.chg0 c).r p hp) ((I.chg0 c).r v hv) (I.d p v hp hv (fun e => hne e.symm)) h0 hf hfv hsv hnv
  have d0 : (0 : Int) ≤ (v : Int) := by omega
  have d1 : (v : Int) < (P : Int) := by omega
  have d2 : ((v : Int) == (p : Int)) = false := by rw [beq_eq_false_iff_ne]; omega
  have d3 : ¬ (v : Int) = (p : Int) := by omega
  have HK := Lib.hid (And.intro I (And.intro KH (And.intro KS nr))); clear I KH KS nr o hvr
  have HP := Lib.hid (And.intro hs (And.intro h0 (And.intro hf (And.intro hsv (And.intro hfv hnv))))); clear hs h0 hf hsv hfv hnv
  go_enter Tryz.func212, Tryz.ntmps212
  go_wp2_with fail
  refine HK.out.2.1.mono ?_
  rintro e w1 ⟨rfl, rfl⟩
  go_upto_region 2 with fail
  go_still_tail 8, (by kernel_rfl)
  change wpList _ _ _ _ _ w1.drew
  go_wp2_with fail
  refine (HK.out.2.2.1 _ (Chg.refl [] w1).drew).mono ?_
  rintro e w2 ⟨rfl, B1, B2, c2⟩
  obtain ⟨k, hk⟩ : ∃ k, k = (r v).n - (r v).n / 2 := ⟨_, rfl⟩
  have I2 : IsSc w2 g gq P vr vq gp (stealR r p v) com := by
    have I0 := HK.out.1.chg0 (Chg.refl [] w1).drew
    have n1 := I0.ne p hp
    have n2 := I0.ne v hv
    refine ⟨c2.blk I0.b (by simp [n1.1, n2.1]), c2.blk I0.q (by simp [n1.2.1, n2.2.1]), I0.oq.chg c2 (fun k hk hm => ?_), I0.o.chg c2 (fun k hk hm => ?_), fun q hq => ?_, I0.d⟩
    · rcases List.mem_cons.1 hm with e | e
      · exact own_ne I0.oq.o (I0.r p hp) (by decide) (mem_fpv.1 (by rw [← e]; exact hk))
      · exact own_ne I0.oq.o (I0.r v hv) (by decide) (mem_fpv.1 (by rw [← List.mem_singleton.1 e]; exact hk))
    · rcases List.mem_cons.1 hm with e | e
      · exact own_ne I0.o.o (I0.r p hp) (by decide) (mem_fpv.1 (by rw [← e]; exact hk))
      · exact own_ne I0.o.o (I0.r v hv) (by decide) (mem_fpv.1 (by rw [← List.mem_singleton.1 e]; exact hk))
    · unfold stealR
      by_cases e : q = p
      · subst e; rw [updV_same]; exact B1
      · rw [updV_other _ _ e]
        by_cases e2 : q = v
        · subst e2; rw [updV_same]; exact B2
        · rw [updV_other _ _ e2]
          exact c2.blk (I0.r q hq) (by simp [I0.d q p hq hp e, I0.d q v hq hv e2])
  have cr2 : w2.cell? ⟨gr, 0, none⟩ = some (.pointer (some ⟨gp p, 0, none⟩)) := (((Chg.refl [] w1).drew.mono (by simp)).trans c2).cellv (S := [gp p, gp v]) lr (by simp [HK.out.2.2.2.1, HK.out.2.2.2.2]) cr
  have hrn : (stealR r p v p).n = k ∧ (stealR r p v p).fr < 256 ∧ (stealR r p v p).hs = false := by
    unfold stealR
    rw [updV_same, ← hk]
    obtain ⟨a1, a2⟩ := rgMvN_n k (r p) (r v) (by omega)
    obtain ⟨a3, a4⟩ := rgMvN_fr k (r p) (r v) HP.out.2.2.1 HP.out.2.2.2.2.1
    refine ⟨by rw [a1, HP.out.2.1]; omega, a3, by rw [(rgMvN_hs k (r p) (r v)).1]; exact HP.out.1⟩
  have cc : Chg [gp p, gp v] w1 w2 := ((Chg.refl [] w1).drew.mono (by simp)).trans c2
  clear cr cs cv ck c0 hc
  by_cases hz : (r v).n = 0
  · have KG := rg_get0 w2 (gp p) (stealR r p v p) (I2.r p hp) hrn.2.2 (by rw [hrn.1, hk, hz])
    have H2 := Lib.hid (And.intro I2 (And.intro KG cc)); clear I2 KG cc hrn B1 B2 c2
    go_wp2_with fail
    refine H2.out.2.1.mono ?_
    rintro e w3 ⟨rfl, c23⟩
    have H3 := Lib.hid c23; clear c23
    go_wp2_with fail
    go_ret2
    refine ⟨?_, ?_, H2.out.2.2.trans (H3.out.mono (by simp))⟩
    · unfold stlX; rw [if_pos hz, decide_eq_false (fun h => h hz)]; rfl
    · unfold stlR; rw [if_pos hz]; exact H2.out.1.chg0 H3.out
  · have KG := rg_get1 w2 (gp p) (stealR r p v p) (I2.r p hp) hrn.2.2 hrn.2.1 (by rw [hrn.1]; omega) (by rw [hrn.1]; have := HP.out.2.2.2.2.2; omega)
    have H2 := Lib.hid (And.intro I2 (And.intro KG cc)); clear I2 KG cc hrn B1 B2 c2
    go_wp2_with fail
    refine H2.out.2.1.mono ?_
    rintro e w3 ⟨rfl, B3, c23⟩
    have I3 := H2.out.1.ring hp B3 c23
    have H3 := Lib.hid (And.intro I3 c23); clear c23 I3 B3
    go_wp2_with fail
    go_ret2
    refine ⟨?_, ?_, H2.out.2.2.trans (H3.out.2.mono (by simp))⟩
    · unfold stlX; rw [if_neg hz, decide_eq_true hz]; rfl
    · unfold stlR; rw [if_neg hz]; exact H3.out.1
end
end Go.Proofs.YtcpljjacamibeaaGreatDoor
