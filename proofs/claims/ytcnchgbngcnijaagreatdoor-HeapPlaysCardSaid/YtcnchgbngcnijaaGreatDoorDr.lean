/- Package arena: Drop of a span without objects. -/
import Derived.Test.YtcnchgbngcnijaaGreatDoorMAq
import Derived.Test.YtcnchgbngcnijaaGreatDoorMSer
namespace Go.Proofs.YtcnchgbngcnijaaGreatDoor
open Go.RowKit

def noT (ow : Nat → Option Nat) (f t : Nat) : Nat → Option Nat := fun p => if f ≤ p ∧ p < f + t then none else ow p
theorem noT_zero (ow : Nat → Option Nat) (f : Nat) : noT ow f 0 = ow := by funext p; unfold noT; rw [if_neg (by omega)]
theorem noT_succ (ow : Nat → Option Nat) (f t : Nat) : updF (noT ow f t) (f + t) none = noT ow f (t + 1) := by
  funext p
  unfold updF noT
  by_cases e : p = f + t
  · rw [if_pos e, if_pos (by omega)]
  · rw [if_neg e]
    by_cases h : f ≤ p ∧ p < f + t
    · rw [if_pos h, if_pos (by omega)]
    · rw [if_neg h, if_neg (by omega)]
def dropA (a : Ar) (id : Nat) (s : Sp) (l' : List R) : Ar := { a with l := l', sp := updF a.sp id none, ow := noT a.ow s.first (pgK s.k) }
theorem ArI.drop {N : Nat} {a : Ar} (I : ArI N a) {id : Nat} {s : Sp} {l' : List R} {c : Int} (hs : a.sp id = some s) (h0 : cntF s.F (slK s.k) = 0) (hf : FreeSays a.n a.l (s.first : Nat) (pgK s.k : Nat) c l') :
    c = 0 ∧ ArI N (dropA a id s l') ∧ sumR l' = sumR a.l + pgK s.k ∧ ∀ x, Fr l' x ↔ Fr a.l x ∨ (s.first ≤ x ∧ x < s.first + pgK s.k) := by
  have ok := I.ok
  obtain ⟨hk, hf1, hfn, hno⟩ := ok.pg id s hs
  have hpg := (kF hk).2.2.2.2.1
  obtain ⟨hc, okn, hsum, hfr⟩ := free_serves ok.ok hpg hf1 hfn hno hf
  have get : ∀ {i t}, updF a.sp id none i = some t → i ≠ id ∧ a.sp i = some t := fun {i t} ht => by
    by_cases e : i = id
    · rw [e, updF_same] at ht; cases ht
    · rw [updF_other _ _ e] at ht; exact ⟨e, ht⟩
  have apart : ∀ {i t p}, i ≠ id → a.sp i = some t → t.first ≤ p → p < t.first + pgK t.k → ¬ (s.first ≤ p ∧ p < s.first + pgK s.k) := fun {i t p} hne ht h1 h2 h3 => by
    have e1 := ok.ow i t p ht h1 h2
    have e2 := ok.ow id s p hs h3.1 h3.2
    rw [e1] at e2; injection e2 with e2; exact hne e2
  refine ⟨hc, ⟨⟨okn, ok.n, fun i t ht => ok.top i t (get ht).2, fun i t p ht h1 h2 => ?_, fun i t ht => ?_, fun x => ?_, ok.len⟩, fun i t j ht hm => I.mf i t j (get ht).2 hm, fun i t j ht hj => I.fz i t j (get ht).2 hj, ?_⟩, hsum, hfr⟩
  · show (if s.first ≤ p ∧ p < s.first + pgK s.k then none else a.ow p) = some i
    rw [if_neg (apart (get ht).1 (get ht).2 h1 h2)]
    exact ok.ow i t p (get ht).2 h1 h2
  · obtain ⟨g1, g2, g3, g4⟩ := ok.pg i t (get ht).2
    refine ⟨g1, g2, g3, fun p h1 h2 => ?_⟩
    show ¬ Fr l' p
    rw [hfr]
    rintro (h | h)
    · exact g4 p h1 h2 h
    · exact apart (get ht).1 (get ht).2 h1 h2 h
  · show (a.ob x).isSome = true ↔ _
    rw [ok.ob]
    constructor
    · rintro ⟨id', t, i, h1, h2, h3, h4⟩
      have hne : id' ≠ id := by
        rintro rfl
        rw [hs] at h1; injection h1 with h1; subst h1
        have := cnt_pos h2 h3
        omega
      exact ⟨id', t, i, (updF_other _ _ hne).trans h1, h2, h3, h4⟩
    · rintro ⟨id', t, i, h1, h2, h3, h4⟩
      exact ⟨id', t, i, (get h1).2, h2, h3, h4⟩
  · show a.live = livN (updF a.sp id none) N
    have h1 := livN_upd (f := a.sp) (v := none) (ok.top id s hs)
    rw [hs] at h1
    have h2 : spW (some s) = 0 := by show cntF s.F (slK s.k) * szK s.k = 0; rw [h0, Nat.zero_mul]
    have h3 : spW none = 0 := rfl
    have := I.lv
    omega
def DwRel (w0 : World) (h : ArH) (a : Ar) (f P gk : Nat) (idx : Value) (w : World) : Prop :=
  ∃ t, gk + t = P + 1 ∧ t ≤ P ∧ idx = .int .i64 (t : Nat) ∧ ArM w h { a with ow := noT a.ow f t } ∧ StA h a h { a with ow := noT a.ow f t } w0 w
section
variable {w0 w : World} {g N b : Nat} {h : ArH} {a : Ar} (S : ArS w0 w g h a N b)
include S
set_option maxHeartbeats 3200000 in
set_option maxRecDepth 100000 in
theorem s_drop_yes {id : Nat} {s : Sp} (hs : a.sp id = some s) (hN : N ≤ 1000000) (h0 : cntF s.F (slK s.k) = 0) : Calls Tryz.prog 51 #[.pointer (some ⟨g, 0, none⟩), .int .i64 (id : Nat)] w fun e w' =>
    ∃ h' l', e = .returned (.int .i64 0) ∧ FreeSays a.n a.l (s.first : Nat) (pgK s.k : Nat) 0 l' ∧ ArS w0 w' g h' (dropA a id s l') N b ∧ StA h a h' (dropA a id s l') w w' := by
  obtain rfl : h.ga = g := S.ga
  have hlt := S.I.ok.top id s hs
  obtain ⟨hk, hf1, hfn, -⟩ := S.I.ok.pg id s hs
  have hn := S.I.ok.n
  have hpg := (kF hk).2.2.2.2.1
  have hpg4 := (kF hk).2.2.2.2.2.1
  have b1 : w.cell? ⟨h.ga, 1, none⟩ = some (.map (some h.bs)) := S.M.b.cellv 1 rfl
  have hlo := sp_look S (id : Nat) (by unfold Wf64; omega)
  rw [natV_nat] at hlo
  have e9 : (spV h a id).getD (.pointer none) = .pointer (some ⟨(h.B id).g, 0, none⟩) := by unfold spV; rw [hs]; rfl
  rw [e9] at hlo
  have hl' : (Instr.lookup 76 (.map (some h.bs)) (.int .i64 (id : Nat)) false).run Tryz.prog w = .ok (.pointer (some ⟨(h.B id).g, 0, none⟩)) w := hlo
  have HS := Lib.hid (And.intro S (And.intro hs (And.intro h0 hk)))
  obtain ⟨f, hf⟩ : ∃ f, f = s.first := ⟨_, rfl⟩
  obtain ⟨P, hP⟩ : ∃ P, P = pgK s.k := ⟨_, rfl⟩
  rw [← hf] at hf1 hfn
  rw [← hP] at hpg hpg4 hfn
  have HE := Lib.hid (And.intro hf hP)
  clear hlo e9 S hs h0 hf hP
  go_enter Tryz.func51, Tryz.ntmps51
  go_wp2_with fail
  refine (slive_ok w (h.B id) s (HS.out.1.M.S id s HS.out.2.1)).mono ?_
  rintro e w1 ⟨rfl, rfl⟩
  rw [HS.out.2.2.1]
  go_wp2_with fail
  refine (sbase_ok w1 (h.B id) s (HS.out.1.M.S id s HS.out.2.1)).mono ?_
  rintro e w2 ⟨rfl, rfl⟩
  rw [← HE.out.1]
  have hq : ((f * 64 : Nat) : Int).tdiv 64 = (f : Int) := by
    rw [Int.tdiv_eq_ediv_of_nonneg (by omega)]; omega
  have hq2 : ((f * 64 : Nat) : Int) / 64 = (f : Int) := by omega
  go_wp2_with fail
  refine (sclass_ok w2 (h.B id) s (HS.out.1.M.S id s HS.out.2.1)).mono ?_
  rintro e w3 ⟨rfl, rfl⟩
  go_wp2_with fail
  refine (pages_k w3 s.k hk).mono ?_
  rintro e w4 ⟨rfl, c4⟩
  rw [← HE.out.2]
  have S4 := Lib.hid (HS.out.1.chg0 c4)
  have C4 := Lib.hid c4; clear c4 b1 hl'
  have hP0 : (0 : Int) ≤ (P : Int) := by omega
  go_wp2_with fail
  go_loopg [42] (P + 1) (fun gk idx wr => DwRel w3 h a f P gk idx wr)
  case atStart => exact ⟨0, by omega, by omega, rfl, by rw [noT_zero]; exact S4.out.M, by rw [noT_zero]; exact StA.same C4.out⟩
  case round =>
    clear hq hq2
    obtain ⟨t, hgk, ht, rfl, M, st⟩ := hrel
    have b2 : wr.cell? ⟨h.ga, 2, none⟩ = some (.map (some h.bo)) := M.b.cellv 2 rfl
    by_cases e : t < P
    · have ht' : (t : Int) < (P : Int) := by omega
      have hft : (f : Int) + (t : Int) < 1000000 := by omega
      have hft0 : (0 : Int) ≤ (f : Int) + (t : Int) := by omega
      have hwf : Wf64 ((f : Int) + (t : Int)) := by unfold Wf64; omega
      have HX := Lib.hid (And.intro M (And.intro st hwf)); clear M st hwf
      obtain ⟨w5, hdel, V5, c5, -⟩ := HX.out.1.o.del tyO HX.out.2.2 0
      have ek : (f : Int) + (t : Int) = ((f + t : Nat) : Int) := by omega
      rw [ek] at V5
      have M5 := HX.out.1.delown V5 c5
      have e5 : ({ ({ a with ow := noT a.ow f t } : Ar) with ow := updF (noT a.ow f t) (f + t) none } : Ar) = { a with ow := noT a.ow f (t + 1) } := by rw [noT_succ]
      have M6 : ArM w5 h { a with ow := noT a.ow f (t + 1) } := by rw [← e5]; exact M5
      have st6 : StA h a h { a with ow := noT a.ow f (t + 1) } w3 w5 := HX.out.2.1.trans (StA.of_chg (h := h) (a := { a with ow := noT a.ow f t }) c5 (fun k hk => .inl (by rw [List.mem_singleton] at hk; rw [hk]; exact .inr (.inr (.inr (.inr (.inl rfl)))))) (fun k hk => .inl hk))
      have HY := Lib.hid (And.intro M6 st6); clear V5 c5 M5 e5 M6 st6 ek
      go_wp2_with fail
      clear hdel
      go_roundg (P - t)
      case measure => omega
      case rel => exact ⟨t + 1, by omega, by omega, by go_num, HY.out.1, HY.out.2⟩
    · obtain rfl : t = P := by omega
      have ht' : ¬ (t : Int) < (t : Int) := by omega
      have b1 : wr.cell? ⟨h.ga, 1, none⟩ = some (.map (some h.bs)) := M.b.cellv 1 rfl
      have hwi : Wf64 ((id : Nat) : Int) := by unfold Wf64; omega
      have HX := Lib.hid (And.intro M (And.intro st hwi)); clear M st hwi e
      obtain ⟨w5, hdel, V5, c5, -⟩ := HX.out.1.s.del tyS HX.out.2.2 0
      have M5 := HX.out.1.delspan V5 c5
      have st5 : StA h a h { a with ow := noT a.ow f t, sp := updF a.sp id none } w3 w5 := HX.out.2.1.trans (StA.of_chg (h := h) (a := { a with ow := noT a.ow f t }) c5 (fun k hk => .inl (by rw [List.mem_singleton] at hk; rw [hk]; exact .inr (.inr (.inr (.inl rfl))))) (fun k hk => .inl (by
        rcases hk with g | g | g | g | g | g | ⟨i, s', hs', g⟩ | g
        · exact .inl g
        · exact .inr (.inl g)
        · exact .inr (.inr (.inl g))
        · exact .inr (.inr (.inr (.inl g)))
        · exact .inr (.inr (.inr (.inr (.inl g))))
        · exact .inr (.inr (.inr (.inr (.inr (.inl g)))))
        · refine .inr (.inr (.inr (.inr (.inr (.inr (.inl ⟨i, s', ?_, g⟩))))))
          have hs2 : updF a.sp id none i = some s' := hs'
          by_cases ei : i = id
          · rw [ei, updF_same] at hs2; cases hs2
          · rw [updF_other _ _ ei] at hs2; exact hs2
        · exact .inr (.inr (.inr (.inr (.inr (.inr (.inr g)))))))))
      have b0 : w5.cell? ⟨h.ga, 0, none⟩ = some (.pointer (some ⟨h.gp, 0, none⟩)) := M5.b.cellv 0 rfl
      have HY := Lib.hid (And.intro M5 st5); clear V5 c5 M5 st5 b2
      go_wp2_with fail
      clear hdel b0 b1
      refine (free_ok w5 h.gp a.n h.v a.l HY.out.1.P HS.out.1.I.ok.ok hn (f : Nat) (t : Nat)).mono ?_
      rintro e w6 ⟨cc, l', hs6, rfl, v', P6, s6⟩
      have hs7 : FreeSays a.n a.l (s.first : Nat) (pgK s.k : Nat) cc l' := by rw [← HE.out.1, ← HE.out.2]; exact hs6
      obtain ⟨hc0, I6, -⟩ := HS.out.1.I.drop HS.out.2.1 HS.out.2.2.1 hs7
      have M6 := HY.out.1.pages P6 s6.c
      have st6 := HY.out.2.trans (StA.pages (a := { a with ow := noT a.ow f t, sp := updF a.sp id none }) (l' := l') s6.c (fun k hk => by
        rcases s6.f k (List.mem_cons_of_mem _ hk) with h1 | h1
        · exact .inl h1
        · exact .inr h1))
      have HZ := Lib.hid (And.intro M6 (And.intro st6 (And.intro hs7 I6))); clear M6 st6 hs7 I6 s6 P6 hs6
      subst hc0
      go_wp2_with fail
      go_ret
      have e6 : ({ ({ a with ow := noT a.ow f t, sp := updF a.sp id none } : Ar) with l := l' } : Ar) = dropA a id s l' := by rw [HE.out.1, HE.out.2]; rfl
      refine ⟨pgH h v', l', rfl, HZ.out.2.2.1, ?_, ?_⟩
      · have st7 := HZ.out.2.1
        have M7 := HZ.out.1
        rw [e6] at M7 st7
        exact HS.out.1.step M7 st7 HZ.out.2.2.2 rfl HS.out.1.m
      · have st7 := HZ.out.2.1
        rw [e6] at st7
        exact st7
end
end Go.Proofs.YtcnchgbngcnijaaGreatDoor
