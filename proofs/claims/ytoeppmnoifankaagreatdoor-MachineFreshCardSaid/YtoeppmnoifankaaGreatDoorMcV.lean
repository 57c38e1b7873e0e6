/- Package state: Move, a turn that may be. -/
import Derived.Test.YtoeppmnoifankaaGreatDoorMcU
import Derived.Test.YtoeppmnoifankaaGreatDoorMphJ
import Derived.Test.YtoeppmnoifankaaGreatDoorMcOJ
namespace Go.Proofs.YtoeppmnoifankaaGreatDoor
open Go.RowKit Go.Maps

theorem stC_dec {xs : List Int} {k f t : Nat} (hx : xs[k]? = some (f : Int)) (hf : f < 6) (ht : t < 6) (hne : f ≠ t) (i : Nat) :
    cntI (xs.set k (t : Int)) (i : Int) = if i = t then cntI xs (i : Int) + 1 else if i = f then cntI xs (i : Int) - 1 else cntI xs (i : Int) := by
  have hk := (List.getElem?_eq_some_iff.1 hx).1
  have hxk := (List.getElem?_eq_some_iff.1 hx).2
  unfold cntI
  rw [List.count_set hk, hxk]
  by_cases h1 : i = t
  · subst h1
    rw [if_pos rfl]
    have e1 : ¬ ((f : Int) == (i : Int)) = true := by simp; omega
    have e2 : ((i : Int) == (i : Int)) = true := by simp
    simp only [e1, e2, if_true, if_false]
    simp
  · rw [if_neg h1]
    by_cases h2 : i = f
    · subst h2
      rw [if_pos rfl]
      have e2 : ¬ ((t : Int) == (i : Int)) = true := by simp; omega
      simp [e2]
    · rw [if_neg h2]
      have e1 : ¬ ((f : Int) == (i : Int)) = true := by simp; omega
      have e2 : ¬ ((t : Int) == (i : Int)) = true := by simp; omega
      simp [e1, e2]
theorem cntI_pos {xs : List Int} {k f : Nat} (hx : xs[k]? = some (f : Int)) : 1 ≤ cntI xs (f : Int) := List.count_pos_iff.2 (List.mem_of_getElem? hx)
def MvPost (g : Nat) (v : Value) (xs : List Int) (w : World) (e : Ending) (w' : World) : Prop := e = .returned (.int .i64 0) ∧ IsSt w' g v xs ∧ Stp (g :: fpv v) (g :: fpv v) w w'
set_option maxHeartbeats 1600000 in
set_option maxRecDepth 100000 in
theorem st_move (w : World) (g : Nat) (v : Value) (xs : List Int) (I : IsSt w g v xs) (k f t : Nat) (hx : xs[k]? = some (f : Int)) (h : okT f t) (hl : xs.length ≤ 1000000) : Calls Tryz.prog 49 #[.pointer (some ⟨g, 0, none⟩), .int .i64 (k : Nat), .int .i64 (t : Nat)] w (MvPost g v (xs.set k (t : Int)) w) := by
  have hb : 1 ≤ f ∧ f < 6 ∧ 1 ≤ t ∧ t < 6 ∧ f ≠ t := by rcases h with ⟨rfl, rfl⟩ | ⟨rfl, rfl⟩ | ⟨rfl, rfl⟩ | ⟨rfl, rfl⟩ | ⟨rfl, rfl⟩ | ⟨rfl, rfl⟩ | ⟨rfl, rfl⟩ <;> decide
  have K1 := st_of w g v xs I k (f : Int) hx
  obtain ⟨A, c, hv⟩ := I.o.slice
  have c0 : w.cell? ⟨g, 0, none⟩ = some v := I.b.cellv 0 rfl
  obtain ⟨n, hn⟩ : ∃ n, n = xs.length := ⟨_, rfl⟩
  rw [hv, ← hn] at c0
  have O := I.o
  rw [hv, ← hn] at O
  obtain ⟨b, hA, ck, fk, -⟩ := O.cell hx
  subst hA
  have hk : k < n := by rw [hn]; exact (List.getElem?_eq_some_iff.1 hx).1
  have hbv : b ∈ fpv v := by rw [hv]; simp [fpv, Value.ownBlock]
  have e1 : (0 : Int) ≤ k := by omega
  have e2 : (k : Int) < (n : Int) := by omega
  have e3 : ¬ (f : Int) = 0 := by omega
  have e4 : ((f : Int) == 0) = false := by rw [beq_eq_false_iff_ne]; omega
  have HI := Lib.hid (And.intro I (And.intro hn (And.intro hv (And.intro hbv (And.intro hx (And.intro K1 O)))))); clear I hn hv hbv hx K1 O
  go_enter Tryz.func49, Tryz.ntmps49
  go_wp2_with fail
  refine HI.out.2.2.2.2.2.1.mono ?_
  rintro e w1 ⟨rfl, rfl⟩
  go_wp2_with fail
  refine (st_may w1 f t h).mono ?_
  rintro e w2 ⟨rfl, c2⟩
  have I2 : IsSt w2 g v xs := ⟨c2.blk HI.out.1.b (by simp), HI.out.1.o.chg0 c2, HI.out.1.r⟩
  have c0' : w2.cell? ⟨g, 0, none⟩ = some (.slice (some ⟨b, 0, none⟩) n c) := by
    have e : w2.cell? ⟨g, 0, none⟩ = some v := I2.b.cellv 0 rfl
    rw [e, HI.out.2.1]; exact congrArg some HI.out.2.2.1
  have ck' : w2.cell? ⟨b, k, none⟩ = some (.int .i64 (f : Nat)) := c2.cellv (lt_of_cellM ck) (by simp) ck
  have cf : w2.cell? ⟨g, 1 + f, none⟩ = some (.int .i64 (cntI xs (f : Int) : Nat)) := I2.b.cellv (1 + f) (stC_at v _ (by omega))
  have ff := I2.b.frozen (1 + f)
  have g0 : (0 : Int) ≤ (f : Int) := by omega
  have g1 : (f : Int) < 6 := by omega
  have g2 : (0 : Int) ≤ (t : Int) := by omega
  have g3 : (t : Int) < 6 := by omega
  have HJ := Lib.hid (And.intro I2 c2); clear I2 c2 c0 ck fk
  go_upto_region 7 with fail
  go_still_tail 15, (by kernel_rfl)
  change wpList _ _ _ _ _ w2.drew
  obtain ⟨p, hp⟩ : ∃ p, cntI xs (f : Int) = p + 1 := ⟨cntI xs (f : Int) - 1, by have := cntI_pos HI.out.2.2.2.2.1; omega⟩
  have hpl : p ≤ 1000000 := by have := cntI_le xs (f : Int); omega
  rw [hp] at cf ⊢
  have ew : IntKind.i64.wrap (((p + 1 : Nat) : Int) - 1) = (p : Int) := by rw [show ((p + 1 : Nat) : Int) - 1 = (p : Int) by omega]; exact IntWalk.i64_in _ (by omega)
  rw [ew]
  have cf' : w2.drew.cell? ⟨g, 1 + f, none⟩ = some (.int .i64 ((p + 1 : Nat) : Int)) := cf
  have ff' : w2.drew.frozen? ⟨g, 1 + f, none⟩ = false := ff
  go_upto_region 8 with fail
  generalize hw3 : World.drew (World.setCell w2 ⟨g, 1 + f, none⟩ (.int .i64 (p : Nat))) = w3
  have B3 : Blk w3 g 152 (stC v fun i => if i = f then p else cntI xs (i : Int)) := by
    rw [← hw3]
    exact (HJ.out.1.b.setv (1 + f) (.int .i64 (p : Nat)) (stC_set _ _ (by omega) p)).drew
  have C3 : Chg [g] w1 w3 := by rw [← hw3]; exact (((HJ.out.2.mono (by simp)).setCell (p := ⟨g, 1 + f, none⟩) (.inl (by simp)) (.int .i64 (p : Nat))).drew)
  clear hw3 cf cf' ff ff' c0' ck' ew
  have ct : w3.cell? ⟨g, 1 + t, none⟩ = some (.int .i64 (cntI xs (t : Int) : Nat)) := by
    have := B3.cellv (1 + t) (stC_at v _ (i := t) (by omega))
    rwa [if_neg (fun e => hb.2.2.2.2 e.symm)] at this
  have ft := B3.frozen (1 + t)
  have HK := Lib.hid (And.intro B3 (And.intro C3 hp)); clear B3 C3 hp
  obtain ⟨q, hq⟩ : ∃ q, cntI xs (t : Int) = q := ⟨_, rfl⟩
  have hql : q ≤ 1000000 := by have := cntI_le xs (t : Int); omega
  rw [hq] at ct
  have hq := Lib.hid hq
  go_still_tail 9, (by kernel_rfl)
  change wpList _ _ _ _ _ w3.drew
  have ew : IntKind.i64.wrap ((q : Int) + 1) = ((q + 1 : Nat) : Int) := by rw [show (q : Int) + 1 = ((q + 1 : Nat) : Int) by omega]; exact IntWalk.i64_in _ (by omega)
  rw [ew]
  have ct' : w3.drew.cell? ⟨g, 1 + t, none⟩ = some (.int .i64 (q : Int)) := ct
  have ft' : w3.drew.frozen? ⟨g, 1 + t, none⟩ = false := ft
  clear ew
  go_upto_region 9 with fail
  have eq1 : (q : Int) + 1 = ((q + 1 : Nat) : Int) := rfl
  rw [eq1]
  clear eq1
  generalize hw4 : World.drew (World.setCell w3 ⟨g, 1 + t, none⟩ (.int .i64 ((q + 1 : Nat) : Int))) = w4
  have B4 : Blk w4 g 152 (stC v fun i => if i = t then q + 1 else if i = f then p else cntI xs (i : Int)) := by
    rw [← hw4]
    exact (HK.out.1.setv (1 + t) (.int .i64 ((q + 1 : Nat) : Int)) (stC_set _ _ (by omega) (q + 1))).drew
  have C4 : Chg [g] w1 w4 := by rw [← hw4]; exact ((HK.out.2.1.setCell (p := ⟨g, 1 + t, none⟩) (.inl (by simp)) (.int .i64 ((q + 1 : Nat) : Int))).drew)
  clear hw4 ct ct' ft ft'
  have hgv : g ∉ fpv v := fun hm => own_ne HI.out.1.o.o HI.out.1.b (by decide) (mem_fpv.1 hm)
  have O4 := HI.out.1.o.chg C4 (fun k' hk' hm => hgv (by have e : k' = g := (by simpa using hm); rw [← e]; exact hk'))
  have c4 : w4.cell? ⟨g, 0, none⟩ = some (.slice (some ⟨b, 0, none⟩) n c) := by
    have e : w4.cell? ⟨g, 0, none⟩ = some v := B4.cellv 0 rfl
    rw [e, HI.out.2.1]; exact congrArg some HI.out.2.2.1
  have O4' := O4
  rw [HI.out.2.2.1] at O4'
  obtain ⟨b', hb', ck, fk, -⟩ := O4'.cell HI.out.2.2.2.2.1
  injection hb' with hb'
  injection hb' with hb'
  subst hb'
  have HL := Lib.hid (And.intro B4 (And.intro C4 (And.intro hgv O4'))); clear B4 C4 hgv O4 O4'
  go_wp2_with fail
  go_ret
  have hk2 : k < xs.length := by rw [← HI.out.2.1]; exact hk
  have cb : Chg [b] w4 (w4.setCell ⟨b, k, none⟩ (.int .i64 (t : Nat))) := (Chg.refl [b] w4).setCell (.inl (by simp)) _
  have hgb : g ≠ b := fun e => HL.out.2.2.1 (by rw [e]; exact HI.out.2.2.2.1)
  refine ⟨rfl, ⟨?_, ?_, fun x hx => ?_⟩, ⟨(HL.out.2.1.mono (by simp)).trans (cb.mono (fun k' hk' => .inl (by have e : k' = b := (by simpa using hk'); rw [e]; exact List.mem_cons_of_mem _ HI.out.2.2.2.1))), fun k' hk' => .inl hk'⟩⟩
  · have h5 := cb.blk HL.out.1 (by simpa using hgb)
    have e : (fun i : Nat => cntI (xs.set k (t : Int)) (i : Int)) = fun i => if i = t then q + 1 else if i = f then p else cntI xs (i : Int) := by
      funext i
      rw [stC_dec (xs := xs) HI.out.2.2.2.2.1 hb.2.1 hb.2.2.2.1 hb.2.2.2.2 i]
      by_cases h1 : i = t
      · subst h1; rw [if_pos rfl, if_pos rfl, hq.out]
      · rw [if_neg h1, if_neg h1]
        by_cases h2 : i = f
        · subst h2; rw [if_pos rfl, if_pos rfl, HK.out.2.2]; omega
        · rw [if_neg h2, if_neg h2]
    rw [e]; exact h5
  · have h6 := OwnI.set_ HL.out.2.2.2 hk2 (t : Int)
    rw [← HI.out.2.2.1] at h6
    exact h6
  · rcases List.mem_or_eq_of_mem_set hx with h1 | h1
    · exact HI.out.1.r x h1
    · omega
end Go.Proofs.YtoeppmnoifankaaGreatDoor
