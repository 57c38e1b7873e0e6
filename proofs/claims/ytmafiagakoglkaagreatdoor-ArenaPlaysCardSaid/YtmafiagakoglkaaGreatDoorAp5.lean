/- ArenaPlays: what is asked of both. -/
import Derived.Test.YtmafiagakoglkaaGreatDoorAp4
namespace Go.Proofs.YtmafiagakoglkaaGreatDoor
open Go.RowKit Go.Maps

section
variable {W w : World} {g rg N b m : Nat} {h : ArH} {hr : RaH} {a : Ar} {ids : List Nat} (T : ApT W g rg h hr a ids N b m w)
include T
theorem ap_sweep (T0 : Tab W) (hN : N ≤ 6000) (x : Int) (hx : Wf64 x) : Calls Tryz.prog 62 #[.pointer (some ⟨g, 0, none⟩), .int .i64 x] w fun e w1 =>
    ∃ v c xs, e = .returned (.tuple #[v, .int .i64 c]) ∧ OwnI 3 w1 v xs ∧ (∀ bx t cs, Blk w bx t cs → ¬ ArF h a bx → Blk w1 bx t cs) ∧ ∀ w2, Chg [] w1 w2 → Calls Tryz.prog 83 #[.pointer (some ⟨rg, 0, none⟩), .int .i64 x] w2 fun e w3 =>
      ∃ u, OwnI 3 w3 u xs ∧ OwnI 3 w3 v xs ∧ NxPost W g rg a.n N b m (.tuple #[u, .int .i64 c]) e w3 := by
  have hl := T.len
  have ref : ∀ w2, RaM w2 hr a ids → Calls Tryz.prog 83 #[.pointer (some ⟨rg, 0, none⟩), .int .i64 x] w2 (RwpPost hr a ids x w2) := fun w2 M2 => by
    have h1 := rasweep_ok w2 hr a ids M2 (by omega) (fun id s i => T.S.I.mf id s i) x
    rwa [T.rg] at h1
  refine (g_sweep T.S T0 hN x hx).mono ?_
  rintro e w1 (⟨hs, rfl, c1⟩ | ⟨j, s, rfl, hs, v, h', rfl, O, F, -, S', st⟩)
  · refine ⟨_, _, [], rfl, OwnI.nil _ _, fun bx t cs B _ => c1.box B, fun w2 c2 => (ref w2 (T.M.chg0 (c1.trans c2))).mono ?_⟩
    rintro e w3 (⟨_, rfl, c3⟩ | ⟨id, s, v, rfl, hs', -⟩)
    · exact ⟨_, OwnI.nil _ _, OwnI.nil _ _, T.nx0 ((c1.trans c2).trans c3) _⟩
    · unfold spI at hs; rw [if_pos (by omega), Int.toNat_natCast, hs'] at hs; cases hs
  · refine ⟨_, _, _, rfl, O, fun bx t cs B hf => st.box B hf, fun w2 c2 => (ref w2 ((T.mid st).chg0 c2)).mono ?_⟩
    rintro e w3 (⟨hn, -⟩ | ⟨id, s', u, he, hs', rfl, O3, F3, M3, c3⟩)
    · unfold spI at hn; rw [if_pos (by omega), Int.toNat_natCast, hs] at hn; cases hn
    · obtain rfl : j = id := by omega
      rw [hs] at hs'; cases hs'
      have hsp : ∀ i t, updF a.sp j (some (sweptS s)) i = some t → ∃ s, a.sp i = some s := fun i t ht => by
        by_cases e : i = j
        · subst e; exact ⟨s, hs⟩
        · rw [updF_other _ _ e] at ht; exact ⟨t, ht⟩
      refine ⟨_, O3, (O.chg0 c2).chg c3 (fun k hk hm => ?_), T.nx S' st c2 M3 (StR.of_chg c3 (fun k hk => .inl (.inr (.inr (.inr (.inr (.inr (.inr (.inr ⟨j, s, hs, .inl hk⟩)))))))) (fun k hk => .inl (RaF.sp (m := hr.mw) hsp hk))) rfl T.mw (by omega) (by omega) (by omega) rfl _⟩
      have h1 := F k hk
      have h2 := T.M.lt (.inr (.inr (.inr (.inr (.inr (.inr (.inr ⟨j, s, hs, .inl hm⟩)))))))
      omega
theorem ApT.objs (hN : N ≤ 10000) : Calls Tryz.prog 36 #[.pointer (some ⟨rg, 0, none⟩)] w (RobPost a ids w) := by
  have h1 := raobjects_ok w hr a ids T.M (by have := T.len; omega)
  rwa [T.rg] at h1
/-- What is asked, and told by both. -/
theorem ask_load (hN : N ≤ 100000) (x i : Int) (hx : Wf64 x) : ∃ p c : Int, (∀ w', Chg [] w w' → Calls Tryz.prog 77 #[.pointer (some ⟨g, 0, none⟩), .int .i64 x, .int .i64 i] w' (NwPost (.tuple #[.int .i64 p, .int .i64 c]) w')) ∧
    ∀ w', Chg [] w w' → Calls Tryz.prog 84 #[.pointer (some ⟨rg, 0, none⟩), .int .i64 x, .int .i64 i] w' (NwPost (.tuple #[.int .i64 p, .int .i64 c]) w') :=
  ⟨_, _, fun w' c => s_load (T.chg0 c).S x i hx, fun w' c => by
    have h1 := raload_ok w' hr a ids (T.M.chg0 c) (by have := T.len; omega) N T.S.I.ok x i
    rwa [T.rg] at h1⟩
theorem ask_find (hN : N ≤ 100000) (x : Int) (hx : Wf64 x) : ∃ (p q : Int) (bo : Bool), (∀ w', Chg [] w w' → Calls Tryz.prog 19 #[.pointer (some ⟨g, 0, none⟩), .int .i64 x] w' (NwPost (.tuple #[.agg #[.int .i64 p, .int .i64 q], .bool bo]) w')) ∧
    ∀ w', Chg [] w w' → Calls Tryz.prog 85 #[.pointer (some ⟨rg, 0, none⟩), .int .i64 x] w' (NwPost (.tuple #[.agg #[.int .i64 p, .int .i64 q], .bool bo]) w') := by
  have h1 : ∀ w', Chg [] w w' → Calls Tryz.prog 19 #[.pointer (some ⟨g, 0, none⟩), .int .i64 x] w' (FdPost a x w') := fun w' c => s_find (T.chg0 c).S (by omega) x hx
  have h2 : ∀ w', Chg [] w w' → Calls Tryz.prog 85 #[.pointer (some ⟨rg, 0, none⟩), .int .i64 x] w' (RslPost a x w') := fun w' c => by
    have h1 := raslot_ok w' hr a ids (T.M.chg0 c) (by have := T.len; omega) N T.S.I.ok x
    rwa [T.rg] at h1
  have uq : ∀ {id i id' i'}, At a x id i → At a x id' i' → id = id' ∧ i = i' := fun ⟨s, q1, q2, _, q4⟩ ⟨s', r1, r2, _, r4⟩ => by
    obtain ⟨e1, _, e3⟩ := at_uniq T.S.I.ok q1 q2 r1 r2 (by omega)
    exact ⟨e1, e3⟩
  cases ho : obI a x with
  | none =>
    refine ⟨0, 0, false, fun w' c => (h1 w' c).mono ?_, fun w' c => (h2 w' c).mono ?_⟩
    · rintro e w2 ⟨c2, ⟨_, rfl⟩ | ⟨id, i, hs, -⟩⟩
      · exact ⟨rfl, c2⟩
      · rw [ho] at hs; cases hs
    · rintro e w2 ⟨c2, ⟨_, rfl⟩ | ⟨id, i, hs, -⟩⟩
      · exact ⟨rfl, c2⟩
      · rw [ho] at hs; cases hs
  | some xs =>
    obtain ⟨id, i, s, q1, q2, q3, q4, -⟩ := T.S.I.ok.find ho
    refine ⟨(id : Nat), (i : Nat), true, fun w' c => (h1 w' c).mono ?_, fun w' c => (h2 w' c).mono ?_⟩
    · rintro e w2 ⟨c2, ⟨hn, _⟩ | ⟨id', i', _, hat, rfl⟩⟩
      · rw [ho] at hn; cases hn
      · obtain ⟨rfl, rfl⟩ := uq hat ⟨s, q1, q2, q3, q4⟩
        exact ⟨rfl, c2⟩
    · rintro e w2 ⟨c2, ⟨hn, _⟩ | ⟨id', i', _, hat, rfl⟩⟩
      · rw [ho] at hn; cases hn
      · obtain ⟨rfl, rfl⟩ := uq hat ⟨s, q1, q2, q3, q4⟩
        exact ⟨rfl, c2⟩
theorem ask_len (hN : N ≤ 100000) (x : Int) (hx : Wf64 x) : ∃ p : Int, (∀ w', Chg [] w w' → Calls Tryz.prog 18 #[.pointer (some ⟨g, 0, none⟩), .int .i64 x] w' (NwPost (.int .i64 p) w')) ∧
    ∀ w', Chg [] w w' → Calls Tryz.prog 86 #[.pointer (some ⟨rg, 0, none⟩), .int .i64 x] w' (NwPost (.int .i64 p) w') :=
  ⟨(lenI a x : Nat), fun w' c => (s_len (T.chg0 c).S x hx).mono fun e w2 ⟨h1, h2⟩ => ⟨h1, h2 ▸ Chg.refl _ _⟩, fun w' c => by
    have h1 := ralen_ok w' hr a ids (T.M.chg0 c) (by have := T.len; omega) N T.S.I.ok x
    rwa [T.rg] at h1⟩
theorem ask_marked (hN : N ≤ 100000) (x : Int) (hx : Wf64 x) : ∃ bo : Bool, (∀ w', Chg [] w w' → Calls Tryz.prog 78 #[.pointer (some ⟨g, 0, none⟩), .int .i64 x] w' (NwPost (.bool bo) w')) ∧
    ∀ w', Chg [] w w' → Calls Tryz.prog 87 #[.pointer (some ⟨rg, 0, none⟩), .int .i64 x] w' (NwPost (.bool bo) w') := by
  have h1 : ∀ w', Chg [] w w' → Calls Tryz.prog 78 #[.pointer (some ⟨g, 0, none⟩), .int .i64 x] w' (MdPost a x w') := fun w' c => g_marked (T.chg0 c).S (by omega) x hx
  have h2 : ∀ w', Chg [] w w' → Calls Tryz.prog 87 #[.pointer (some ⟨rg, 0, none⟩), .int .i64 x] w' (RmdPost a x w') := fun w' c => by
    have h1 := ramarked_ok w' hr a ids (T.M.chg0 c) (by have := T.len; omega) N T.S.I.ok x
    rwa [T.rg] at h1
  cases ho : obI a x with
  | none =>
    refine ⟨false, fun w' c => (h1 w' c).mono ?_, fun w' c => (h2 w' c).mono ?_⟩
    · rintro e w2 ⟨c2, ⟨_, rfl⟩ | ⟨id, i, s, hs, -⟩⟩
      · exact ⟨rfl, c2⟩
      · rw [ho] at hs; cases hs
    · rintro e w2 ⟨c2, ⟨_, rfl⟩ | ⟨id, i, s, hs, -⟩⟩
      · exact ⟨rfl, c2⟩
      · rw [ho] at hs; cases hs
  | some xs =>
    obtain ⟨id, i, s, q1, q2, q3, q4, -⟩ := T.S.I.ok.find ho
    refine ⟨s.M i, fun w' c => (h1 w' c).mono ?_, fun w' c => (h2 w' c).mono ?_⟩
    · rintro e w2 ⟨c2, ⟨hn, _⟩ | ⟨id', i', s', _, r1, r2, _, r4, rfl⟩⟩
      · rw [ho] at hn; cases hn
      · obtain ⟨rfl, rfl, rfl⟩ := at_uniq T.S.I.ok q1 q2 r1 r2 (by omega)
        exact ⟨rfl, c2⟩
    · rintro e w2 ⟨c2, ⟨hn, _⟩ | ⟨id', i', s', _, r1, r2, _, r4, rfl⟩⟩
      · rw [ho] at hn; cases hn
      · obtain ⟨rfl, rfl, rfl⟩ := at_uniq T.S.I.ok q1 q2 r1 r2 (by omega)
        exact ⟨rfl, c2⟩
theorem ask_full (T0 : Tab W) (hN : N ≤ 100000) (x : Int) (hx : Wf64 x) : ∃ bo : Bool, (∀ w', Chg [] w w' → Calls Tryz.prog 20 #[.pointer (some ⟨g, 0, none⟩), .int .i64 x] w' (NwPost (.bool bo) w')) ∧
    ∀ w', Chg [] w w' → Calls Tryz.prog 88 #[.pointer (some ⟨rg, 0, none⟩), .int .i64 x] w' (NwPost (.bool bo) w') := by
  classical
  refine ⟨decide (∀ s, spI a x = some s → fullS s), fun w' c => (s_full (T.chg0 c).S T0 x hx).mono ?_, fun w' c => ?_⟩
  · rintro e w2 ⟨bo, rfl, c2, hb⟩
    have e2 : bo = decide (∀ s, spI a x = some s → fullS s) := by
      cases bo with
      | true => exact (decide_eq_true (hb.1 rfl)).symm
      | false => exact (decide_eq_false (fun h => by have := hb.2 h; cases this)).symm
    rw [e2]; exact ⟨rfl, c2⟩
  · have h1 := rafull_ok w' hr a ids (T.M.chg0 c) (by have := T.len; omega) x
    rw [T.rg] at h1
    refine h1.mono ?_
    rintro e w2 ⟨bo, rfl, rfl, hb⟩
    have e2 : bo = decide (∀ s, spI a x = some s → fullS s) := by
      have h3 : (spI a x = none ∨ ∃ s, spI a x = some s ∧ fullS s) ↔ ∀ s, spI a x = some s → fullS s := by
        constructor
        · rintro (h | ⟨s, h, hf⟩) t ht
          · rw [h] at ht; cases ht
          · rw [h] at ht; cases ht; exact hf
        · intro h
          cases hs : spI a x with
          | none => exact .inl rfl
          | some s => exact .inr ⟨s, rfl, h s hs⟩
      rw [h3] at hb
      cases bo with
      | true => exact (decide_eq_true (hb.1 rfl)).symm
      | false => exact (decide_eq_false (fun h => by have := hb.2 h; cases this)).symm
    rw [e2]; exact ⟨rfl, Chg.refl _ _⟩
theorem ask_class (hN : N ≤ 100000) (x : Int) (hx : Wf64 x) : ∃ p : Int, (∀ w', Chg [] w w' → Calls Tryz.prog 89 #[.pointer (some ⟨g, 0, none⟩), .int .i64 x] w' (NwPost (.int .i64 p) w')) ∧
    ∀ w', Chg [] w w' → Calls Tryz.prog 90 #[.pointer (some ⟨rg, 0, none⟩), .int .i64 x] w' (NwPost (.int .i64 p) w') :=
  ⟨clI a x, fun w' c => (s_class (T.chg0 c).S x hx).mono fun e w2 ⟨h1, h2⟩ => ⟨h1, h2 ▸ Chg.refl _ _⟩, fun w' c => by
    have h1 := raclass_ok w' hr a ids (T.M.chg0 c) (by have := T.len; omega) x
    rw [T.rg] at h1
    exact h1.mono fun e w2 ⟨h1, h2⟩ => ⟨h1, h2 ▸ Chg.refl _ _⟩⟩
end
end Go.Proofs.YtmafiagakoglkaaGreatDoor
