/- The document's waiting places: Has, Wait, Wake. (Printed by wip/genml6.py.) -/
import Derived.Test.YtepnlcemlnkpdaaGreatDoorMl5
namespace Go.Proofs.YtepnlcemlnkpdaaGreatDoor
set_option maxHeartbeats 16000000
set_option maxRecDepth 100000
open Go.RowKit Go.Maps
theorem WtR.form {w : World} {v : Value} {xs : List Int} {B : List Nat} (h : WtR w v xs B) : ∃ A c, v = .slice A xs.length c ∧ ∀ (j : Nat) x, xs[j]? = some x → ∃ b off, A = some ⟨b, off, none⟩ ∧ b < w.heap.size ∧ w.cell? ⟨b, off + j, none⟩ = some (.int .i64 x) := by
  rcases h with ⟨rfl, A, c, rfl⟩ | ⟨b, off, c, cs, -, rfl, -, hB, hc⟩
  · exact ⟨A, c, rfl, fun j x hx => by simp at hx⟩
  · exact ⟨_, c, rfl, fun j x hx => ⟨b, off, rfl, hB.lt, hB.cellv (off + j) (hc j x hx)⟩⟩
theorem WtR.rd {w : World} {v : Value} {xs : List Int} {B : List Nat} (h : WtR w v xs B) : RdV w w.heap.size v (xs.map (Value.int .i64)) := by
  obtain ⟨A, c, rfl, hc⟩ := h.form
  refine ⟨⟨A, c, by rw [List.length_map]⟩, fun A' n c' e i y hy => ?_, fun y hy => ?_⟩
  · injection e with e1 e2 e3
    subst e1
    rw [List.getElem?_map] at hy
    obtain ⟨x, hx, rfl⟩ := Option.map_eq_some_iff.1 hy
    exact hc i x hx
  · obtain ⟨x, -, rfl⟩ := List.mem_map.1 hy
    rfl
theorem WtR.mono {w : World} {v : Value} {xs : List Int} {B B' : List Nat} (h : WtR w v xs B) (hB : ∀ j ∈ B, j ∈ B') : WtR w v xs B' := by
  rcases h with h | ⟨b, off, c, cs, hb, h⟩
  · exact .inl h
  · exact .inr ⟨b, off, c, cs, hB b hb, h⟩
theorem OwnV.wtr {w : World} {v : Value} {xs : List Int} (O : OwnV 3 w v (xs.map (Value.int .i64))) : ∃ nb, WtR w v xs nb ∧ ∀ j ∈ nb, j ∈ fpv v ∧ ∃ cs, Blk w j 3 cs := by
  rcases O.o.2 with ⟨rfl, h0⟩ | ⟨g, cap, cur, rfl, _, hh, hc, hm, hs, ht⟩
  · have : xs = [] := List.eq_nil_of_length_eq_zero (by simpa using h0)
    subst this
    exact ⟨[], .inl ⟨rfl, none, 0, rfl⟩, by simp⟩
  · refine ⟨[g], .inr ⟨g, 0, cap, cur, by simp, by rw [List.length_map], by simpa using hc, hh, fun j x hx => ?_⟩, fun j hj => ?_⟩
    · have h1 : (cur.toList.take ((xs.map (Value.int .i64)).length * 1))[j]? = some (.int .i64 x) := by rw [ht]; simp [hx]
      rw [List.getElem?_take] at h1
      split at h1
      · rw [Nat.zero_add]; simpa using h1
      · cases h1
    · have e : j = g := by simpa using hj
      subst e
      exact ⟨by simp [fpv, Value.ownBlock], cur, hh⟩
theorem mdC_at (G : Int) (vf vg vgl vob vt : Value) (wt : Nat → Value) (ck : Int) {j : Nat} (hj : j < 32) : (mdC G vf vg vgl vob vt wt ck)[6 + j]? = some (wt j) := by
  have h : j = 0 ∨ j = 1 ∨ j = 2 ∨ j = 3 ∨ j = 4 ∨ j = 5 ∨ j = 6 ∨ j = 7 ∨ j = 8 ∨ j = 9 ∨ j = 10 ∨ j = 11 ∨ j = 12 ∨ j = 13 ∨ j = 14 ∨ j = 15 ∨ j = 16 ∨ j = 17 ∨ j = 18 ∨ j = 19 ∨ j = 20 ∨ j = 21 ∨ j = 22 ∨ j = 23 ∨ j = 24 ∨ j = 25 ∨ j = 26 ∨ j = 27 ∨ j = 28 ∨ j = 29 ∨ j = 30 ∨ j = 31 := by omega
  rcases h with rfl | rfl | rfl | rfl | rfl | rfl | rfl | rfl | rfl | rfl | rfl | rfl | rfl | rfl | rfl | rfl | rfl | rfl | rfl | rfl | rfl | rfl | rfl | rfl | rfl | rfl | rfl | rfl | rfl | rfl | rfl | rfl <;> (show _ = _; kernel_rfl)
theorem mdC_set (G : Int) (vf vg vgl vob vt : Value) (wt : Nat → Value) (ck : Int) {j : Nat} (hj : j < 32) (v : Value) : (mdC G vf vg vgl vob vt wt ck).setIfInBounds (6 + j) v = mdC G vf vg vgl vob vt (updV wt j v) ck := by
  have h : j = 0 ∨ j = 1 ∨ j = 2 ∨ j = 3 ∨ j = 4 ∨ j = 5 ∨ j = 6 ∨ j = 7 ∨ j = 8 ∨ j = 9 ∨ j = 10 ∨ j = 11 ∨ j = 12 ∨ j = 13 ∨ j = 14 ∨ j = 15 ∨ j = 16 ∨ j = 17 ∨ j = 18 ∨ j = 19 ∨ j = 20 ∨ j = 21 ∨ j = 22 ∨ j = 23 ∨ j = 24 ∨ j = 25 ∨ j = 26 ∨ j = 27 ∨ j = 28 ∨ j = 29 ∨ j = 30 ∨ j = 31 := by omega
  rcases h with rfl | rfl | rfl | rfl | rfl | rfl | rfl | rfl | rfl | rfl | rfl | rfl | rfl | rfl | rfl | rfl | rfl | rfl | rfl | rfl | rfl | rfl | rfl | rfl | rfl | rfl | rfl | rfl | rfl | rfl | rfl | rfl <;> (show _ = _; kernel_rfl)
theorem XM.wset {w w' : World} {a : XAt} {X : Mdl} (h : XM w a X) {p : Nat} {v' : Value} {l : List Int} {nb S : List Nat} (c : Chg S w w') (hS : ∀ j ∈ S, j = a.gX ∨ ¬ XF a X j) (hx : Blk w' a.gX 62 (xC { a with vw := updV a.vw p v' })) (hnb : ∀ j ∈ nb, (∃ cs, Blk w' j 3 cs) ∧ ∀ k, k < X.n → j ≠ a.gs k) (hw : WtR w' v' l (nb ++ a.wb)) :
    XM w' { a with vw := updV a.vw p v', wb := nb ++ a.wb } { X with wt := updV X.wt p l } := by
  have hn : ∀ {j}, j ≠ a.gX → XF a X j → j ∉ S := fun h1 h2 hm => (hS _ hm).elim h1 (fun h3 => h3 h2)
  have nw : ∀ j ∈ a.wb, j ∉ S := fun j hj => hn (fun e => by
    obtain ⟨cs, B⟩ := (h.wb j hj).1
    exact h.x.ne_ B (by decide) e.symm) (.inr (.inl (.inr hj)))
  have hwb := h.wbs c nw
  refine ⟨hx, h.o.chg c (fun k hk => hn (fun e => h.o.ne_blkV h.x (by decide) (e ▸ hk)) (.inr (.inl (.inl hk)))), fun i hi => ?_, fun i hi => ?_, h.ig, h.is, fun j hj => ?_, ⟨List.mem_append_right _ h.ad.1, c.blk h.ad.2 (nw _ h.ad.1)⟩, fun i hi => ?_⟩
  · exact c.blk (h.g i hi) (hn ((h.g i hi).ne_ h.x (by decide)) (.inr (.inr ⟨i, hi, .inl rfl⟩)))
  · exact c.blk (h.s i hi) (hn ((h.s i hi).ne_ h.x (by decide)) (.inr (.inr ⟨i, hi, .inr rfl⟩)))
  · rcases List.mem_append.1 hj with e | e
    · exact hnb j e
    · exact hwb.1 j e
  · show WtR w' (updV a.vw p v' i) (updV X.wt p l i) (nb ++ a.wb)
    by_cases e : i = p
    · subst e; rw [updV_same, updV_same]; exact hw
    · rw [updV_other _ _ e, updV_other _ _ e]
      exact (hwb.2 i hi).mono (fun j hj => List.mem_append_right _ hj)
theorem rhas_no (w : World) (v : Value) (xs : List Int) (B : List Nat) (g : Int) (O : WtR w v xs B) (hg : g ∉ xs) (hl : xs.length ≤ 1000000) : Calls Tryz.prog 318 #[v, .int .i64 g] w (QuPost (.bool false) w) := by
  obtain ⟨A, c, rfl, hc⟩ := O.form
  obtain ⟨n, hn⟩ : ∃ n, n = xs.length := ⟨_, rfl⟩
  rw [← hn]
  have hl : n ≤ 1000000 := by rw [hn]; exact hl
  have HO := Lib.hid (And.intro hc (And.intro hg hn)); clear O hg hn hc
  go_enter Tryz.func318, Tryz.ntmps318
  go_wp2_with fail
  go_loopg [5] (n + 1) (fun gk idx wr => IxRelL w n gk idx wr)
  case atStart => exact ⟨0, by omega, by omega, rfl, rfl⟩
  case round =>
    obtain ⟨j, hgk, hj, rfl, rfl⟩ := hrel
    by_cases hlt : j < n
    · have hjx : j < xs.length := by rw [← HO.out.2.2]; exact hlt
      obtain ⟨b, off, hA, -, hc⟩ := HO.out.1 j _ (List.getElem?_eq_getElem hjx)
      subst hA
      obtain ⟨x, hx⟩ : ∃ x, x = xs[j] := ⟨_, rfl⟩
      rw [← hx] at hc
      have hne : (x == g) = false := by
        rw [beq_eq_false_iff_ne]
        intro e
        exact HO.out.2.1 (by rw [← e, hx]; exact List.getElem_mem hjx)
      have d1 : (j : Int) < (n : Int) := by omega
      have d0 : (0 : Int) ≤ (j : Int) := by omega
      clear hx
      go_wp2_with fail
      go_roundg (n - j)
      case measure => omega
      case rel => exact ⟨j + 1, by omega, by omega, by go_num, rfl⟩
    · have d1 : ¬ (j : Int) < (n : Int) := by omega
      go_wp2_with fail
      go_ret
      exact ⟨rfl, rfl⟩
def RwPost (a : XAt) (X : Mdl) (p : Nat) (l : List Int) (v : Value) (w : World) (e : Ending) (w' : World) : Prop :=
  ∃ v' nb, e = .returned v ∧ XM w' { a with vw := updV a.vw p v', wb := nb ++ a.wb } { X with wt := updV X.wt p l } ∧ (∀ j ∈ nb, w.heap.size ≤ j) ∧ Chg [a.gX] w w'
theorem rw_end {w x : World} {a : XAt} {X : Mdl} (h : XM w a X) {p : Nat} (hp : p < 32) {l : List Int} {v' : Value} (O : OwnV 3 x v' (l.map (Value.int .i64))) (F : ∀ k ∈ fpv v', w.heap.size ≤ k) (D : Chg [] w x) (BX : Blk x a.gX 62 (xC a)) : ∃ v2 nb, (Ending.returned (.int .i64 0)) = .returned (.int .i64 0) ∧ XM (x.setCell ⟨a.gX, 6 + p, none⟩ v') { a with vw := updV a.vw p v2, wb := nb ++ a.wb } { X with wt := updV X.wt p l } ∧ (∀ j ∈ nb, w.heap.size ≤ j) ∧ Chg [a.gX] w (x.setCell ⟨a.gX, 6 + p, none⟩ v') := by
  obtain ⟨nb, hR, hnb⟩ := O.wtr
  have cS : Chg [a.gX] x (x.setCell ⟨a.gX, 6 + p, none⟩ v') := (Chg.refl [a.gX] x).setCell (.inl (by simp)) _
  have hX := BX.setv (6 + p) v' (mdC_set _ _ _ _ _ _ _ _ hp _)
  have cT : Chg [a.gX] w (x.setCell ⟨a.gX, 6 + p, none⟩ v') := (D.mono (by simp)).trans cS
  have nn : ∀ j ∈ nb, j ≠ a.gX := fun j hj e => by
    have h1 := F j (hnb j hj).1
    have h2 := h.x.lt
    omega
  have nS : ∀ j ∈ nb, j ∉ [a.gX] := fun j hj hm => nn j hj (by simpa using hm)
  refine ⟨v', nb, rfl, h.wset cT (fun j hj => .inl (by simpa using hj)) hX (fun j hj => ⟨(hnb j hj).2.imp fun _ B => cS.blk B (nS j hj), fun k hk e => ?_⟩) ((hR.chg cS nS).mono (fun j hj => List.mem_append_left _ hj)), fun j hj => F j (hnb j hj).1, cT⟩
  have h1 := F j (hnb j hj).1
  have h2 := (h.s k hk).lt
  omega
theorem rwait_ok (w : World) (a : XAt) (X : Mdl) (h : XM w a X) (p : Nat) (hp : p < 32) (g : Int) (hg : ∀ i, i < 32 → g ∉ X.wt i) (hl : ∀ i, i < 32 → (X.wt i).length ≤ 100000) :
    Calls Tryz.prog 265 #[.pointer (some ⟨a.gX, 6, none⟩), .int .i64 (p : Nat), .int .i64 g] w (RwPost a X p (X.wt p ++ [g]) (.int .i64 0) w) := by
  have hcell : ∀ i, i < 32 → w.cell? ⟨a.gX, 6 + i, none⟩ = some (a.vw i) := fun i hi => h.x.cellv (6 + i) (mdC_at _ _ _ _ _ _ _ _ hi)
  have p0 : (0 : Int) ≤ (p : Int) := by omega
  have p1 : (p : Int) < 32 := by omega
  have HB := Lib.hid (And.intro h (And.intro hcell (And.intro hg hl))); clear h hcell hg hl
  go_enter Tryz.func265, Tryz.ntmps265
  go_wp2_with fail
  go_loopg [7] 33 (fun gk idx wr => IxRelL w 32 gk idx wr)
  case atStart => exact ⟨0, by omega, by omega, rfl, rfl⟩
  case round =>
    obtain ⟨j, hgk, hj, rfl, rfl⟩ := hrel
    by_cases hlt : j < 32
    · have d1 : (j : Int) < 32 := by omega
      have d0 : (0 : Int) ≤ (j : Int) := by omega
      have cj := HB.out.2.1 j hlt
      have KC := rhas_no wr (a.vw j) (X.wt j) a.wb g (HB.out.1.w j hlt) (HB.out.2.2.1 j hlt) (by have := HB.out.2.2.2 j hlt; omega)
      obtain ⟨vj, hvj⟩ : ∃ v, v = a.vw j := ⟨_, rfl⟩
      rw [← hvj] at cj KC
      have HK := Lib.hid KC; clear KC hvj
      go_wp2_with fail
      refine HK.out.mono ?_
      rintro e w1 ⟨rfl, rfl⟩
      go_wp2_with fail
      go_roundg (32 - j)
      case measure => omega
      case rel => exact ⟨j + 1, by omega, by omega, by go_num, rfl⟩
    · have d1 : ¬ (j : Int) < 32 := by omega
      have cp := HB.out.2.1 p hp
      have lX := HB.out.1.x.lt
      obtain ⟨vp, hvp⟩ : ∃ v, v = a.vw p := ⟨_, rfl⟩
      rw [← hvp] at cp
      obtain ⟨n, hn⟩ : ∃ n, n = (X.wt p).length := ⟨_, rfl⟩
      have hnl : n ≤ 100000 := by rw [hn]; exact HB.out.2.2.2 p hp
      have UU := Lib.hid ((HB.out.1.w p hp).rd)
      rw [← hvp] at UU
      have HN := Lib.hid (And.intro hvp hn); clear hvp hn
      go_upto_region 8 with fail
      refine wp_region_takes (fuel := 6) 15 (fun w' => Chg [] wr w') [0, 1, 3, 4, 5, 6, 7, 8, 10, 13, 14] (by kernel_rfl) (by kernel_rfl) (fun _ _ _ _ _ h => h) ((Chg.refl [] wr).drew) ?_
      simp only [List.filterMap_cons, List.filterMap_nil, qGa, qGb]
      iterate 11
        refine wpTake_step (fun K hK => ?_)
        rw [if_pos (by rfl)]
        refine ⟨?_, fun w' hS' => ?_, ?_⟩
        rotate_left 1
        focus
          have y0 := hS'.cellv lX (by simp) cp
          go_simp
          try with_reducible rfl
          done
        simp only [Act.put, qSa, qSb, qSc]
        refine hK _ ?_
        clear hK K
      refine wpTake_nil ?_
      generalize hx0 : wr.drew = x0
      have D0 : Chg [] wr x0 := by rw [← hx0]; exact (Chg.refl [] wr).drew
      clear hx0
      refine wpAnyS_ready (rs := [2, 11]) (by kernel_rfl) (by simp) ?_
      refine AllReadyS.cons (by simp only [qGc, qGa, qGb]; rfl) (fun K hK => ?_) ?_
      · refine step_lit0 slvI28 (by rfl) (by rfl) ?_
        intro v1 x1 O1 c1 G1
        have D1 := D0.trans c1
        have Fl : ∀ j ∈ fpv v1, wr.heap.size ≤ j := fun j hj => Nat.le_trans D0.size (G1 j hj)
        have Ol := O1
        try have N1 : g1 ∉ fpv v1 := fun hm => by have h1 := G1 _ hm; have h2 := B1.lt; omega
        try replace B1 := c1.blk B1 (by simp)
        clear O1 G1
        refine hK _ _ (D1) ?_
        clear hK K
        try simp only [Act.put, qSa, qSb, qSc]
        refine wpAnyS_ready (rs := [9, 11]) (by kernel_rfl) (by simp) ?_
        refine AllReadyS.cons (by simp only [qGc, qGa, qGb]; rfl) (fun K hK => ?_) ?_
        · have hnn : ([] : List Value).length + ((X.wt p).map (Value.int .i64)).length = n := by rw [List.length_map, HN.out.2]; simp
          refine step_cat_f (W := wr) n hnn (by rfl) _ _ (by rfl) slvI28 (by rfl) Ol D1 Fl (by rfl) (UU.out.chg D1 (Nat.le_refl _) (by simp)) (by omega) ?_
          clear hnn
          intro v2 x2 O2 c2 D2 P2 F2
          clear Ol Fl
          have Ol := O2
          have Fl := F2
          try have N2 : g1 ∉ fpv v2 := fun hm => (P2 _ hm).elim N1 (fun h => by have := B1.lt; omega)
          try replace B1 := c2.blk B1 N1
          try (clear N1; have N1 := N2; clear N2)
          clear O2 F2 P2
          refine hK _ _ (D2) ?_
          clear hK K
          try simp only [Act.put, qSa, qSb, qSc]
          refine wpAnyS_ready (rs := [11]) (by kernel_rfl) (by simp) ?_
          refine AllReadyS.o (fun K hK => ?_)
          refine step_lit1 slvI28 (by rfl) (by rfl) (by rfl) (by rfl) ?_
          intro g1 x3 B1 c3 G3
          have D3 := D2.trans c3
          try have N1 : ¬ (g1 ∈ fpv _) := fun hm => absurd G3 (Nat.ne_of_lt (Ol.lt hm))
          try replace Ol := Ol.chg0 c3
          clear G3
          refine hK _ _ (D3) ?_
          clear hK K
          try simp only [Act.put, qSa, qSb, qSc]
          refine wpAnyS_ready (rs := [12]) (by kernel_rfl) (by simp) ?_
          refine AllReadyS.o (fun K hK => ?_)
          have hnn : ([] ++ (X.wt p).map (Value.int .i64)).length + ([Value.int .i64 g]).length = n + 1 := by rw [List.nil_append, List.length_map, HN.out.2]; rfl
          refine step_cat_f (W := wr) (n + 1) hnn (by rfl) _ _ (by rfl) slvI28 (by rfl) Ol D3 Fl (by rfl) (RdV.one_ B1 rfl) (by omega) ?_
          clear hnn
          intro v4 x4 O4 c4 D4 P4 F4
          clear Ol Fl
          have Ol := O4
          have Fl := F4
          try have N2 : g1 ∉ fpv v4 := fun hm => (P4 _ hm).elim N1 (fun h => by have := B1.lt; omega)
          try replace B1 := c4.blk B1 N1
          try (clear N1; have N1 := N2; clear N2)
          clear O4 F4 P4
          refine hK _ _ (D4) ?_
          clear hK K
          try simp only [Act.put, qSa, qSb, qSc]
          refine wpAnyS_tail 15 2 (by kernel_rfl) rfl ?_
          simp only [qDa, qDb]
          have hm : ([] ++ (X.wt p).map (Value.int .i64)) ++ [Value.int .i64 g] = (X.wt p ++ [g]).map (Value.int .i64) := by rw [List.nil_append, List.map_append]; rfl
          rw [hm] at Ol
          clear hm
          have Oz := Ol
          obtain ⟨A2, c2, e2⟩ := Oz.slice
          rw [List.length_map, List.length_append, List.length_singleton, ← HN.out.2] at e2
          subst e2
          have DX := (D4).blk HB.out.1.x (by simp)
          have cZ := DX.cellv (6 + p) (mdC_at _ _ _ _ _ _ _ _ hp)
          have fZ := DX.frozen (6 + p)
          obtain ⟨xz, hxz⟩ : ∃ xz, xz = (D4).size := ⟨_, rfl⟩
          have HZ := Lib.hid (And.intro Oz (And.intro Fl (And.intro D4 DX))); clear Oz Ol Fl DX hxz
          rw [← HN.out.1] at cZ
          go_wp2_with fail
          go_ret
          exact rw_end HB.out.1 hp HZ.out.1 HZ.out.2.1 HZ.out.2.2.1 HZ.out.2.2.2
        refine AllReadyS.o (fun K hK => ?_)
        refine step_lit1 slvI28 (by rfl) (by rfl) (by rfl) (by rfl) ?_
        intro g1 x5 B1 c5 G5
        have D5 := D1.trans c5
        try have N1 : ¬ (g1 ∈ fpv _) := fun hm => absurd G5 (Nat.ne_of_lt (Ol.lt hm))
        try replace Ol := Ol.chg0 c5
        clear G5
        refine hK _ _ (D5) ?_
        clear hK K
        try simp only [Act.put, qSa, qSb, qSc]
        refine wpAnyS_ready (rs := [9]) (by kernel_rfl) (by simp) ?_
        refine AllReadyS.o (fun K hK => ?_)
        have hnn : ([] : List Value).length + ((X.wt p).map (Value.int .i64)).length = n := by rw [List.length_map, HN.out.2]; simp
        refine step_cat_f (W := wr) n hnn (by rfl) _ _ (by rfl) slvI28 (by rfl) Ol D5 Fl (by rfl) (UU.out.chg D5 (Nat.le_refl _) (by simp)) (by omega) ?_
        clear hnn
        intro v6 x6 O6 c6 D6 P6 F6
        clear Ol Fl
        have Ol := O6
        have Fl := F6
        try have N2 : g1 ∉ fpv v6 := fun hm => (P6 _ hm).elim N1 (fun h => by have := B1.lt; omega)
        try replace B1 := c6.blk B1 N1
        try (clear N1; have N1 := N2; clear N2)
        clear O6 F6 P6
        refine hK _ _ (D6) ?_
        clear hK K
        try simp only [Act.put, qSa, qSb, qSc]
        refine wpAnyS_ready (rs := [12]) (by kernel_rfl) (by simp) ?_
        refine AllReadyS.o (fun K hK => ?_)
        have hnn : ([] ++ (X.wt p).map (Value.int .i64)).length + ([Value.int .i64 g]).length = n + 1 := by rw [List.nil_append, List.length_map, HN.out.2]; rfl
        refine step_cat_f (W := wr) (n + 1) hnn (by rfl) _ _ (by rfl) slvI28 (by rfl) Ol D6 Fl (by rfl) (RdV.one_ B1 rfl) (by omega) ?_
        clear hnn
        intro v7 x7 O7 c7 D7 P7 F7
        clear Ol Fl
        have Ol := O7
        have Fl := F7
        try have N2 : g1 ∉ fpv v7 := fun hm => (P7 _ hm).elim N1 (fun h => by have := B1.lt; omega)
        try replace B1 := c7.blk B1 N1
        try (clear N1; have N1 := N2; clear N2)
        clear O7 F7 P7
        refine hK _ _ (D7) ?_
        clear hK K
        try simp only [Act.put, qSa, qSb, qSc]
        refine wpAnyS_tail 15 2 (by kernel_rfl) rfl ?_
        simp only [qDa, qDb]
        have hm : ([] ++ (X.wt p).map (Value.int .i64)) ++ [Value.int .i64 g] = (X.wt p ++ [g]).map (Value.int .i64) := by rw [List.nil_append, List.map_append]; rfl
        rw [hm] at Ol
        clear hm
        have Oz := Ol
        obtain ⟨A2, c2, e2⟩ := Oz.slice
        rw [List.length_map, List.length_append, List.length_singleton, ← HN.out.2] at e2
        subst e2
        have DX := (D7).blk HB.out.1.x (by simp)
        have cZ := DX.cellv (6 + p) (mdC_at _ _ _ _ _ _ _ _ hp)
        have fZ := DX.frozen (6 + p)
        obtain ⟨xz, hxz⟩ : ∃ xz, xz = (D7).size := ⟨_, rfl⟩
        have HZ := Lib.hid (And.intro Oz (And.intro Fl (And.intro D7 DX))); clear Oz Ol Fl DX hxz
        rw [← HN.out.1] at cZ
        go_wp2_with fail
        go_ret
        exact rw_end HB.out.1 hp HZ.out.1 HZ.out.2.1 HZ.out.2.2.1 HZ.out.2.2.2
      refine AllReadyS.o (fun K hK => ?_)
      refine step_lit1 slvI28 (by rfl) (by rfl) (by rfl) (by rfl) ?_
      intro g1 x8 B1 c8 G8
      have D8 := D0.trans c8
      try have N1 : ¬ (g1 ∈ fpv _) := fun hm => absurd G8 (Nat.ne_of_lt (Ol.lt hm))
      try replace Ol := Ol.chg0 c8
      clear G8
      refine hK _ _ (D8) ?_
      clear hK K
      try simp only [Act.put, qSa, qSb, qSc]
      refine wpAnyS_ready (rs := [2]) (by kernel_rfl) (by simp) ?_
      refine AllReadyS.o (fun K hK => ?_)
      refine step_lit0 slvI28 (by rfl) (by rfl) ?_
      intro v9 x9 O9 c9 G9
      have D9 := D8.trans c9
      have Fl : ∀ j ∈ fpv v9, wr.heap.size ≤ j := fun j hj => Nat.le_trans D8.size (G9 j hj)
      have Ol := O9
      try have N1 : g1 ∉ fpv v9 := fun hm => by have h1 := G9 _ hm; have h2 := B1.lt; omega
      try replace B1 := c9.blk B1 (by simp)
      clear O9 G9
      refine hK _ _ (D9) ?_
      clear hK K
      try simp only [Act.put, qSa, qSb, qSc]
      refine wpAnyS_ready (rs := [9]) (by kernel_rfl) (by simp) ?_
      refine AllReadyS.o (fun K hK => ?_)
      have hnn : ([] : List Value).length + ((X.wt p).map (Value.int .i64)).length = n := by rw [List.length_map, HN.out.2]; simp
      refine step_cat_f (W := wr) n hnn (by rfl) _ _ (by rfl) slvI28 (by rfl) Ol D9 Fl (by rfl) (UU.out.chg D9 (Nat.le_refl _) (by simp)) (by omega) ?_
      clear hnn
      intro v10 x10 O10 c10 D10 P10 F10
      clear Ol Fl
      have Ol := O10
      have Fl := F10
      try have N2 : g1 ∉ fpv v10 := fun hm => (P10 _ hm).elim N1 (fun h => by have := B1.lt; omega)
      try replace B1 := c10.blk B1 N1
      try (clear N1; have N1 := N2; clear N2)
      clear O10 F10 P10
      refine hK _ _ (D10) ?_
      clear hK K
      try simp only [Act.put, qSa, qSb, qSc]
      refine wpAnyS_ready (rs := [12]) (by kernel_rfl) (by simp) ?_
      refine AllReadyS.o (fun K hK => ?_)
      have hnn : ([] ++ (X.wt p).map (Value.int .i64)).length + ([Value.int .i64 g]).length = n + 1 := by rw [List.nil_append, List.length_map, HN.out.2]; rfl
      refine step_cat_f (W := wr) (n + 1) hnn (by rfl) _ _ (by rfl) slvI28 (by rfl) Ol D10 Fl (by rfl) (RdV.one_ B1 rfl) (by omega) ?_
      clear hnn
      intro v11 x11 O11 c11 D11 P11 F11
      clear Ol Fl
      have Ol := O11
      have Fl := F11
      try have N2 : g1 ∉ fpv v11 := fun hm => (P11 _ hm).elim N1 (fun h => by have := B1.lt; omega)
      try replace B1 := c11.blk B1 N1
      try (clear N1; have N1 := N2; clear N2)
      clear O11 F11 P11
      refine hK _ _ (D11) ?_
      clear hK K
      try simp only [Act.put, qSa, qSb, qSc]
      refine wpAnyS_tail 15 2 (by kernel_rfl) rfl ?_
      simp only [qDa, qDb]
      have hm : ([] ++ (X.wt p).map (Value.int .i64)) ++ [Value.int .i64 g] = (X.wt p ++ [g]).map (Value.int .i64) := by rw [List.nil_append, List.map_append]; rfl
      rw [hm] at Ol
      clear hm
      have Oz := Ol
      obtain ⟨A2, c2, e2⟩ := Oz.slice
      rw [List.length_map, List.length_append, List.length_singleton, ← HN.out.2] at e2
      subst e2
      have DX := (D11).blk HB.out.1.x (by simp)
      have cZ := DX.cellv (6 + p) (mdC_at _ _ _ _ _ _ _ _ hp)
      have fZ := DX.frozen (6 + p)
      obtain ⟨xz, hxz⟩ : ∃ xz, xz = (D11).size := ⟨_, rfl⟩
      have HZ := Lib.hid (And.intro Oz (And.intro Fl (And.intro D11 DX))); clear Oz Ol Fl DX hxz
      rw [← HN.out.1] at cZ
      go_wp2_with fail
      go_ret
      exact rw_end HB.out.1 hp HZ.out.1 HZ.out.2.1 HZ.out.2.2.1 HZ.out.2.2.2
theorem rwake_no (w : World) (a : XAt) (X : Mdl) (h : XM w a X) (p : Nat) (hp : p < 32) (h0 : X.wt p = []) :
    Calls Tryz.prog 266 #[.pointer (some ⟨a.gX, 6, none⟩), .int .i64 (p : Nat)] w (QuPost (.tuple #[.int .i64 0, .bool false]) w) := by
  have cp : w.cell? ⟨a.gX, 6 + p, none⟩ = some (a.vw p) := h.x.cellv (6 + p) (mdC_at _ _ _ _ _ _ _ _ hp)
  obtain ⟨A, c, hv, -⟩ := (h.w p hp).form
  rw [hv, h0] at cp
  have cp : w.cell? ⟨a.gX, 6 + p, none⟩ = some (.slice A 0 c) := cp
  have p0 : (0 : Int) ≤ (p : Int) := by omega
  have p1 : (p : Int) < 32 := by omega
  clear h hv h0
  go_enter Tryz.func266, Tryz.ntmps266
  go_wp2_with fail
  go_ret2
  exact ⟨rfl, rfl⟩
theorem rwake_ok (w : World) (a : XAt) (X : Mdl) (h : XM w a X) (p : Nat) (hp : p < 32) (x : Int) (r : List Int) (h0 : X.wt p = x :: r) (hl : r.length ≤ 100000) :
    Calls Tryz.prog 266 #[.pointer (some ⟨a.gX, 6, none⟩), .int .i64 (p : Nat)] w (RwPost a X p r (.tuple #[.int .i64 x, .bool true]) w) := by
  have cp : w.cell? ⟨a.gX, 6 + p, none⟩ = some (a.vw p) := h.x.cellv (6 + p) (mdC_at _ _ _ _ _ _ _ _ hp)
  have fp := h.x.frozen (6 + p)
  have lX := h.x.lt
  obtain ⟨m, hm⟩ : ∃ m, m = r.length := ⟨_, rfl⟩
  obtain ⟨b, off, c, cs, hb, hv, hcap, hB, hc⟩ : ∃ b off c cs, b ∈ a.wb ∧ a.vw p = .slice (some ⟨b, off, none⟩) (m + 1) c ∧ m + 1 ≤ c ∧ Blk w b 3 cs ∧ ∀ (j : Nat) y, (x :: r)[j]? = some y → cs[off + j]? = some (.int .i64 y) := by
    rcases h.w p hp with ⟨e, -⟩ | ⟨b, off, c, cs, hb, h1, hk, h2, h3⟩
    · rw [h0] at e; cases e
    · rw [h0] at h1 hk h3
      rw [List.length_cons, ← hm] at h1 hk
      exact ⟨b, off, c, cs, hb, h1, hk, h2, h3⟩
  rw [hv] at cp
  have hx : w.cell? ⟨b, off, none⟩ = some (.int .i64 x) := hB.cellv off (hc 0 x rfl)
  obtain ⟨o, ho, ST⟩ : ∃ o, (if c = 1 then some (⟨b, off, none⟩ : Addr) else some ⟨b, off + 1, none⟩) = some ⟨b, o, none⟩ ∧ WtR w (.slice (some ⟨b, o, none⟩) m (c - 1)) r a.wb := by
    by_cases e : c = 1
    · rw [if_pos e]
      have e1 : r = [] := by cases r with | nil => rfl | cons y r => rw [List.length_cons] at hm; omega
      have e2 : m = 0 := by rw [hm, e1]; rfl
      exact ⟨off, rfl, .inl ⟨e1, _, _, by rw [e2]⟩⟩
    · rw [if_neg e]
      exact ⟨off + 1, rfl, .inr ⟨b, off + 1, c - 1, cs, hb, by rw [hm], by omega, hB, fun j y hy => by
        have := hc (j + 1) y (by simpa using hy)
        rw [show off + 1 + j = off + (j + 1) by omega]; exact this⟩⟩
  have lb := hB.lt
  have p0 : (0 : Int) ≤ (p : Int) := by omega
  have p1 : (p : Int) < 32 := by omega
  have d2 : ((((m + 1 : Nat) : Int)) == 0) = false := by rw [beq_eq_false_iff_ne]; omega
  have d3 : ¬ m + 1 = 0 := by omega
  have d4 : (0 : Int) < ((m + 1 : Nat) : Int) := by omega
  have d5 : (1 : Int) ≤ ((m + 1 : Nat) : Int) := by omega
  have d6 : (1 : Int) ≤ (m : Int) + 1 := by omega
  have d7 : (((m : Int) + 1) == 0) = false := by rw [beq_eq_false_iff_ne]; omega
  have d8 : ¬ (m : Int) + 1 = 0 := by omega
  have HK := Lib.hid (And.intro h (And.intro hv ST)); clear h hv ST h0 hB hc hcap
  have Hm := Lib.hid hm; clear hm
  go_enter Tryz.func266, Tryz.ntmps266
  go_wp2_with fail
  go_upto_region 4 with fail
  refine wp_region_takes (fuel := 2) 11 (fun w' => Chg [] w w') [0, 1, 2, 3, 4, 5, 6, 7, 8, 9, 10] (by kernel_rfl) (by kernel_rfl) (fun _ _ _ _ _ h => h) ((Chg.refl [] w).drew) ?_
  simp only [List.filterMap_cons, List.filterMap_nil, qGa, qGb]
  iterate 11
    refine wpTake_step (fun K hK => ?_)
    rw [if_pos (by rfl)]
    refine ⟨?_, fun w' hS' => ?_, ?_⟩
    rotate_left 1
    focus
      have y0 := hS'.cellv lX (by simp) cp
      go_simp
      try with_reducible rfl
      done
    simp only [Act.put, qSa, qSb, qSc]
    refine hK _ ?_
    clear hK K
  refine wpTake_nil ?_
  generalize hx0 : w.drew = x0
  have D0 : Chg [] w x0 := by rw [← hx0]; exact (Chg.refl [] w).drew
  clear hx0
  refine wpAnyS_tail 11 2 (by kernel_rfl) rfl ?_
  simp only [qDa, qDb]
  have y1 : x0.cell? ⟨a.gX, 6 + p, none⟩ = some (.slice (some ⟨b, off, none⟩) (m + 1) c) := D0.cellv lX (by simp) cp
  have BX := D0.blk HK.out.1.x (by simp)
  have f1 := BX.frozen (6 + p)
  have HS := Lib.hid (And.intro D0 BX); clear D0 BX cp hx
  try rw [ho]
  go_wp2_with fail
  go_ret2
  have cS : Chg [a.gX] x0 (x0.setCell ⟨a.gX, 6 + p, none⟩ (.slice (some ⟨b, o, none⟩) m (c - 1))) := (Chg.refl [a.gX] x0).setCell (.inl (by simp)) _
  have hX := HS.out.2.setv (6 + p) (.slice (some ⟨b, o, none⟩) m (c - 1)) (mdC_set _ _ _ _ _ _ _ _ hp _)
  have cT := (HS.out.1.mono (by simp)).trans cS
  exact ⟨_, [], rfl, HK.out.1.wset cT (fun j hj => .inl (by simpa using hj)) hX (by simp) (HK.out.2.2.chg cT (fun j hj hm => by
    have e : j = a.gX := by simpa using hm
    obtain ⟨cs, B⟩ := (HK.out.1.wb j hj).1
    exact HK.out.1.x.ne_ B (by decide) e.symm)), by simp, cT⟩
end Go.Proofs.YtepnlcemlnkpdaaGreatDoor
