/- Package machine: wanted, where nothing lives. -/
import Derived.Test.YthjplmminmhiaaaGreatDoorMd1J
import Derived.Test.YthjplmminmhiaaaGreatDoorMcPJ
namespace Go.Proofs.YthjplmminmhiaaaGreatDoor
open Go.RowKit Go.Maps

section
variable {W : Bs} {w : World} {p : MAt} {m : Mac} (M : MM W w p m)
include M
set_option maxHeartbeats 3200000 in
set_option maxRecDepth 100000 in
theorem m_wanted (q : Int) (hf : m.force = 0) (hc : 0 ≤ m.ph.cyc) (hl : m.A.a.live = 0) (hT : 0 < m.gT) : Calls Tryz.prog 89 #[.pointer (some ⟨p.gm, 0, none⟩), .int .i64 q] w (NwPost (.bool false) w) := by
  have c22 : w.cell? ⟨p.gm, 22, none⟩ = some (.int .i64 m.force) := M.mb.cellv 22 rfl
  rw [hf] at c22
  have c15 : w.cell? ⟨p.gm, 15, none⟩ = some (.pointer (some ⟨p.gph, 0, none⟩)) := M.mb.cellv 15 rfl
  have c19 : w.cell? ⟨p.gm, 19, none⟩ = some (.int .i64 m.gT) := M.mb.cellv 19 rfl
  have c20 : w.cell? ⟨p.gm, 20, none⟩ = some (.int .i64 m.gG) := M.mb.cellv 20 rfl
  have c21 : w.cell? ⟨p.gm, 21, none⟩ = some (.int .i64 m.gR) := M.mb.cellv 21 rfl
  have hgl := M.mb.lt
  have d1 : decide ((0 : Int) > m.ph.cyc) = false := decide_eq_false (by omega)
  have d2 : decide (m.ph.cyc < (0 : Int)) = false := decide_eq_false (by omega)
  have KC : ∀ w', Chg [] w w' → Calls Tryz.prog 29 #[.pointer (some ⟨p.gph, 0, none⟩)] w' (QuPost (.int .i64 m.ph.cyc) w') := fun w' c => (ph_cycle_ok p.gph p.bsd m.ph w' (M.chg0 c).ph).mono (fun e w'' h => ⟨h.1, h.2.symm⟩)
  have KL : ∀ w', Chg [] w w' → Calls Tryz.prog 92 #[.pointer (some ⟨p.gm, 0, none⟩)] w' (QuPost (.int .i64 0) w') := fun w' c => by
    have h := m_live (M.chg0 c)
    rw [hl] at h
    exact h
  have HM := Lib.hid (And.intro M (And.intro KC KL)); clear M KC KL
  go_enter Tryz.func89, Tryz.ntmps89
  go_wp2_with fail
  refine wp_region_takes (fuel := 25) 24 (fun w' => Chg [] w w') [0, 1, 2, 3, 4, 5, 6, 7] (by kernel_rfl) (by kernel_rfl) (fun _ _ _ _ _ h => h) ((Chg.refl [] w).drew) ?_
  simp only [List.filterMap_cons, List.filterMap_nil, List.getElem?_cons_zero, List.getElem?_cons_succ]
  refine wpTake_step (fun K hK => ?_)
  rw [if_pos (by rfl)]
  refine ⟨?_, fun w' hS' => ?_, ?_⟩
  rotate_left 1
  focus
    have y22 := hS'.cellv hgl (by simp) c22
    have y15 := hS'.cellv hgl (by simp) c15
    have y19 := hS'.cellv hgl (by simp) c19
    have y20 := hS'.cellv hgl (by simp) c20
    have y21 := hS'.cellv hgl (by simp) c21
    go_simp
    try with_reducible rfl
    done
  simp only [Act.put, List.setIfInBounds_toArray, List.set_cons_zero, List.set_cons_succ]
  refine hK _ ?_
  clear hK K
  refine wpTake_step (fun K hK => ?_)
  rw [if_pos (by rfl)]
  refine ⟨?_, fun w' hS' => ?_, ?_⟩
  rotate_left 1
  focus
    have y22 := hS'.cellv hgl (by simp) c22
    have y15 := hS'.cellv hgl (by simp) c15
    have y19 := hS'.cellv hgl (by simp) c19
    have y20 := hS'.cellv hgl (by simp) c20
    have y21 := hS'.cellv hgl (by simp) c21
    go_simp
    try with_reducible rfl
    done
  simp only [Act.put, List.setIfInBounds_toArray, List.set_cons_zero, List.set_cons_succ]
  refine hK _ ?_
  clear hK K
  refine wpTake_step (fun K hK => ?_)
  rw [if_pos (by rfl)]
  refine ⟨?_, fun w' hS' => ?_, ?_⟩
  rotate_left 1
  focus
    have y22 := hS'.cellv hgl (by simp) c22
    have y15 := hS'.cellv hgl (by simp) c15
    have y19 := hS'.cellv hgl (by simp) c19
    have y20 := hS'.cellv hgl (by simp) c20
    have y21 := hS'.cellv hgl (by simp) c21
    go_simp
    try with_reducible rfl
    done
  simp only [Act.put, List.setIfInBounds_toArray, List.set_cons_zero, List.set_cons_succ]
  refine hK _ ?_
  clear hK K
  refine wpTake_step (fun K hK => ?_)
  rw [if_pos (by rfl)]
  refine ⟨?_, fun w' hS' => ?_, ?_⟩
  rotate_left 1
  focus
    have y22 := hS'.cellv hgl (by simp) c22
    have y15 := hS'.cellv hgl (by simp) c15
    have y19 := hS'.cellv hgl (by simp) c19
    have y20 := hS'.cellv hgl (by simp) c20
    have y21 := hS'.cellv hgl (by simp) c21
    go_simp
    try with_reducible rfl
    done
  simp only [Act.put, List.setIfInBounds_toArray, List.set_cons_zero, List.set_cons_succ]
  refine hK _ ?_
  clear hK K
  refine wpTake_step (fun K hK => ?_)
  rw [if_pos (by rfl)]
  refine ⟨?_, fun w' hS' => ?_, ?_⟩
  rotate_left 1
  focus
    have y22 := hS'.cellv hgl (by simp) c22
    have y15 := hS'.cellv hgl (by simp) c15
    have y19 := hS'.cellv hgl (by simp) c19
    have y20 := hS'.cellv hgl (by simp) c20
    have y21 := hS'.cellv hgl (by simp) c21
    go_simp
    try with_reducible rfl
    done
  simp only [Act.put, List.setIfInBounds_toArray, List.set_cons_zero, List.set_cons_succ]
  refine hK _ ?_
  clear hK K
  refine wpTake_step (fun K hK => ?_)
  rw [if_pos (by rfl)]
  refine ⟨?_, fun w' hS' => ?_, ?_⟩
  rotate_left 1
  focus
    have y22 := hS'.cellv hgl (by simp) c22
    have y15 := hS'.cellv hgl (by simp) c15
    have y19 := hS'.cellv hgl (by simp) c19
    have y20 := hS'.cellv hgl (by simp) c20
    have y21 := hS'.cellv hgl (by simp) c21
    go_simp
    try with_reducible rfl
    done
  simp only [Act.put, List.setIfInBounds_toArray, List.set_cons_zero, List.set_cons_succ]
  refine hK _ ?_
  clear hK K
  refine wpTake_step (fun K hK => ?_)
  rw [if_pos (by rfl)]
  refine ⟨?_, fun w' hS' => ?_, ?_⟩
  rotate_left 1
  focus
    have y22 := hS'.cellv hgl (by simp) c22
    have y15 := hS'.cellv hgl (by simp) c15
    have y19 := hS'.cellv hgl (by simp) c19
    have y20 := hS'.cellv hgl (by simp) c20
    have y21 := hS'.cellv hgl (by simp) c21
    go_simp
    try with_reducible rfl
    done
  simp only [Act.put, List.setIfInBounds_toArray, List.set_cons_zero, List.set_cons_succ]
  refine hK _ ?_
  clear hK K
  refine wpTake_step (fun K hK => ?_)
  rw [if_pos (by rfl)]
  refine ⟨?_, fun w' hS' => ?_, ?_⟩
  rotate_left 1
  focus
    have y22 := hS'.cellv hgl (by simp) c22
    have y15 := hS'.cellv hgl (by simp) c15
    have y19 := hS'.cellv hgl (by simp) c19
    have y20 := hS'.cellv hgl (by simp) c20
    have y21 := hS'.cellv hgl (by simp) c21
    go_simp
    try with_reducible rfl
    done
  simp only [Act.put, List.setIfInBounds_toArray, List.set_cons_zero, List.set_cons_succ]
  refine hK _ ?_
  clear hK K
  refine wpTake_nil ?_
  generalize hx0 : w.drew = x0
  have D0 : Chg [] w x0 := by rw [← hx0]; exact (Chg.refl [] w).drew
  clear hx0
  refine wpAnyS_ready (rs := [8]) (by kernel_rfl) (by simp) ?_
  refine AllReadyS.cons (by simp only [List.getElem?_toArray, List.getElem?_cons_zero, List.getElem?_cons_succ]; rfl) (fun K hK => ?_) ?_
  · rw [if_pos (by rfl)]
    go_simp
    go_at_call 29
    refine (HM.out.2.1 x0 D0).mono ?_
    rintro e x0 ⟨rfl, rfl⟩
    dsimp only
    refine hK _ _ (D0) ?_
    clear hK K
    try simp only [Act.put, List.setIfInBounds_toArray, List.set_cons_zero, List.set_cons_succ]
    refine wpAnyS_more (fuel := 17) [9, 10, 11, 12, 13, 14, 15] (by kernel_rfl) (fun _ _ _ _ _ h => h) D0 ?_
    simp only [List.filterMap_cons, List.filterMap_nil, List.getElem?_cons_zero, List.getElem?_cons_succ]
    refine wpTake_step (fun K hK => ?_)
    rw [if_pos (by rfl)]
    refine ⟨?_, fun w' hS' => ?_, ?_⟩
    rotate_left 1
    focus
      have y22 := hS'.cellv hgl (by simp) c22
      have y15 := hS'.cellv hgl (by simp) c15
      have y19 := hS'.cellv hgl (by simp) c19
      have y20 := hS'.cellv hgl (by simp) c20
      have y21 := hS'.cellv hgl (by simp) c21
      go_simp
      try with_reducible rfl
      done
    simp only [Act.put, List.setIfInBounds_toArray, List.set_cons_zero, List.set_cons_succ]
    refine hK _ ?_
    clear hK K
    refine wpTake_step (fun K hK => ?_)
    rw [if_pos (by rfl)]
    refine ⟨?_, fun w' hS' => ?_, ?_⟩
    rotate_left 1
    focus
      have y22 := hS'.cellv hgl (by simp) c22
      have y15 := hS'.cellv hgl (by simp) c15
      have y19 := hS'.cellv hgl (by simp) c19
      have y20 := hS'.cellv hgl (by simp) c20
      have y21 := hS'.cellv hgl (by simp) c21
      go_simp
      try with_reducible rfl
      done
    simp only [Act.put, List.setIfInBounds_toArray, List.set_cons_zero, List.set_cons_succ]
    refine hK _ ?_
    clear hK K
    refine wpTake_step (fun K hK => ?_)
    rw [if_pos (by rfl)]
    refine ⟨?_, fun w' hS' => ?_, ?_⟩
    rotate_left 1
    focus
      have y22 := hS'.cellv hgl (by simp) c22
      have y15 := hS'.cellv hgl (by simp) c15
      have y19 := hS'.cellv hgl (by simp) c19
      have y20 := hS'.cellv hgl (by simp) c20
      have y21 := hS'.cellv hgl (by simp) c21
      go_simp
      try with_reducible rfl
      done
    simp only [Act.put, List.setIfInBounds_toArray, List.set_cons_zero, List.set_cons_succ]
    refine hK _ ?_
    clear hK K
    refine wpTake_step (fun K hK => ?_)
    rw [if_pos (by rfl)]
    refine ⟨?_, fun w' hS' => ?_, ?_⟩
    rotate_left 1
    focus
      have y22 := hS'.cellv hgl (by simp) c22
      have y15 := hS'.cellv hgl (by simp) c15
      have y19 := hS'.cellv hgl (by simp) c19
      have y20 := hS'.cellv hgl (by simp) c20
      have y21 := hS'.cellv hgl (by simp) c21
      go_simp
      try with_reducible rfl
      done
    simp only [Act.put, List.setIfInBounds_toArray, List.set_cons_zero, List.set_cons_succ]
    refine hK _ ?_
    clear hK K
    refine wpTake_step (fun K hK => ?_)
    rw [if_pos (by rfl)]
    refine ⟨?_, fun w' hS' => ?_, ?_⟩
    rotate_left 1
    focus
      have y22 := hS'.cellv hgl (by simp) c22
      have y15 := hS'.cellv hgl (by simp) c15
      have y19 := hS'.cellv hgl (by simp) c19
      have y20 := hS'.cellv hgl (by simp) c20
      have y21 := hS'.cellv hgl (by simp) c21
      go_simp
      try with_reducible rfl
      done
    simp only [Act.put, List.setIfInBounds_toArray, List.set_cons_zero, List.set_cons_succ]
    refine hK _ ?_
    clear hK K
    refine wpTake_step (fun K hK => ?_)
    rw [if_pos (by rfl)]
    refine ⟨?_, fun w' hS' => ?_, ?_⟩
    rotate_left 1
    focus
      have y22 := hS'.cellv hgl (by simp) c22
      have y15 := hS'.cellv hgl (by simp) c15
      have y19 := hS'.cellv hgl (by simp) c19
      have y20 := hS'.cellv hgl (by simp) c20
      have y21 := hS'.cellv hgl (by simp) c21
      go_simp
      try with_reducible rfl
      done
    simp only [Act.put, List.setIfInBounds_toArray, List.set_cons_zero, List.set_cons_succ]
    refine hK _ ?_
    clear hK K
    refine wpTake_step (fun K hK => ?_)
    rw [if_pos (by rfl)]
    refine ⟨?_, fun w' hS' => ?_, ?_⟩
    rotate_left 1
    focus
      have y22 := hS'.cellv hgl (by simp) c22
      have y15 := hS'.cellv hgl (by simp) c15
      have y19 := hS'.cellv hgl (by simp) c19
      have y20 := hS'.cellv hgl (by simp) c20
      have y21 := hS'.cellv hgl (by simp) c21
      go_simp
      try with_reducible rfl
      done
    simp only [Act.put, List.setIfInBounds_toArray, List.set_cons_zero, List.set_cons_succ]
    refine hK _ ?_
    clear hK K
    refine wpTake_nil ?_
    refine wpAnyS_ready (rs := [16]) (by kernel_rfl) (by simp) ?_
    refine AllReadyS.cons (by simp only [List.getElem?_toArray, List.getElem?_cons_zero, List.getElem?_cons_succ]; rfl) (fun K hK => ?_) ?_
    · rw [if_pos (by rfl)]
      go_simp
      go_at_call 92
      refine (HM.out.2.2 x0 D0).mono ?_
      rintro e x0 ⟨rfl, rfl⟩
      dsimp only
      refine hK _ _ (D0) ?_
      clear hK K
      try simp only [Act.put, List.setIfInBounds_toArray, List.set_cons_zero, List.set_cons_succ]
      refine wpAnyS_ready (rs := [17]) (by kernel_rfl) (by simp) ?_
      refine AllReadyS.cons (by simp only [List.getElem?_toArray, List.getElem?_cons_zero, List.getElem?_cons_succ]; rfl) (fun K hK => ?_) ?_
      · rw [if_pos (by rfl)]
        go_simp
        go_at_call 91
        refine (pc_begin x0 m.gT m.gG m.gR hT).mono ?_
        rintro e x1 ⟨rfl, k1⟩
        dsimp only
        have D1 : Chg [] w x1 := D0.trans k1
        refine hK _ _ (D1) ?_
        clear hK K
        try simp only [Act.put, List.setIfInBounds_toArray, List.set_cons_zero, List.set_cons_succ]
        refine wpAnyS_more (fuel := 9) [18, 19, 20, 21, 22, 23] (by kernel_rfl) (fun _ _ _ _ _ h => h) D1 ?_
        simp only [List.filterMap_cons, List.filterMap_nil, List.getElem?_cons_zero, List.getElem?_cons_succ]
        refine wpTake_step (fun K hK => ?_)
        rw [if_pos (by rfl)]
        refine ⟨?_, fun w' hS' => ?_, ?_⟩
        rotate_left 1
        focus
          have y22 := hS'.cellv hgl (by simp) c22
          have y15 := hS'.cellv hgl (by simp) c15
          have y19 := hS'.cellv hgl (by simp) c19
          have y20 := hS'.cellv hgl (by simp) c20
          have y21 := hS'.cellv hgl (by simp) c21
          go_simp
          try with_reducible rfl
          done
        simp only [Act.put, List.setIfInBounds_toArray, List.set_cons_zero, List.set_cons_succ]
        refine hK _ ?_
        clear hK K
        refine wpTake_step (fun K hK => ?_)
        rw [if_neg (by exact Bool.false_ne_true)]
        simp only [Act.put, List.setIfInBounds_toArray, List.set_cons_zero, List.set_cons_succ]
        refine hK _ ?_
        clear hK K
        refine wpTake_step (fun K hK => ?_)
        rw [if_neg (by exact Bool.false_ne_true)]
        simp only [Act.put, List.setIfInBounds_toArray, List.set_cons_zero, List.set_cons_succ]
        refine hK _ ?_
        clear hK K
        refine wpTake_step (fun K hK => ?_)
        rw [if_neg (by exact Bool.false_ne_true)]
        simp only [Act.put, List.setIfInBounds_toArray, List.set_cons_zero, List.set_cons_succ]
        refine hK _ ?_
        clear hK K
        refine wpTake_step (fun K hK => ?_)
        rw [if_neg (by exact Bool.false_ne_true)]
        simp only [Act.put, List.setIfInBounds_toArray, List.set_cons_zero, List.set_cons_succ]
        refine hK _ ?_
        clear hK K
        refine wpTake_step (fun K hK => ?_)
        rw [if_neg (by exact Bool.false_ne_true)]
        simp only [Act.put, List.setIfInBounds_toArray, List.set_cons_zero, List.set_cons_succ]
        refine hK _ ?_
        clear hK K
        refine wpTake_nil ?_
        refine wpAnyS_tail 24 9 (by kernel_rfl) rfl ?_
        simp only [List.drop_succ_cons, List.drop_zero]
        have HD := Lib.hid D1
        clear D1 D0 k1
        go_wp2_with fail
        go_ret
        exact ⟨rfl, HD.out⟩
      exact AllReadyS.nil
    exact AllReadyS.nil
  exact AllReadyS.nil
end
end Go.Proofs.YthjplmminmhiaaaGreatDoor
