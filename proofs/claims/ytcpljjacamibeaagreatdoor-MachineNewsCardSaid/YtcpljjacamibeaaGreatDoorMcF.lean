/- Package code: which part of an instruction is wrong. -/
import Derived.Test.YtcpljjacamibeaaGreatDoorMcEJ
namespace Go.Proofs.YtcpljjacamibeaaGreatDoor
set_option maxHeartbeats 16000000
set_option maxRecDepth 100000
open Go.RowKit Go.Maps
theorem ptab_nat {o : Nat} (h : o ≤ 17) : ∃ x y z : Nat, ptab[o]? = some [(x : Int), (y : Int), (z : Int)] ∧ x ≤ 6 ∧ y ≤ 6 ∧ z ≤ 6 := by
  obtain ⟨x, y, z, hp, h1, h2, h3, h4, h5, h6⟩ := ptab_at h
  refine ⟨x.toNat, y.toNat, z.toNat, ?_, by omega, by omega, by omega⟩
  rw [hp, Int.toNat_of_nonneg h1, Int.toNat_of_nonneg h3, Int.toNat_of_nonneg h5]
structure WrW (w0 : World) (g1 g2 : Nat) (G F S : Nat) (i : Ins) (w : World) : Prop where
  b1 : Blk w g1 213 #[.int .i64 (G : Nat), .int .i64 (F : Nat), .int .i64 (S : Nat)]
  b2 : Blk w g2 33 #[.int .i64 (i.o : Nat), .int .i64 (i.a : Nat), .int .i64 (i.b : Nat), .int .i64 (i.c : Nat)]
  c : Chg [] w0 w
theorem WrW.chg {w0 w w' : World} {g1 g2 G F S : Nat} {i : Ins} (h : WrW w0 g1 g2 G F S i w) (c : Chg [] w w') : WrW w0 g1 g2 G F S i w' := ⟨c.blk h.b1 (by simp), c.blk h.b2 (by simp), h.c.trans c⟩
theorem WrW.drew {w0 w : World} {g1 g2 G F S : Nat} {i : Ins} (h : WrW w0 g1 g2 G F S i w) : WrW w0 g1 g2 G F S i w.drew := h.chg (Chg.refl [] w).drew
theorem WrW.alloc {w0 w : World} {g1 g2 G F S : Nat} {i : Ins} (h : WrW w0 g1 g2 G F S i w) (o : Obj) : WrW w0 g1 g2 G F S i (w.alloc o) := h.chg ((Chg.refl [] w).alloc o)
section
variable {w0 w : World} {g1 g2 G F S : Nat} {i : Ins} (h : WrW w0 g1 g2 G F S i w)
include h
theorem WrW.c0 : w.cell? ⟨g1, 0, none⟩ = some (.int .i64 (G : Nat)) := h.b1.cellv 0 rfl
theorem WrW.c1 : w.cell? ⟨g1, 1, none⟩ = some (.int .i64 (F : Nat)) := h.b1.cellv 1 rfl
theorem WrW.c2 : w.cell? ⟨g1, 2, none⟩ = some (.int .i64 (S : Nat)) := h.b1.cellv 2 rfl
theorem WrW.c3 : w.cell? ⟨g2, 1, none⟩ = some (.int .i64 (i.a : Nat)) := h.b2.cellv 1 rfl
theorem WrW.c4 : w.cell? ⟨g2, 2, none⟩ = some (.int .i64 (i.b : Nat)) := h.b2.cellv 2 rfl
theorem WrW.c5 : w.cell? ⟨g2, 3, none⟩ = some (.int .i64 (i.c : Nat)) := h.b2.cellv 3 rfl
end
theorem wrI_form {G F S : Nat} {i : Ins} {x y z : Nat} (h : i.o ≤ 17 ∧ ptab[i.o]? = some [(x : Int), (y : Int), (z : Int)]) : wrI G F S i = if fitsP G F S x i.a then if fitsP G F S y i.b then if fitsP G F S z i.c then -1 else 3 else 2 else 1 := by
  unfold wrI wrongP
  rw [if_neg (by omega), h.2]
theorem run_idx3 (w : World) (a b c : Value) : (Instr.index 342 (.agg #[a, b, c]) (.int .i64 0)).run Tryz.prog w = .ok a w ∧ (Instr.index 342 (.agg #[a, b, c]) (.int .i64 1)).run Tryz.prog w = .ok b w ∧ (Instr.index 342 (.agg #[a, b, c]) (.int .i64 2)).run Tryz.prog w = .ok c w := by
  refine ⟨?_, ?_, ?_⟩ <;> kernel_rfl
def WrRel (w0 : World) (g1 g2 G F S : Nat) (i : Ins) (x y z : Nat) (gk : Nat) (idx : Value) (w : World) : Prop :=
  WrW w0 g1 g2 G F S i w ∧ ((gk = 4 ∧ idx = .int .i64 0) ∨ (gk = 3 ∧ idx = .int .i64 1 ∧ fitsP G F S x i.a = true) ∨ (gk = 2 ∧ idx = .int .i64 2 ∧ fitsP G F S x i.a = true ∧ fitsP G F S y i.b = true) ∨ (gk = 1 ∧ idx = .int .i64 3 ∧ fitsP G F S x i.a = true ∧ fitsP G F S y i.b = true ∧ fitsP G F S z i.c = true))
set_option maxHeartbeats 4000000 in
theorem cd_wrong (w : World) (G F S : Nat) (i : Ins) : Calls Tryz.prog 163 #[.agg #[.int .i64 (G : Nat), .int .i64 (F : Nat), .int .i64 (S : Nat)], .agg #[.int .i64 (i.o : Nat), .int .i64 (i.a : Nat), .int .i64 (i.b : Nat), .int .i64 (i.c : Nat)]] w (NwPost (.int .i64 (wrI G F S i)) w) := by
  obtain ⟨w2, hw2⟩ : ∃ w2, w2 = (w.alloc (.cells #[.int .i64 (G : Nat), .int .i64 (F : Nat), .int .i64 (S : Nat)] 213)).alloc (.cells #[.int .i64 (i.o : Nat), .int .i64 (i.a : Nat), .int .i64 (i.b : Nat), .int .i64 (i.c : Nat)] 33) := ⟨_, rfl⟩
  have K : WrW w w.heap.size (w.heap.size + 1) G F S i w2 := by
    rw [hw2]
    refine ⟨(Blk.new _ _ _).alloc _, ?_, ((Chg.refl _ _).alloc _).alloc _⟩
    have := Blk.new (w.alloc (.cells #[.int .i64 (G : Nat), .int .i64 (F : Nat), .int .i64 (S : Nat)] 213)) 33 #[.int .i64 (i.o : Nat), .int .i64 (i.a : Nat), .int .i64 (i.b : Nat), .int .i64 (i.c : Nat)]
    rwa [World.size_alloc] at this
  have k0 : w2.cell? ⟨w.heap.size + 1, 0, none⟩ = some (.int .i64 (i.o : Nat)) := K.b2.cellv 0 rfl
  by_cases ho : i.o ≤ 17
  · obtain ⟨x, y, z, hp, hx, hy, hz⟩ := ptab_nat ho
    have hidx := fun w => run_parts_at w ho hp
    have d1 : decide ((i.o : Int) < 0) = false := decide_eq_false (by omega)
    have d2 : decide ((i.o : Int) > 17) = false := decide_eq_false (by omega)
    have d3 : ¬ ((i.o : Int) > 17) := by omega
    go_enter Tryz.func163, Tryz.ntmps163
    go_upto_region 1 with fail
    rw [← hw2]
    have HK := Lib.hid (And.intro K hp); clear K hp hw2
    go_wp2_with fail
    have k1 : Chg [] w2 w2.drew := (Chg.refl [] w2).drew
    go_region_held3 (fun w' => w'.cell? ⟨w.heap.size + 1, 0, none⟩ = some (.int .i64 (i.o : Nat)) ∧ Chg [] w2 w') (go_keep)
      (first | (go_at_call 254; refine (cd_parts _).mono ?_; rintro e w' ⟨rfl, C⟩; have D := Chg.trans ‹Chg [] w2 _› C; have z1 := D.cellv HK.out.1.b2.lt (by simp) k0))
    have HR := Lib.hid (And.intro (HK.out.1.chg ‹Chg [] w2 w'›) (And.intro ho HK.out.2))
    clear HK ho d1 d2 d3 hidx k1 k0
    go_wp2_with fail
    go_loopg [19] 4 (fun gk idx wr => WrRel w w.heap.size (w.heap.size + 1) G F S i x y z gk idx wr)
    case atStart => exact ⟨HR.out.1, .inl ⟨rfl, rfl⟩⟩
    case round =>
      obtain ⟨V, hk⟩ := hrel
      have HR := Lib.hid HR.out.2
      obtain ⟨i0, i1, i2⟩ := run_idx3 wr (.int .i64 (x : Nat)) (.int .i64 (y : Nat)) (.int .i64 (z : Nat))
      rcases hk with ⟨rfl, rfl⟩ | ⟨rfl, rfl, q0⟩ | ⟨rfl, rfl, q0, q1⟩ | ⟨rfl, rfl, q0, q1, q2⟩
      · go_wp2_with fail
        refine wp_region_takes (fuel := 5) 12 (fun w' => WrW w w.heap.size (w.heap.size + 1) G F S i w') [0, 1, 2, 3, 4, 5, 6, 7, 9] (by kernel_rfl) (by kernel_rfl) (fun _ _ _ _ _ h => h) (V.drew) ?_
        simp only [List.filterMap_cons, List.filterMap_nil, qGa, qGb]
        iterate 9
          refine wpTake_step (fun K hK => ?_)
          rw [if_pos (by rfl)]
          refine ⟨?_, fun w' hS' => ?_, ?_⟩
          rotate_left 1
          focus
            have j0 := hS'.c0
            have j1 := hS'.c1
            have j2 := hS'.c2
            have j3 := hS'.c3
            have j4 := hS'.c4
            have j5 := hS'.c5
            go_simp
            try with_reducible rfl
            done
          simp only [Act.put, qSa, qSb, qSc]
          refine hK _ ?_
          clear hK K
        refine wpTake_nil ?_
        generalize hx0 : wr.drew = x0
        have D0 : WrW w w.heap.size (w.heap.size + 1) G F S i x0 := by rw [← hx0]; exact V.drew
        clear hx0
        refine wpAnyS_ready (rs := [8]) (by kernel_rfl) (by simp) ?_
        refine AllReadyS.o (fun K hK => ?_)
        rw [if_pos (by rfl)]
        go_simp
        refine hK _ _ (D0.alloc _) ?_
        clear hK K
        try simp only [Act.put, qSa, qSb, qSc]
        refine wpAnyS_ready (rs := [10]) (by kernel_rfl) (by simp) ?_
        refine AllReadyS.o (fun K hK => ?_)
        rw [if_pos (by rfl)]
        go_simp
        refine hK _ _ ((D0.alloc _)) ?_
        clear hK K
        try simp only [Act.put, qSa, qSb, qSc]
        refine wpAnyS_ready (rs := [11]) (by kernel_rfl) (by simp) ?_
        refine AllReadyS.o (fun K hK => ?_)
        rw [if_pos (by rfl)]
        go_simp
        refine hK _ _ ((D0.alloc _)) ?_
        clear hK K
        try simp only [Act.put, qSa, qSb, qSc]
        refine wpAnyS_tail 12 2 (by kernel_rfl) rfl ?_
        simp only [qDa, qDb]
        go_wp2_with fail
        refine (cd_fits _ G F S x i.a hx).mono ?_
        rintro e w6 ⟨rfl, c6⟩
        have D6 := WrW.chg (D0.alloc _) c6
        cases hf : fitsP G F S x i.a
        · have HD := Lib.hid (And.intro D6 hf)
          clear D6 D0 hf c6
          go_wp2_with fail
          go_ret
          exact ⟨by rw [wrI_form HR.out]; simp [HD.out.2], HD.out.1.c⟩
        · have HD := Lib.hid (And.intro D6 hf)
          clear D6 D0 hf c6
          go_wp2_with fail
          go_roundg 3
          case measure => omega
          case rel => exact ⟨HD.out.1, .inr (.inl ⟨rfl, rfl, HD.out.2⟩)⟩
      · go_wp2_with fail
        refine wp_region_takes (fuel := 5) 12 (fun w' => WrW w w.heap.size (w.heap.size + 1) G F S i w') [0, 1, 2, 3, 4, 5, 6, 7, 9] (by kernel_rfl) (by kernel_rfl) (fun _ _ _ _ _ h => h) (V.drew) ?_
        simp only [List.filterMap_cons, List.filterMap_nil, qGa, qGb]
        iterate 9
          refine wpTake_step (fun K hK => ?_)
          rw [if_pos (by rfl)]
          refine ⟨?_, fun w' hS' => ?_, ?_⟩
          rotate_left 1
          focus
            have j0 := hS'.c0
            have j1 := hS'.c1
            have j2 := hS'.c2
            have j3 := hS'.c3
            have j4 := hS'.c4
            have j5 := hS'.c5
            go_simp
            try with_reducible rfl
            done
          simp only [Act.put, qSa, qSb, qSc]
          refine hK _ ?_
          clear hK K
        refine wpTake_nil ?_
        generalize hx0 : wr.drew = x0
        have D0 : WrW w w.heap.size (w.heap.size + 1) G F S i x0 := by rw [← hx0]; exact V.drew
        clear hx0
        refine wpAnyS_ready (rs := [8]) (by kernel_rfl) (by simp) ?_
        refine AllReadyS.o (fun K hK => ?_)
        rw [if_pos (by rfl)]
        go_simp
        refine hK _ _ (D0.alloc _) ?_
        clear hK K
        try simp only [Act.put, qSa, qSb, qSc]
        refine wpAnyS_ready (rs := [10]) (by kernel_rfl) (by simp) ?_
        refine AllReadyS.o (fun K hK => ?_)
        rw [if_pos (by rfl)]
        go_simp
        refine hK _ _ ((D0.alloc _)) ?_
        clear hK K
        try simp only [Act.put, qSa, qSb, qSc]
        refine wpAnyS_ready (rs := [11]) (by kernel_rfl) (by simp) ?_
        refine AllReadyS.o (fun K hK => ?_)
        rw [if_pos (by rfl)]
        go_simp
        refine hK _ _ ((D0.alloc _)) ?_
        clear hK K
        try simp only [Act.put, qSa, qSb, qSc]
        refine wpAnyS_tail 12 2 (by kernel_rfl) rfl ?_
        simp only [qDa, qDb]
        go_wp2_with fail
        refine (cd_fits _ G F S y i.b hy).mono ?_
        rintro e w6 ⟨rfl, c6⟩
        have D6 := WrW.chg (D0.alloc _) c6
        cases hf : fitsP G F S y i.b
        · have HD := Lib.hid (And.intro D6 hf)
          clear D6 D0 hf c6
          go_wp2_with fail
          go_ret
          exact ⟨by rw [wrI_form HR.out]; simp [HD.out.2, q0], HD.out.1.c⟩
        · have HD := Lib.hid (And.intro D6 hf)
          clear D6 D0 hf c6
          go_wp2_with fail
          go_roundg 2
          case measure => omega
          case rel => exact ⟨HD.out.1, .inr (.inr (.inl ⟨rfl, rfl, q0, HD.out.2⟩))⟩
      · go_wp2_with fail
        refine wp_region_takes (fuel := 5) 12 (fun w' => WrW w w.heap.size (w.heap.size + 1) G F S i w') [0, 1, 2, 3, 4, 5, 6, 7, 9] (by kernel_rfl) (by kernel_rfl) (fun _ _ _ _ _ h => h) (V.drew) ?_
        simp only [List.filterMap_cons, List.filterMap_nil, qGa, qGb]
        iterate 9
          refine wpTake_step (fun K hK => ?_)
          rw [if_pos (by rfl)]
          refine ⟨?_, fun w' hS' => ?_, ?_⟩
          rotate_left 1
          focus
            have j0 := hS'.c0
            have j1 := hS'.c1
            have j2 := hS'.c2
            have j3 := hS'.c3
            have j4 := hS'.c4
            have j5 := hS'.c5
            go_simp
            try with_reducible rfl
            done
          simp only [Act.put, qSa, qSb, qSc]
          refine hK _ ?_
          clear hK K
        refine wpTake_nil ?_
        generalize hx0 : wr.drew = x0
        have D0 : WrW w w.heap.size (w.heap.size + 1) G F S i x0 := by rw [← hx0]; exact V.drew
        clear hx0
        refine wpAnyS_ready (rs := [8]) (by kernel_rfl) (by simp) ?_
        refine AllReadyS.o (fun K hK => ?_)
        rw [if_pos (by rfl)]
        go_simp
        refine hK _ _ (D0.alloc _) ?_
        clear hK K
        try simp only [Act.put, qSa, qSb, qSc]
        refine wpAnyS_ready (rs := [10]) (by kernel_rfl) (by simp) ?_
        refine AllReadyS.o (fun K hK => ?_)
        rw [if_pos (by rfl)]
        go_simp
        refine hK _ _ ((D0.alloc _)) ?_
        clear hK K
        try simp only [Act.put, qSa, qSb, qSc]
        refine wpAnyS_ready (rs := [11]) (by kernel_rfl) (by simp) ?_
        refine AllReadyS.o (fun K hK => ?_)
        rw [if_pos (by rfl)]
        go_simp
        refine hK _ _ ((D0.alloc _)) ?_
        clear hK K
        try simp only [Act.put, qSa, qSb, qSc]
        refine wpAnyS_tail 12 2 (by kernel_rfl) rfl ?_
        simp only [qDa, qDb]
        go_wp2_with fail
        refine (cd_fits _ G F S z i.c hz).mono ?_
        rintro e w6 ⟨rfl, c6⟩
        have D6 := WrW.chg (D0.alloc _) c6
        cases hf : fitsP G F S z i.c
        · have HD := Lib.hid (And.intro D6 hf)
          clear D6 D0 hf c6
          go_wp2_with fail
          go_ret
          exact ⟨by rw [wrI_form HR.out]; simp [HD.out.2, q0, q1], HD.out.1.c⟩
        · have HD := Lib.hid (And.intro D6 hf)
          clear D6 D0 hf c6
          go_wp2_with fail
          go_roundg 1
          case measure => omega
          case rel => exact ⟨HD.out.1, .inr (.inr (.inr ⟨rfl, rfl, q0, q1, HD.out.2⟩))⟩
      · have HD := Lib.hid (And.intro V (And.intro q0 (And.intro q1 q2)))
        clear V q0 q1 q2
        go_wp2_with fail
        go_ret
        exact ⟨by rw [wrI_form HR.out]; simp [HD.out.2.1, HD.out.2.2.1, HD.out.2.2.2], HD.out.1.c⟩
  · have d1 : decide ((i.o : Int) < 0) = false := decide_eq_false (by omega)
    have d2 : decide ((i.o : Int) > 17) = true := decide_eq_true (by omega)
    have d3 : (i.o : Int) > 17 := by omega
    have e : wrI G F S i = 0 := by unfold wrI wrongP; rw [if_pos (by omega)]
    rw [e]
    go_enter Tryz.func163, Tryz.ntmps163
    go_upto_region 1 with fail
    rw [← hw2]
    have HK := Lib.hid K; clear K hw2
    go_wp2_with fail
    go_ret
    exact ⟨rfl, HK.out.c⟩
end Go.Proofs.YtcpljjacamibeaaGreatDoor
