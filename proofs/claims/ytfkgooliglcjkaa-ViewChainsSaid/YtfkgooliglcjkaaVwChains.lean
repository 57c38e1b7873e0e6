/- The walk of ViewChains. -/
import Derived.Test.YtfkgooliglcjkaaVwBuild
namespace Go.Proofs.Ytfkgooliglcjkaa
open Go.RowKit Go.Maps

theorem BdI.cells {w0 w : World} {B gv : Nat} {vg vo : Value} {G : List Int} {os : List Ob} (h : BdI w0 B gv vg vo G os w) : w.cell? ⟨gv, 0, none⟩ = some (.int .i64 0) ∧ w.cell? ⟨gv, 1, none⟩ = some (.int .i64 0) ∧ w.cell? ⟨gv, 2, none⟩ = some (.int .i64 0) ∧ w.cell? ⟨gv, 3, none⟩ = some vg ∧ w.cell? ⟨gv, 4, none⟩ = some (.slice none 0 0) ∧
    w.cell? ⟨gv, 5, none⟩ = some vo ∧ w.cell? ⟨gv, 6, none⟩ = some (.int .i64 0) ∧ w.cell? ⟨gv, 7, none⟩ = some (.int .i64 0) ∧ w.cell? ⟨gv, 8, none⟩ = some (.int .i64 0) :=
  ⟨h.b.cellv 0 rfl, h.b.cellv 1 rfl, h.b.cellv 2 rfl, h.b.cellv 3 rfl, h.b.cellv 4 rfl, h.b.cellv 5 rfl, h.b.cellv 6 rfl, h.b.cellv 7 rfl, h.b.cellv 8 rfl⟩
def ChRel2 (w0 : World) (B gv c k : Nat) (vg vo : Value) (held : Bool) (gk : Nat) (idx : Value) (w : World) : Prop :=
  ∃ i, gk + i = k + 1 ∧ i ≤ k ∧ idx = .int .i64 (i : Nat) ∧ BdI w0 B gv vg vo (chG k held) (chL c k k) w
theorem ch_vw {w0 w : World} {B gv c k : Nat} {vg vo : Value} {held : Bool} (h : BdI w0 B gv vg vo (chG k held) (chL c k k) w) (hk : k ≤ 1000) : VwAt w w.heap.size (.agg (bdCells vg vo)) (chV c k held) := by
  have hz : ∀ n : Nat, n ≤ 2000 → WfI (n : Int) := fun n hn => ⟨by omega, by omega⟩
  refine h.vw ?_ ?_ ?_ ?_ ?_
  · intro x hx
    unfold chG at hx
    cases held
    · have e : x = ((64 : Nat) : Int) := by simpa using hx
      rw [e]; exact hz _ (by omega)
    · have e : x = ((64 : Nat) : Int) ∨ x = ((64 + k - 1 : Nat) : Int) := by simpa using hx
      rcases e with e | e <;> rw [e] <;> exact hz _ (by omega)
  · intro o ho
    obtain ⟨i, hi⟩ := List.getElem?_of_mem ho
    obtain ⟨h1, rfl⟩ := chL_get hi
    refine ⟨hz _ (by omega), fun x hx => ?_⟩
    have e := List.mem_singleton.1 hx
    rw [e]
    split
    · exact hz _ (by omega)
    · exact hz 0 (by omega)
  · intro o ho
    obtain ⟨i, hi⟩ := List.getElem?_of_mem ho
    obtain ⟨h1, rfl⟩ := chL_get hi
    simp [chO]
  · unfold chG; cases held <;> simp
  · rw [chL_len]; omega
def ChRel (w0 : World) (B gv c k : Nat) (vg : Value) (gk : Nat) (idx : Value) (w : World) : Prop :=
  ∃ i v, gk + i = k + 1 ∧ i ≤ k ∧ idx = .int .i64 (i : Nat) ∧ BdI w0 B gv vg v [64] (chL c k i) w
set_option maxHeartbeats 6400000 in
set_option maxRecDepth 100000 in
theorem chains_any (N C : Int) (held : Bool) (w : World) : Calls Try.prog 7 #[.int .i64 N, .int .i64 C, .bool held] w (TdPost w) := by
  obtain ⟨k0, hk0, ek0⟩ := mod_n N 39 (by omega) (by omega)
  have ek : wrap64 ((IntKind.u64.wrap N).tmod 39) = (k0 : Int) := ek0
  have ek2 : wrap64 (2 + (k0 : Int)) = ((k0 + 2 : Nat) : Int) := by unfold wrap64; omega
  have EK := Lib.hid (And.intro ek ek2); clear ek0 ek ek2
  obtain ⟨c0, hc0, ec0⟩ := mod_n C (k0 + 2 + 5) (by omega) (by omega)
  have ec2 : wrap64 (1 + (c0 : Int)) = ((c0 + 1 : Nat) : Int) := by unfold wrap64; omega
  have ec1 : wrap64 ((IntKind.u64.wrap C).tmod (((k0 + 2 : Nat) : Int) + 5)) = (c0 : Int) := by rw [← ec0]; congr 2
  have EC := Lib.hid (And.intro ec1 ec2); clear ec0 ec2 ec1
  go_enter Try.func7, Try.ntmps7
  go_upto_region 2 with fail
  rw [EK.out.1, EK.out.2]
  obtain ⟨k, hk⟩ : ∃ k, k = k0 + 2 := ⟨_, rfl⟩
  rw [← hk] at EC hc0 ⊢
  have hkb : 2 ≤ k ∧ k ≤ 40 := by omega
  have hu : IntKind.u64.wrap ((k : Int) + 5) = (k : Int) + 5 := by rw [IntKind.wrap_u64]; omega
  clear hk hk0 EK
  have hw5 : IntKind.i64.wrap ((k : Int) + 5) = (k : Int) + 5 := by rw [IntKind.wrap_i64]; omega
  have hw6 : wrap64 ((k : Int) + 5) = (k : Int) + 5 := by unfold wrap64; omega
  go_upto_region 3 with fail
  rw [EC.out.1, EC.out.2]
  obtain ⟨c, hc⟩ : ∃ c, c = c0 + 1 := ⟨_, rfl⟩
  rw [← hc]
  have hcb : 1 ≤ c ∧ c ≤ 45 := by omega
  clear hc hc0 EC hw5 hw6 hu
  have B0 : BdI w (w.heap.size + 1) (w.heap.size + 1) (.slice (some ⟨w.heap.size, 0, none⟩) 1 1) (.slice none 0 0) [64] (chL c k 0) ((w.alloc (.cells #[.int .i64 64] 3)).alloc (.cells (bdCells (.slice (some ⟨w.heap.size, 0, none⟩) 1 1) (.slice none 0 0)) 26)) := by
    refine ⟨?_, (OwnI.one 3 w 64).alloc _, OwnO.nil _ _, ((Chg.refl [] w).alloc _).alloc _, ?_, by simp [fpv, Value.ownBlock], by omega⟩
    · have := Blk.new (w.alloc (.cells #[.int .i64 64] 3)) 26 (bdCells (.slice (some ⟨w.heap.size, 0, none⟩) 1 1) (.slice none 0 0))
      simpa using this
    · intro k hk; have : k = w.heap.size := by simpa [fpv, Value.ownBlock, eq_comm] using hk
      omega
  have HB := Lib.hid B0; clear B0
  go_wp2_with fail
  obtain ⟨gv, hgv⟩ : ∃ gv, gv = w.heap.size + 1 := ⟨_, rfl⟩
  obtain ⟨g0, hg0⟩ : ∃ g0, g0 = w.heap.size := ⟨_, rfl⟩
  rw [← hgv, ← hg0] at HB ⊢
  have hg1 : g0 < gv := by omega
  have hg2 : w.heap.size ≤ g0 := by omega
  clear hgv hg0
  go_loopg [10] (k + 1) (fun gk idx wr => ChRel w gv gv c k (.slice (some ⟨g0, 0, none⟩) 1 1) gk idx wr)
  case atStart => exact ⟨0, _, by omega, by omega, rfl, HB.out⟩
  case round =>
    obtain ⟨i, v, hgk, hin, rfl, I⟩ := hrel
    obtain ⟨A, cc, rfl⟩ := I.o.slice
    rw [chL_len] at I
    have HI := Lib.hid I; clear I
    by_cases e : i < k
    · have hi' : (i : Int) < (k : Int) := by omega
      have e64 : wrap64 (64 + (i : Int)) = 64 + (i : Int) := by unfold wrap64; omega
      have e65 : wrap64 (65 + (i : Int)) = 65 + (i : Int) := by unfold wrap64; omega
      have tower : ∀ z : Int, BdI w gv gv (.slice (some ⟨g0, 0, none⟩) 1 1) (.slice A i cc) [64] (chL c k i) ((wr.alloc (.cells #[.int .i64 z] 3)).alloc (.cells #[.int .i64 (64 + (i : Int)), .slice (some ⟨wr.heap.size, 0, none⟩) 1 1, .bool false] 30)) :=
        fun z => HI.out.chg (((Chg.refl [] wr).alloc _).alloc _)
      have slot : ∀ z : Int, OwnI 3 ((wr.alloc (.cells #[.int .i64 z] 3)).alloc (.cells #[.int .i64 (64 + (i : Int)), .slice (some ⟨wr.heap.size, 0, none⟩) 1 1, .bool false] 30)) (.slice (some ⟨wr.heap.size, 0, none⟩) 1 1) [z] :=
        fun z => (OwnI.one 3 wr z).alloc _
      have fl : ∀ k ∈ fpv (.slice (some ⟨wr.heap.size, 0, none⟩) 1 1), gv ≤ k := fun k hk => by
        have h1 : k = wr.heap.size := by simpa [fpv, Value.ownBlock, eq_comm] using hk
        have := HI.out.b.lt
        omega
      have T := Lib.hid (And.intro tower (And.intro slot fl)); clear tower slot fl
      by_cases hl : i + 1 < k ∧ i + 1 ≠ c
      · have ho : chO c k i = ⟨64 + (i : Int), [65 + (i : Int)], false⟩ := by unfold chO; rw [if_pos hl]; congr 1
        obtain ⟨hl1, hl2⟩ := hl
        have hl1' : (i : Int) + 1 < (k : Int) := by omega
        have hl2' : ((i : Int) + 1 != (c : Int)) = true := by rw [bne_iff_ne]; omega
        have hl2'' : (i + 1 != c) = true := by rw [bne_iff_ne]; omega
        have HO := Lib.hid ho; clear ho
        go_upto_region 10 with fail
        have TT := T.out.1 (65 + (i : Int))
        have TS := T.out.2.1 (65 + (i : Int))
        have TB : Blk ((wr.alloc (.cells #[.int .i64 (65 + (i : Int))] 3)).alloc (.cells #[.int .i64 (64 + (i : Int)), .slice (some ⟨wr.heap.size, 0, none⟩) 1 1, .bool false] 30)) (wr.heap.size + 1) 30 #[.int .i64 (64 + (i : Int)), .slice (some ⟨wr.heap.size, 0, none⟩) 1 1, .bool false] := by
          have := Blk.new (wr.alloc (.cells #[.int .i64 (65 + (i : Int))] 3)) 30 #[.int .i64 (64 + (i : Int)), .slice (some ⟨wr.heap.size, 0, none⟩) 1 1, .bool false]
          rwa [World.size_alloc] at this
        generalize ((wr.alloc (.cells #[.int .i64 (65 + (i : Int))] 3)).alloc (.cells #[.int .i64 (64 + (i : Int)), .slice (some ⟨wr.heap.size, 0, none⟩) 1 1, .bool false] 30)) = W at TT TS TB ⊢
        have b5 := TT.b.cellv 5 rfl
        have d0 := TB.cellv 0 rfl
        have d1 := TB.cellv 1 rfl
        have d2 := TB.cellv 2 rfl
        have HT := Lib.hid (And.intro TT (And.intro TS TB)); clear TT TS TB
        go_wp2_with (at_builtin; refine wpList_push_ob (v := .slice A i cc) rfl _ _ rfl rfl HT.out.1.o (o := ⟨64 + (i : Int), [65 + (i : Int)], false⟩) rfl rfl HT.out.2.1 T.out.2.2 (by rw [chL_len]; omega) ?_)
        intro A9 c9 w9 O9 S9
        rw [chL_len] at O9 S9 ⊢
        have P9 := HT.out.1.putO O9 S9
        rw [← HO.out, ← chL_snoc] at P9
        have hb9 := S9.c.blk HT.out.1.b (HT.out.1.o.ne_blk HT.out.1.b (by decide))
        have H9 := Lib.hid P9; clear P9 O9 S9
        have g5 := hb9.cellv 5 rfl
        have f5 := hb9.frozen 5
        clear hb9
        go_wp2_with fail
        go_roundg (k - i)
        case measure => omega
        case rel => exact ⟨i + 1, _, by omega, by omega, by go_num, H9.out⟩
      · have ho : chO c k i = ⟨64 + (i : Int), [0], false⟩ := by unfold chO; rw [if_neg hl]; congr 1
        by_cases hl1 : i + 1 < k
        · have hl2 : i + 1 = c := by omega
          have hl1' : (i : Int) + 1 < (k : Int) := by omega
          have hl2' : ((i : Int) + 1 != (c : Int)) = false := by rw [bne_eq_false_iff_eq]; omega
          have hl2'' : (i + 1 != c) = false := by rw [bne_eq_false_iff_eq]; omega
          clear hl hl2
          have HO := Lib.hid ho; clear ho
          go_upto_region 10 with fail
          have TT := T.out.1 (0)
          have TS := T.out.2.1 (0)
          have TB : Blk ((wr.alloc (.cells #[.int .i64 (0)] 3)).alloc (.cells #[.int .i64 (64 + (i : Int)), .slice (some ⟨wr.heap.size, 0, none⟩) 1 1, .bool false] 30)) (wr.heap.size + 1) 30 #[.int .i64 (64 + (i : Int)), .slice (some ⟨wr.heap.size, 0, none⟩) 1 1, .bool false] := by
            have := Blk.new (wr.alloc (.cells #[.int .i64 (0)] 3)) 30 #[.int .i64 (64 + (i : Int)), .slice (some ⟨wr.heap.size, 0, none⟩) 1 1, .bool false]
            rwa [World.size_alloc] at this
          generalize ((wr.alloc (.cells #[.int .i64 (0)] 3)).alloc (.cells #[.int .i64 (64 + (i : Int)), .slice (some ⟨wr.heap.size, 0, none⟩) 1 1, .bool false] 30)) = W at TT TS TB ⊢
          have b5 := TT.b.cellv 5 rfl
          have d0 := TB.cellv 0 rfl
          have d1 := TB.cellv 1 rfl
          have d2 := TB.cellv 2 rfl
          have HT := Lib.hid (And.intro TT (And.intro TS TB)); clear TT TS TB
          go_wp2_with (at_builtin; refine wpList_push_ob (v := .slice A i cc) rfl _ _ rfl rfl HT.out.1.o (o := ⟨64 + (i : Int), [0], false⟩) rfl rfl HT.out.2.1 T.out.2.2 (by rw [chL_len]; omega) ?_)
          intro A9 c9 w9 O9 S9
          rw [chL_len] at O9 S9 ⊢
          have P9 := HT.out.1.putO O9 S9
          rw [← HO.out, ← chL_snoc] at P9
          have hb9 := S9.c.blk HT.out.1.b (HT.out.1.o.ne_blk HT.out.1.b (by decide))
          have H9 := Lib.hid P9; clear P9 O9 S9
          have g5 := hb9.cellv 5 rfl
          have f5 := hb9.frozen 5
          clear hb9
          go_wp2_with fail
          go_roundg (k - i)
          case measure => omega
          case rel => exact ⟨i + 1, _, by omega, by omega, by go_num, H9.out⟩
        · have hl1' : ¬ (i : Int) + 1 < (k : Int) := by omega
          clear hl
          have HO := Lib.hid ho; clear ho
          go_upto_region 10 with fail
          have TT := T.out.1 (0)
          have TS := T.out.2.1 (0)
          have TB : Blk ((wr.alloc (.cells #[.int .i64 (0)] 3)).alloc (.cells #[.int .i64 (64 + (i : Int)), .slice (some ⟨wr.heap.size, 0, none⟩) 1 1, .bool false] 30)) (wr.heap.size + 1) 30 #[.int .i64 (64 + (i : Int)), .slice (some ⟨wr.heap.size, 0, none⟩) 1 1, .bool false] := by
            have := Blk.new (wr.alloc (.cells #[.int .i64 (0)] 3)) 30 #[.int .i64 (64 + (i : Int)), .slice (some ⟨wr.heap.size, 0, none⟩) 1 1, .bool false]
            rwa [World.size_alloc] at this
          generalize ((wr.alloc (.cells #[.int .i64 (0)] 3)).alloc (.cells #[.int .i64 (64 + (i : Int)), .slice (some ⟨wr.heap.size, 0, none⟩) 1 1, .bool false] 30)) = W at TT TS TB ⊢
          have b5 := TT.b.cellv 5 rfl
          have d0 := TB.cellv 0 rfl
          have d1 := TB.cellv 1 rfl
          have d2 := TB.cellv 2 rfl
          have HT := Lib.hid (And.intro TT (And.intro TS TB)); clear TT TS TB
          go_wp2_with (at_builtin; refine wpList_push_ob (v := .slice A i cc) rfl _ _ rfl rfl HT.out.1.o (o := ⟨64 + (i : Int), [0], false⟩) rfl rfl HT.out.2.1 T.out.2.2 (by rw [chL_len]; omega) ?_)
          intro A9 c9 w9 O9 S9
          rw [chL_len] at O9 S9 ⊢
          have P9 := HT.out.1.putO O9 S9
          rw [← HO.out, ← chL_snoc] at P9
          have hb9 := S9.c.blk HT.out.1.b (HT.out.1.o.ne_blk HT.out.1.b (by decide))
          have H9 := Lib.hid P9; clear P9 O9 S9
          have g5 := hb9.cellv 5 rfl
          have f5 := hb9.frozen 5
          clear hb9
          go_wp2_with fail
          go_roundg (k - i)
          case measure => omega
          case rel => exact ⟨i + 1, _, by omega, by omega, by go_num, H9.out⟩
    · have e2 : k = i := by omega
      subst e2
      have hi' : ¬ (k : Int) < (k : Int) := by omega
      clear hgk hin e
      go_upto_if 63 with fail
      go_cut [] from 64 to 71 (fun wc => ∃ vg, BdI w gv gv vg (.slice A k cc) (chG k held) (chL c k k) wc)
      case first =>
        cases held
        · go_wp2_with fail
          go_meet
          exact ⟨_, HI.out⟩
        · have hlow : ∀ k ∈ fpv (.slice (some ⟨g0, 0, none⟩) 1 1), k < gv := fun k hk => by
            have h1 : k = g0 := by simpa [fpv, Value.ownBlock, eq_comm] using hk
            omega
          have b3 := HI.out.b.cellv 3 rfl
          have ew1 : wrap64 (64 + (k : Int) - 1) = 64 + (k : Int) - 1 := by unfold wrap64; omega
          have ew2 : wrap64 (64 + (k : Int)) = 64 + (k : Int) := by unfold wrap64; omega
          have hgl := HI.out.g
          go_wp2_with (at_builtin; refine wpList_push_int (v := .slice (some ⟨g0, 0, none⟩) 1 1) (xs := [64]) rfl _ _ rfl slty rfl hgl rfl (by decide) ?_)
          intro A9 c9 w9 O9 S9
          have P9 := HI.out.putG O9 S9 hlow
          have eg : [64, 64 + (k : Int) - 1] = chG k true := by unfold chG; simp; omega
          rw [eg] at P9
          have hb9 := S9.c.blk HI.out.b (HI.out.g.ne_blk HI.out.b (by decide))
          have H9 := Lib.hid P9; clear P9 O9 S9 eg hgl
          have g3 := hb9.cellv 3 rfl
          have f3 := hb9.frozen 3
          clear hb9
          go_wp2_with fail
          go_meet
          exact ⟨_, H9.out⟩
      case rest =>
        obtain ⟨vg, I2⟩ := hcut
        have HI2 := Lib.hid I2; clear I2
        obtain ⟨b0, b1, b2, b3, b4, b5, b6, b7, b8⟩ := HI2.out.cells
        go_wp2_with fail
        clear b0 b1 b2 b3 b4 b5 b6 b7 b8
        refine (reach_ok _ _ (chV c k held) (ch_vw HI2.out (by omega)) (ch_small (by omega))).mono ?_
        rintro e w1 ⟨l, hr, v1, rfl, O1, C1, F1⟩
        obtain rfl := ch_reach (by omega) (by omega) hr
        obtain ⟨A1, c1, rfl⟩ := O1.slice
        rw [chR_len]
        have HI3 := Lib.hid (HI2.out.chg C1); clear hr O1 C1 F1 HI2 HI
        have hfar : min (c : Int) (k : Int) = ((chFar c k : Nat) : Int) := by unfold chFar; omega
        rw [hfar]
        clear hfar
        have hfb : chFar c k ≤ k := by unfold chFar; omega
        obtain ⟨f, hf⟩ : ∃ f, f = chFar c k := ⟨_, rfl⟩
        have hf' := Lib.hid hf
        have hwant : chWant c k held = f + if held = true ∧ f < k then 1 else 0 := by rw [hf]; rfl
        rw [← hf] at hfb ⊢
        clear hf
        obtain ⟨wn, hw1, hw2⟩ : ∃ wn : Nat, chWant c k held = wn ∧ ((held = false ∧ f = wn) ∨ (held = true ∧ f < k ∧ f + 1 = wn) ∨ (held = true ∧ ¬ f < k ∧ f = wn)) := by
          refine ⟨_, hwant, ?_⟩
          cases held
          · left; simp
          · right
            by_cases h : f < k
            · left; simp [h]
            · right; simp [h]
        rw [hw1]
        have HW := Lib.hid hw1; clear hw1 hwant
        rcases hw2 with ⟨rfl, rfl⟩ | ⟨rfl, hfk, rfl⟩ | ⟨rfl, hfk, rfl⟩
        · have hA : True := trivial
          go_upto_region 18 with fail
          go_wp2_with fail
          obtain ⟨wq, rfl⟩ : ∃ wq : World, wq = w1 := ⟨_, rfl⟩
          go_loopg [15] (k + 1) (fun gk idx wr => ChRel2 w gv gv c k vg (.slice A k cc) false gk idx wr)
          case atStart => exact ⟨0, by omega, by omega, rfl, HI3.out⟩
          case round =>
            obtain ⟨i, hgk, hin, rfl, I⟩ := hrel
            have HJ := Lib.hid I; clear I
            by_cases e : i < k
            · have hi' : (i : Int) < (k : Int) := by omega
              have e64 : wrap64 (64 + (i : Int)) = 64 + (i : Int) := by unfold wrap64; omega
              have ek1 : wrap64 ((k : Int) - 1) = (k : Int) - 1 := by unfold wrap64; omega
              obtain ⟨b0, b1, b2, b3, b4, b5, b6, b7, b8⟩ := HJ.out.cells
              go_wp2_with fail
              clear b0 b1 b2 b3 b4 b5 b6 b7 b8
              refine (path_ok _ _ (chV c k false) (64 + (i : Int)) (ch_vw HJ.out (by omega)) (ch_small (by omega)) ⟨by omega, by omega⟩).mono ?_
              rintro e w2 ⟨p, hp, v2, rfl, O2, C2, F2⟩
              obtain ⟨A2, c2, rfl⟩ := O2.slice
              have HK := Lib.hid (HJ.out.chg C2)
              rw [show 64 + (i : Int) = ((64 + i : Nat) : Int) by omega] at hp
              obtain ⟨hpl, hpe⟩ := ch_path (by omega) e hp
              unfold chLinks at hpl
              rw [← hf'.out] at hpl
              have HO := Lib.hid (And.intro O2 hpe); clear O2 hpe hp C2 F2
              rw [if_neg (by simp)] at hpl
              by_cases hif : i < f
              · rw [if_pos hif] at hpl
                have hif' : (i : Int) < (f : Int) := by omega
                obtain ⟨g2, rfl, q0, -⟩ := HO.out.1.cell (HO.out.2 (by omega))
                rw [hpl] at q0 ⊢
                try rw [Nat.add_sub_cancel] at q0
                clear hpl
                go_wp2_with fail
                go_roundg (k - i)
                case measure => omega
                case rel => exact ⟨i + 1, by omega, by omega, by go_num, HK.out⟩
              · rw [if_neg hif] at hpl
                have hif' : ¬ (i : Int) < (f : Int) := by omega
                rw [hpl]
                clear hpl
                go_wp2_with fail
                go_roundg (k - i)
                case measure => omega
                case rel => exact ⟨i + 1, by omega, by omega, by go_num, HK.out⟩
            · have e2 : k = i := by omega
              subst e2
              have hi' : ¬ (k : Int) < (k : Int) := by omega
              clear hgk hin e
              go_wp2_with fail
              refine (told_ok _).mono ?_
              rintro e w3 ⟨rfl, C3⟩
              have HL := Lib.hid (HJ.out.chg C3); clear C3 HJ
              obtain ⟨b0, b1, b2, b3, b4, b5, b6, b7, b8⟩ := HL.out.cells
              go_wp2_with fail
              clear b0 b1 b2 b3 b4 b5 b6 b7 b8
              refine (white_ok _ _ (chV c k false) (ch_vw HL.out (by omega)) (ch_small (by omega))).mono ?_
              rintro e w4 ⟨l, hr, v4, rfl, O4, C4, F4⟩
              obtain rfl := ch_reach (by omega) (by omega) hr
              rw [ch_white] at O4
              obtain ⟨A4, c4, rfl⟩ := O4.slice
              rw [chR_len, HW.out]
              have HM := Lib.hid (HL.out.chg C4); clear hr O4 C4 F4 HL
              obtain ⟨b0, b1, b2, b3, b4, b5, b6, b7, b8⟩ := HM.out.cells
              go_wp2_with fail
              clear b0 b1 b2 b3 b4 b5 b6 b7 b8
              refine (words_ok _ _ (chV c k false) (ch_vw HM.out (by omega)) (ch_small (by omega))).mono ?_
              rintro e w5 ⟨rfl, C5⟩
              rw [show wordsN (chV c k false).objects = k from ch_words k]
              have C6 := (HM.out.chg C5).c
              go_wp2_with fail
              go_ret
              exact ⟨rfl, C6⟩
        · have hfk' : (f : Int) < (k : Int) := by omega
          go_upto_region 18 with fail
          go_wp2_with fail
          obtain ⟨wq, rfl⟩ : ∃ wq : World, wq = w1 := ⟨_, rfl⟩
          go_loopg [15] (k + 1) (fun gk idx wr => ChRel2 w gv gv c k vg (.slice A k cc) true gk idx wr)
          case atStart => exact ⟨0, by omega, by omega, rfl, HI3.out⟩
          case round =>
            obtain ⟨i, hgk, hin, rfl, I⟩ := hrel
            have HJ := Lib.hid I; clear I
            by_cases e : i < k
            · have hi' : (i : Int) < (k : Int) := by omega
              have e64 : wrap64 (64 + (i : Int)) = 64 + (i : Int) := by unfold wrap64; omega
              have ek1 : wrap64 ((k : Int) - 1) = (k : Int) - 1 := by unfold wrap64; omega
              obtain ⟨b0, b1, b2, b3, b4, b5, b6, b7, b8⟩ := HJ.out.cells
              go_wp2_with fail
              clear b0 b1 b2 b3 b4 b5 b6 b7 b8
              refine (path_ok _ _ (chV c k true) (64 + (i : Int)) (ch_vw HJ.out (by omega)) (ch_small (by omega)) ⟨by omega, by omega⟩).mono ?_
              rintro e w2 ⟨p, hp, v2, rfl, O2, C2, F2⟩
              obtain ⟨A2, c2, rfl⟩ := O2.slice
              have HK := Lib.hid (HJ.out.chg C2)
              rw [show 64 + (i : Int) = ((64 + i : Nat) : Int) by omega] at hp
              obtain ⟨hpl, hpe⟩ := ch_path (by omega) e hp
              unfold chLinks at hpl
              rw [← hf'.out] at hpl
              have HO := Lib.hid (And.intro O2 hpe); clear O2 hpe hp C2 F2
              by_cases hif : i < f
              · have hif' : (i : Int) < (f : Int) := by omega
                by_cases hlast : i + 1 = k
                · rw [if_pos ⟨rfl, hlast⟩] at hpl
                  have hl1 : ((i : Int) == (k : Int) - 1) = true := by rw [beq_iff_eq]; omega
                  have hl2 : (i == k - 1) = true := by rw [beq_iff_eq]; omega
                  obtain ⟨g2, rfl, q0, -⟩ := HO.out.1.cell (HO.out.2 (by omega))
                  rw [hpl] at q0 ⊢
                  try rw [Nat.add_sub_cancel] at q0
                  clear hpl
                  go_wp2_with fail
                  go_roundg (k - i)
                  case measure => omega
                  case rel => exact ⟨i + 1, by omega, by omega, by go_num, HK.out⟩
                · rw [if_neg (fun h => hlast h.2), if_pos hif] at hpl
                  have hl1 : ((i : Int) == (k : Int) - 1) = false := by rw [beq_eq_false_iff_ne]; omega
                  have hl2 : (i == k - 1) = false := by rw [beq_eq_false_iff_ne]; omega
                  obtain ⟨g2, rfl, q0, -⟩ := HO.out.1.cell (HO.out.2 (by omega))
                  rw [hpl] at q0 ⊢
                  try rw [Nat.add_sub_cancel] at q0
                  clear hpl
                  go_wp2_with fail
                  go_roundg (k - i)
                  case measure => omega
                  case rel => exact ⟨i + 1, by omega, by omega, by go_num, HK.out⟩
              · have hif' : ¬ (i : Int) < (f : Int) := by omega
                by_cases hlast : i + 1 = k
                · rw [if_pos ⟨rfl, hlast⟩] at hpl
                  have hl1 : ((i : Int) == (k : Int) - 1) = true := by rw [beq_iff_eq]; omega
                  have hl2 : (i == k - 1) = true := by rw [beq_iff_eq]; omega
                  obtain ⟨g2, rfl, q0, -⟩ := HO.out.1.cell (HO.out.2 (by omega))
                  rw [hpl] at q0 ⊢
                  try rw [Nat.add_sub_cancel] at q0
                  clear hpl
                  go_wp2_with fail
                  go_roundg (k - i)
                  case measure => omega
                  case rel => exact ⟨i + 1, by omega, by omega, by go_num, HK.out⟩
                · rw [if_neg (fun h => hlast h.2), if_neg hif] at hpl
                  have hl1 : ((i : Int) == (k : Int) - 1) = false := by rw [beq_eq_false_iff_ne]; omega
                  have hl2 : (i == k - 1) = false := by rw [beq_eq_false_iff_ne]; omega
                  rw [hpl]
                  clear hpl
                  go_wp2_with fail
                  go_roundg (k - i)
                  case measure => omega
                  case rel => exact ⟨i + 1, by omega, by omega, by go_num, HK.out⟩
            · have e2 : k = i := by omega
              subst e2
              have hi' : ¬ (k : Int) < (k : Int) := by omega
              clear hgk hin e
              go_wp2_with fail
              refine (told_ok _).mono ?_
              rintro e w3 ⟨rfl, C3⟩
              have HL := Lib.hid (HJ.out.chg C3); clear C3 HJ
              obtain ⟨b0, b1, b2, b3, b4, b5, b6, b7, b8⟩ := HL.out.cells
              go_wp2_with fail
              clear b0 b1 b2 b3 b4 b5 b6 b7 b8
              refine (white_ok _ _ (chV c k true) (ch_vw HL.out (by omega)) (ch_small (by omega))).mono ?_
              rintro e w4 ⟨l, hr, v4, rfl, O4, C4, F4⟩
              obtain rfl := ch_reach (by omega) (by omega) hr
              rw [ch_white] at O4
              obtain ⟨A4, c4, rfl⟩ := O4.slice
              rw [chR_len, HW.out]
              have HM := Lib.hid (HL.out.chg C4); clear hr O4 C4 F4 HL
              obtain ⟨b0, b1, b2, b3, b4, b5, b6, b7, b8⟩ := HM.out.cells
              go_wp2_with fail
              clear b0 b1 b2 b3 b4 b5 b6 b7 b8
              refine (words_ok _ _ (chV c k true) (ch_vw HM.out (by omega)) (ch_small (by omega))).mono ?_
              rintro e w5 ⟨rfl, C5⟩
              rw [show wordsN (chV c k true).objects = k from ch_words k]
              have C6 := (HM.out.chg C5).c
              go_wp2_with fail
              go_ret
              exact ⟨rfl, C6⟩
        · have hfk' : ¬ (f : Int) < (k : Int) := by omega
          go_upto_region 18 with fail
          go_wp2_with fail
          obtain ⟨wq, rfl⟩ : ∃ wq : World, wq = w1 := ⟨_, rfl⟩
          go_loopg [15] (k + 1) (fun gk idx wr => ChRel2 w gv gv c k vg (.slice A k cc) true gk idx wr)
          case atStart => exact ⟨0, by omega, by omega, rfl, HI3.out⟩
          case round =>
            obtain ⟨i, hgk, hin, rfl, I⟩ := hrel
            have HJ := Lib.hid I; clear I
            by_cases e : i < k
            · have hi' : (i : Int) < (k : Int) := by omega
              have e64 : wrap64 (64 + (i : Int)) = 64 + (i : Int) := by unfold wrap64; omega
              have ek1 : wrap64 ((k : Int) - 1) = (k : Int) - 1 := by unfold wrap64; omega
              obtain ⟨b0, b1, b2, b3, b4, b5, b6, b7, b8⟩ := HJ.out.cells
              go_wp2_with fail
              clear b0 b1 b2 b3 b4 b5 b6 b7 b8
              refine (path_ok _ _ (chV c k true) (64 + (i : Int)) (ch_vw HJ.out (by omega)) (ch_small (by omega)) ⟨by omega, by omega⟩).mono ?_
              rintro e w2 ⟨p, hp, v2, rfl, O2, C2, F2⟩
              obtain ⟨A2, c2, rfl⟩ := O2.slice
              have HK := Lib.hid (HJ.out.chg C2)
              rw [show 64 + (i : Int) = ((64 + i : Nat) : Int) by omega] at hp
              obtain ⟨hpl, hpe⟩ := ch_path (by omega) e hp
              unfold chLinks at hpl
              rw [← hf'.out] at hpl
              have HO := Lib.hid (And.intro O2 hpe); clear O2 hpe hp C2 F2
              by_cases hif : i < f
              · have hif' : (i : Int) < (f : Int) := by omega
                by_cases hlast : i + 1 = k
                · rw [if_pos ⟨rfl, hlast⟩] at hpl
                  have hl1 : ((i : Int) == (k : Int) - 1) = true := by rw [beq_iff_eq]; omega
                  have hl2 : (i == k - 1) = true := by rw [beq_iff_eq]; omega
                  obtain ⟨g2, rfl, q0, -⟩ := HO.out.1.cell (HO.out.2 (by omega))
                  rw [hpl] at q0 ⊢
                  try rw [Nat.add_sub_cancel] at q0
                  clear hpl
                  go_wp2_with fail
                  go_roundg (k - i)
                  case measure => omega
                  case rel => exact ⟨i + 1, by omega, by omega, by go_num, HK.out⟩
                · rw [if_neg (fun h => hlast h.2), if_pos hif] at hpl
                  have hl1 : ((i : Int) == (k : Int) - 1) = false := by rw [beq_eq_false_iff_ne]; omega
                  have hl2 : (i == k - 1) = false := by rw [beq_eq_false_iff_ne]; omega
                  obtain ⟨g2, rfl, q0, -⟩ := HO.out.1.cell (HO.out.2 (by omega))
                  rw [hpl] at q0 ⊢
                  try rw [Nat.add_sub_cancel] at q0
                  clear hpl
                  go_wp2_with fail
                  go_roundg (k - i)
                  case measure => omega
                  case rel => exact ⟨i + 1, by omega, by omega, by go_num, HK.out⟩
              · have hif' : ¬ (i : Int) < (f : Int) := by omega
                by_cases hlast : i + 1 = k
                · rw [if_pos ⟨rfl, hlast⟩] at hpl
                  have hl1 : ((i : Int) == (k : Int) - 1) = true := by rw [beq_iff_eq]; omega
                  have hl2 : (i == k - 1) = true := by rw [beq_iff_eq]; omega
                  obtain ⟨g2, rfl, q0, -⟩ := HO.out.1.cell (HO.out.2 (by omega))
                  rw [hpl] at q0 ⊢
                  try rw [Nat.add_sub_cancel] at q0
                  clear hpl
                  go_wp2_with fail
                  go_roundg (k - i)
                  case measure => omega
                  case rel => exact ⟨i + 1, by omega, by omega, by go_num, HK.out⟩
                · rw [if_neg (fun h => hlast h.2), if_neg hif] at hpl
                  have hl1 : ((i : Int) == (k : Int) - 1) = false := by rw [beq_eq_false_iff_ne]; omega
                  have hl2 : (i == k - 1) = false := by rw [beq_eq_false_iff_ne]; omega
                  rw [hpl]
                  clear hpl
                  go_wp2_with fail
                  go_roundg (k - i)
                  case measure => omega
                  case rel => exact ⟨i + 1, by omega, by omega, by go_num, HK.out⟩
            · have e2 : k = i := by omega
              subst e2
              have hi' : ¬ (k : Int) < (k : Int) := by omega
              clear hgk hin e
              go_wp2_with fail
              refine (told_ok _).mono ?_
              rintro e w3 ⟨rfl, C3⟩
              have HL := Lib.hid (HJ.out.chg C3); clear C3 HJ
              obtain ⟨b0, b1, b2, b3, b4, b5, b6, b7, b8⟩ := HL.out.cells
              go_wp2_with fail
              clear b0 b1 b2 b3 b4 b5 b6 b7 b8
              refine (white_ok _ _ (chV c k true) (ch_vw HL.out (by omega)) (ch_small (by omega))).mono ?_
              rintro e w4 ⟨l, hr, v4, rfl, O4, C4, F4⟩
              obtain rfl := ch_reach (by omega) (by omega) hr
              rw [ch_white] at O4
              obtain ⟨A4, c4, rfl⟩ := O4.slice
              rw [chR_len, HW.out]
              have HM := Lib.hid (HL.out.chg C4); clear hr O4 C4 F4 HL
              obtain ⟨b0, b1, b2, b3, b4, b5, b6, b7, b8⟩ := HM.out.cells
              go_wp2_with fail
              clear b0 b1 b2 b3 b4 b5 b6 b7 b8
              refine (words_ok _ _ (chV c k true) (ch_vw HM.out (by omega)) (ch_small (by omega))).mono ?_
              rintro e w5 ⟨rfl, C5⟩
              rw [show wordsN (chV c k true).objects = k from ch_words k]
              have C6 := (HM.out.chg C5).c
              go_wp2_with fail
              go_ret
              exact ⟨rfl, C6⟩
end Go.Proofs.Ytfkgooliglcjkaa
