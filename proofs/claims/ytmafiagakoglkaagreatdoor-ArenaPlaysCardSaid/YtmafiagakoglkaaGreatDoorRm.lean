/- The document's arena (treadmillref5): the walk of Alloc. -/
import Derived.Test.YtmafiagakoglkaaGreatDoorRl
import Derived.Test.YtmafiagakoglkaaGreatDoorReg
namespace Go.Proofs.YtmafiagakoglkaaGreatDoor
open Go.RowKit Go.Maps

theorem upd_self {a : Ar} {id : Nat} {s : Sp} (hs : a.sp id = some s) : ({ a with sp := updF a.sp id (some s) } : Ar) = a := by
  have e : updF a.sp id (some s) = a.sp := by
    funext j
    unfold updF
    split
    · next h => rw [h, hs]
    · rfl
  rw [e]
def RalRel (w0 : World) (h : RaH) (a : Ar) (ids : List Nat) (x n gk : Nat) (idx : Value) (w : World) : Prop := ∃ j, gk + j = n + 1 ∧ j ≤ n ∧ idx = .int .i64 (j : Nat) ∧ RalK w0 h a ids x j w
set_option maxHeartbeats 6400000 in
set_option maxRecDepth 100000 in
theorem raalloc_ok (w : World) (h : RaH) (a : Ar) (ids : List Nat) (M : RaM w h a ids) (hl : ids.length ≤ 100000) (hm : h.mw ≤ 1000000) (N : Nat) (I : ArI N a) (x n : Int) (black : Bool) : Calls Tryz.prog 81 #[.pointer (some ⟨h.g, 0, none⟩), .int .i64 x, .int .i64 n, .bool black] w (RalPost h a ids x n black w) := by
  have b2 : w.cell? ⟨h.g, 2, none⟩ = some h.vs := M.b.cellv 2 rfl
  have hfi := rafind_ok w h a ids M hl x
  have HM := Lib.hid (And.intro M (And.intro hfi I)); clear M hfi I
  go_enter Tryz.func81, Tryz.ntmps81
  go_wp2_with fail
  refine HM.out.2.1.mono ?_
  rintro e w1 ⟨r, hr, rfl, rfl⟩
  rcases HM.out.1.find hr with ⟨rfl, hn⟩ | ⟨k, id, s, rfl, hk, rfl, hs, hx⟩
  · have HN := Lib.hid hn; clear hn hr
    go_wp2_with fail
    go_ret2
    exact .inl ⟨4, rfl, HM.out.1, StR.same (Chg.refl _ _), .inl ⟨HN.out, rfl⟩⟩
  · obtain ⟨g, hv, hc⟩ := HM.out.1.scell hk
    obtain ⟨nn, hnn⟩ : ∃ nn, nn = ids.length := ⟨_, rfl⟩
    obtain ⟨c, hcc⟩ : ∃ c, c = vcap h.vs := ⟨_, rfl⟩
    have hkl : k < nn := by rw [hnn]; exact (List.getElem?_eq_some_iff.1 hk).1
    rw [← hnn, ← hcc] at hv
    rw [hv] at b2
    have hkl' : (k : Int) < (nn : Int) := by omega
    have hk0 : (0 : Int) ≤ (k : Int) := by omega
    have hk1 : ¬ (k : Int) < 0 := by omega
    obtain ⟨b, hb⟩ : ∃ b, b = h.B id := ⟨_, rfl⟩
    have hc' : w1.cell? ⟨g, k, none⟩ = some (.pointer (some ⟨b.g, 0, none⟩)) := by rw [hb]; exact hc
    obtain ⟨ρ, hI⟩ := HM.out.1.S id s hs
    have hkk := hI.hk
    rw [← hb] at hI
    have hcl : w1.cell? ⟨b.g, 1, none⟩ = some (.int .i64 s.k) := hI.hb.cellv 1 rfl
    have HF := Lib.hid (And.intro hI (And.intro hs (And.intro hb (And.intro hx (And.intro hk hnn))))); clear hx hI hs hk hc hr hv hcc hnn hb
    by_cases hn1 : n < 1
    · have d1 : decide (n < 1) = true := decide_eq_true hn1
      have HN := Lib.hid hn1
      go_wp2_with fail
      go_ret2
      exact .inl ⟨1, rfl, HM.out.1, StR.same (Chg.refl _ _), .inr ⟨s, HF.out.2.2.2.1, .inl ⟨.inl HN.out, rfl⟩⟩⟩
    · have d1 : decide (n < 1) = false := decide_eq_false hn1
      go_wp2_with fail
      refine (rsize_ok w1 (s.k : Nat)).mono ?_
      rintro e w2 ⟨rfl, c2⟩
      rw [szI_nat hkk]
      have HC := Lib.hid c2; clear c2
      by_cases hn2 : (szK s.k : Int) < n
      · have d2 : decide ((szK s.k : Int) < n) = true := decide_eq_true hn2
        have HN := Lib.hid hn2
        go_wp2_with fail
        go_ret2
        exact .inl ⟨1, rfl, HM.out.1.chg0 HC.out, StR.same HC.out, .inr ⟨s, HF.out.2.2.2.1, .inl ⟨.inr HN.out, rfl⟩⟩⟩
      · have d2 : decide ((szK s.k : Int) < n) = false := decide_eq_false hn2
        obtain ⟨q, rfl⟩ : ∃ q : Nat, n = q := ⟨n.toNat, by omega⟩
        have hq1 : 1 ≤ q := by omega
        have hq2 : q ≤ szK s.k := by omega
        go_wp2_with fail
        refine (rsalloc_ok w2 b s ρ black (HF.out.1.chg0 HC.out) (fun i => HM.out.2.2.mf id s i HF.out.2.1)).mono ?_
        rintro e w3 (⟨hfull, rfl, I3, C3⟩ | ⟨y, hy1, hy2, hy3, hy4, rfl, I3, C3⟩)
        · have H3 := Lib.hid (And.intro hfull (And.intro I3 C3)); clear hfull I3 C3
          go_wp2_with fail
          go_ret2
          have c3 : Chg (h.B id).l w1 w3 := by rw [← HF.out.2.2.1]; exact (HC.out.mono (by simp)).trans H3.out.2.2
          have M3 := (HM.out.1.chg0 HC.out).reb HF.out.2.1 (by rw [← HF.out.2.2.1]; exact H3.out.2.1) (by rw [← HF.out.2.2.1]; exact H3.out.2.2) rfl rfl rfl
          rw [upd_self HF.out.2.1] at M3
          exact .inl ⟨3, rfl, M3, StR.of_chg c3 (fun k hk => .inl (.inr (.inr (.inr (.inr (.inr (.inr (.inr ⟨id, s, HF.out.2.1, .inl hk⟩)))))))) (fun k hk => .inl hk), .inr ⟨s, HF.out.2.2.2.1, .inr ⟨by omega, by omega, H3.out.1, rfl⟩⟩⟩
        · have hfr := HM.out.2.2.fresh HF.out.2.1 hy2 hy3
          have M3 := (HM.out.1.chg0 HC.out).took black HF.out.2.1 hfr (by rw [← HF.out.2.2.1]; exact I3) (by rw [← HF.out.2.2.1]; exact C3)
          have h1 : ({ a with sp := updF a.sp id (some (allocS s y black)) } : Ar).sp id = some (allocS s y black) := updF_same _ _ _
          obtain ⟨g3, hv3, hc3⟩ := M3.lcell HF.out.2.2.2.2.1 h1
          obtain ⟨M4, ls, hls, Bls, hly⟩ := M3.lens h1 hy2 hfr (q : Nat)
          have b3 : w3.cell? ⟨h.g, 3, none⟩ = some h.vl := M3.b.cellv 3 rfl
          rw [← HF.out.2.2.2.2.2] at hv3
          obtain ⟨c3, hcc3⟩ : ∃ c, c = vcap h.vl := ⟨_, rfl⟩
          rw [← hcc3] at hv3
          rw [hv3] at b3
          obtain ⟨ls0, hl0, hLB, -⟩ := M3.Ln id _ h1
          have hf3 := hLB.frozen y
          obtain ⟨z0, hz0⟩ : ∃ z0, ls0[y]? = some z0 := ⟨_, List.getElem?_eq_getElem (by rw [hl0]; exact hy2)⟩
          have hcy : w3.cell? ⟨h.L id, y, none⟩ = some (.int .i64 z0) := hLB.cellv y (by simp [hz0])
          clear hl0 hz0
          have ek : (allocS s y black).k = s.k := rfl
          rw [ek] at hc3
          obtain ⟨sl, hsl⟩ : ∃ sl, sl = slK s.k := ⟨_, rfl⟩
          have hy2' : y < sl := by rw [hsl]; exact hy2
          rw [← hsl] at hc3
          have hy5 : (y : Int) < (sl : Int) := by omega
          have hy6 : (0 : Int) ≤ (y : Int) := by omega
          have C4 : Chg [h.L id] w3 (w3.setCell ⟨h.L id, y, none⟩ (.int .i64 (q : Nat))) := (Chg.refl _ w3).setCell (.inl (by simp)) _
          have fw := fun (j : Nat) (hj : j < szK s.k) => HM.out.1.free_word HM.out.2.2.ok HF.out.2.1 hy2 hfr hj
          have H3 := Lib.hid (And.intro hy1 (And.intro hy2 (And.intro hy3 (And.intro hy4 C3))))
          have H4 := Lib.hid (And.intro M4 (And.intro C4 (And.intro hls (And.intro Bls hly))))
          have H5 := Lib.hid (And.intro fw hsl)
          have hLlt := hLB.lt
          clear M3 M4 C4 hls Bls hly hy1 hy3 hy4 C3 I3 hfr fw hsl h1 hcc3 hv3 hLB ek b2 hc' hcl hy2
          go_wp2_with fail
          have K0 := RalK.start H4.out.1 (s.addr y)
          obtain ⟨w4, hw4⟩ : ∃ w4, w4 = w3.setCell ⟨h.L id, y, none⟩ (.int .i64 (q : Nat)) := ⟨_, rfl⟩
          have H6 := Lib.hid (And.intro K0 hw4)
          rw [← hw4] at K0 ⊢
          have H7 := Lib.hid K0
          clear K0 hw4 b3 hc3 hf3 hLlt hcy
          go_loopg [14] (q + 1) (fun gk idx wr => RalRel w4 h { a with sp := updF a.sp id (some (allocS s y black)) } ids (s.addr y) q gk idx wr)
          case atStart => exact ⟨0, by omega, by omega, rfl, H7.out⟩
          case round =>
            obtain ⟨j, hgk, hj, rfl, hK0⟩ := hrel
            by_cases ej : j < q
            · obtain ⟨m, f, hm2, Mr, hW, hf, h0⟩ := hK0.ex
              have b4 : wr.cell? ⟨h.g, 4, none⟩ = some (.map (some h.bw)) := Mr.b.cellv 4 rfl
              have hgl := Mr.b.lt
              obtain ⟨r1, hI1⟩ := Mr.S id _ (updF_same _ _ _)
              have hal := HM.out.1.addr_lt HF.out.2.1 H3.out.2.1
              have had := fun (W : World) (D : Chg [] wr W) => rsaddr_ok W b (allocS s y black) r1 y (by rw [HF.out.2.2.1]; exact hI1.chg0 D) H3.out.2.1
              have h256 := (kF hkk).2.2.2.1
              obtain ⟨ad, hadd⟩ : ∃ ad, ad = s.addr y := ⟨_, rfl⟩
              have e5 : (allocS s y black).addr y = ad := hadd.symm
              rw [← hadd] at hal
              rw [e5] at had
              have ew : IntKind.i64.wrap ((ad : Int) + (j : Int)) = ((ad + j : Nat) : Int) := by rw [IntKind.wrap_i64]; omega
              have hwf : Wf64 ((ad + j : Nat) : Int) := by unfold Wf64; omega
              have hmm : m < maxLen := by unfold maxLen; omega
              have ej' : (j : Int) < (q : Int) := by omega
              have HK := Lib.hid (And.intro hK0.c (And.intro hm2 (And.intro Mr (And.intro hW (And.intro hf (And.intro h0 hadd))))))
              have HA := Lib.hid had
              clear hK0 hm2 Mr hW hf h0 hadd had hI1 e5
              go_upto_region 14 with fail
              refine wp_region_takes (fuel := 3) 9 (fun w' => Chg [] wr w') [0, 1, 2, 3, 4, 5, 7] (by kernel_rfl) (by kernel_rfl) (fun _ _ _ _ _ h => h) ((Chg.refl [] wr).drew) ?_
              simp only [List.filterMap_cons, List.filterMap_nil, List.getElem?_cons_zero, List.getElem?_cons_succ]
              refine wpTake_step (fun K hK => ?_)
              rw [if_pos (by rfl)]
              refine ⟨?_, fun w' hS' => ?_, ?_⟩
              rotate_left 1
              focus
                have y4 : w'.cell? ⟨h.g, 4, none⟩ = some (.map (some h.bw)) := hS'.cellv hgl (by simp) b4
                go_simp
                try with_reducible rfl
                done
              simp only [Act.put, List.setIfInBounds_toArray, List.set_cons_zero, List.set_cons_succ]
              refine hK _ ?_
              clear hK K
              refine wpTake_step (fun K hK => ?_)
              rw [if_pos (by rfl)]
              refine ⟨?_, fun w' hS' => ?_, ?_⟩
              rotate_left 1
              focus
                have y4 : w'.cell? ⟨h.g, 4, none⟩ = some (.map (some h.bw)) := hS'.cellv hgl (by simp) b4
                go_simp
                try with_reducible rfl
                done
              simp only [Act.put, List.setIfInBounds_toArray, List.set_cons_zero, List.set_cons_succ]
              refine hK _ ?_
              clear hK K
              refine wpTake_step (fun K hK => ?_)
              rw [if_pos (by rfl)]
              refine ⟨?_, fun w' hS' => ?_, ?_⟩
              rotate_left 1
              focus
                have y4 : w'.cell? ⟨h.g, 4, none⟩ = some (.map (some h.bw)) := hS'.cellv hgl (by simp) b4
                go_simp
                try with_reducible rfl
                done
              simp only [Act.put, List.setIfInBounds_toArray, List.set_cons_zero, List.set_cons_succ]
              refine hK _ ?_
              clear hK K
              refine wpTake_step (fun K hK => ?_)
              rw [if_pos (by rfl)]
              refine ⟨?_, fun w' hS' => ?_, ?_⟩
              rotate_left 1
              focus
                have y4 : w'.cell? ⟨h.g, 4, none⟩ = some (.map (some h.bw)) := hS'.cellv hgl (by simp) b4
                go_simp
                try with_reducible rfl
                done
              simp only [Act.put, List.setIfInBounds_toArray, List.set_cons_zero, List.set_cons_succ]
              refine hK _ ?_
              clear hK K
              refine wpTake_step (fun K hK => ?_)
              rw [if_pos (by rfl)]
              refine ⟨?_, fun w' hS' => ?_, ?_⟩
              rotate_left 1
              focus
                have y4 : w'.cell? ⟨h.g, 4, none⟩ = some (.map (some h.bw)) := hS'.cellv hgl (by simp) b4
                go_simp
                try with_reducible rfl
                done
              simp only [Act.put, List.setIfInBounds_toArray, List.set_cons_zero, List.set_cons_succ]
              refine hK _ ?_
              clear hK K
              refine wpTake_step (fun K hK => ?_)
              rw [if_pos (by rfl)]
              refine ⟨?_, fun w' hS' => ?_, ?_⟩
              rotate_left 1
              focus
                have y4 : w'.cell? ⟨h.g, 4, none⟩ = some (.map (some h.bw)) := hS'.cellv hgl (by simp) b4
                go_simp
                try with_reducible rfl
                done
              simp only [Act.put, List.setIfInBounds_toArray, List.set_cons_zero, List.set_cons_succ]
              refine hK _ ?_
              clear hK K
              refine wpTake_step (fun K hK => ?_)
              rw [if_pos (by rfl)]
              refine ⟨?_, fun w' hS' => ?_, ?_⟩
              rotate_left 1
              focus
                have y4 : w'.cell? ⟨h.g, 4, none⟩ = some (.map (some h.bw)) := hS'.cellv hgl (by simp) b4
                go_simp
                try with_reducible rfl
                done
              simp only [Act.put, List.setIfInBounds_toArray, List.set_cons_zero, List.set_cons_succ]
              refine hK _ ?_
              clear hK K
              refine wpTake_nil ?_
              refine wpAnyS_ready (rs := [6]) (by kernel_rfl) (by simp) ?_
              refine AllReadyS.cons (by simp only [List.getElem?_toArray, List.getElem?_cons_zero, List.getElem?_cons_succ]; rfl) (fun K hK => ?_) ?_
              · rw [if_pos (by rfl)]
                go_simp
                go_at_call 71
                refine (HA.out _ (Chg.refl [] wr).drew).mono ?_
                rintro e w5 ⟨rfl, C⟩
                dsimp only
                have D5 : Chg [] wr w5 := (Chg.refl [] wr).drew.trans C
                refine hK _ _ (D5) ?_
                clear hK K
                try simp only [Act.put, List.setIfInBounds_toArray, List.set_cons_zero, List.set_cons_succ]
                refine wpAnyS_ready (rs := [8]) (by kernel_rfl) (by simp) ?_
                refine AllReadyS.cons (by simp only [List.getElem?_toArray, List.getElem?_cons_zero, List.getElem?_cons_succ]; rfl) (fun K hK => ?_) ?_
                · rw [if_pos (by rfl)]
                  go_simp
                  refine hK _ _ (D5) ?_
                  clear hK K
                  try simp only [Act.put, List.setIfInBounds_toArray, List.set_cons_zero, List.set_cons_succ]
                  refine wpAnyS_tail 9 1 (by kernel_rfl) rfl ?_
                  simp only [List.drop_succ_cons, List.drop_zero]
                  have V5 := HK.out.2.2.2.1.chg D5 (by simp)
                  have HV := Lib.hid V5; clear V5 C
                  go_wp2_with (at_mapUpdate; refine wpList_vmap_put rfl _ _ _ rfl HV.out tyO rfl (k := ((ad + j : Nat) : Int)) rfl hwf rfl hmm ?_)
                  intro w6 V6 C6 _
                  have K6 := RalK.next (x := s.addr y) HK.out.1 HK.out.2.1 HK.out.2.2.1 HK.out.2.2.2.1 HK.out.2.2.2.2.1 HK.out.2.2.2.2.2.1 ((D5.mono (by simp)).trans C6) (H5.out.1 j (by omega)) (by rw [← HK.out.2.2.2.2.2.2]; exact V6)
                  have H8 := Lib.hid K6; clear K6 C6 V6 D5
                  go_wp2_with fail
                  go_roundg (q - j)
                  case measure => omega
                  case rel => exact ⟨j + 1, by omega, by omega, by go_num, H8.out⟩
                exact AllReadyS.nil
              exact AllReadyS.nil
            · obtain rfl : j = q := by omega
              have ej' : ¬ (j : Int) < (j : Int) := by omega
              have HK := Lib.hid hK0; clear hK0
              obtain ⟨m0, f0, _, Mr, -⟩ := HK.out.ex
              obtain ⟨r1, hI1⟩ := Mr.S id _ (updF_same _ _ _)
              have had := rsaddr_ok wr b (allocS s y black) r1 y (by rw [HF.out.2.2.1]; exact hI1) H3.out.2.1
              have HA := Lib.hid had; clear had hI1 Mr
              go_wp2_with fail
              refine HA.out.mono ?_
              rintro e w7 ⟨rfl, c7⟩
              have H9 := Lib.hid c7; clear c7
              go_wp2_with fail
              go_ret2
              have c1 : Chg (h.B id).l w1 w3 := by rw [← HF.out.2.2.1]; exact (HC.out.mono (by simp)).trans H3.out.2.2.2.2
              obtain ⟨m, hm3, MM, SS⟩ := RalK.done (c := H9.out) HM.out.2.2 HF.out.2.1 H3.out.2.1 H3.out.2.2.1 hq2 hkk c1 (by rw [H6.out.2]; exact H4.out.2.1) H4.out.2.2.1 (by rw [H6.out.2]; exact H4.out.2.2.2.1) H4.out.2.2.2.2 HK.out
              have h256 := (kF hkk).2.2.2.1
              refine .inr ⟨s, y, m, by omega, by rw [Int.toNat_natCast]; exact HF.out.2.1, by omega, by omega, H3.out.1, H3.out.2.1, H3.out.2.2.1, H3.out.2.2.2.1, rfl, by omega, ?_, ?_⟩
              · rw [Int.toNat_natCast, Int.toNat_natCast]; exact MM
              · rw [Int.toNat_natCast, Int.toNat_natCast]; exact SS
end Go.Proofs.YtmafiagakoglkaaGreatDoor
