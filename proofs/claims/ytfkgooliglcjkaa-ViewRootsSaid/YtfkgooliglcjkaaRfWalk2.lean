/- The walk of the document's walk. -/
import Derived.Test.YtfkgooliglcjkaaRfWalk
import Derived.Test.YtfkgooliglcjkaaVwAsk
namespace Go.Proofs.Ytfkgooliglcjkaa
open Go.RowKit Go.Maps

theorem VwAt.boxR {w : World} {V : Vw} {A0 : Option Addr} {c0 : Nat} {A1 : Option Addr} {c1 : Nat} {A2 : Option Addr} {c2 b : Nat} (h : Blk w b 26 (vwBox V A0 c0 A1 c1 A2 c2)) :
    w.cell? ⟨b, 0, none⟩ = some (.int .i64 V.phase) ∧ w.cell? ⟨b, 1, none⟩ = some (.int .i64 V.cycle) ∧ w.cell? ⟨b, 2, none⟩ = some (.int .i64 V.clock) ∧ w.cell? ⟨b, 3, none⟩ = some (.slice A0 V.globals.length c0) ∧ w.cell? ⟨b, 4, none⟩ = some (.slice A1 V.gs.length c1) ∧
    w.cell? ⟨b, 5, none⟩ = some (.slice A2 V.objects.length c2) ∧ w.cell? ⟨b, 6, none⟩ = some (.int .i64 V.grey) ∧ w.cell? ⟨b, 7, none⟩ = some (.int .i64 V.notes) ∧ w.cell? ⟨b, 8, none⟩ = some (.int .i64 V.roots) :=
  ⟨h.cellv 0 rfl, h.cellv 1 rfl, h.cellv 2 rfl, h.cellv 3 rfl, h.cellv 4 rfl, h.cellv 5 rfl, h.cellv 6 rfl, h.cellv 7 rfl, h.cellv 8 rfl⟩
set_option maxHeartbeats 6400000 in
set_option maxRecDepth 100000 in
theorem rwalk_ok (w : World) (v : Value) (V : Vw) (h : VwAt w w.heap.size v V) (hS : Small V) : Calls Try.prog 53 #[v] w (RwPost V w) := by
  have hmm := @run_makeMap Try.prog
  have HV := Lib.hid h
  obtain ⟨g, A1, c1, A2, c2, rfl, h1, h2, h3, h4, h5⟩ := h.ex
  obtain ⟨A0, c0, rfl⟩ := h1.ex
  have hb5 : V.objects.length ≤ 1000000 := hS.o
  have hmk := fun W => run_make_z (P := Try.prog) 65 4 (.bool false) 1 Try.underlying65 (by kernel_rfl) rfl .i64 .i64 V.objects.length (by omega) (by omega) W
  have C1 := ((Chg.refl [] w).alloc (.cells (vwBox V A0 c0 A1 c1 A2 c2) 26)).alloc (.map #[] 0)
  have B1 := (Blk.new w 26 (vwBox V A0 c0 A1 c1 A2 c2)).alloc (.map #[] 0)
  have M1 := IMap.made (w.alloc (.cells (vwBox V A0 c0 A1 c1 A2 c2) 26)) Try.prog 3
  rw [World.size_alloc, ← ltF_all V.objects] at M1
  unfold vwBox at C1 B1 M1
  have HB := Lib.hid (And.intro C1 (And.intro B1 M1))
  have HO := Lib.hid h3
  have HSm := Lib.hid hS
  clear C1 B1 M1 h h1 h2 h3 h4 h5 hS
  go_enter Try.func53, Try.ntmps53
  go_wp2_with fail
  generalize ((w.alloc (.cells #[.int .i64 V.phase, .int .i64 V.cycle, .int .i64 V.clock, .slice A0 V.globals.length c0, .slice A1 V.gs.length c1, .slice A2 V.objects.length c2, .int .i64 V.grey, .int .i64 V.notes, .int .i64 V.roots] 26)).alloc (.map #[] 0)) = W0 at HB ⊢
  go_loopg [5] (V.objects.length + 1) (fun gk idx wr => Rw1Rel w V.objects w.heap.size (w.heap.size + 1) (vwBox V A0 c0 A1 c1 A2 c2) gk idx wr)
  case atStart => exact ⟨V.objects.length, rfl, by omega, by go_num, by rw [Nat.sub_self]; exact HB.out.2.2, HB.out.2.1, HB.out.1⟩
  case round =>
    obtain ⟨j, rfl, hj, rfl, M, K, C⟩ := hrel
    cases j with
    | succ i =>
      rw [show (((i + 1 : Nat) : Int) - 1) = (i : Int) by omega]
      obtain ⟨o, ho⟩ : ∃ o, V.objects[i]? = some o := ⟨_, List.getElem?_eq_getElem (by omega)⟩
      obtain ⟨b, off, s, eA, hb, i0, i1, i2, hsl, hwf⟩ := (HO.out.chg C (Nat.le_refl _) (by simp)).at_ i o ho
      have hi' : (i : Int) < (V.objects.length : Int) := by omega
      have hi0 : (0 : Int) ≤ (i : Int) := by omega
      have b5 : wr.cell? ⟨w.heap.size, 5, none⟩ = some (.slice A2 V.objects.length c2) := K.cellv 5 rfl
      rw [eA] at b5
      have HX := Lib.hid (And.intro M (And.intro C (And.intro hwf (And.intro (ltF_succ ho) K)))); clear M C K hwf ho hb i1 i2 hsl eA
      go_wp2_with (at_mapUpdate; refine wpList_imap_put rfl _ _ _ rfl HX.out.1 ity rfl rfl HX.out.2.2.1 rfl ⟨by omega, by omega⟩ (by unfold maxLen; omega) ?_; intro w1 M1 C1)
      have HY := Lib.hid (And.intro M1 (And.intro (C1.blk HX.out.2.2.2.2 (by simp)) (HX.out.2.1.new C1 (by intro k hk; have := only1 hk; omega)))); clear M1 C1 b5 i0
      go_wp2_with fail
      go_roundg (i + 1)
      case measure => omega
      case rel => exact ⟨i, rfl, by omega, by go_num, (HY.out.1.ext HX.out.2.2.2.1).mono (by omega), HY.out.2⟩
    | zero =>
      rw [show (((0 : Nat) : Int) - 1) = -1 by rfl]
      rw [ltF_zero] at M
      have HX := Lib.hid (And.intro M (And.intro K C)); clear M K C
      have b5 : wr.cell? ⟨w.heap.size, 5, none⟩ = some (.slice A2 V.objects.length c2) := HX.out.2.1.cellv 5 rfl
      go_upto_region 8 with fail
      have HY := Lib.hid (And.intro (HX.out.1.alloc (.cells (zcells (.bool false) V.objects.length) 4)) (And.intro (HX.out.2.1.alloc (.cells (zcells (.bool false) V.objects.length) 4)) (And.intro (HX.out.2.2.alloc (.cells (zcells (.bool false) V.objects.length) 4)) (And.intro (Blk.new wr 4 (zcells (.bool false) V.objects.length)) HX.out.2.2.size))))
      clear HX b5
      generalize (wr.alloc (.cells (zcells (.bool false) V.objects.length) 4)) = W1 at HY ⊢
      generalize wr.heap.size = bI at HY ⊢
      rw [insA_nil] at HY
      obtain ⟨b0, b1, b2, b3, b4, b5, b6, b7, b8⟩ := VwAt.boxR HY.out.2.1
      go_wp2_with fail
      refine (rroots_ok _ _ V ((HV.out.chg HY.out.2.2.1 (Nat.le_refl _) (by simp)).mono HY.out.2.2.1.size) HSm.out).mono ?_
      rintro e w2 ⟨vr, rfl, Or, Cr, Fr⟩
      obtain ⟨Ar, kr, rfl⟩ := Or.slice
      clear b0 b1 b2 b3 b4 b5 b6 b7 b8
      have hnb : bI ∉ fpv (.slice Ar V.rootsL.length kr) := Or.ne_blk (Cr.blk HY.out.2.2.2.1 (by simp)) (by decide)
      have hnw := Lib.hid HV.out.names_wf
      have N0 : Nms w2 bI (.slice Ar V.rootsL.length kr) V.rootsL := fun W c => (Or.chg c (fun k hk hm => by have := only1 hm; subst this; exact hnb hk)).sl (fun x hx => hnw.out x (by
        have := (mem_rootsL.1 hx).1; unfold Vw.names; exact List.mem_append_left _ this)) (by
          have h1 := len_foldOnce V.said []
          have h2 := HSm.out.n
          unfold Vw.names at h2
          rw [List.length_append] at h2
          simp only [List.length_nil] at h1
          unfold Vw.rootsL maxLen; omega)
      have hrl : V.rootsL.length ≤ 1000000 := by
        have h1 := len_foldOnce V.said []
        have h2 := HSm.out.n
        unfold Vw.names at h2
        rw [List.length_append] at h2
        simp only [List.length_nil] at h1
        unfold Vw.rootsL; omega
      have Q0 : RwM w2 V bI (fun _ => False) [] [] (.slice none 0 0) (.slice none 0 0) w2 := ⟨Chg.refl _ _, Cr.blk HY.out.2.2.2.1 (by simp), RwL.start V, OwnI.nil _ _, OwnI.nil _ _, by simp [fpv, Value.ownBlock], by simp [fpv, Value.ownBlock], by simp [fpv, Value.ownBlock]⟩
      have HZ := Lib.hid (And.intro N0 (And.intro hrl Q0))
      have HW := Lib.hid (And.intro (HY.out.1.chg Cr (by simp)) (And.intro (Cr.blk HY.out.2.1 (by simp)) (And.intro (HY.out.2.2.1.trans Cr) HY.out.2.2.2.2)))
      have hba : w.heap.size + 1 ∉ [bI] := fun hm => by
        have := only1 hm
        exact (HY.out.1.ne_blk HY.out.2.2.2.1) this
      have HBA := Lib.hid (And.intro hba (fun hm => (HY.out.2.1.ne_ HY.out.2.2.2.1 (by decide)) (only1 hm) : w.heap.size ∉ [bI]))
      clear N0 hrl Q0 hnb Or Cr Fr HY hba
      go_wp2_with fail
      go_loopg [7, 8, 9, 10] (V.objects.length + 1) (fun gk v7 v8 v9 idx wr => Rw2Rel w2 V bI gk v7 v8 v9 idx wr)
      case atStart => exact ⟨0, [], [], V.rootsL, _, by omega, by simp, rfl, HZ.out.1, HZ.out.2.1, fun x hx h0 => Rch.root (mem_rootsL.1 hx).1 h0, HZ.out.2.2, fun x hx h0 => .inr (mem_rootsL.2 ⟨hx, h0⟩), fun j p o hj => by omega⟩
      case round =>
        clear HZ
        obtain ⟨k, l0, lost0, names, P, hgk, hk0, rfl, hN, hnl, hnr, M, hcov, hdone⟩ := hrel
        obtain ⟨A9, c9, rfl⟩ := (hN w2 (Chg.refl _ _)).ex
        have HX := Lib.hid (And.intro hN (And.intro hnr (And.intro hcov (And.intro hdone M))))
        clear hN hnr hcov hdone M
        go_wp2_with fail
        obtain ⟨wq, rfl⟩ : ∃ wq : World, wq = wr := ⟨_, rfl⟩
        go_loopg [7, 8, 11] (names.length + 1) (fun gk v7 v8 idx wr => Rw3Rel w2 V bI P l0 names gk v7 v8 idx wr)
        case atStart => exact ⟨0, l0, lost0, [], by omega, by omega, rfl, by simp, HX.out.2.2.2.2.law (HX.out.2.2.2.2.L.congr (fun x h0 h => by simpa using h))⟩
        case round =>
          obtain ⟨i, l, lost, ext, hgk3, hin, rfl, hext, M⟩ := hrel
          obtain ⟨A7, c7, rfl⟩ := M.o7.slice
          obtain ⟨A8, c8, rfl⟩ := M.o8.slice
          have hll := M.L.len
          have hlo := Nat.le_trans M.L.lostLen HSm.out.n
          have hml := plI_len l
          have HM := Lib.hid M
          have HE := Lib.hid (And.intro hext hml)
          clear M hext hml
          by_cases e : i < names.length
          · obtain ⟨x, hx⟩ : ∃ x, names[i]? = some x := ⟨_, List.getElem?_eq_getElem e⟩
            have hsl := HX.out.1 wr HM.out.c
            obtain ⟨b9, o9, rfl, hb9, y0⟩ := hsl.at_ _ _ _ rfl i x hx
            have hw := hsl.wf x (List.mem_of_getElem? hx)
            have hi' : (i : Int) < (names.length : Int) := by omega
            have htk : ∀ y, y ≠ 0 → (P y ∨ y ∈ names.take (i + 1)) → ((P y ∨ y ∈ names.take i) ∨ y = x) := fun y h0 hy => by
              rcases hy with hy | hy
              · exact .inl (.inl hy)
              · rw [take_succ_get hx] at hy
                rcases List.mem_append.1 hy with h1 | h1
                · exact .inl (.inr h1)
                · exact .inr (List.mem_singleton.1 h1)
            have HM1 := Lib.hid (HW.out.1.chg HM.out.c HBA.out.1)
            have HK := Lib.hid (And.intro htk (And.intro hw (HX.out.2.1 x (List.mem_of_getElem? hx))))
            clear hsl hb9 hw htk hx
            by_cases h0 : x = 0
            · have hx0 : (x != 0) = false := by rw [bne_eq_false_iff_eq]; exact h0
              have H0 := Lib.hid h0; clear h0
              go_wp2_with (at_lookup; refine wpList_imap_look rfl _ _ rfl HM1.out ity rfl rfl HK.out.2.1 ?_)
              go_roundg (names.length - i)
              case measure => omega
              case rel => exact ⟨i + 1, l, lost, ext, by omega, by omega, by go_num, HE.out.1, HM.out.law ((HM.out.L.zero H0.out).congr HK.out.1)⟩
            · have hx0 : (x != 0) = true := by rw [bne_iff_ne]; exact h0
              have hr := HK.out.2.2 h0
              cases hat : V.at_ x with
              | none =>
                have hf : atG V x = none := by unfold atG; rw [hat]; rfl
                have HL := Lib.hid ((HM.out.L.lost_ hr hat).congr HK.out.1); clear hat hr h0
                go_wp2_with (at_lookup; refine wpList_imap_nil rfl _ _ rfl HM1.out ity rfl rfl HK.out.2.1 hf ?_)
                refine (put_ok _ _ lost x HM.out.o8 (fun y hy => hnw.out y (HM.out.L.ls y hy).1.named) HK.out.2.1 hlo).mono ?_
                rintro e w3 ⟨v8', rfl, O8, S8⟩
                have HN := Lib.hid (HM.out.put HL.out O8 S8); clear O8 S8 y0
                go_wp2_with fail
                go_roundg (names.length - i)
                case measure => omega
                case rel => exact ⟨i + 1, l, _, ext, by omega, by omega, by go_num, HE.out.1, HN.out⟩
              | some p =>
                have hf : atG V x = some ((p : Int) + 1) := by unfold atG; rw [hat]; rfl
                obtain ⟨o, ho, -⟩ := at_lt hat
                have hpl : p < V.objects.length := (List.getElem?_eq_some_iff.1 ho).1
                have hpl' : (p : Int) < (V.objects.length : Int) := by omega
                have hp0 : (0 : Int) ≤ (p : Int) := by omega
                have hp1 : ((p : Int) + 1 == 0) = false := by rw [beq_eq_false_iff_ne]; omega
                have hp2 : decide ((0 : Int) < (p : Int) + 1) = true := decide_eq_true (by omega)
                have hp3 : (0 : Int) < (p : Int) + 1 := by omega
                obtain ⟨z0, z1⟩ := HM.out.mark hpl
                by_cases hm : p ∈ l
                · rw [decide_eq_true hm] at z0
                  have HL := Lib.hid ((HM.out.L.old hat hm).congr HK.out.1); clear hat hr h0 hm ho
                  go_wp2_with (at_lookup; refine wpList_imap_val rfl _ _ rfl HM1.out ity rfl rfl HK.out.2.1 hf ?_)
                  go_roundg (names.length - i)
                  case measure => omega
                  case rel => exact ⟨i + 1, l, lost, ext, by omega, by omega, by go_num, HE.out.1, HM.out.law HL.out⟩
                · rw [decide_eq_false hm] at z0
                  have HL := Lib.hid ((HM.out.L.new hr hat hm).congr HK.out.1); clear hat hr h0 hm ho
                  go_upto_region 20 with (at_lookup; refine wpList_imap_val rfl _ _ rfl HM1.out ity rfl rfl HK.out.2.1 hf ?_)
                  have O7 : OwnI 3 (wr.setCell ⟨bI, p, none⟩ (.bool true)) (.slice A7 (plI l).length c7) (plI l) := HM.out.own7
                  obtain ⟨W3, hW3⟩ : ∃ W3, W3 = wr.setCell ⟨bI, p, none⟩ (.bool true) := ⟨_, rfl⟩
                  rw [← hW3] at O7 ⊢
                  have HW3 := Lib.hid (And.intro hW3 O7); clear hW3 O7
                  go_wp2_with (at_builtin; refine wpList_push_int rfl _ _ rfl slty rfl HW3.out.2 rfl (by have := HE.out.2; omega) ?_)
                  intro A' c' w3 O3 S3
                  rw [HW3.out.1] at S3
                  have HN := Lib.hid (HM.out.new hpl HL.out (by rw [plI_snoc]; exact O3) S3); clear O3 S3 y0 z0 z1
                  go_wp2_with fail
                  go_roundg (names.length - i)
                  case measure => omega
                  case rel => exact ⟨i + 1, l ++ [p], lost, ext ++ [p], by omega, by omega, by go_num, by rw [HE.out.1, List.append_assoc], HN.out⟩
          · have e2 : names.length = i := by omega
            have hi' : ¬ (i : Int) < (names.length : Int) := by omega
            have htk : names.take i = names := by rw [← e2, List.take_length]
            have HT := Lib.hid htk; clear htk hgk3 hin e e2
            by_cases hkl : k < l.length
            · have hkl' : ¬ (plI l).length ≤ k := by rw [plI_len]; omega
              have hkl2 : decide ((plI l).length ≤ k) = false := decide_eq_false hkl'
              obtain ⟨p, hp⟩ : ∃ p, l[k]? = some p := ⟨_, List.getElem?_eq_getElem hkl⟩
              obtain ⟨g7, rfl, y0, -, -⟩ := HM.out.o7.cell (plI_get hp)
              obtain ⟨a, har, hat⟩ := HM.out.L.so p (List.mem_of_getElem? hp)
              obtain ⟨o, ho, -⟩ := at_lt hat
              obtain ⟨b, off, s, eA, hbb, i0, i1, i2, hsl, hwa⟩ := HO.out.at_ p o ho
              obtain ⟨As, cs, rfl⟩ := hsl.ex
              have hpl : (p : Int) < (V.objects.length : Int) := by have := (List.getElem?_eq_some_iff.1 ho).1; omega
              have hp0 : (0 : Int) ≤ (p : Int) := by omega
              have hk0' : (0 : Int) ≤ (k : Int) := by omega
              have hkp : (k : Int) < ((plI l).length : Int) := by omega
              have c2w : Chg [bI] w wr := (HW.out.2.2.1.mono (by simp)).trans HM.out.c
              have hbI := HW.out.2.2.2
              have j1 := c2w.cellv hbb (fun hm => by have := only1 hm; omega) i1
              have b5 : wr.cell? ⟨w.heap.size, 5, none⟩ = some (.slice A2 V.objects.length c2) := (HM.out.c.blk HW.out.2.1 HBA.out.2).cellv 5 rfl
              rw [eA] at b5
              have HQ := Lib.hid (And.intro hp (And.intro ho (And.intro hsl (And.intro har hat))))
              clear hp ho hsl har hat i0 i1 i2 hwa eA c2w hbb
              go_wp2_with fail
              go_quiet (fail)
              go_wp2_with fail
              have hcb : Chg [bI] w w2 := HW.out.2.2.1.mono (by simp)
              go_roundg (V.objects.length - k)
              case measure => omega
              case rel =>
                refine ⟨k + 1, l, lost, o.slots, fun y => P y ∨ y ∈ names, by omega, by omega, by go_num, fun W c => ((HQ.out.2.2.1.chg (hcb.trans c) (Nat.le_refl _) (fun k hk => by rw [only1 hk]; exact hbI)).mono (hcb.trans c).size), slots_le HSm.out HQ.out.2.1, fun y hy h0 => Rch.step HQ.out.2.2.2.1 HQ.out.2.2.2.2 HQ.out.2.1 hy h0, (HM.out.law (HM.out.L.congr fun y _ hy => by rw [HT.out]; exact hy)).drew _, fun y hy h0 => .inl (HX.out.2.2.1 y hy h0), fun j q o' hj hjq ho' y hy h0 => ?_⟩
                by_cases hjk : j < k
                · rw [HE.out.1, List.getElem?_append_left (by omega)] at hjq
                  exact .inl (HX.out.2.2.2.1 j q o' hjk hjq ho' y hy h0)
                · have e : j = k := by omega
                  subst e
                  have e1 := HQ.out.1.symm.trans hjq
                  injection e1 with e1
                  subst e1
                  have e2 := HQ.out.2.1.symm.trans ho'
                  injection e2 with e2
                  subst e2
                  exact .inr hy
            · have hkl2 : decide ((plI l).length ≤ k) = true := decide_eq_true (by rw [plI_len]; omega)
              have hkl3 : (plI l).length ≤ k := by rw [plI_len]; omega
              go_wp2_with fail
              go_ret2
              have hl0 : l = l0 := by
                have h1 := congrArg List.length HE.out.1
                rw [List.length_append] at h1
                have : ext = [] := List.eq_nil_of_length_eq_zero (by omega)
                rw [HE.out.1, this, List.append_nil]
              have hL := HM.out.L
              rw [HT.out] at hL
              obtain ⟨q1, q2⟩ := hL.fin HX.out.2.2.1 (fun p hp o ho x hx h0 => by
                obtain ⟨j, hj⟩ := List.getElem?_of_mem hp
                have hjl := (List.getElem?_eq_some_iff.1 hj).1
                rw [hl0] at hj
                exact HX.out.2.2.2.1 j p o (by omega) hj ho x hx h0)
              have hbI := HW.out.2.2.2
              exact ⟨_, _, l, lost, rfl, q1, q2, HM.out.o7, HM.out.o8, HW.out.2.2.1.new HM.out.c (fun k hk => by rw [only1 hk]; exact hbI), fun k hk => Nat.le_trans HW.out.2.2.1.size (HM.out.f7 k hk), fun k hk => Nat.le_trans HW.out.2.2.1.size (HM.out.f8 k hk)⟩
end Go.Proofs.Ytfkgooliglcjkaa
