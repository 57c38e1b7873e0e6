/- The walk of the document's walk: places that are reached, names that are lost. -/
/- The walk of the document's walk. -/
/- The walks of the document's Reach, White, Lost. -/
import Derived.Test.YtcpljjacamibeaaGreatDoorVvRfRootsJ
import Derived.Test.YtcpljjacamibeaaGreatDoorVvVwJ
import Derived.Test.YtcpljjacamibeaaGreatDoorVvOwnIJ
namespace Go.Proofs.YtcpljjacamibeaaGreatDoor
set_option maxHeartbeats 16000000
set_option maxRecDepth 100000
open Go.RowKit Go.Maps
def ltF (os : List Ob) (j : Nat) (a : Int) : Option Int := ((os.drop j).findIdx? fun o => o.addr == a).map fun k => ((k + j + 1 : Nat) : Int)
theorem ltF_all (os : List Ob) : ltF os os.length = fun _ => none := by funext a; simp [ltF]
theorem ltF_succ {os : List Ob} {j : Nat} {o : Ob} (h : os[j]? = some o) (a : Int) : putF (ltF os (j + 1)) o.addr ((j : Int) + 1) a = ltF os j a := by
  obtain ⟨hj, rfl⟩ := List.getElem?_eq_some_iff.1 h
  unfold putF ltF
  rw [List.drop_eq_getElem_cons hj, List.findIdx?_cons]
  by_cases e : a = os[j].addr
  · subst e
    simp
  · rw [if_neg e, if_neg (by simp; exact fun h => e h.symm)]
    cases (os.drop (j + 1)).findIdx? fun o => o.addr == a with
    | none => rfl
    | some k => simp; omega
def atG (V : Vw) (a : Int) : Option Int := (V.at_ a).map fun k => ((k + 1 : Nat) : Int)
theorem ltF_zero (V : Vw) : ltF V.objects 0 = atG V := by funext a; simp [ltF, atG, Vw.at_]
def insA (n : Nat) (l : List Nat) : Array Value := ((List.range n).map fun p => Value.bool (decide (p ∈ l))).toArray
theorem insA_nil (n : Nat) : zcells (.bool false) n = insA n [] := by
  unfold insA
  rw [zcells_list]
  simp [List.map_const']
theorem insA_get {n : Nat} {l : List Nat} {p : Nat} (h : p < n) : (insA n l)[p]? = some (.bool (decide (p ∈ l))) := by simp [insA, h]
theorem insA_put {n : Nat} {l : List Nat} {p : Nat} (h : p < n) : (insA n l).setIfInBounds p (.bool true) = insA n (l ++ [p]) := by
  apply Array.ext_getElem?
  intro i
  by_cases hi : i < n
  · rw [insA_get hi]
    by_cases e : p = i
    · subst e
      simp [insA, h]
    · rw [Array.getElem?_setIfInBounds_ne e, insA_get hi]
      have : (i ∈ l ++ [p]) = (i ∈ l) := by simp [Ne.symm e]
      simp only [this]
  · simp [insA, hi]
def plI (l : List Nat) : List Int := l.map fun (p : Nat) => (p : Int)
theorem plI_snoc (l : List Nat) (p : Nat) : plI (l ++ [p]) = plI l ++ [(p : Int)] := by simp [plI]
theorem plI_len (l : List Nat) : (plI l).length = l.length := by simp [plI]
theorem plI_get {l : List Nat} {i p : Nat} (h : l[i]? = some p) : (plI l)[i]? = some (p : Int) := by simp [plI, h]
def Nms (w0 : World) (bI : Nat) (v : Value) (xs : List Int) : Prop := ∀ w, Chg [bI] w0 w → SlI w w.heap.size v xs
structure RwM (w0 : World) (V : Vw) (bI : Nat) (P : Int → Prop) (l : List Nat) (lost : List Int) (v7 v8 : Value) (w : World) : Prop where
  c : Chg [bI] w0 w
  i : Blk w bI 4 (insA V.objects.length l)
  L : RwL V P l lost
  o7 : OwnI 3 w v7 (plI l)
  o8 : OwnI 3 w v8 lost
  f7 : ∀ k ∈ fpv v7, w0.heap.size ≤ k
  f8 : ∀ k ∈ fpv v8, w0.heap.size ≤ k
  d : ∀ k ∈ fpv v7, k ∉ fpv v8
section
variable {w0 w w' : World} {V : Vw} {bI : Nat} {P Q : Int → Prop} {l : List Nat} {lost : List Int} {v7 v8 v' : Value} {x : Int} {p : Nat}
theorem Chg.newB {T : List Nat} {S : List Nat} {a w w' : World} (h : Chg S a w) (c : Chg T w w') (hT : ∀ k ∈ T, a.heap.size ≤ k) : Chg S a w' :=
  ⟨c.os.trans h.os, c.tape.trans h.tape, c.output.trans h.output, Nat.le_trans h.size c.size, fun k hk hn =>
    (c.block k (Nat.lt_of_lt_of_le hk h.size) (fun hm => by have := hT k hm; omega)).trans (h.block k hk hn)⟩
theorem RwM.law (M : RwM w0 V bI P l lost v7 v8 w) (h : RwL V Q l lost) : RwM w0 V bI Q l lost v7 v8 w := ⟨M.c, M.i, h, M.o7, M.o8, M.f7, M.f8, M.d⟩
theorem RwM.drew (M : RwM w0 V bI P l lost v7 v8 w) (n : Nat) : RwM w0 V bI P l lost v7 v8 (w.drewN n) := ⟨M.c.drewN n, M.i, M.L, M.o7.drewN n, M.o8.drewN n, M.f7, M.f8, M.d⟩
theorem RwM.put {lost' : List Int} (M : RwM w0 V bI P l lost v7 v8 w) (h : RwL V Q l lost') (O : OwnI 3 w' v' lost') (S : Stp (fpv v8) (fpv v') w w') : RwM w0 V bI Q l lost' v7 v' w' := by
  refine ⟨M.c.newB S.c M.f8, S.c.blk M.i (M.o8.ne_blk M.i (by decide)), h, M.o7.chg S.c M.d, O, M.f7, fun k hk => ?_, fun k hk hm => ?_⟩
  · rcases S.f k hk with h1 | h1
    · exact M.f8 k h1
    · exact Nat.le_trans M.c.size h1
  · rcases S.f k hm with h1 | h1
    · exact M.d k hk h1
    · have := M.o7.lt hk; omega
theorem RwM.mark (M : RwM w0 V bI P l lost v7 v8 w) (hp : p < V.objects.length) : w.cell? ⟨bI, p, none⟩ = some (.bool (decide (p ∈ l))) ∧ w.frozen? ⟨bI, p, none⟩ = false := ⟨M.i.cellv p (insA_get hp), M.i.frozen p⟩
theorem RwM.new (M : RwM w0 V bI P l lost v7 v8 w) (hp : p < V.objects.length) (h : RwL V Q (l ++ [p]) lost) (O : OwnI 3 w' v' (plI (l ++ [p]))) (S : Stp (fpv v7) (fpv v') (w.setCell ⟨bI, p, none⟩ (.bool true)) w') : RwM w0 V bI Q (l ++ [p]) lost v' v8 w' := by
  have c1 : Chg [bI] w (w.setCell ⟨bI, p, none⟩ (.bool true)) := (Chg.refl [bI] w).setCell (.inl (by simp)) _
  have i1 : Blk (w.setCell ⟨bI, p, none⟩ (.bool true)) bI 4 (insA V.objects.length (l ++ [p])) := M.i.setv p _ (insA_put hp)
  have q8 : OwnI 3 (w.setCell ⟨bI, p, none⟩ (.bool true)) v8 lost := M.o8.chg c1 (fun k hk hm => by have := only1 hm; subst this; exact M.o8.ne_blk M.i (by decide) hk)
  have q7 : OwnI 3 (w.setCell ⟨bI, p, none⟩ (.bool true)) v7 (plI l) := M.o7.chg c1 (fun k hk hm => by have := only1 hm; subst this; exact M.o7.ne_blk M.i (by decide) hk)
  refine ⟨(M.c.trans c1).newB S.c M.f7, S.c.blk i1 (q7.ne_blk i1 (by decide)), h, O, q8.chg S.c (fun k hk hm => M.d k hm hk), fun k hk => ?_, M.f8, fun k hk hm => ?_⟩
  · rcases S.f k hk with h1 | h1
    · exact M.f7 k h1
    · exact Nat.le_trans (Nat.le_trans M.c.size c1.size) h1
  · rcases S.f k hk with h1 | h1
    · exact M.d k h1 hm
    · have := q8.lt hm; omega
theorem RwM.own7 (M : RwM w0 V bI P l lost v7 v8 w) : OwnI 3 (w.setCell ⟨bI, p, none⟩ (.bool true)) v7 (plI l) := M.o7.chg ((Chg.refl [bI] w).setCell (.inl (by simp)) _) (fun k hk hm => by have := only1 hm; subst this; exact M.o7.ne_blk M.i (by decide) hk)
theorem nodup_lt {n : Nat} : ∀ {l : List Nat}, l.Nodup → (∀ p ∈ l, p < n) → l.length ≤ n := fun {l} h hl => by
  have h1 : (plI l).Nodup := by
    unfold plI List.Nodup
    rw [List.pairwise_map]
    exact h.imp fun {a b} hab e => hab (by omega)
  have h2 := nodup_leV (l := plI l) (m := plI (List.range n)) h1 (fun x hx => by
    obtain ⟨p, hp, rfl⟩ := List.mem_map.1 hx
    exact List.mem_map.2 ⟨p, List.mem_range.2 (hl p hp), rfl⟩)
  rw [plI_len, plI_len, List.length_range] at h2
  exact h2
theorem RwL.lt (h : RwL V P l lost) : ∀ p ∈ l, p < V.objects.length := fun p hp => by
  obtain ⟨a, _, e⟩ := h.so p hp
  obtain ⟨o, ho, _⟩ := at_lt e
  exact (List.getElem?_eq_some_iff.1 ho).1
theorem RwL.len (h : RwL V P l lost) : l.length ≤ V.objects.length := nodup_lt h.nd h.lt
theorem RwL.lostLen (h : RwL V P l lost) : lost.length ≤ V.names.length := nodup_leV (h.lr.imp fun {a b} hab => by omega) fun x hx => (h.ls x hx).1.named
end
def RwPostV (V : Vw) (w : World) (e : Ending) (w' : World) : Prop :=
  ∃ v7 v8 l lost, e = .returned (.tuple #[v7, v8]) ∧ IsPls V l ∧ IsLost V lost ∧ OwnI 3 w' v7 (plI l) ∧ OwnI 3 w' v8 lost ∧ Chg [] w w' ∧ (∀ k ∈ fpv v7, w.heap.size ≤ k) ∧ (∀ k ∈ fpv v8, w.heap.size ≤ k)
def Rw1Rel (w0 : World) (os : List Ob) (bV bA : Nat) (cV : Array Value) (gk : Nat) (idx : Value) (w : World) : Prop :=
  ∃ j, gk = j + 1 ∧ j ≤ os.length ∧ idx = .int .i64 ((j : Int) - 1) ∧ IMap Tryz.prog 3 w bA (os.length - j) (ltF os j) ∧ Blk w bV 41 cV ∧ Chg [] w0 w
def Rw2Rel (w0 : World) (V : Vw) (bI : Nat) (gk : Nat) (v7 v8 v9 idx : Value) (w : World) : Prop :=
  ∃ k l lost names P, gk + k = V.objects.length + 1 ∧ k ≤ l.length ∧ idx = .int .i64 (k : Nat) ∧ Nms w0 bI v9 names ∧ names.length ≤ 1000000 ∧ (∀ x ∈ names, x ≠ 0 → Rch V x) ∧ RwM w0 V bI P l lost v7 v8 w ∧
    (∀ x ∈ V.said, x ≠ 0 → P x ∨ x ∈ names) ∧ (∀ j p o, j < k → l[j]? = some p → V.objects[p]? = some o → ∀ x ∈ o.slots, x ≠ 0 → P x ∨ x ∈ names)
def Rw3Rel (w0 : World) (V : Vw) (bI : Nat) (P : Int → Prop) (l0 : List Nat) (names : List Int) (gk : Nat) (v7 v8 idx : Value) (w : World) : Prop :=
  ∃ i l lost ext, gk + i = names.length + 1 ∧ i ≤ names.length ∧ idx = .int .i64 (i : Nat) ∧ l = l0 ++ ext ∧ RwM w0 V bI (fun y => P y ∨ y ∈ names.take i) l lost v7 v8 w
theorem VwAt.boxR {w : World} {V : Vw} {A0 : Option Addr} {c0 : Nat} {A1 : Option Addr} {c1 : Nat} {A2 : Option Addr} {c2 b : Nat} (h : Blk w b 41 (vwBox V A0 c0 A1 c1 A2 c2)) :
    w.cell? ⟨b, 0, none⟩ = some (.int .i64 V.phase) ∧ w.cell? ⟨b, 1, none⟩ = some (.int .i64 V.cycle) ∧ w.cell? ⟨b, 2, none⟩ = some (.int .i64 V.clock) ∧ w.cell? ⟨b, 3, none⟩ = some (.slice A0 V.globals.length c0) ∧ w.cell? ⟨b, 4, none⟩ = some (.slice A1 V.gs.length c1) ∧
    w.cell? ⟨b, 5, none⟩ = some (.slice A2 V.objects.length c2) ∧ w.cell? ⟨b, 6, none⟩ = some (.int .i64 V.grey) ∧ w.cell? ⟨b, 7, none⟩ = some (.int .i64 V.notes) ∧ w.cell? ⟨b, 8, none⟩ = some (.int .i64 V.roots) :=
  ⟨h.cellv 0 rfl, h.cellv 1 rfl, h.cellv 2 rfl, h.cellv 3 rfl, h.cellv 4 rfl, h.cellv 5 rfl, h.cellv 6 rfl, h.cellv 7 rfl, h.cellv 8 rfl⟩
theorem rwalk_ok (w : World) (v : Value) (V : Vw) (h : VwAt w w.heap.size v V) (hS : Small V) : Calls Tryz.prog 117 #[v] w (RwPostV V w) := by
  have hmm := @run_makeMap Tryz.prog
  have HV := Lib.hid h
  obtain ⟨g, A1, c1, A2, c2, rfl, h1, h2, h3, h4, h5⟩ := h.ex
  obtain ⟨A0, c0, rfl⟩ := h1.ex
  have hb5 : V.objects.length ≤ 1000000 := hS.o
  have hmk := fun W => run_make_z (P := Tryz.prog) 147 4 (.bool false) 1 Tryz.underlying147 (by kernel_rfl) rfl .i64 .i64 V.objects.length (by omega) (by omega) W
  have C1 := ((Chg.refl [] w).alloc (.cells (vwBox V A0 c0 A1 c1 A2 c2) 41)).alloc (.map #[] 0)
  have B1 := (Blk.new w 41 (vwBox V A0 c0 A1 c1 A2 c2)).alloc (.map #[] 0)
  have M1 := IMap.made (w.alloc (.cells (vwBox V A0 c0 A1 c1 A2 c2) 41)) Tryz.prog 3
  rw [World.size_alloc, ← ltF_all V.objects] at M1
  unfold vwBox at C1 B1 M1
  have HB := Lib.hid (And.intro C1 (And.intro B1 M1))
  have HO := Lib.hid h3
  have HSm := Lib.hid hS
  clear C1 B1 M1 h h1 h2 h3 h4 h5 hS
  go_enter Tryz.func117, Tryz.ntmps117
  go_wp2_with fail
  generalize ((w.alloc (.cells #[.int .i64 V.phase, .int .i64 V.cycle, .int .i64 V.clock, .slice A0 V.globals.length c0, .slice A1 V.gs.length c1, .slice A2 V.objects.length c2, .int .i64 V.grey, .int .i64 V.notes, .int .i64 V.roots] 41)).alloc (.map #[] 0)) = W0 at HB ⊢
  go_loopg [5] (V.objects.length + 1) (fun gk idx wr => Rw1Rel w V.objects w.heap.size (w.heap.size + 1) (vwBox V A0 c0 A1 c1 A2 c2) gk idx wr)
  case atStart => exact ⟨V.objects.length, rfl, by omega, by go_num, by rw [Nat.sub_self]; exact HB.out.2.2, HB.out.2.1, HB.out.1⟩
  case round =>
    obtain ⟨j, rfl, hj, rfl, M, K, C⟩ := hrel
    cases j with
    | succ i =>
      rw [show (((i + 1 : Nat) : Int) - 1) = (i : Int) by omega]
      obtain ⟨o, ho⟩ : ∃ o, V.objects[i]? = some o := ⟨_, List.getElem?_eq_getElem (by omega)⟩
      obtain ⟨b, off, s, eA, hb, i0, i1, i2, hsl, hwf⟩ := (HO.out.chg C (Nat.le_refl _) (by simp)).at_ i o ho
      have hi' : (i : Int) < (V.objects.length : Int) := by omega
      have hi0 : (0 : Int) ≤ (i : Int) := by omega
      have b5 : wr.cell? ⟨w.heap.size, 5, none⟩ = some (.slice A2 V.objects.length c2) := K.cellv 5 rfl
      rw [eA] at b5
      have HX := Lib.hid (And.intro M (And.intro C (And.intro hwf (And.intro (ltF_succ ho) K)))); clear M C K hwf ho hb i1 i2 hsl eA
      go_wp2_with (at_mapUpdate; refine wpList_imap_put rfl _ _ _ rfl HX.out.1 ity rfl rfl HX.out.2.2.1 rfl ⟨by omega, by omega⟩ (by unfold maxLen; omega) ?_; intro w1 M1 C1)
      have HY := Lib.hid (And.intro M1 (And.intro (C1.blk HX.out.2.2.2.2 (by simp)) (HX.out.2.1.new C1 (by intro k hk; have := only1 hk; omega)))); clear M1 C1 b5 i0
      go_wp2_with fail
      go_roundg (i + 1)
      case measure => omega
      case rel => exact ⟨i, rfl, by omega, by go_num, (HY.out.1.ext HX.out.2.2.2.1).mono (by omega), HY.out.2⟩
    | zero =>
      rw [show (((0 : Nat) : Int) - 1) = -1 by rfl]
      rw [ltF_zero] at M
      have HX := Lib.hid (And.intro M (And.intro K C)); clear M K C
      have b5 : wr.cell? ⟨w.heap.size, 5, none⟩ = some (.slice A2 V.objects.length c2) := HX.out.2.1.cellv 5 rfl
      go_upto_region 8 with fail
      have HY := Lib.hid (And.intro (HX.out.1.alloc (.cells (zcells (.bool false) V.objects.length) 4)) (And.intro (HX.out.2.1.alloc (.cells (zcells (.bool false) V.objects.length) 4)) (And.intro (HX.out.2.2.alloc (.cells (zcells (.bool false) V.objects.length) 4)) (And.intro (Blk.new wr 4 (zcells (.bool false) V.objects.length)) HX.out.2.2.size))))
      clear HX b5
      generalize (wr.alloc (.cells (zcells (.bool false) V.objects.length) 4)) = W1 at HY ⊢
      generalize wr.heap.size = bI at HY ⊢
      rw [insA_nil] at HY
      obtain ⟨b0, b1, b2, b3, b4, b5, b6, b7, b8⟩ := VwAt.boxR HY.out.2.1
      go_wp2_with fail
      refine (rroots_ok _ _ V ((HV.out.chg HY.out.2.2.1 (Nat.le_refl _) (by simp)).mono HY.out.2.2.1.size) HSm.out).mono ?_
      rintro e w2 ⟨vr, rfl, Or, Cr, Fr⟩
      obtain ⟨Ar, kr, rfl⟩ := Or.slice
      clear b0 b1 b2 b3 b4 b5 b6 b7 b8
      have hnb : bI ∉ fpv (.slice Ar V.rootsL.length kr) := Or.ne_blk (Cr.blk HY.out.2.2.2.1 (by simp)) (by decide)
      have hnw := Lib.hid HV.out.names_wf
      have N0 : Nms w2 bI (.slice Ar V.rootsL.length kr) V.rootsL := fun W c => (Or.chg c (fun k hk hm => by have := only1 hm; subst this; exact hnb hk)).sl (fun x hx => hnw.out x (by
        have := (mem_rootsL.1 hx).1; unfold Vw.names; exact List.mem_append_left _ this)) (by
          have h1 := len_foldOnce V.said []
          have h2 := HSm.out.n
          unfold Vw.names at h2
          rw [List.length_append] at h2
          simp only [List.length_nil] at h1
          unfold Vw.rootsL maxLen; omega)
      have hrl : V.rootsL.length ≤ 1000000 := by
        have h1 := len_foldOnce V.said []
        have h2 := HSm.out.n
        unfold Vw.names at h2
        rw [List.length_append] at h2
        simp only [List.length_nil] at h1
        unfold Vw.rootsL; omega
      have Q0 : RwM w2 V bI (fun _ => False) [] [] (.slice none 0 0) (.slice none 0 0) w2 := ⟨Chg.refl _ _, Cr.blk HY.out.2.2.2.1 (by simp), RwL.start V, OwnI.nil _ _, OwnI.nil _ _, by simp [fpv, Value.ownBlock], by simp [fpv, Value.ownBlock], by simp [fpv, Value.ownBlock]⟩
      have HZ := Lib.hid (And.intro N0 (And.intro hrl Q0))
      have HW := Lib.hid (And.intro (HY.out.1.chg Cr (by simp)) (And.intro (Cr.blk HY.out.2.1 (by simp)) (And.intro (HY.out.2.2.1.trans Cr) HY.out.2.2.2.2)))
      have hba : w.heap.size + 1 ∉ [bI] := fun hm => by
        have := only1 hm
        exact (HY.out.1.ne_blk HY.out.2.2.2.1) this
      have HBA := Lib.hid (And.intro hba (fun hm => (HY.out.2.1.ne_ HY.out.2.2.2.1 (by decide)) (only1 hm) : w.heap.size ∉ [bI]))
      clear N0 hrl Q0 hnb Or Cr Fr HY hba
      go_wp2_with fail
      go_loopg [7, 8, 9, 10] (V.objects.length + 1) (fun gk v7 v8 v9 idx wr => Rw2Rel w2 V bI gk v7 v8 v9 idx wr)
      case atStart => exact ⟨0, [], [], V.rootsL, _, by omega, by simp, rfl, HZ.out.1, HZ.out.2.1, fun x hx h0 => Rch.root (mem_rootsL.1 hx).1 h0, HZ.out.2.2, fun x hx h0 => .inr (mem_rootsL.2 ⟨hx, h0⟩), fun j p o hj => by omega⟩
      case round =>
        clear HZ
        obtain ⟨k, l0, lost0, names, P, hgk, hk0, rfl, hN, hnl, hnr, M, hcov, hdone⟩ := hrel
        obtain ⟨A9, c9, rfl⟩ := (hN w2 (Chg.refl _ _)).ex
        have HX := Lib.hid (And.intro hN (And.intro hnr (And.intro hcov (And.intro hdone M))))
        clear hN hnr hcov hdone M
        go_wp2_with fail
        obtain ⟨wq, rfl⟩ : ∃ wq : World, wq = wr := ⟨_, rfl⟩
        go_loopg [7, 8, 11] (names.length + 1) (fun gk v7 v8 idx wr => Rw3Rel w2 V bI P l0 names gk v7 v8 idx wr)
        case atStart => exact ⟨0, l0, lost0, [], by omega, by omega, rfl, by simp, HX.out.2.2.2.2.law (HX.out.2.2.2.2.L.congr (fun x h0 h => by simpa using h))⟩
        case round =>
          obtain ⟨i, l, lost, ext, hgk3, hin, rfl, hext, M⟩ := hrel
          obtain ⟨A7, c7, rfl⟩ := M.o7.slice
          obtain ⟨A8, c8, rfl⟩ := M.o8.slice
          have hll := M.L.len
          have hlo := Nat.le_trans M.L.lostLen HSm.out.n
          have hml := plI_len l
          have HM := Lib.hid M
          have HE := Lib.hid (And.intro hext hml)
          clear M hext hml
          by_cases e : i < names.length
          · obtain ⟨x, hx⟩ : ∃ x, names[i]? = some x := ⟨_, List.getElem?_eq_getElem e⟩
            have hsl := HX.out.1 wr HM.out.c
            obtain ⟨b9, o9, rfl, hb9, y0⟩ := hsl.at_ _ _ _ rfl i x hx
            have hw := hsl.wf x (List.mem_of_getElem? hx)
            have hi' : (i : Int) < (names.length : Int) := by omega
            have htk : ∀ y, y ≠ 0 → (P y ∨ y ∈ names.take (i + 1)) → ((P y ∨ y ∈ names.take i) ∨ y = x) := fun y h0 hy => by
              rcases hy with hy | hy
              · exact .inl (.inl hy)
              · rw [take_succ_get hx] at hy
                rcases List.mem_append.1 hy with h1 | h1
                · exact .inl (.inr h1)
                · exact .inr (List.mem_singleton.1 h1)
            have HM1 := Lib.hid (HW.out.1.chg HM.out.c HBA.out.1)
            have HK := Lib.hid (And.intro htk (And.intro hw (HX.out.2.1 x (List.mem_of_getElem? hx))))
            clear hsl hb9 hw htk hx
            by_cases h0 : x = 0
            · have hx0 : (x != 0) = false := by rw [bne_eq_false_iff_eq]; exact h0
              have H0 := Lib.hid h0; clear h0
              go_wp2_with (at_lookup; refine wpList_imap_look rfl _ _ rfl HM1.out ity rfl rfl HK.out.2.1 ?_)
              go_roundg (names.length - i)
              case measure => omega
              case rel => exact ⟨i + 1, l, lost, ext, by omega, by omega, by go_num, HE.out.1, HM.out.law ((HM.out.L.zero H0.out).congr HK.out.1)⟩
            · have hx0 : (x != 0) = true := by rw [bne_iff_ne]; exact h0
              have hr := HK.out.2.2 h0
              cases hat : V.at_ x with
              | none =>
                have hf : atG V x = none := by unfold atG; rw [hat]; rfl
                have HL := Lib.hid ((HM.out.L.lost_ hr hat).congr HK.out.1); clear hat hr h0
                go_wp2_with (at_lookup; refine wpList_imap_nil rfl _ _ rfl HM1.out ity rfl rfl HK.out.2.1 hf ?_)
                refine (put_ok _ _ lost x HM.out.o8 (fun y hy => hnw.out y (HM.out.L.ls y hy).1.named) HK.out.2.1 hlo).mono ?_
                rintro e w3 ⟨v8', rfl, O8, S8⟩
                have HN := Lib.hid (HM.out.put HL.out O8 S8); clear O8 S8 y0
                go_wp2_with fail
                go_roundg (names.length - i)
                case measure => omega
                case rel => exact ⟨i + 1, l, _, ext, by omega, by omega, by go_num, HE.out.1, HN.out⟩
              | some p =>
                have hf : atG V x = some ((p : Int) + 1) := by unfold atG; rw [hat]; rfl
                obtain ⟨o, ho, -⟩ := at_lt hat
                have hpl : p < V.objects.length := (List.getElem?_eq_some_iff.1 ho).1
                have hpl' : (p : Int) < (V.objects.length : Int) := by omega
                have hp0 : (0 : Int) ≤ (p : Int) := by omega
                have hp1 : ((p : Int) + 1 == 0) = false := by rw [beq_eq_false_iff_ne]; omega
                have hp2 : decide ((0 : Int) < (p : Int) + 1) = true := decide_eq_true (by omega)
                have hp3 : (0 : Int) < (p : Int) + 1 := by omega
                obtain ⟨z0, z1⟩ := HM.out.mark hpl
                by_cases hm : p ∈ l
                · rw [decide_eq_true hm] at z0
                  have HL := Lib.hid ((HM.out.L.old hat hm).congr HK.out.1); clear hat hr h0 hm ho
                  go_wp2_with (at_lookup; refine wpList_imap_val rfl _ _ rfl HM1.out ity rfl rfl HK.out.2.1 hf ?_)
                  go_roundg (names.length - i)
                  case measure => omega
                  case rel => exact ⟨i + 1, l, lost, ext, by omega, by omega, by go_num, HE.out.1, HM.out.law HL.out⟩
                · rw [decide_eq_false hm] at z0
                  have HL := Lib.hid ((HM.out.L.new hr hat hm).congr HK.out.1); clear hat hr h0 hm ho
                  go_upto_region 20 with (at_lookup; refine wpList_imap_val rfl _ _ rfl HM1.out ity rfl rfl HK.out.2.1 hf ?_)
                  have O7 : OwnI 3 (wr.setCell ⟨bI, p, none⟩ (.bool true)) (.slice A7 (plI l).length c7) (plI l) := HM.out.own7
                  obtain ⟨W3, hW3⟩ : ∃ W3, W3 = wr.setCell ⟨bI, p, none⟩ (.bool true) := ⟨_, rfl⟩
                  rw [← hW3] at O7 ⊢
                  have HW3 := Lib.hid (And.intro hW3 O7); clear hW3 O7
                  go_wp2_with (at_builtin; refine wpList_push_int rfl _ _ rfl slty rfl HW3.out.2 rfl (by have := HE.out.2; omega) ?_)
                  intro A' c' w3 O3 S3
                  rw [HW3.out.1] at S3
                  have HN := Lib.hid (HM.out.new hpl HL.out (by rw [plI_snoc]; exact O3) S3); clear O3 S3 y0 z0 z1
                  go_wp2_with fail
                  go_roundg (names.length - i)
                  case measure => omega
                  case rel => exact ⟨i + 1, l ++ [p], lost, ext ++ [p], by omega, by omega, by go_num, by rw [HE.out.1, List.append_assoc], HN.out⟩
          · have e2 : names.length = i := by omega
            have hi' : ¬ (i : Int) < (names.length : Int) := by omega
            have htk : names.take i = names := by rw [← e2, List.take_length]
            have HT := Lib.hid htk; clear htk hgk3 hin e e2
            by_cases hkl : k < l.length
            · have hkl' : ¬ (plI l).length ≤ k := by rw [plI_len]; omega
              have hkl2 : decide ((plI l).length ≤ k) = false := decide_eq_false hkl'
              obtain ⟨p, hp⟩ : ∃ p, l[k]? = some p := ⟨_, List.getElem?_eq_getElem hkl⟩
              obtain ⟨g7, rfl, y0, -, -⟩ := HM.out.o7.cell (plI_get hp)
              obtain ⟨a, har, hat⟩ := HM.out.L.so p (List.mem_of_getElem? hp)
              obtain ⟨o, ho, -⟩ := at_lt hat
              obtain ⟨b, off, s, eA, hbb, i0, i1, i2, hsl, hwa⟩ := HO.out.at_ p o ho
              obtain ⟨As, cs, rfl⟩ := hsl.ex
              have hpl : (p : Int) < (V.objects.length : Int) := by have := (List.getElem?_eq_some_iff.1 ho).1; omega
              have hp0 : (0 : Int) ≤ (p : Int) := by omega
              have hk0' : (0 : Int) ≤ (k : Int) := by omega
              have hkp : (k : Int) < ((plI l).length : Int) := by omega
              have c2w : Chg [bI] w wr := (HW.out.2.2.1.mono (by simp)).trans HM.out.c
              have hbI := HW.out.2.2.2
              have j1 := c2w.cellv hbb (fun hm => by have := only1 hm; omega) i1
              have b5 : wr.cell? ⟨w.heap.size, 5, none⟩ = some (.slice A2 V.objects.length c2) := (HM.out.c.blk HW.out.2.1 HBA.out.2).cellv 5 rfl
              rw [eA] at b5
              have HQ := Lib.hid (And.intro hp (And.intro ho (And.intro hsl (And.intro har hat))))
              clear hp ho hsl har hat i0 i1 i2 hwa eA c2w hbb
              go_wp2_with fail
              go_quiet (fail)
              go_wp2_with fail
              have hcb : Chg [bI] w w2 := HW.out.2.2.1.mono (by simp)
              go_roundg (V.objects.length - k)
              case measure => omega
              case rel =>
                refine ⟨k + 1, l, lost, o.slots, fun y => P y ∨ y ∈ names, by omega, by omega, by go_num, fun W c => ((HQ.out.2.2.1.chg (hcb.trans c) (Nat.le_refl _) (fun k hk => by rw [only1 hk]; exact hbI)).mono (hcb.trans c).size), slots_le HSm.out HQ.out.2.1, fun y hy h0 => Rch.step HQ.out.2.2.2.1 HQ.out.2.2.2.2 HQ.out.2.1 hy h0, (HM.out.law (HM.out.L.congr fun y _ hy => by rw [HT.out]; exact hy)).drew _, fun y hy h0 => .inl (HX.out.2.2.1 y hy h0), fun j q o' hj hjq ho' y hy h0 => ?_⟩
                by_cases hjk : j < k
                · rw [HE.out.1, List.getElem?_append_left (by omega)] at hjq
                  exact .inl (HX.out.2.2.2.1 j q o' hjk hjq ho' y hy h0)
                · have e : j = k := by omega
                  subst e
                  have e1 := HQ.out.1.symm.trans hjq
                  injection e1 with e1
                  subst e1
                  have e2 := HQ.out.2.1.symm.trans ho'
                  injection e2 with e2
                  subst e2
                  exact .inr hy
            · have hkl2 : decide ((plI l).length ≤ k) = true := decide_eq_true (by rw [plI_len]; omega)
              have hkl3 : (plI l).length ≤ k := by rw [plI_len]; omega
              go_wp2_with fail
              go_ret2
              have hl0 : l = l0 := by
                have h1 := congrArg List.length HE.out.1
                rw [List.length_append] at h1
                have : ext = [] := List.eq_nil_of_length_eq_zero (by omega)
                rw [HE.out.1, this, List.append_nil]
              have hL := HM.out.L
              rw [HT.out] at hL
              obtain ⟨q1, q2⟩ := hL.fin HX.out.2.2.1 (fun p hp o ho x hx h0 => by
                obtain ⟨j, hj⟩ := List.getElem?_of_mem hp
                have hjl := (List.getElem?_eq_some_iff.1 hj).1
                rw [hl0] at hj
                exact HX.out.2.2.2.1 j p o (by omega) hj ho x hx h0)
              have hbI := HW.out.2.2.2
              exact ⟨_, _, l, lost, rfl, q1, q2, HM.out.o7, HM.out.o8, HW.out.2.2.1.new HM.out.c (fun k hk => by rw [only1 hk]; exact hbI), fun k hk => Nat.le_trans HW.out.2.2.1.size (HM.out.f7 k hk), fun k hk => Nat.le_trans HW.out.2.2.1.size (HM.out.f8 k hk)⟩
def putsL (xs : List Int) : List Int := xs.foldl putL []
theorem putsL_snoc (xs : List Int) (x : Int) : putsL (xs ++ [x]) = putL (putsL xs) x := by simp [putsL]
theorem foldPut : ∀ (xs l : List Int), Rising l → Rising (xs.foldl putL l) ∧ (∀ y, y ∈ xs.foldl putL l ↔ y ∈ l ∨ y ∈ xs) ∧ (xs.foldl putL l).length ≤ l.length + xs.length
  | [], l, h => ⟨h, by simp, by simp⟩
  | x :: xs, l, h => by
    obtain ⟨h1, h2, h3⟩ := foldPut xs (putL l x) (rising_putLV h)
    refine ⟨h1, fun y => ?_, ?_⟩
    · rw [List.foldl_cons, h2, mem_putL, List.mem_cons, or_assoc]
    · have := len_putL l x; simp only [List.foldl_cons, List.length_cons]; omega
theorem putsL_rising (xs : List Int) : Rising (putsL xs) := (foldPut xs [] List.Pairwise.nil).1
theorem mem_putsL {xs : List Int} {y : Int} : y ∈ putsL xs ↔ y ∈ xs := by unfold putsL; rw [(foldPut xs [] List.Pairwise.nil).2.1]; simp
theorem putsL_len (xs : List Int) : (putsL xs).length ≤ xs.length := by have := (foldPut xs [] List.Pairwise.nil).2.2; simpa [putsL] using this
def rcX (V : Vw) (l : List Nat) (i : Nat) : List Int := ((List.range i).filter fun p => decide (p ∈ l)).map (addrAt V)
theorem mem_rcX {V : Vw} {l : List Nat} {i : Nat} {x : Int} : x ∈ rcX V l i ↔ ∃ p, p < i ∧ p ∈ l ∧ addrAt V p = x := by
  unfold rcX
  simp [List.mem_map, List.mem_filter, and_assoc]
theorem rcX_rch {V : Vw} {l : List Nat} (h : IsPls V l) : IsRch V (putsL (rcX V l V.objects.length)) :=
  isRch_of_pls h (putsL_rising _) fun x => by
    rw [mem_putsL, mem_rcX]
    constructor
    · rintro ⟨p, _, h1, h2⟩; exact ⟨p, h1, h2⟩
    · rintro ⟨p, h1, h2⟩
      obtain ⟨o, ho, _⟩ := h.lt h1
      exact ⟨p, (List.getElem?_eq_some_iff.1 ho).1, h1, h2⟩
def mkP (V : Vw) (p : Nat) : Bool := match V.objects[p]? with | some o => o.marked | none => false
theorem mkP_of {V : Vw} {p : Nat} {o : Ob} (h : V.objects[p]? = some o) : mkP V p = o.marked := by unfold mkP; rw [h]
def whX (V : Vw) (l : List Nat) : List Int := (l.filter fun p => !mkP V p).map (addrAt V)
theorem whX_yes {V : Vw} {l : List Nat} {p : Nat} {o : Ob} (h : o.marked = false) (ho : V.objects[p]? = some o) : whX V (l ++ [p]) = whX V l ++ [o.addr] := by
  unfold whX; rw [List.filter_append, List.map_append]; simp [mkP_of ho, h, addrAt_of ho]
theorem whX_no {V : Vw} {l : List Nat} {p : Nat} {o : Ob} (h : o.marked = true) (ho : V.objects[p]? = some o) : whX V (l ++ [p]) = whX V l := by
  unfold whX; rw [List.filter_append, List.map_append]; simp [mkP_of ho, h]
theorem whX_len (V : Vw) (l : List Nat) : (whX V l).length ≤ l.length := by
  unfold whX
  rw [List.length_map]
  exact List.length_filter_le _ _
theorem whX_white {V : Vw} {l : List Nat} (h : IsPls V l) : putsL (whX V l) = whiteL V (putsL (rcX V l V.objects.length)) := by
  have hr := rcX_rch h
  refine rising_uniq (putsL_rising _) (List.Pairwise.filter _ (putsL_rising _)) fun x => ?_
  unfold whiteL
  rw [mem_putsL, List.mem_filter, mem_putsL, mem_rcX]
  unfold whX
  rw [List.mem_map]
  constructor
  · rintro ⟨p, hp, rfl⟩
    obtain ⟨h1, h2⟩ := List.mem_filter.1 hp
    obtain ⟨o, ho, ha, _⟩ := h.lt h1
    refine ⟨⟨p, (List.getElem?_eq_some_iff.1 ho).1, h1, rfl⟩, ?_⟩
    rw [addrAt_of ho, markedAt_of ha ho]
    rw [mkP_of ho] at h2; exact h2
  · rintro ⟨⟨p, _, h1, rfl⟩, h2⟩
    obtain ⟨o, ho, ha, _⟩ := h.lt h1
    rw [addrAt_of ho, markedAt_of ha ho] at h2
    exact ⟨p, List.mem_filter.2 ⟨h1, by rw [mkP_of ho]; exact h2⟩, rfl⟩
theorem take_succ_nat {L : List Nat} {i a : Nat} (h : L[i]? = some a) : L.take (i + 1) = L.take i ++ [a] := by
  obtain ⟨hi, rfl⟩ := List.getElem?_eq_some_iff.1 h
  exact List.take_succ_eq_append_getElem hi
theorem IsPls.len {V : Vw} {l : List Nat} (h : IsPls V l) : l.length ≤ V.objects.length := nodup_lt h.nd fun p hp => by
  obtain ⟨o, ho, _⟩ := h.lt hp
  exact (List.getElem?_eq_some_iff.1 ho).1
def Ra1Rel (w0 : World) (n : Nat) (bI : Nat) (l : List Nat) (gk : Nat) (idx : Value) (w : World) : Prop :=
  ∃ i, gk + i = l.length + 1 ∧ i ≤ l.length ∧ idx = .int .i64 (i : Nat) ∧ Blk w bI 4 (insA n (l.take i)) ∧ Chg [bI] w0 w
def Ra2Rel (w0 : World) (V : Vw) (l : List Nat) (gk : Nat) (v idx : Value) (w : World) : Prop :=
  ∃ i, gk + i = V.objects.length + 1 ∧ i ≤ V.objects.length ∧ idx = .int .i64 (i : Nat) ∧ OwnI 3 w v (putsL (rcX V l i)) ∧ Chg [] w0 w ∧ ∀ k ∈ fpv v, w0.heap.size ≤ k
def Ra3Rel (w0 : World) (V : Vw) (l : List Nat) (gk : Nat) (v idx : Value) (w : World) : Prop :=
  ∃ i, gk + i = l.length + 1 ∧ i ≤ l.length ∧ idx = .int .i64 (i : Nat) ∧ OwnI 3 w v (putsL (whX V (l.take i))) ∧ Chg [] w0 w ∧ ∀ k ∈ fpv v, w0.heap.size ≤ k
theorem addr_wf {V : Vw} {w : World} {B : Nat} {v : Value} (h : VwAt w B v V) : ∀ (p : Nat) (o : Ob), V.objects[p]? = some o → WfI o.addr := fun p o ho => by
  obtain ⟨g, A1, c1, A2, c2, _, _, _, h3, _, _⟩ := h.ex
  obtain ⟨b, off, s, _, _, _, _, _, _, hwa⟩ := h3.at_ p o ho
  exact hwa
theorem rlost_ok (w : World) (v : Value) (V : Vw) (h : VwAt w w.heap.size v V) (hS : Small V) : Calls Tryz.prog 69 #[v] w (LostPost V w) := by
  have HV := Lib.hid h
  obtain ⟨g, A1, c1, A2, c2, rfl, h1, h2, h3, h4, h5⟩ := h.ex
  obtain ⟨A0, c0, rfl⟩ := h1.ex
  have C1 := (Chg.refl [] w).alloc (.cells (vwBox V A0 c0 A1 c1 A2 c2) 41)
  have B1 := Blk.new w 41 (vwBox V A0 c0 A1 c1 A2 c2)
  have HB := Lib.hid (And.intro C1 B1); clear C1 B1 h h1 h2 h3 h4 h5
  go_enter Tryz.func69, Tryz.ntmps69
  obtain ⟨b0, b1, b2, b3, b4, b5, b6, b7, b8⟩ := VwAt.boxR HB.out.2
  go_wp2_with fail
  refine (rwalk_ok _ _ V ((HV.out.chg HB.out.1 (Nat.le_refl _) (by simp)).mono HB.out.1.size) hS).mono ?_
  rintro e w1 ⟨v7, v8, l, lost, rfl, q1, q2, O7, O8, C2, F7, F8⟩
  have HC := Lib.hid (And.intro q2 (And.intro O8 (And.intro (HB.out.1.trans C2) (fun k hk => Nat.le_trans HB.out.1.size (F8 k hk))))); clear q1 q2 O7 O8 C2 F7 F8 b0 b1 b2 b3 b4 b5 b6 b7 b8
  go_wp2_with fail
  go_ret
  exact ⟨lost, HC.out.1, _, rfl, HC.out.2⟩
theorem rwhite_ok (w : World) (v : Value) (V : Vw) (h : VwAt w w.heap.size v V) (hS : Small V) : Calls Tryz.prog 73 #[v] w (WhitePost V w) := by
  have HV := Lib.hid h
  obtain ⟨g, A1, c1, A2, c2, rfl, h1, h2, h3, h4, h5⟩ := h.ex
  obtain ⟨A0, c0, rfl⟩ := h1.ex
  have hb5 : V.objects.length ≤ 1000000 := hS.o
  have C1 := (Chg.refl [] w).alloc (.cells (vwBox V A0 c0 A1 c1 A2 c2) 41)
  have B1 := Blk.new w 41 (vwBox V A0 c0 A1 c1 A2 c2)
  have HB := Lib.hid (And.intro C1 B1)
  have HO := Lib.hid h3; clear C1 B1 h h1 h2 h3 h4 h5
  go_enter Tryz.func73, Tryz.ntmps73
  obtain ⟨b0, b1, b2, b3, b4, b5, b6, b7, b8⟩ := VwAt.boxR HB.out.2
  go_wp2_with fail
  refine (rwalk_ok _ _ V ((HV.out.chg HB.out.1 (Nat.le_refl _) (by simp)).mono HB.out.1.size) hS).mono ?_
  rintro e w1 ⟨v7, v8, l, lost, rfl, q1, q2, O7, O8, C2, F7, F8⟩
  obtain ⟨A7, c7, rfl⟩ := O7.slice
  obtain ⟨A8, c8, rfl⟩ := O8.slice
  have hll := q1.len
  have HC := Lib.hid (And.intro q1 (And.intro O7 (And.intro (HB.out.1.trans C2) (C2.blk HB.out.2 (by simp))))); clear q1 q2 O7 O8 C2 F7 F8 b0 b1 b2 b3 b4 b5 b6 b7 b8 HB
  have hpl := plI_len l
  have HPL := Lib.hid hpl; clear hpl
  go_wp2_with fail
  go_loopg [5, 6] (l.length + 1) (fun gk v idx wr => Ra3Rel w1 V l gk v idx wr)
  case atStart => exact ⟨0, by omega, by omega, rfl, OwnI.nil _ _, Chg.refl _ _, by simp [fpv, Value.ownBlock]⟩
  case round =>
    obtain ⟨i, hgk, hin, rfl, O, C, F⟩ := hrel
    have hrl := Nat.le_trans (putsL_len _) (whX_len V (l.take i))
    have htl : (l.take i).length ≤ l.length := by simp; omega
    obtain ⟨Ao, co, rfl⟩ := O.slice
    by_cases e : i < l.length
    · obtain ⟨p, hp⟩ : ∃ p, l[i]? = some p := ⟨_, List.getElem?_eq_getElem e⟩
      obtain ⟨g7, rfl, y0, -, -⟩ := (HC.out.2.1.chg0 C).cell (plI_get hp)
      obtain ⟨o, ho, -⟩ := HC.out.1.lt (List.mem_of_getElem? hp)
      have hpn := (List.getElem?_eq_some_iff.1 ho).1
      have hpn' : (p : Int) < (V.objects.length : Int) := by omega
      have hp0 : (0 : Int) ≤ (p : Int) := by omega
      have hi' : (i : Int) < ((plI l).length : Int) := by rw [plI_len]; omega
      have hi0 : (0 : Int) ≤ (i : Int) := by omega
      have CC := HC.out.2.2.1.trans C
      obtain ⟨b, off, s, eA, hbb, i0, i1, i2, hsl, hwa⟩ := (HO.out.chg CC (Nat.le_refl _) (by simp)).at_ p o ho
      have b5 : wr.cell? ⟨w.heap.size, 5, none⟩ = some (.slice A2 V.objects.length c2) := (C.blk HC.out.2.2.2 (by simp)).cellv 5 rfl
      rw [eA] at b5
      have htk := take_succ_nat hp
      have HZ := Lib.hid (And.intro O (And.intro C (And.intro F (And.intro ho htk)))); clear O C F CC i1 hsl hbb hp htk eA ho
      cases hm : o.marked with
      | false =>
        rw [hm] at i2
        have HM := Lib.hid hm; clear hm
        have hwx : ∀ y ∈ putsL (whX V (l.take i)), WfI y := fun y hy => by
          obtain ⟨q, hq, rfl⟩ := List.mem_map.1 (mem_putsL.1 hy)
          obtain ⟨o', ho', _⟩ := HC.out.1.lt (List.mem_of_mem_take (List.mem_filter.1 hq).1)
          rw [addrAt_of ho']; exact addr_wf HV.out q o' ho'
        have HWX := Lib.hid (And.intro hwx hwa); clear hwx hwa
        go_wp2_with fail
        go_quiet (fail)
        go_wp2_with fail
        have b5' : (wr.drewN nq).cell? ⟨w.heap.size, 5, none⟩ = some (.slice (some ⟨b, off, none⟩) V.objects.length c2) := b5
        have y0' : (wr.drewN nq).cell? ⟨g7, i, none⟩ = some (.int .i64 (p : Int)) := y0
        have i0' : (wr.drewN nq).cell? ⟨b, off + p * 3, none⟩ = some (.int .i64 o.addr) := i0
        have HD := Lib.hid (And.intro (HZ.out.1.drewN nq) (HZ.out.2.1.drewN nq))
        clear b5 y0 i0 i2
        generalize wr.drewN nq = wd at b5' y0' i0' HD ⊢
        go_upto_region 7 with fail
        go_still_tail 10, (by kernel_rfl)
        go_wp2_with fail
        refine (put_ok _ _ _ o.addr HD.out.1.drew HWX.out.1 HWX.out.2 (by omega)).mono ?_
        rintro e w3 ⟨v', rfl, O3, S3⟩
        have HN := stp_new HD.out.2.drew HZ.out.2.2.1 S3
        have HQ := Lib.hid (And.intro O3 HN); clear O3 S3 HN b5' y0' i0' HD
        go_wp2_with fail
        go_roundg (l.length - i)
        case measure => omega
        case rel => exact ⟨i + 1, by omega, by omega, by go_num, by rw [HZ.out.2.2.2.2, whX_yes HM.out HZ.out.2.2.2.1, putsL_snoc]; exact HQ.out.1, HQ.out.2⟩
      | true =>
        rw [hm] at i2
        have HM := Lib.hid hm; clear hm
        go_wp2_with fail
        go_quiet (fail)
        go_wp2_with fail
        go_roundg (l.length - i)
        case measure => omega
        case rel => exact ⟨i + 1, by omega, by omega, by go_num, by rw [HZ.out.2.2.2.2, whX_no HM.out HZ.out.2.2.2.1]; exact HZ.out.1.drewN _, HZ.out.2.1.drewN _, HZ.out.2.2.1⟩
    · have e2 : l.length = i := by omega
      have e3 : l.take i = l := by rw [← e2, List.take_length]
      have hi' : ¬ (i : Int) < ((plI l).length : Int) := by rw [plI_len]; omega
      have HE := Lib.hid e3
      have HZ := Lib.hid (And.intro O (And.intro C F)); clear O C F e2 hgk e hrl hin htl e3
      go_wp2_with fail
      go_ret
      have hr := rcX_rch HC.out.1
      have hq := whX_white HC.out.1
      exact ⟨_, hr, _, rfl, by rw [← hq]; have := HZ.out.1; rw [HE.out] at this ⊢; exact this, HC.out.2.2.1.trans HZ.out.2.1, fun k hk => Nat.le_trans HC.out.2.2.1.size (HZ.out.2.2 k hk)⟩
end Go.Proofs.YtcpljjacamibeaaGreatDoor
