/- Package central: Del. -/
/- Package central: Put. -/
import Derived.Test.YtcnchgbngcnijaaGreatDoorMCa
import Derived.Deep.RegionHeld3
import Derived.Deep.RegionLaw
import Derived.Deep.DeepCutAuto
namespace Go.Proofs.YtcnchgbngcnijaaGreatDoor
open Go.RowKit Go.Maps

theorem OwnI.slice' {E : TypeId} {w : World} {v : Value} {xs : List Int} (h : OwnI E w v xs) : ∃ A n c, v = .slice A n c := by
  obtain ⟨A, c, e⟩ := h.slice
  exact ⟨A, _, c, e⟩
/-- The first row, in their order, in which a span stands: out of it. -/
def delR (r : Nat → List Nat) (id j : Nat) : Nat → List Nat := updV r j ((r j).erase id)
def DlPost (gc gl : Nat) (v : Nat → Value) (r : Nat → List Nat) (id : Nat) (w : World) (e : Ending) (w' : World) : Prop :=
  ((∀ j, j < 64 → id ∉ r j) ∧ e = .returned (.bool false) ∧ Chg [] w w') ∨ ∃ j, j < 64 ∧ id ∈ r j ∧ (∀ i, i < j → id ∉ r i) ∧ e = .returned (.bool true) ∧ CeTo gc gl v (delR r id j) w w'
def DlRel (w0 : World) (r : Nat → List Nat) (id d n base gk : Nat) (idx : Value) (w : World) : Prop :=
  ∃ i, gk + i = n + 1 ∧ i ≤ n ∧ idx = .int .i64 (i : Nat) ∧ (∀ j, j < base + i * d → id ∉ r j) ∧ w = w0
theorem ix_nat {l : List Nat} {x : Nat} {q : Int} (h : LixSays (intsN l) (x : Nat) q) : (q = -1 ∧ x ∉ l) ∨ ∃ i : Nat, q = i ∧ i < l.length ∧ x ∈ l ∧ l.erase x = l.take i ++ l.drop (i + 1) := by
  have hm : ∀ {m : List Nat}, ((x : Nat) : Int) ∈ intsN m ↔ x ∈ m := fun {m} => by
    unfold intsN
    rw [List.mem_map]
    constructor
    · rintro ⟨y, hy, e⟩; have : y = x := by omega
      rw [← this]; exact hy
    · intro h; exact ⟨x, h, rfl⟩
  rcases h with ⟨rfl, h⟩ | ⟨i, rfl, hi, hn⟩
  · exact .inl ⟨rfl, fun h' => h (hm.2 h')⟩
  · have hx : l[i]? = some x := by
      unfold intsN at hi
      rw [List.getElem?_map] at hi
      cases e : l[i]? with
      | none => rw [e] at hi; cases hi
      | some y => rw [e] at hi; have : ((y : Nat) : Int) = x := by simpa using hi
                  have : y = x := by omega
                  rw [this]
    have hlt := (List.getElem?_eq_some_iff.1 hx).1
    have hn2 : x ∉ l.take i := fun h' => hn (by
      have : (intsN l).take i = intsN (l.take i) := by unfold intsN; rw [List.map_take]
      rw [this]; exact hm.2 h')
    refine .inr ⟨i, rfl, hlt, List.mem_of_getElem? hx, ?_⟩
    conv => lhs; rw [← List.take_append_drop i l]
    rw [List.erase_append_right _ hn2]
    congr 1
    have hd : l.drop i = x :: l.drop (i + 1) := by
      obtain ⟨_, e⟩ := List.getElem?_eq_some_iff.1 hx
      rw [← e]; exact List.drop_eq_getElem_cons hlt
    rw [hd, List.erase_cons_head]
set_option maxHeartbeats 6400000 in
set_option maxRecDepth 100000 in
theorem cdel_ok (w : World) (gc gl : Nat) (v : Nat → Value) (r : Nat → List Nat) (I : IsCe w gc gl v r) (id : Nat) (hid : id ≤ 1000000) (hl : ∀ j, (r j).length ≤ 100000) (hx : ∀ j, ∀ x ∈ r j, x ≤ 1000000) : Calls Tryz.prog 84 #[.pointer (some ⟨gc, 0, none⟩), .int .i64 (id : Nat)] w (DlPost gc gl v r id w) := by
  have b0 : w.cell? ⟨gc, 0, none⟩ = some (.slice (some ⟨gl, 0, none⟩) 16 16) := I.b.cellv 0 rfl
  have HI := Lib.hid (And.intro I (And.intro hl hx))
  clear I hl hx
  go_enter Tryz.func84, Tryz.ntmps84
  go_wp2_with fail
  go_loopg [17] 17 (fun gk idx wr => DlRel w r id 4 16 0 gk idx wr)
  case atStart => exact ⟨0, by omega, by omega, rfl, fun j hj => by omega, rfl⟩
  case round =>
    obtain ⟨k, hgk, hk, rfl, hno, hw⟩ := hrel
    subst hw
    by_cases ek : k < 16
    · have hk' : (k : Int) < 16 := by omega
      have hk0 : (0 : Int) ≤ (k : Int) := by omega
      have HN := Lib.hid hno; clear hno
      go_wp2_with fail
      go_loopg [20] 3 (fun gk idx wr' => DlRel wr r id 2 2 (k * 4) gk idx wr')
      case atStart => exact ⟨0, by omega, by omega, rfl, fun j hj => HN.out j (by omega), rfl⟩
      case round =>
        obtain ⟨u, hgu, hu, rfl, hno, hw⟩ := hrel
        subst hw
        by_cases eu : u < 2
        · have hu' : (u : Int) < 2 := by omega
          have hu0 : (0 : Int) ≤ (u : Int) := by omega
          have HU := Lib.hid hno; clear hno
          go_wp2_with fail
          go_loopg [23] 3 (fun gk idx wr' => DlRel wr r id 1 2 (k * 4 + u * 2) gk idx wr')
          case atStart => exact ⟨0, by omega, by omega, rfl, fun j hj => HU.out j (by omega), rfl⟩
          case round =>
            obtain ⟨f, hgf, hf, rfl, hno, hw⟩ := hrel
            subst hw
            by_cases ef : f < 2
            · have hf' : (f : Int) < 2 := by omega
              have hf0 : (0 : Int) ≤ (f : Int) := by omega
              have hj : k * 4 + u * 2 + f < 64 := by omega
              have c1 := HI.out.1.cell hj
              have HF := Lib.hid hno; clear hno
              go_wp2_with fail
              refine (lindex_ok wr (v (k * 4 + u * 2 + f)) (intsN (r (k * 4 + u * 2 + f))) (id : Nat) (HI.out.1.o _ hj).rd).mono ?_
              rintro e w1 ⟨q, hq, rfl, rfl⟩
              obtain ⟨j, hjj⟩ : ∃ j, j = k * 4 + u * 2 + f := ⟨_, rfl⟩
              rcases ix_nat hq with ⟨rfl, hnot⟩ | ⟨i, rfl, hi, hin, her⟩
              · have HM := Lib.hid (And.intro hnot hjj); clear hq hnot hjj c1
                go_wp2_with fail
                go_roundg (2 - f)
                case measure => omega
                case rel => exact ⟨f + 1, by omega, by omega, by go_num, fun j' hj' => by
                  rcases Nat.lt_or_ge j' (k * 4 + u * 2 + f) with g1 | g1
                  · exact HF.out j' (by omega)
                  · have : j' = k * 4 + u * 2 + f := by omega
                    rw [this]; exact HM.out.1, rfl⟩
              · have O := HI.out.1.o _ hj
                have hll := HI.out.2.1 (k * 4 + u * 2 + f)
                obtain ⟨A, c, hv⟩ : ∃ A c, v (k * 4 + u * 2 + f) = .slice A (r (k * 4 + u * 2 + f)).length c := by
                  obtain ⟨A, c, h⟩ := O.slice
                  exact ⟨A, c, by rw [h]; unfold intsN; rw [List.length_map]⟩
                have hxi : (intsN (r (k * 4 + u * 2 + f)))[i]? = some ((r (k * 4 + u * 2 + f))[i] : Int) := by unfold intsN; rw [List.getElem?_map, List.getElem?_eq_getElem hi]; rfl
                have O2 := O
                rw [hv] at O2 c1 ⊢
                obtain ⟨g, rfl, -⟩ := O2.cell hxi
                have hcap := O2.cap
                have hsl := O2.sl (fun y hy => by
                  unfold intsN at hy
                  obtain ⟨y', hy', rfl⟩ := List.mem_map.1 hy
                  have := HI.out.2.2 _ y' hy'
                  unfold WfI; omega) (by unfold intsN maxLen; rw [List.length_map]; omega)
                have hlen : (intsN (r (k * 4 + u * 2 + f))).length = (r (k * 4 + u * 2 + f)).length := by unfold intsN; rw [List.length_map]
                rw [hlen] at hcap
                obtain ⟨n, hn⟩ : ∃ n, n = (r (k * 4 + u * 2 + f)).length := ⟨_, rfl⟩
                rw [← hn] at hi hcap hll hv hsl O2 c1 ⊢
                have HO := Lib.hid (And.intro hin (And.intro her (And.intro hv (And.intro hsl (And.intro hlen hn))))); clear hq hin her hv hsl O O2 hxi hlen hn hjj
                have hF := HI.out.1.l.frozen (k * 4 + u * 2 + f)
                have hne := HI.out.1.ne
                have d1 : (0 : Int) ≤ (i : Int) := by omega
                have d2 : (i : Int) ≤ (c : Int) := by omega
                have d3 : (i : Int) + 1 ≤ (n : Int) := by omega
                have d4 : (0 : Int) ≤ (i : Int) + 1 := by omega
                have d5 : (n : Int) ≤ (c : Int) := by omega
                have d6 : ((i : Int) + 1).toNat = i + 1 := by omega
                have d7 : (n : Int) - ((i : Int) + 1) = ((n - (i + 1) : Nat) : Int) := by omega
                have d8 : IntKind.i64.wrap ((i : Int) + 1) = (i : Int) + 1 := by rw [IntKind.wrap_i64]; omega
                by_cases hci : c = i + 1
                · obtain rfl : c = n := by omega
                  obtain rfl : c = i + 1 := hci
                  have e1 : (i : Int) ≤ (i : Int) + 1 := by omega
                  have e2 : (i : Int) ≤ ((i + 1 : Nat) : Int) := by omega
                  go_upto_region 15 with fail
                  have hgcl := HI.out.1.b.lt
                  have k1 : Chg [] w1 w1.drew := (Chg.refl [] w1).drew
                  have hsz : w1.heap.size ≤ w1.heap.size := Nat.le_refl _
                  go_region_held3 (fun w' => w'.cell? ⟨gc, 0, none⟩ = some (.slice (some ⟨gl, 0, none⟩) 16 16)) (first | (go_keep; done) | exact Blk.cellv (Blk.far (Chg.blk (by assumption : Chg [] w1 _) HI.out.1.b (by simp)) hne _) 0 rfl | (refine Chg.cellv (S := []) (a := w1) ?_ hgcl (by simp) b0; repeat (first | assumption | exact Chg.refl [] w1 | refine Chg.drew ?_ | refine Chg.alloc ?_ _)))
                    (first
                      | (go_at_call 128; refine (lconcat_ok _ _ _ _ ((intsN (r (k * 4 + u * 2 + f))).take i) [] (by first | exact (Blk.new _ _ _).drew | exact Blk.new _ _ _) (SlI.mono ((SlI.take HO.out.2.2.2.1 (by rw [HO.out.2.2.2.2.1]; omega)).chg (by repeat (first | assumption | exact Chg.refl [] w1 | refine Chg.drew ?_ | refine Chg.alloc ?_ _) : Chg [] w1 _) hsz (by simp)) (by simp)) (SlI.none_ _ _ _ _) (by rw [List.length_take]; omega) (by simp)).mono ?_; rintro e w' ⟨vn, rfl, On, cn, fn⟩; obtain ⟨An, N1, kn, rfl⟩ := On.slice'; have D : Chg [] w1 w' := Chg.trans (by repeat (first | assumption | exact Chg.refl [] w1 | refine Chg.drew ?_ | refine Chg.alloc ?_ _)) cn; have z1 : w'.cell? ⟨gc, 0, none⟩ = some (.slice (some ⟨gl, 0, none⟩) 16 16) := D.cellv hgcl (by simp) b0; have z2 : w'.cell? ⟨gl, k * 4 + u * 2 + f, none⟩ = some (.slice (some ⟨g, 0, none⟩) (i + 1) (i + 1)) := D.cellv HI.out.1.l.lt (by simp) c1; have z3 : w'.frozen? ⟨gl, k * 4 + u * 2 + f, none⟩ = false := (D.blk HI.out.1.l (by simp)).frozen _))
                  have e9 : intsN ((r (k * 4 + u * 2 + f)).erase id) = (intsN (r (k * 4 + u * 2 + f))).take i ++ [] := by
                    rw [HO.out.2.1]; unfold intsN; rw [List.map_append, List.map_take, List.map_drop]
                    congr 1
                    rw [List.drop_eq_nil_of_le]
                    rw [List.length_map, ← HO.out.2.2.2.2.2]; exact Nat.le_refl _
                  have T := CeTo.set HI.out.1 hj (w := w1) (w' := w') (xs := (r (k * 4 + u * 2 + f)).erase id) ⟨D.mono (by simp), fun k hk => .inr (by have := fn k hk; simp at this; omega)⟩ (by rw [e9]; exact On)
                  have HT := Lib.hid T; clear T On cn fn D z1 z2 z3 e9
                  go_wp2_with fail
                  go_ret
                  exact .inr ⟨_, hj, HO.out.1, fun i' hi' => HF.out i' (by omega), rfl, HT.out⟩
                · have d9 : ¬ c = i + 1 := hci
                  go_upto_region 15 with fail
                  have hgcl := HI.out.1.b.lt
                  have k1 : Chg [] w1 w1.drew := (Chg.refl [] w1).drew
                  have hsz : w1.heap.size ≤ w1.heap.size := Nat.le_refl _
                  go_region_held3 (fun w' => w'.cell? ⟨gc, 0, none⟩ = some (.slice (some ⟨gl, 0, none⟩) 16 16)) (first | (go_keep; done) | exact Blk.cellv (Blk.far (Chg.blk (by assumption : Chg [] w1 _) HI.out.1.b (by simp)) hne _) 0 rfl | (refine Chg.cellv (S := []) (a := w1) ?_ hgcl (by simp) b0; repeat (first | assumption | exact Chg.refl [] w1 | refine Chg.drew ?_ | refine Chg.alloc ?_ _)))
                    (first
                      | (go_at_call 128; refine (lconcat_ok _ _ _ _ ((intsN (r (k * 4 + u * 2 + f))).take i) ((intsN (r (k * 4 + u * 2 + f))).drop (i + 1)) (by first | exact (Blk.new _ _ _).drew | exact Blk.new _ _ _) (SlI.mono ((SlI.take HO.out.2.2.2.1 (by rw [HO.out.2.2.2.2.1]; omega)).chg (by repeat (first | assumption | exact Chg.refl [] w1 | refine Chg.drew ?_ | refine Chg.alloc ?_ _) : Chg [] w1 _) hsz (by simp)) (by simp)) (SlI.mono ((SlI.drop (m := n - (i + 1)) HO.out.2.2.2.1 (by rw [HO.out.2.2.2.2.1]; omega) (by rw [HO.out.2.2.2.2.1, ← HO.out.2.2.2.2.2])).chg (by repeat (first | assumption | exact Chg.refl [] w1 | refine Chg.drew ?_ | refine Chg.alloc ?_ _) : Chg [] w1 _) hsz (by simp)) (by simp)) (by rw [List.length_take]; omega) (by rw [List.length_drop, HO.out.2.2.2.2.1]; have := HO.out.2.2.2.2.2; omega)).mono ?_; rintro e w' ⟨vn, rfl, On, cn, fn⟩; obtain ⟨An, N1, kn, rfl⟩ := On.slice'; have D : Chg [] w1 w' := Chg.trans (by repeat (first | assumption | exact Chg.refl [] w1 | refine Chg.drew ?_ | refine Chg.alloc ?_ _)) cn; have z1 : w'.cell? ⟨gc, 0, none⟩ = some (.slice (some ⟨gl, 0, none⟩) 16 16) := D.cellv hgcl (by simp) b0; have z2 : w'.cell? ⟨gl, k * 4 + u * 2 + f, none⟩ = some (.slice (some ⟨g, 0, none⟩) n c) := D.cellv HI.out.1.l.lt (by simp) c1; have z3 : w'.frozen? ⟨gl, k * 4 + u * 2 + f, none⟩ = false := (D.blk HI.out.1.l (by simp)).frozen _))
                  have e9 : intsN ((r (k * 4 + u * 2 + f)).erase id) = (intsN (r (k * 4 + u * 2 + f))).take i ++ (intsN (r (k * 4 + u * 2 + f))).drop (i + 1) := by
                    rw [HO.out.2.1]; unfold intsN; rw [List.map_append, List.map_take, List.map_drop]
                  have T := CeTo.set HI.out.1 hj (w := w1) (w' := w') (xs := (r (k * 4 + u * 2 + f)).erase id) ⟨D.mono (by simp), fun k hk => .inr (by have := fn k hk; simp at this; omega)⟩ (by rw [e9]; exact On)
                  have HT := Lib.hid T; clear T On cn fn D z1 z2 z3 e9
                  go_wp2_with fail
                  go_ret
                  exact .inr ⟨_, hj, HO.out.1, fun i' hi' => HF.out i' (by omega), rfl, HT.out⟩
            · obtain rfl : f = 2 := by omega
              have HM := Lib.hid hno; clear hno ef
              go_wp2_with fail
              go_roundg (2 - u)
              case measure => omega
              case rel => exact ⟨u + 1, by omega, by omega, by go_num, fun j' hj' => HM.out j' (by omega), rfl⟩
        · obtain rfl : u = 2 := by omega
          have HM := Lib.hid hno; clear hno eu
          go_wp2_with fail
          go_roundg (16 - k)
          case measure => omega
          case rel => exact ⟨k + 1, by omega, by omega, by go_num, fun j' hj' => HM.out j' (by omega), rfl⟩
    · obtain rfl : k = 16 := by omega
      have HM := Lib.hid hno; clear hno ek
      go_wp2_with fail
      go_ret
      exact .inl ⟨fun j' hj' => HM.out j' (by omega), rfl, Chg.refl _ _⟩
end Go.Proofs.YtcnchgbngcnijaaGreatDoor
namespace Go.Proofs.YtcnchgbngcnijaaGreatDoor
open Go.RowKit Go.Maps

/-- The rows without a span. -/
def DelTo (r : Nat → List Nat) (id : Nat) (r1 : Nat → List Nat) : Prop := (r1 = r ∧ ∀ j, j < 64 → id ∉ r j) ∨ ∃ j, j < 64 ∧ id ∈ r j ∧ (∀ i, i < j → id ∉ r i) ∧ r1 = delR r id j
def sd (full : Bool) : Nat := if full then 1 else 0
def CpPost (gc gl : Nat) (v : Nat → Value) (r : Nat → List Nat) (k id : Nat) (full : Bool) (w : World) (e : Ending) (w' : World) : Prop :=
  e = .returned (.tuple #[]) ∧ ∃ r1, DelTo r id r1 ∧ CeTo gc gl v (updV r1 (k * 4 + sd full) (r1 (k * 4 + sd full) ++ [id])) w w'
theorem CeTo.chg0 {w w' w'' : World} {gc gl : Nat} {v : Nat → Value} {r : Nat → List Nat} (T : CeTo gc gl v r w w') (c : Chg [] w' w'') : CeTo gc gl v r w w'' := by
  obtain ⟨v', I, s⟩ := T
  exact ⟨v', I.chg0 c, s.then0 c⟩
theorem CeTo.trans {w w' w'' : World} {gc gl : Nat} {v v' : Nat → Value} {r' : Nat → List Nat} (s : StP (CeF gc gl v) (CeF gc gl v') w w') (T : CeTo gc gl v' r' w' w'') : CeTo gc gl v r' w w'' := by
  obtain ⟨v'', I, t⟩ := T
  exact ⟨v'', I, s.trans t⟩
theorem CeTo.refl {w : World} {gc gl : Nat} {v : Nat → Value} {r : Nat → List Nat} (I : IsCe w gc gl v r) : CeTo gc gl v r w w := ⟨v, I, StP.refl _ _⟩
theorem DelTo.len {r r1 : Nat → List Nat} {id : Nat} (h : DelTo r id r1) (j : Nat) : (r1 j).length ≤ (r j).length := by
  rcases h with ⟨rfl, -⟩ | ⟨i, -, -, -, rfl⟩
  · exact Nat.le_refl _
  · unfold delR updV
    split
    · next e => rw [e]; exact (List.erase_sublist).length_le
    · exact Nat.le_refl _
set_option maxHeartbeats 3200000 in
set_option maxRecDepth 100000 in
theorem cput_ok (w : World) (gc gl : Nat) (v : Nat → Value) (r : Nat → List Nat) (I : IsCe w gc gl v r) (k : Nat) (hk : k < 16) (id : Nat) (hid : id ≤ 1000000) (full : Bool) (hl : ∀ j, (r j).length ≤ 100000) (hx : ∀ j, ∀ x ∈ r j, x ≤ 1000000) : Calls Tryz.prog 75 #[.pointer (some ⟨gc, 0, none⟩), .int .i64 (k : Nat), .int .i64 (id : Nat), .bool full] w (CpPost gc gl v r k id full w) := by
  have h0 : (0 : Int) ≤ (k : Int) := by omega
  have h1 : (k : Int) < 16 := by omega
  have HI := Lib.hid (And.intro I (And.intro hl hx))
  clear I hl hx
  go_enter Tryz.func75, Tryz.ntmps75
  go_wp2_with fail
  refine (has_k w gc gl v r HI.out.1 k hk).mono ?_
  rintro e w1 ⟨rfl, rfl⟩
  go_wp2_with fail
  refine (cdel_ok _ gc gl v r HI.out.1 id hid HI.out.2.1 HI.out.2.2).mono ?_
  rintro e w2 hd
  obtain ⟨bo, rfl, r1, hd1, v1, I1, s1⟩ : ∃ bo, e = .returned (.bool bo) ∧ ∃ r1, DelTo r id r1 ∧ CeTo gc gl v r1 w1 w2 := by
    rcases hd with ⟨hn, rfl, c⟩ | ⟨j, hj, hin, hfst, rfl, T⟩
    · exact ⟨false, rfl, r, .inl ⟨rfl, hn⟩, (CeTo.refl HI.out.1).chg0 c⟩
    · exact ⟨true, rfl, _, .inr ⟨j, hj, hin, hfst, rfl⟩, T⟩
  have b0 : w2.cell? ⟨gc, 0, none⟩ = some (.slice (some ⟨gl, 0, none⟩) 16 16) := I1.b.cellv 0 rfl
  have hs2 : sd full < 2 := by unfold sd; split <;> omega
  have hj : k * 4 + sd full < 64 := by omega
  have hll := hd1.len (k * 4 + sd full)
  have hll2 := HI.out.2.1 (k * 4 + sd full)
  have H1 := Lib.hid (And.intro I1 (And.intro s1 hd1)); clear I1 s1 hd1 hd
  obtain ⟨f, hf⟩ : ∃ f, f = sd full := ⟨_, rfl⟩
  have hside : (if full then (1 : Int) else 0) = (f : Int) := by rw [hf]; unfold sd; split <;> rfl
  rw [← hf] at hs2 hj hll hll2
  have HF := Lib.hid (And.intro hf hside); clear hf hside
  have hf0 : (0 : Int) ≤ (f : Int) := by omega
  have hf2 : (f : Int) < 2 := by omega
  go_upto_region 2 with fail
  go_region_held3 (fun w' => w'.cell? ⟨gc, 0, none⟩ = some (.slice (some ⟨gl, 0, none⟩) 16 16)) (go_keep)
    (first | (go_at_call 121; refine (side_ok _ full).mono ?_; rintro e w' ⟨rfl, rfl⟩; rw [HF.out.2]))
  obtain ⟨w3, hw3⟩ : ∃ W : World, W = w2.drew := ⟨_, rfl⟩
  rw [← hw3]
  have C3 : Chg [] w2 w3 := by rw [hw3]; exact (Chg.refl [] w2).drew
  clear hw3
  have I3 := H1.out.1.chg0 C3
  have O := I3.o _ hj
  obtain ⟨A, n, c, hv⟩ := O.slice'
  have c1 := I3.cell hj
  have f1 := I3.l.frozen (k * 4 + f)
  have hng := I3.ne_gl hj
  rw [hv] at c1 O hng
  have hlO : (intsN (r1 (k * 4 + f))).length + 1 ≤ 1000000000000 := by unfold intsN; rw [List.length_map]; omega
  have H3 := Lib.hid (And.intro I3 (And.intro O (And.intro hv (And.intro hng hlO)))); clear I3 O hv hng hlO b0
  go_wp2_with (at_builtin; refine wpList_push_int rfl _ _ rfl slty rfl H3.out.2.1 rfl H3.out.2.2.2.2 ?_)
  intro A6 c6 w6 O6 s6
  have B6 := s6.c.blk H3.out.1.l H3.out.2.2.2.1
  have z2 : w6.cell? ⟨gl, k * 4 + f, none⟩ = some (.slice A n c) := by rw [← H3.out.2.2.1]; exact B6.cellv _ (ceC_at v1 hj)
  have z3 := B6.frozen (k * 4 + f)
  have e9 : intsN (r1 (k * 4 + f) ++ [id]) = intsN (r1 (k * 4 + f)) ++ [((id : Nat) : Int)] := by unfold intsN; simp
  have T := CeTo.set (u := .slice A6 ((intsN (r1 (k * 4 + f))).length + 1) c6) H3.out.1 hj (by rw [H3.out.2.2.1]; exact s6) (by rw [e9]; exact O6)
  have s2 := H1.out.2.1.then0 C3
  have T2 := CeTo.trans s2 T
  have HT := Lib.hid T2; clear T T2 s2 C3 e9 O6 s6 B6 c1 f1
  go_wp2_with fail
  go_end0
  exact ⟨rfl, r1, H1.out.2.2, by rw [← HF.out.1]; exact HT.out⟩
end Go.Proofs.YtcnchgbngcnijaaGreatDoor
