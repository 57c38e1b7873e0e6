/- The walks of package view: walk. -/
import Derived.Test.YtfkgooliglcjkaaVwWalkLaw
namespace Go.Proofs.Ytfkgooliglcjkaa
open Go.RowKit Go.Maps

theorem VwAt.names_wf {w : World} {B : Nat} {v : Value} {V : Vw} (h : VwAt w B v V) : ∀ x ∈ V.names, WfI x := by
  obtain ⟨g, A1, c1, A2, c2, _, h1, h2, h3, _, _⟩ := h.ex
  intro x hx
  unfold Vw.names Vw.said at hx
  rcases List.mem_append.1 hx with hx | hx
  · rcases List.mem_append.1 hx with hx | hx
    · exact h1.wf x hx
    · obtain ⟨q, hq, hxq⟩ := List.mem_flatMap.1 hx
      obtain ⟨i, hi⟩ := List.getElem?_of_mem (List.mem_filter.1 hq).1
      obtain ⟨_, _, _, _, _, _, _, _, hs, _⟩ := h2.at_ i q hi
      exact hs.wf x hxq
  · obtain ⟨q, hq, hxq⟩ := List.mem_flatMap.1 hx
    obtain ⟨i, hi⟩ := List.getElem?_of_mem hq
    obtain ⟨_, _, _, _, _, _, _, _, hs, _⟩ := h3.at_ i q hi
    exact hs.wf x hxq
theorem rootsL_named {V : Vw} {x : Int} (h : x ∈ V.rootsL) : x ∈ V.names := by
  unfold Vw.names; exact List.mem_append_left _ (mem_rootsL.1 h).1
theorem nb1 {N i r K : Nat} (h : N ≤ 2 + i * K + r) : N ≤ 2 + (i + 1) * K + r := by rw [Nat.succ_mul]; omega
theorem nb2 {N i r m K : Nat} (h : N ≤ 2 + i * K + r) (hm : m ≤ K) : N + m ≤ 2 + (i + 1) * K + r := by rw [Nat.succ_mul]; omega
theorem nb3 {N i r K : Nat} (h : N ≤ 2 + i * K + r) (hi : i ≤ K) (hr : r ≤ K) (hK : K = 1000000) : N ≤ 100000000000000 := by
  subst hK
  have : i * 1000000 ≤ 1000000 * 1000000 := Nat.mul_le_mul_right _ hi
  omega
theorem mem_len_flat {α : Type} (f : α → List Int) : ∀ {l : List α} {x : α}, x ∈ l → (f x).length ≤ (l.flatMap f).length
  | y :: l, x, h => by
    rw [List.flatMap_cons, List.length_append]
    rcases List.mem_cons.1 h with rfl | h
    · omega
    · have := mem_len_flat f h; omega
theorem slots_le {V : Vw} (hS : Small V) {k : Nat} {o : Ob} (ho : V.objects[k]? = some o) : o.slots.length ≤ 1000000 := by
  have h1 := hS.n
  unfold Vw.names at h1
  have := mem_len_flat (fun o : Ob => o.slots) (List.mem_of_getElem? ho)
  rw [List.length_append] at h1; omega
theorem addOnce_old {l : List Int} {x : Int} (h : ((seenF l x).getD 0 == 0) = false) : addOnce l x = l := by
  unfold addOnce
  unfold seenF at h
  by_cases q : x = 0 ∨ x ∈ l
  · rw [if_pos q]
  · rw [if_neg q] at h; cases h
theorem WkM.mono {w0 w : World} {V : Vw} {bV bA bS N : Nat} {cV : Array Value} {v2 v3 v5 : Value} {th lo L : List Int} (I : WkM w0 V bV bA bS cV w v2 v3 v5 th lo L N) : WkM w0 V bV bA bS cV w v2 v3 v5 th lo L (N + 1) :=
  { I with S := I.S.mono (Nat.le_succ _) }
def WalkPost (V : Vw) (w : World) (e : Ending) (w' : World) : Prop :=
  ∃ v1 v2 l1 l2, e = .returned (.tuple #[v1, v2]) ∧ IsRch V l1 ∧ IsLost V l2 ∧ OwnI 3 w' v1 l1 ∧ OwnI 3 w' v2 l2 ∧ Chg [] w w' ∧ (∀ k ∈ fpv v1, w.heap.size ≤ k) ∧ (∀ k ∈ fpv v2, w.heap.size ≤ k)
def vwCells (V : Vw) (g A1 A2 : Value) : Array Value := #[.int .i64 V.phase, .int .i64 V.cycle, .int .i64 V.clock, g, A1, A2, .int .i64 V.grey, .int .i64 V.notes, .int .i64 V.roots]

def Wk1Rel (w0 : World) (V : Vw) (bV bA bS : Nat) (cV : Array Value) (v5 : Value) (gk : Nat) (idx : Value) (w : World) : Prop :=
  ∃ i, gk + i = V.rootsL.length + 1 ∧ i ≤ V.rootsL.length ∧ idx = .int .i64 (i : Nat) ∧
    IMap Try.prog 3 w bA V.objects.length (atF V) ∧ IMap Try.prog 3 w bS (1 + i) (seenF (V.rootsL.take i)) ∧ OwnI 3 w v5 V.rootsL ∧ Blk w bV 26 cV ∧ Chg [] w0 w
def Wk2Rel (w0 : World) (V : Vw) (bV bA bS : Nat) (cV : Array Value) (gk : Nat) (v2 v3 v5 idx : Value) (w : World) : Prop :=
  ∃ i L N, gk + i = V.names.length + 1 ∧ idx = .int .i64 (i : Nat) ∧ N ≤ 2 + i * 1000000 + V.rootsL.length ∧ WkL V L i ∧ WkM w0 V bV bA bS cV w v2 v3 v5 (thereL V (L.take i)) (lostL V (L.take i)) L N
def Wk3Rel (w0 : World) (V : Vw) (bV bA bS : Nat) (cV : Array Value) (v2 v3 : Value) (th lo L0 xs : List Int) (N : Nat) (gk : Nat) (v5 idx : Value) (w : World) : Prop :=
  ∃ j, gk + j = xs.length + 1 ∧ j ≤ xs.length ∧ idx = .int .i64 (j : Nat) ∧ WkM w0 V bV bA bS cV w v2 v3 v5 th lo ((xs.take j).foldl addOnce L0) (N + j)

set_option maxHeartbeats 6400000 in
set_option maxRecDepth 100000 in
theorem walk_ok (w : World) (v : Value) (V : Vw) (h : VwAt w w.heap.size v V) (hS : Small V) : Calls Try.prog 46 #[v] w (WalkPost V w) := by
  have hmm := @run_makeMap Try.prog
  have HV := Lib.hid h
  obtain ⟨g, A1, c1, A2, c2, rfl, h1, h2, h3, h4, h5⟩ := h.ex
  obtain ⟨A0, c0, rfl⟩ := h1.ex
  have H := Lib.hid h3; clear h h1 h2 h3 h4 h5
  have C1 := (Chg.refl [] w).alloc (.cells #[.int .i64 V.phase, .int .i64 V.cycle, .int .i64 V.clock, .slice A0 V.globals.length c0, .slice A1 V.gs.length c1, .slice A2 V.objects.length c2, .int .i64 V.grey, .int .i64 V.notes, .int .i64 V.roots] 26)
  have B1 := Blk.new w 26 #[.int .i64 V.phase, .int .i64 V.cycle, .int .i64 V.clock, .slice A0 V.globals.length c0, .slice A1 V.gs.length c1, .slice A2 V.objects.length c2, .int .i64 V.grey, .int .i64 V.notes, .int .i64 V.roots]
  have HB := Lib.hid (And.intro C1 B1); clear C1 B1
  have hnw := Lib.hid HV.out.names_wf
  go_enter Try.func46, Try.ntmps46
  go_wp2_with fail
  refine (places_ok _ _ V ((HV.out.chg HB.out.1 (Nat.le_refl _) (by simp)).mono (by simp))).mono ?_
  rintro e w2 ⟨bA, rfl, MA, C2, hbA⟩
  have B2 := C2.blk HB.out.2 (by simp)
  have x2 := (HB.out.1.trans C2)
  have b0 := B2.cellv 0 rfl
  have b1 := B2.cellv 1 rfl
  have b2 := B2.cellv 2 rfl
  have b3 := B2.cellv 3 rfl
  have b4 := B2.cellv 4 rfl
  have b5 := B2.cellv 5 rfl
  have b6 := B2.cellv 6 rfl
  have b7 := B2.cellv 7 rfl
  have b8 := B2.cellv 8 rfl
  have HC := Lib.hid (And.intro x2 (And.intro B2 MA)); clear x2 B2 MA C2
  go_wp2_with fail
  refine (roots_ok _ _ V ((HV.out.chg HC.out.1 (Nat.le_refl _) (by simp)).mono HC.out.1.size) hS).mono ?_
  rintro e w3 ⟨v5, rfl, O5, C3, F5⟩
  obtain ⟨A5, c5, rfl⟩ := O5.slice
  have B3 := C3.blk HC.out.2.1 (by simp)
  have M3 := HC.out.2.2.chg C3 (by simp)
  have x3 := HC.out.1.trans C3
  have F5' : ∀ k ∈ fpv (.slice A5 V.rootsL.length c5), w.heap.size ≤ k := fun k hk => Nat.le_trans HC.out.1.size (F5 k hk)
  obtain ⟨w4, hrun, M4, C4⟩ := (IMap.made w3 Try.prog 3).put ity (x := 0) (v := 1) ⟨by omega, by omega⟩ ⟨by omega, by omega⟩ (by unfold maxLen; omega)
  have B4 := C4.blk (B3.alloc (.map #[] 0)) (by have := B3.lt; simp; omega)
  have MA4 := (M3.alloc (.map #[] 0)).chg C4 (by have := M3.lt; simp; omega)
  have O4 := (O5.alloc (.map #[] 0)).chg C4 (fun k hk hm => by have := O5.lt hk; have := only1 hm; omega)
  have x4 := (x3.alloc (.map #[] 0)).new C4 (by have := x3.size; simpa using this)
  have M4' : IMap Try.prog 3 w4 w3.heap.size 1 (seenF (V.rootsL.take 0)) := M4.ext fun x => by unfold putF seenF; by_cases e : x = 0 <;> simp [e]
  have hne : bA ≠ w3.heap.size := by have := M3.lt; omega
  have hge : w.heap.size ≤ w3.heap.size := x3.size
  have hlen : V.rootsL.length ≤ 1000000 := Nat.le_trans (WkL.start V).len hS.n
  have HD := Lib.hid (And.intro M4' (And.intro MA4 (And.intro O4 (And.intro B4 (And.intro x4 (And.intro F5' hne)))))); clear M4 M4' MA4 O4 B4 x4 F5 F5' hne B3 M3 x3 O5 C3 C4 hbA b0 b1 b2 b3 b4 b5 b6 b7 b8
  go_wp2_with fail
  generalize w3.heap.size = bS at HD hge ⊢
  clear hrun
  go_loopg [22] (V.rootsL.length + 1) (fun gk idx wr => Wk1Rel w V w.heap.size bA bS #[.int .i64 V.phase, .int .i64 V.cycle, .int .i64 V.clock, .slice A0 V.globals.length c0, .slice A1 V.gs.length c1, .slice A2 V.objects.length c2, .int .i64 V.grey, .int .i64 V.notes, .int .i64 V.roots] (.slice A5 V.rootsL.length c5) gk idx wr)
  case atStart => exact ⟨0, by omega, by omega, rfl, HD.out.2.1, HD.out.1, HD.out.2.2.1, HD.out.2.2.2.1, HD.out.2.2.2.2.1⟩
  case round =>
    obtain ⟨i, hgk, hin, rfl, MA, MS, O, B, C⟩ := hrel
    by_cases e : i < V.rootsL.length
    · obtain ⟨x, hx⟩ : ∃ x, V.rootsL[i]? = some x := ⟨V.rootsL[i], List.getElem?_eq_getElem e⟩
      obtain ⟨g5, rfl, i0, _, _⟩ := O.cell hx
      have hw := hnw.out x (rootsL_named (List.mem_of_getElem? hx))
      have hi' : (i : Int) < (V.rootsL.length : Int) := by omega
      have hput := fun y => seenF_push (V.rootsL.take i) x y
      rw [← take_succ_get hx] at hput
      have HA := Lib.hid (And.intro MA (And.intro MS (And.intro O (And.intro B (And.intro C (And.intro hw hput)))))); clear MA MS O B C hw hput hx
      go_wp2_with (at_mapUpdate; refine wpList_imap_put rfl _ _ _ rfl HA.out.2.1 ity rfl rfl HA.out.2.2.2.2.2.1 rfl ⟨by omega, by omega⟩ (by unfold maxLen; omega) ?_)
      intro w5 M5 C5
      have hb1 : bA ∉ [bS] := by simpa using HD.out.2.2.2.2.2.2
      have hb2 : w.heap.size ∉ [bS] := by simpa using Ne.symm (HA.out.2.1.ne_blk HA.out.2.2.2.1)
      have HE := Lib.hid (And.intro (M5.ext HA.out.2.2.2.2.2.2) (And.intro (HA.out.1.chg C5 hb1) (And.intro (HA.out.2.2.1.chg C5 (fun k hk hm => HA.out.2.1.ne_own HA.out.2.2.1 (only1 hm ▸ hk))) (And.intro (C5.blk HA.out.2.2.2.1 hb2) (HA.out.2.2.2.2.1.new C5 (by simpa using hge)))))); clear M5 C5 hb1 hb2
      go_wp2_with fail
      go_roundg (V.rootsL.length - i)
      case measure => omega
      case rel => exact ⟨i + 1, by omega, by omega, by go_num, HE.out.2.1, HE.out.1.mono (by omega), HE.out.2.2.1, HE.out.2.2.2.1, HE.out.2.2.2.2⟩
    · obtain rfl : i = V.rootsL.length := by omega
      rw [List.take_length] at MS
      have M0 : WkM w V w.heap.size bA bS #[.int .i64 V.phase, .int .i64 V.cycle, .int .i64 V.clock, .slice A0 V.globals.length c0, .slice A1 V.gs.length c1, .slice A2 V.objects.length c2, .int .i64 V.grey, .int .i64 V.notes, .int .i64 V.roots] wr (.slice none 0 0) (.slice none 0 0) (.slice A5 V.rootsL.length c5) [] [] V.rootsL (1 + V.rootsL.length) :=
        ⟨MA, MS, OwnI.nil _ _, OwnI.nil _ _, O, B, by simp [fpv, Value.ownBlock], by simp [fpv, Value.ownBlock], by simp [fpv, Value.ownBlock], HD.out.2.2.2.2.2.2, C, by simp [fpv, Value.ownBlock], by simp [fpv, Value.ownBlock], HD.out.2.2.2.2.2.1, hge⟩
      have HM := Lib.hid M0; clear M0 MA MS O B C hin e hgk
      obtain ⟨wq, rfl⟩ : ∃ wq : World, wq = wr := ⟨_, rfl⟩
      go_wp2_with fail
      go_loopg [2, 3, 5, 9] (V.names.length + 1) (fun gk v2 v3 v5 idx wr => Wk2Rel w V w.heap.size bA bS #[.int .i64 V.phase, .int .i64 V.cycle, .int .i64 V.clock, .slice A0 V.globals.length c0, .slice A1 V.gs.length c1, .slice A2 V.objects.length c2, .int .i64 V.grey, .int .i64 V.notes, .int .i64 V.roots] gk v2 v3 v5 idx wr)
      case atStart => exact ⟨0, V.rootsL, _, by omega, rfl, by omega, WkL.start V, HM.out⟩
      case round =>
        obtain ⟨i, L, N, hgk, rfl, hN, hL, hM⟩ := hrel
        have hl1 := hL.len
        have hl2 := hL.le
        have hn := hS.n
        obtain ⟨A2', c2', rfl⟩ := hM.o2.slice
        obtain ⟨A3', c3', rfl⟩ := hM.o3.slice
        obtain ⟨A5', c5', rfl⟩ := hM.o5.slice
        have b5 := hM.V.cellv 5 rfl
        by_cases e : i < L.length
        · obtain ⟨x, hx⟩ : ∃ x, L[i]? = some x := ⟨L[i], List.getElem?_eq_getElem e⟩
          obtain ⟨g5, rfl, i0, _, _⟩ := hM.o5.cell hx
          have hw := hnw.out x (hL.r x (List.mem_of_getElem? hx)).named
          have hi' : (i : Int) < (L.length : Int) := by omega
          have hth : (thereL V (L.take i)).length ≤ 1000000 := Nat.le_trans (List.length_filter_le _ _) (by rw [List.length_take]; omega)
          have hlo : (lostL V (L.take i)).length ≤ 1000000 := Nat.le_trans (List.length_filter_le _ _) (by rw [List.length_take]; omega)
          have HA := Lib.hid (And.intro hL (And.intro hM (And.intro hx hw))); clear hL hM hx hw
          cases hk : V.at_ x with
          | none =>
            have h1 : (atF V x).isSome = false := by unfold atF; rw [hk]; rfl
            have h2 : (atF V x).getD 0 = 0 := by unfold atF; rw [hk]; rfl
            have HK := Lib.hid (HA.out.1.lost HA.out.2.2.1 hk); clear hk
            go_wp2_with (first
              | (at_lookup; refine wpList_imap_lookOk rfl _ _ rfl HA.out.2.1.A ity rfl rfl HA.out.2.2.2 ?_)
              | (at_builtin; refine wpList_push_int rfl _ _ rfl slty rfl HA.out.2.1.o3 rfl (by omega) ?_))
            intro A' c' w5 O5 S5
            have M5 := HA.out.2.1.push3 O5 S5
            have HE := Lib.hid M5; clear M5 O5 S5
            go_wp2_with fail
            go_roundg (V.names.length - i)
            case measure => omega
            case rel => exact ⟨i + 1, L, N, by omega, by go_num, nb1 hN, HK.out.1, by rw [HK.out.2.1, HK.out.2.2]; exact HE.out⟩
          | some k =>
            obtain ⟨o, ho, hoa⟩ := at_lt hk
            have h1 : (atF V x).isSome = true := by unfold atF; rw [hk]; rfl
            have h2 : (atF V x).getD 0 = (k : Int) := by unfold atF; rw [hk]; rfl
            have HK := Lib.hid (HA.out.1.there HA.out.2.2.1 hk ho)
            have hkl : (k : Int) < (V.objects.length : Int) := by have := (List.getElem?_eq_some_iff.1 ho).1; omega
            have hk0 : (0 : Int) ≤ (k : Int) := by omega
            obtain ⟨bo, off, s, rfl, hbo, j0, j1, j2, hsl, _⟩ := H.out.at_ k o ho
            obtain ⟨As, cs, rfl⟩ := hsl.ex
            have hsm : o.slots.length ≤ 1000000 := slots_le hS ho
            have HS := Lib.hid hsl; clear hk hsl j0 j2 hoa
            go_wp2_with (first
              | (at_lookup; refine wpList_imap_lookOk rfl _ _ rfl HA.out.2.1.A ity rfl rfl HA.out.2.2.2 ?_)
              | (at_builtin; refine wpList_push_int rfl _ _ rfl slty rfl HA.out.2.1.o2 rfl (by omega) ?_))
            intro A' c' w5 O5 S5
            have M5 := HA.out.2.1.push2 O5 S5
            have j1' := M5.c.cellv hbo (by simp) j1
            have b5' := M5.V.cellv 5 rfl
            have HE := Lib.hid M5; clear M5 O5 S5 j1 b5 h1 h2
            have hnb := nb3 hN (by omega) (by omega) rfl
            go_wp2_with fail
            obtain ⟨wq2, rfl⟩ : ∃ wq2 : World, wq2 = wr := ⟨_, rfl⟩
            go_loopg [5, 67] (o.slots.length + 1) (fun gk v5 idx wr => Wk3Rel w V w.heap.size bA bS #[.int .i64 V.phase, .int .i64 V.cycle, .int .i64 V.clock, .slice A0 V.globals.length c0, .slice A1 V.gs.length c1, .slice (some ⟨bo, off, none⟩) V.objects.length c2, .int .i64 V.grey, .int .i64 V.notes, .int .i64 V.roots] (.slice A' ((thereL V (L.take i)).length + 1) c') (.slice A3' (lostL V (L.take i)).length c3') (thereL V (L.take i) ++ [x]) (lostL V (L.take i)) L o.slots N gk v5 idx wr)
            case atStart => exact ⟨0, by omega, by omega, rfl, HE.out⟩
            case round =>
              obtain ⟨j, hgk2, hj, rfl, M⟩ := hrel
              obtain ⟨A6, c6, rfl⟩ := M.o5.slice
              have hl6 := len_foldOnce (o.slots.take j) L
              have hl7 : (o.slots.take j).length ≤ o.slots.length := by rw [List.length_take]; omega
              by_cases ej : j < o.slots.length
              · obtain ⟨y, hy⟩ : ∃ y, o.slots[j]? = some y := ⟨o.slots[j], List.getElem?_eq_getElem ej⟩
                obtain ⟨bs, offs, rfl, hbs, y0⟩ := (HS.out.chg M.c (Nat.le_refl _) (by simp)).at_ _ _ _ rfl j y hy
                have hw := HS.out.wf y (List.mem_of_getElem? hy)
                have hj' : (j : Int) < (o.slots.length : Int) := by omega
                have hf := fold_succ hy L
                have HM := Lib.hid (And.intro M (And.intro hf hw)); clear M hf hw hy hbs
                generalize hL : (o.slots.take j).foldl addOnce L = Lj at HM hl6 ⊢
                clear hL
                by_cases hp : ((seenF Lj y).getD 0 == 0) = true
                · have hp1 := addOnce_new hp
                  have HP := Lib.hid hp1; clear hp1
                  go_wp2_with (first
                    | (at_lookup; refine wpList_imap_look rfl _ _ rfl HM.out.1.S ity rfl rfl HM.out.2.2 ?_)
                    | (at_mapUpdate; refine wpList_imap_put rfl _ _ _ rfl HM.out.1.S ity rfl rfl HM.out.2.2 rfl ⟨by omega, by omega⟩ (by unfold maxLen; omega) ?_))
                  intro w6 M6 C6
                  have O6 := HM.out.1.o5.chg C6 (fun k hk hm => HM.out.1.S.ne_own HM.out.1.o5 (only1 hm ▸ hk))
                  have HQ := Lib.hid (And.intro (M6.ext (seenF_put Lj y)) (And.intro C6 O6)); clear M6 C6 O6
                  go_wp2_with (at_builtin; refine wpList_push_int rfl _ _ rfl slty rfl HQ.out.2.2 rfl (by omega) ?_)
                  intro A7 c7 w7 O7 S7
                  have M7 := HM.out.1.push5 (L' := addOnce Lj y) HQ.out.1 HQ.out.2.1 (by rw [HP.out]; exact O7) S7
                  have HR := Lib.hid M7; clear M7 O7 S7
                  go_wp2_with fail
                  go_roundg (o.slots.length - j)
                  case measure => omega
                  case rel => exact ⟨j + 1, by omega, by omega, by go_num, by rw [HM.out.2.1]; exact HR.out⟩
                · have hp' : ((seenF Lj y).getD 0 == 0) = false := by simpa using hp
                  have hp1 := addOnce_old hp'
                  have HP := Lib.hid hp1; clear hp1 hp
                  go_wp2_with (at_lookup; refine wpList_imap_look rfl _ _ rfl HM.out.1.S ity rfl rfl HM.out.2.2 ?_)
                  go_roundg (o.slots.length - j)
                  case measure => omega
                  case rel => exact ⟨j + 1, by omega, by omega, by go_num, by rw [HM.out.2.1, HP.out]; exact HM.out.1.mono⟩
              · obtain rfl : j = o.slots.length := by omega
                rw [List.take_length] at M hl6
                rw [List.take_length]
                have HM := Lib.hid M; clear M hl6 hl7 ej hgk2 hj
                go_wp2_with fail
                go_roundg (V.names.length - i)
                case measure => omega
                case rel => exact ⟨i + 1, _, N + o.slots.length, by omega, by go_num, nb2 hN hsm, HK.out.1, by rw [HK.out.2.1, HK.out.2.2]; exact HM.out⟩
        · obtain rfl : i = L.length := by omega
          rw [List.take_length] at hM
          rw [List.take_length]
          have hth : (thereL V L).length ≤ 1000000 := Nat.le_trans (List.length_filter_le _ _) (by omega)
          have hlo : (lostL V L).length ≤ 1000000 := Nat.le_trans (List.length_filter_le _ _) (by omega)
          have HA := Lib.hid (And.intro hL hM); clear hL hM e hgk hN hl2 b5
          go_wp2_with fail
          refine (sort_ok _ _ _ HA.out.2.o2 (by omega)).mono ?_
          rintro e w8 ⟨rfl, O8, C8⟩
          have O3 := HA.out.2.o3.chg C8 (fun k hk hm => HA.out.2.d23 k hm hk)
          have C9 := HA.out.2.c.new C8 HA.out.2.f2
          have HE := Lib.hid (And.intro O8 (And.intro O3 C9)); clear O8 O3 C8 C9
          go_wp2_with fail
          refine (sort_ok _ _ _ HE.out.2.1 (by omega)).mono ?_
          rintro e w9 ⟨rfl, O9, C9⟩
          have O2 := HE.out.1.chg C9 (fun k hk hm => HA.out.2.d23 k hk hm)
          have C10 := HE.out.2.2.new C9 HA.out.2.f3
          have HF := Lib.hid (And.intro O2 (And.intro O9 C10)); clear O2 O9 C9 C10
          go_wp2_with fail
          go_ret2
          exact ⟨_, _, _, _, rfl, HA.out.1.rch, HA.out.1.lostOk, HF.out.1, HF.out.2.1, HF.out.2.2, HA.out.2.f2, HA.out.2.f3⟩
end Go.Proofs.Ytfkgooliglcjkaa
