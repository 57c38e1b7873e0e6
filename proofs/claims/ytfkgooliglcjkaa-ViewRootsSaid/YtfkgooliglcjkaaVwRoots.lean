/- The walks of package view: Roots. -/
import Derived.Test.YtfkgooliglcjkaaVwPlaces
namespace Go.Proofs.Ytfkgooliglcjkaa
open Go.RowKit Go.Maps

def seenF (l : List Int) (x : Int) : Option Int := if x = 0 ∨ x ∈ l then some 1 else none
theorem seenF_put (l : List Int) (x y : Int) : putF (seenF l) x 1 y = seenF (addOnce l x) y := by
  unfold putF seenF
  by_cases e : y = x
  · subst e
    rw [if_pos rfl, if_pos]
    by_cases h0 : y = 0
    · exact .inl h0
    · exact .inr (mem_addOnce.2 (.inr ⟨rfl, h0⟩))
  · rw [if_neg e]
    have : (y = 0 ∨ y ∈ l) ↔ (y = 0 ∨ y ∈ addOnce l x) := by rw [mem_addOnce]; simp [e]
    by_cases h : y = 0 ∨ y ∈ l
    · rw [if_pos h, if_pos (this.1 h)]
    · rw [if_neg h, if_neg (fun q => h (this.2 q))]
/-- The state of Roots: seen in bm, out in bo. -/
structure RtI (bm bo b : Nat) (w : World) (v : Value) (l : List Int) (N : Nat) : Prop where
  bm : Blk w bm 51 #[.map (some b)]
  bo : Blk w bo 22 #[v]
  m : IMap Try.prog 3 w b N (seenF l)
  o : OwnI 3 w v l
theorem RtI.ne {bm bo b N : Nat} {w : World} {v : Value} {l : List Int} (I : RtI bm bo b w v l N) : bm ≠ bo ∧ b ≠ bm ∧ b ≠ bo ∧ bm ∉ fpv v ∧ bo ∉ fpv v ∧ b ∉ fpv v :=
  ⟨I.bm.ne_ I.bo (by decide), I.m.ne_blk I.bm, I.m.ne_blk I.bo, I.o.ne_blk I.bm (by decide), I.o.ne_blk I.bo (by decide), I.m.ne_own I.o⟩
theorem RtI.chg0 {bm bo b N : Nat} {w w' : World} {v : Value} {l : List Int} (I : RtI bm bo b w v l N) (c : Chg [] w w') : RtI bm bo b w' v l N :=
  ⟨c.blk I.bm (by simp), c.blk I.bo (by simp), I.m.chg c (by simp), I.o.chg0 c⟩
theorem RtI.skip {bm bo b N : Nat} {w : World} {v : Value} {l : List Int} (I : RtI bm bo b w v l N) {x : Int} (h : ((seenF l x).getD 0 == 0) = false) : RtI bm bo b w v (addOnce l x) (N + 1) := by
  have e : addOnce l x = l := by
    unfold addOnce
    unfold seenF at h
    by_cases q : x = 0 ∨ x ∈ l
    · rw [if_pos q]
    · rw [if_neg q] at h; cases h
  rw [e]; exact ⟨I.bm, I.bo, I.m.mono (by omega), I.o⟩
theorem addOnce_new {l : List Int} {x : Int} (h : ((seenF l x).getD 0 == 0) = true) : addOnce l x = l ++ [x] := by
  unfold addOnce
  unfold seenF at h
  by_cases q : x = 0 ∨ x ∈ l
  · rw [if_pos q] at h; cases h
  · rw [if_neg q]
def AddPost (bm bo b N : Nat) (v : Value) (l xs : List Int) (w : World) (e : Ending) (w' : World) : Prop :=
  e = .returned (.tuple #[]) ∧ ∃ v', RtI bm bo b w' v' (xs.foldl addOnce l) (N + xs.length) ∧ Stp ([bo, b] ++ fpv v) ([bo, b] ++ fpv v') w w'
def AddRel (w0 : World) (bm bo b N : Nat) (v : Value) (l xs : List Int) (gk : Nat) (idx : Value) (w : World) : Prop :=
  ∃ i v', gk + i = xs.length + 1 ∧ i ≤ xs.length ∧ idx = .int .i64 (i : Nat) ∧ RtI bm bo b w v' ((xs.take i).foldl addOnce l) (N + i) ∧ Stp ([bo, b] ++ fpv v) ([bo, b] ++ fpv v') w0 w
theorem fold_succ {xs : List Int} {i : Nat} {x : Int} (h : xs[i]? = some x) (l : List Int) : (xs.take (i + 1)).foldl addOnce l = addOnce ((xs.take i).foldl addOnce l) x := by
  obtain ⟨hi, rfl⟩ := List.getElem?_eq_some_iff.1 h
  rw [List.take_succ_eq_append_getElem hi, List.foldl_append]; rfl
theorem len_addOnce (l : List Int) (x : Int) : (addOnce l x).length ≤ l.length + 1 := by unfold addOnce; split <;> simp
theorem len_foldOnce : ∀ (xs l : List Int), (xs.foldl addOnce l).length ≤ l.length + xs.length
  | [], _ => Nat.le_refl _
  | x :: xs, l => by have := len_foldOnce xs (addOnce l x); have := len_addOnce l x; simp only [List.foldl_cons, List.length_cons]; omega

theorem RtI.push {bm bo b N : Nat} {w w1 w2 : World} {v v' : Value} {L : List Int} {x : Int} (I : RtI bm bo b w v L N) (M1 : IMap Try.prog 3 w1 b (N + 1) (seenF (addOnce L x))) (C1 : Chg [b] w w1)
    (B0 : Blk w1 bm 51 #[.map (some b)]) (B1 : Blk w1 bo 22 #[v]) (_ : OwnI 3 w1 v L) (O2 : OwnI 3 w2 v' (L ++ [x])) (S2 : Stp (fpv v) (fpv v') w1 w2) (hp : addOnce L x = L ++ [x]) :
    w2.cell? ⟨bo, 0, none⟩ = some v ∧ w2.frozen? ⟨bo, 0, none⟩ = false ∧ RtI bm bo b (w2.setCell ⟨bo, 0, none⟩ v') v' (L ++ [x]) (N + 1) ∧ Stp ([bo, b] ++ fpv v) ([bo, b] ++ fpv v') w (w2.setCell ⟨bo, 0, none⟩ v') := by
  have nn := I.ne
  have B2 := S2.c.blk B1 nn.2.2.2.2.1
  have B3 := S2.c.blk B0 nn.2.2.2.1
  have M2 := M1.chg S2.c nn.2.2.2.2.2
  have n1 : bo ∉ fpv v' := O2.ne_blk B2 (by decide)
  have c3 : Chg [bo] w2 (w2.setCell ⟨bo, 0, none⟩ v') := (Chg.refl _ w2).setCell (p := ⟨bo, 0, none⟩) (.inl (by simp)) v'
  refine ⟨B2.cellv 0 rfl, B2.frozen 0, ⟨c3.blk B3 (by simpa using nn.1), B2.setv 0 v' rfl, ?_, O2.chg c3 (fun k hk hm => ?_)⟩, ⟨?_, ?_⟩⟩
  · rw [← hp]; exact M2.chg c3 (by simpa using nn.2.2.1)
  · have : k = bo := by simpa using hm
    subst this; exact n1 hk
  · exact ((C1.mono (T := [bo, b] ++ fpv v) (fun k hk => .inl (by simp at hk; simp [hk]))).trans (S2.c.mono (fun k hk => .inl (by simp [hk])))).trans (c3.mono (fun k hk => .inl (by simp at hk; simp [hk])))
  · intro k hk
    rcases List.mem_append.1 hk with h1 | h1
    · exact .inl (List.mem_append_left _ h1)
    · rcases S2.f k h1 with h2 | h2
      · exact .inl (List.mem_append_right _ h2)
      · exact .inr (Nat.le_trans C1.size h2)
set_option maxHeartbeats 1600000 in
set_option maxRecDepth 100000 in
theorem add_ok (w : World) (bm bo b N : Nat) (v s : Value) (l xs : List Int) (B : Nat) (I : RtI bm bo b w v l N) (hs : SlI w B s xs) (hB : B ≤ bm ∧ B ≤ bo ∧ B ≤ b ∧ ∀ k ∈ fpv v, B ≤ k) (hN : l.length + xs.length ≤ 100000000000 ∧ N + xs.length ≤ 100000000000) :
    Calls Try.prog 47 #[s, .pointer (some ⟨bm, 0, none⟩), .pointer (some ⟨bo, 0, none⟩)] w (AddPost bm bo b N v l xs w) := by
  obtain ⟨A, c, rfl⟩ := hs.ex
  have hl := hs.len
  unfold maxLen at hl
  have hBw : B ≤ w.heap.size := by have := I.bm.lt; omega
  have H := Lib.hid (And.intro I (And.intro hs hB)); clear I hs hB
  go_enter Try.func47, Try.ntmps47
  go_wp2_with fail
  go_loopg [8] (xs.length + 1) (fun gk idx wr => AddRel w bm bo b N v l xs gk idx wr)
  case atStart => exact ⟨0, v, by omega, by omega, rfl, H.out.1, Stp.refl _ _⟩
  case round =>
    obtain ⟨i, v1, hgk, hin, rfl, J, S⟩ := hrel
    have c0 := J.bm.cellv 0 rfl
    have c1 := J.bo.cellv 0 rfl
    have c2 := J.bo.frozen 0
    obtain ⟨A1, n1, rfl⟩ := J.o.slice
    have hl1 := len_foldOnce (xs.take i) l
    have hl2 : (xs.take i).length ≤ xs.length := by simp; omega
    by_cases e : i < xs.length
    · obtain ⟨x, hx⟩ : ∃ x, xs[i]? = some x := ⟨xs[i], List.getElem?_eq_getElem e⟩
      obtain ⟨ba, off, rfl, hb0, hb1⟩ := ((H.out.2.1.chg S.c hBw (fun k hk => by
        rcases List.mem_append.1 hk with h1 | h1
        · have : k = bo ∨ k = b := by simpa using h1
          rcases this with rfl | rfl
          · exact H.out.2.2.2.1
          · exact H.out.2.2.2.2.1
        · exact H.out.2.2.2.2.2 k h1)).at_ _ _ _ rfl) i x hx
      have hw := H.out.2.1.wf x (List.mem_of_getElem? hx)
      have hi' : (i : Int) < (xs.length : Int) := by omega
      have hf := fold_succ hx l
      have HA := Lib.hid (And.intro J (And.intro S (And.intro hf hw))); clear J S hx hf hw
      generalize hL : (xs.take i).foldl addOnce l = L at HA hl1 c1 ⊢
      clear hL
      by_cases hp : ((seenF L x).getD 0 == 0) = true
      · have hp1 := addOnce_new hp
        have HP := Lib.hid hp1; clear hp1
        go_wp2_with (first
          | (at_lookup; refine wpList_imap_look rfl _ _ rfl HA.out.1.m ity rfl rfl HA.out.2.2.2 ?_)
          | (at_mapUpdate; refine wpList_imap_put rfl _ _ _ rfl HA.out.1.m ity rfl rfl HA.out.2.2.2 rfl ⟨by omega, by omega⟩ (by unfold maxLen; omega) ?_))
        intro w1 M1 C1
        have nn := HA.out.1.ne
        have B1 := C1.blk HA.out.1.bo (by simp; exact Ne.symm nn.2.2.1)
        have B0 := C1.blk HA.out.1.bm (by simp; exact Ne.symm nn.2.1)
        have O1 := HA.out.1.o.chg C1 (fun k hk hm => by have : k = b := by simpa using hm
                                                        subst this; exact nn.2.2.2.2.2 hk)
        have d1 := B1.cellv 0 rfl
        have HB := Lib.hid (And.intro (M1.ext (seenF_put L x)) (And.intro C1 (And.intro B0 (And.intro B1 O1)))); clear M1 C1 B0 B1 O1 c0 c1 c2 nn
        go_wp2_with (at_builtin; refine wpList_push_int rfl _ _ rfl slty rfl HB.out.2.2.2.2 rfl (by omega) ?_)
        intro A' c' w2 O2 S2
        have HC := Lib.hid (RtI.push HA.out.1 HB.out.1 HB.out.2.1 HB.out.2.2.1 HB.out.2.2.2.1 HB.out.2.2.2.2 O2 S2 HP.out); clear O2 S2
        have d2 := HC.out.1
        have d3 := HC.out.2.1
        go_wp2_with fail
        go_roundg (xs.length - i)
        case measure => omega
        case rel => exact ⟨i + 1, _, by omega, by omega, by go_num, by rw [HA.out.2.2.1, HP.out]; exact HC.out.2.2.1, HA.out.2.1.trans HC.out.2.2.2⟩
      · have hp' : ((seenF L x).getD 0 == 0) = false := by simpa using hp
        clear hp
        go_wp2_with (at_lookup; refine wpList_imap_look rfl _ _ rfl HA.out.1.m ity rfl rfl HA.out.2.2.2 ?_)
        go_roundg (xs.length - i)
        case measure => omega
        case rel => exact ⟨i + 1, _, by omega, by omega, by go_num, by rw [HA.out.2.2.1]; exact HA.out.1.skip hp', HA.out.2.1⟩
    · obtain rfl : i = xs.length := by omega
      rw [List.take_length] at J S
      have HA := Lib.hid (And.intro J S); clear J S hin e hgk
      go_wp2_with fail
      go_end0
      exact ⟨rfl, _, HA.out.1, HA.out.2⟩

/-- A view that is few. -/
structure Small (V : Vw) : Prop where
  n : V.names.length ≤ 1000000
  g : V.gs.length ≤ 1000000
  o : V.objects.length ≤ 1000000
def Vw.saidTo (V : Vw) (i : Nat) : List Int := V.globals ++ ((V.gs.take i).filter fun g => g.state != 5).flatMap (·.stack)
theorem saidTo_succ {V : Vw} {i : Nat} {g : Gr} (h : V.gs[i]? = some g) : V.saidTo (i + 1) = V.saidTo i ++ if g.state = 5 then [] else g.stack := by
  obtain ⟨hi, rfl⟩ := List.getElem?_eq_some_iff.1 h
  unfold Vw.saidTo
  rw [List.take_succ_eq_append_getElem hi, List.filter_append, List.flatMap_append, List.append_assoc]
  by_cases e : V.gs[i].state = 5 <;> simp [e]
theorem saidTo_all (V : Vw) : V.saidTo V.gs.length = V.said := by unfold Vw.saidTo Vw.said; rw [List.take_length]
theorem flat_take_le {α : Type} (f : α → List Int) : ∀ (l : List α) (i : Nat), ((l.take i).flatMap f).length ≤ (l.flatMap f).length
  | [], _ => by simp
  | _ :: _, 0 => by simp
  | x :: l, i + 1 => by have := flat_take_le f l i; simp only [List.take_succ_cons, List.flatMap_cons, List.length_append]; omega
theorem saidTo_len {V : Vw} (h : Small V) (i : Nat) : (V.saidTo i).length ≤ 1000000 := by
  have h1 := h.n
  unfold Vw.names Vw.said at h1
  unfold Vw.saidTo
  have h2 : (((V.gs.take i).filter fun g => g.state != 5).flatMap (·.stack)).length ≤ ((V.gs.filter fun g => g.state != 5).flatMap (·.stack)).length := by
    have : ∀ (l : List Gr), ((l.filter fun g => g.state != 5).flatMap (·.stack)) = l.flatMap fun g => if g.state != 5 then g.stack else [] := by
      intro l
      induction l with
      | nil => rfl
      | cons g l ih =>
        rw [List.filter_cons, List.flatMap_cons, ← ih]
        split <;> simp
    rw [this, this]; exact flat_take_le _ _ _
  simp only [List.length_append] at h1 ⊢
  omega
def RootsPost (V : Vw) (w : World) (e : Ending) (w' : World) : Prop :=
  ∃ v', e = .returned v' ∧ OwnI 3 w' v' V.rootsL ∧ Chg [] w w' ∧ ∀ k ∈ fpv v', w.heap.size ≤ k
def RootsRel (w0 : World) (bm bo b : Nat) (V : Vw) (gk : Nat) (idx : Value) (w : World) : Prop :=
  ∃ i v, gk + i = V.gs.length + 1 ∧ i ≤ V.gs.length ∧ idx = .int .i64 (i : Nat) ∧ RtI bm bo b w v ((V.saidTo i).foldl addOnce []) (1 + (V.saidTo i).length) ∧ Chg [] w0 w ∧ ∀ k ∈ fpv v, w0.heap.size ≤ k
theorem AddPost.roots {w0 w : World} {bm bo b N : Nat} {v : Value} {l xs : List Int} {e : Ending} {w' : World} (h : AddPost bm bo b N v l xs w e w') (c : Chg [] w0 w) (hf : ∀ k ∈ fpv v, w0.heap.size ≤ k) (h1 : w0.heap.size ≤ bo) (h2 : w0.heap.size ≤ b) :
    e = .returned (.tuple #[]) ∧ ∃ v', RtI bm bo b w' v' (xs.foldl addOnce l) (N + xs.length) ∧ Chg [] w0 w' ∧ ∀ k ∈ fpv v', w0.heap.size ≤ k := by
  obtain ⟨rfl, v', I, S⟩ := h
  have hb : ∀ k ∈ [bo, b] ++ fpv v, w0.heap.size ≤ k := fun k hk => by
    rcases List.mem_append.1 hk with q | q
    · have : k = bo ∨ k = b := by simpa using q
      rcases this with rfl | rfl <;> assumption
    · exact hf k q
  refine ⟨rfl, v', I, c.new S.c hb, fun k hk => ?_⟩
  rcases S.f k (List.mem_append_right _ hk) with q | q
  · exact hb k q
  · exact Nat.le_trans c.size q
set_option maxHeartbeats 1600000 in
set_option maxRecDepth 100000 in
theorem roots_ok (w : World) (v : Value) (V : Vw) (h : VwAt w w.heap.size v V) (hS : Small V) : Calls Try.prog 19 #[v] w (RootsPost V w) := by
  have hmm := @run_makeMap Try.prog
  obtain ⟨g, A1, c1, A2, c2, rfl, h1, h2, h3, h4, h5⟩ := h.ex
  obtain ⟨A0, c0, rfl⟩ := h1.ex
  have hs : (V.gs.length : Int) ≤ 9223372036854775807 := by unfold maxLen at h4; omega
  have hs0 : V.gs.length ≤ 1000000 := hS.g
  have H := Lib.hid (And.intro h1 h2); clear h h1 h2 h3 h4 h5
  go_enter Try.func19, Try.ntmps19
  have M0 := IMap.made ((w.alloc (.cells #[.int .i64 V.phase, .int .i64 V.cycle, .int .i64 V.clock, .slice A0 V.globals.length c0, .slice A1 V.gs.length c1, .slice A2 V.objects.length c2, .int .i64 V.grey, .int .i64 V.notes, .int .i64 V.roots] 26)).alloc (.cells #[.slice none 0 0] 22)) Try.prog 3
  rw [World.size_alloc, World.size_alloc] at M0
  obtain ⟨w3, hrun, M1, C1⟩ := M0.put ity (x := 0) (v := 1) ⟨by omega, by omega⟩ ⟨by omega, by omega⟩ (by unfold maxLen; omega)
  have C0 := (((Chg.refl [] w).alloc (.cells #[.int .i64 V.phase, .int .i64 V.cycle, .int .i64 V.clock, .slice A0 V.globals.length c0, .slice A1 V.gs.length c1, .slice A2 V.objects.length c2, .int .i64 V.grey, .int .i64 V.notes, .int .i64 V.roots] 26)).alloc (.cells #[.slice none 0 0] 22))
  have Bo := (Blk.new (w.alloc (.cells #[.int .i64 V.phase, .int .i64 V.cycle, .int .i64 V.clock, .slice A0 V.globals.length c0, .slice A1 V.gs.length c1, .slice A2 V.objects.length c2, .int .i64 V.grey, .int .i64 V.notes, .int .i64 V.roots] 26)) 22 #[.slice none 0 0]).alloc (.map #[] 0)
  have Bv := ((Blk.new w 26 #[.int .i64 V.phase, .int .i64 V.cycle, .int .i64 V.clock, .slice A0 V.globals.length c0, .slice A1 V.gs.length c1, .slice A2 V.objects.length c2, .int .i64 V.grey, .int .i64 V.notes, .int .i64 V.roots]).alloc (.cells #[.slice none 0 0] 22)).alloc (.map #[] 0)
  rw [World.size_alloc] at Bo
  have Bo' := C1.blk Bo (by simp)
  have Bv' := C1.blk Bv (by simp; omega)
  have C1' := (C0.alloc (.map #[] 0)).new C1 (by simp; omega)
  have hz : w.heap.size + 2 < w3.heap.size := by have := C1.size; simp at this; omega
  have M1' : IMap Try.prog 3 w3 (w.heap.size + 1 + 1) 1 (seenF []) := M1.ext fun x => by unfold putF seenF; by_cases e : x = 0 <;> simp [e]
  have HB := Lib.hid (And.intro M1' (And.intro Bo' (And.intro Bv' C1'))); clear M0 M1 C1 C0 Bo Bv Bo' Bv' C1' M1'
  have v3 := (HB.out.2.2.1.alloc (.cells #[.map (some (w.heap.size + 1 + 1))] 51)).cellv 3 rfl
  have hz1 : w.heap.size < w3.heap.size := by omega
  go_wp2_with fail
  clear hrun
  have I0 : RtI w3.heap.size (w.heap.size + 1) (w.heap.size + 1 + 1) (w3.alloc (.cells #[.map (some (w.heap.size + 1 + 1))] 51)) (.slice none 0 0) [] 1 :=
    ⟨Blk.new _ _ _, HB.out.2.1.alloc _, HB.out.1.alloc _, OwnI.nil _ _⟩
  have C3 := HB.out.2.2.2.alloc (.cells #[.map (some (w.heap.size + 1 + 1))] 51)
  have V3 := HB.out.2.2.1.alloc (.cells #[.map (some (w.heap.size + 1 + 1))] 51)
  have HI := Lib.hid (And.intro I0 (And.intro C3 V3)); clear I0 C3 V3 v3
  have hgl : V.globals.length ≤ 1000000 := by have := saidTo_len hS 0; simpa [Vw.saidTo] using this
  refine (add_ok _ w3.heap.size (w.heap.size + 1) (w.heap.size + 1 + 1) 1 _ _ [] V.globals w.heap.size HI.out.1 (H.out.1.chg HI.out.2.1 (Nat.le_refl _) (by simp)) ⟨by omega, by omega, by omega, by simp [fpv, Value.ownBlock]⟩ (by simp; omega)).mono ?_
  intro e w4 hp
  have hcells : w4.cell? ⟨w.heap.size, 4, none⟩ = some (.slice A1 V.gs.length c1) := by
    obtain ⟨_, v', _, S'⟩ := hp
    exact (S'.c.blk HI.out.2.2 (by simp [fpv, Value.ownBlock]; omega)).cellv 4 rfl
  obtain ⟨rfl, v5, I5, C5, F5⟩ := hp.roots HI.out.2.1 (by simp [fpv, Value.ownBlock]) (by omega) (by omega)
  have e0 : V.saidTo 0 = V.globals := by simp [Vw.saidTo]
  have hz4 : w.heap.size < w4.heap.size := by have := C5.size; have := I5.bm.lt; omega
  have H5 := Lib.hid (And.intro I5 (And.intro C5 F5)); clear I5 C5 F5 HI hp
  go_wp2_with fail
  have hcells2 := hcells
  clear hcells
  go_loopg [18] (V.gs.length + 1) (fun gk idx wr => RootsRel w w3.heap.size (w.heap.size + 1) (w.heap.size + 1 + 1) V gk idx wr)
  case atStart => exact ⟨0, v5, by omega, by omega, rfl, by rw [e0]; exact H5.out.1, H5.out.2.1, H5.out.2.2⟩
  case round =>
    obtain ⟨i, v1, hgk, hin, rfl, J, C, F⟩ := hrel
    by_cases e : i < V.gs.length
    · obtain ⟨x, hx⟩ : ∃ x, V.gs[i]? = some x := ⟨V.gs[i], List.getElem?_eq_getElem e⟩
      obtain ⟨ba, off, s, rfl, hb, i0, i1, i2, hsl, hwf, _⟩ := (H.out.2.chg C (Nat.le_refl _) (by simp)).at_ i x hx
      obtain ⟨As, cs, rfl⟩ := hsl.ex
      have hi' : (i : Int) < (V.gs.length : Int) := by omega
      have hf := saidTo_succ hx
      have hlen := saidTo_len hS (i + 1)
      have hlen0 := saidTo_len hS i
      rw [hf] at hlen
      have HA := Lib.hid (And.intro J (And.intro C (And.intro F (And.intro hsl hf)))); clear J C F hsl hf hx hwf
      by_cases hp : x.state = 5
      · have hp1 : (x.state != 5) = false := by simpa using hp
        have e1 := HA.out.2.2.2.2
        rw [if_pos hp, List.append_nil] at e1
        have HE := Lib.hid e1; clear e1 hp hlen
        go_wp2_with fail
        go_roundg (V.gs.length - i)
        case measure => omega
        case rel => exact ⟨i + 1, v1, by omega, by omega, by go_num, by rw [HE.out]; exact HA.out.1.chg0 ((Chg.refl _ _).alloc _), HA.out.2.1.alloc _, HA.out.2.2.1⟩
      · have hp1 : (x.state != 5) = true := by simpa using hp
        have e1 := HA.out.2.2.2.2
        rw [if_neg hp] at e1 hlen
        rw [List.length_append] at hlen
        have HE := Lib.hid e1; clear e1 hp
        go_wp2_with fail
        have JA := HA.out.1.chg0 ((Chg.refl _ wr).alloc (.cells #[.int .i64 x.state, .int .i64 x.p, .slice As x.stack.length cs] 41))
        have CA := HA.out.2.1.alloc (.cells #[.int .i64 x.state, .int .i64 x.p, .slice As x.stack.length cs] 41)
        refine (add_ok _ w3.heap.size (w.heap.size + 1) (w.heap.size + 1 + 1) (1 + (V.saidTo i).length) v1 _ ((V.saidTo i).foldl addOnce []) x.stack w.heap.size JA (HA.out.2.2.2.1.chg ((Chg.refl [] wr).alloc _) HA.out.2.1.size (by simp)) ⟨by omega, by omega, by omega, HA.out.2.2.1⟩ (by have := len_foldOnce (V.saidTo i) []; simp only [List.length_nil] at this; omega)).mono ?_
        intro e w5 hp
        obtain ⟨rfl, v6, I6, C6, F6⟩ := hp.roots CA HA.out.2.2.1 (by omega) (by omega)
        have H6 := Lib.hid (And.intro I6 (And.intro C6 F6)); clear I6 C6 F6 JA CA hp
        go_wp2_with fail
        go_roundg (V.gs.length - i)
        case measure => omega
        case rel => exact ⟨i + 1, v6, by omega, by omega, by go_num, by rw [HE.out, List.foldl_append, List.length_append, ← Nat.add_assoc]; exact H6.out.1, H6.out.2.1, H6.out.2.2⟩
    · obtain rfl : i = V.gs.length := by omega
      rw [saidTo_all] at J
      have b0 := J.bo.cellv 0 rfl
      have HA := Lib.hid (And.intro J (And.intro C F)); clear J C F hin e hgk
      obtain ⟨A6, c6, rfl⟩ := HA.out.1.o.slice
      go_wp2_with fail
      go_ret
      exact ⟨_, rfl, HA.out.1.o, HA.out.2.1, HA.out.2.2⟩
end Go.Proofs.Ytfkgooliglcjkaa
