/- The walks of package view: Reach, Lost, White, Find; class.Of, class.Size; Words. -/
import Derived.Test.YtfkgooliglcjkaaRdI
import Derived.Test.YtfkgooliglcjkaaVwPath
namespace Go.Proofs.Ytfkgooliglcjkaa
open Go.RowKit Go.Maps

def ReachPost (V : Vw) (w : World) (e : Ending) (w' : World) : Prop := ∃ l, IsRch V l ∧ NewI l w e w'
def LostPost (V : Vw) (w : World) (e : Ending) (w' : World) : Prop := ∃ l, IsLost V l ∧ NewI l w e w'
def vwBox (V : Vw) (A0 : Option Addr) (c0 : Nat) (A1 : Option Addr) (c1 : Nat) (A2 : Option Addr) (c2 : Nat) : Array Value := #[.int .i64 V.phase, .int .i64 V.cycle, .int .i64 V.clock, .slice A0 V.globals.length c0, .slice A1 V.gs.length c1, .slice A2 V.objects.length c2, .int .i64 V.grey, .int .i64 V.notes, .int .i64 V.roots]

set_option maxHeartbeats 1600000 in
set_option maxRecDepth 100000 in
theorem reach_ok (w : World) (v : Value) (V : Vw) (h : VwAt w w.heap.size v V) (hS : Small V) : Calls Try.prog 17 #[v] w (ReachPost V w) := by
  have HV := Lib.hid h
  obtain ⟨g, A1, c1, A2, c2, rfl, h1, h2, h3, h4, h5⟩ := h.ex
  obtain ⟨A0, c0, rfl⟩ := h1.ex
  have C1 := (Chg.refl [] w).alloc (.cells #[.int .i64 V.phase, .int .i64 V.cycle, .int .i64 V.clock, .slice A0 V.globals.length c0, .slice A1 V.gs.length c1, .slice A2 V.objects.length c2, .int .i64 V.grey, .int .i64 V.notes, .int .i64 V.roots] 26)
  have HB := Lib.hid C1; clear C1 h h1 h2 h3 h4 h5
  go_enter Try.func17, Try.ntmps17
  go_wp2_with fail
  refine (walk_ok _ _ V ((HV.out.chg HB.out (Nat.le_refl _) (by simp)).mono (by simp)) hS).mono ?_
  rintro e w2 ⟨v1, v2, l1, l2, rfl, hr, hl, o1, o2, c, f1, f2⟩
  obtain ⟨A3, c3, rfl⟩ := o1.slice
  obtain ⟨A4, c4, rfl⟩ := o2.slice
  have H2 := Lib.hid (And.intro hr (And.intro o1 (And.intro (HB.out.trans c) f1))); clear hr hl o1 o2 c f1 f2
  go_wp2_with fail
  go_ret
  exact ⟨_, H2.out.1, _, rfl, H2.out.2.1, H2.out.2.2.1, fun k hk => Nat.le_trans HB.out.size (H2.out.2.2.2 k hk)⟩
set_option maxHeartbeats 1600000 in
set_option maxRecDepth 100000 in
theorem lost_ok (w : World) (v : Value) (V : Vw) (h : VwAt w w.heap.size v V) (hS : Small V) : Calls Try.prog 18 #[v] w (LostPost V w) := by
  have HV := Lib.hid h
  obtain ⟨g, A1, c1, A2, c2, rfl, h1, h2, h3, h4, h5⟩ := h.ex
  obtain ⟨A0, c0, rfl⟩ := h1.ex
  have C1 := (Chg.refl [] w).alloc (.cells #[.int .i64 V.phase, .int .i64 V.cycle, .int .i64 V.clock, .slice A0 V.globals.length c0, .slice A1 V.gs.length c1, .slice A2 V.objects.length c2, .int .i64 V.grey, .int .i64 V.notes, .int .i64 V.roots] 26)
  have HB := Lib.hid C1; clear C1 h h1 h2 h3 h4 h5
  go_enter Try.func18, Try.ntmps18
  go_wp2_with fail
  refine (walk_ok _ _ V ((HV.out.chg HB.out (Nat.le_refl _) (by simp)).mono (by simp)) hS).mono ?_
  rintro e w2 ⟨v1, v2, l1, l2, rfl, hr, hl, o1, o2, c, f1, f2⟩
  obtain ⟨A3, c3, rfl⟩ := o1.slice
  obtain ⟨A4, c4, rfl⟩ := o2.slice
  have H2 := Lib.hid (And.intro hl (And.intro o2 (And.intro (HB.out.trans c) f2))); clear hr hl o1 o2 c f1 f2
  go_wp2_with fail
  go_ret
  exact ⟨_, H2.out.1, _, rfl, H2.out.2.1, H2.out.2.2.1, fun k hk => Nat.le_trans HB.out.size (H2.out.2.2.2 k hk)⟩

def Vw.markedAt (V : Vw) (a : Int) : Bool := match V.at_ a with
  | some k => match V.objects[k]? with
    | some o => o.marked
    | none => false
  | none => false
def whiteL (V : Vw) (l : List Int) : List Int := l.filter fun a => !V.markedAt a
def WhitePost (V : Vw) (w : World) (e : Ending) (w' : World) : Prop := ∃ l, IsRch V l ∧ NewI (whiteL V l) w e w'
def WhRel (w0 : World) (V : Vw) (bV bA : Nat) (cV : Array Value) (v10 : Value) (l : List Int) (gk : Nat) (v4 idx : Value) (w : World) : Prop :=
  ∃ i, gk + i = l.length + 1 ∧ i ≤ l.length ∧ idx = .int .i64 (i : Nat) ∧ IMap Try.prog 3 w bA V.objects.length (atF V) ∧ Blk w bV 26 cV ∧ OwnI 3 w v10 l ∧ OwnI 3 w v4 (whiteL V (l.take i)) ∧ (∀ k ∈ fpv v4, k ∉ fpv v10) ∧ Chg [] w0 w ∧ ∀ k ∈ fpv v4, w0.heap.size ≤ k
theorem markedAt_of {V : Vw} {a : Int} {k : Nat} {o : Ob} (h1 : V.at_ a = some k) (h2 : V.objects[k]? = some o) : V.markedAt a = o.marked := by unfold Vw.markedAt; rw [h1]; simp only [h2]
theorem IsRch.len {V : Vw} {l : List Int} (h : IsRch V l) : l.length ≤ V.names.length := nodup_le (h.s.imp fun h => by omega) fun x hx => ((h.m x).1 hx).1.named
theorem IsLost.len {V : Vw} {l : List Int} (h : IsLost V l) : l.length ≤ V.names.length := nodup_le (h.s.imp fun h => by omega) fun x hx => ((h.m x).1 hx).1.named
set_option maxHeartbeats 1600000 in
set_option maxRecDepth 100000 in
theorem white_ok (w : World) (v : Value) (V : Vw) (h : VwAt w w.heap.size v V) (hS : Small V) : Calls Try.prog 23 #[v] w (WhitePost V w) := by
  have HV := Lib.hid h
  obtain ⟨g, A1, c1, A2, c2, rfl, h1, h2, h3, h4, h5⟩ := h.ex
  obtain ⟨A0, c0, rfl⟩ := h1.ex
  have C1 := (Chg.refl [] w).alloc (.cells #[.int .i64 V.phase, .int .i64 V.cycle, .int .i64 V.clock, .slice A0 V.globals.length c0, .slice A1 V.gs.length c1, .slice A2 V.objects.length c2, .int .i64 V.grey, .int .i64 V.notes, .int .i64 V.roots] 26)
  have B1 := Blk.new w 26 #[.int .i64 V.phase, .int .i64 V.cycle, .int .i64 V.clock, .slice A0 V.globals.length c0, .slice A1 V.gs.length c1, .slice A2 V.objects.length c2, .int .i64 V.grey, .int .i64 V.notes, .int .i64 V.roots]
  have HB := Lib.hid (And.intro C1 B1); clear C1 B1
  have H := Lib.hid h3; clear h h1 h2 h3 h4 h5
  have hnw := Lib.hid HV.out.names_wf
  go_enter Try.func23, Try.ntmps23
  go_wp2_with fail
  refine (places_ok _ _ V ((HV.out.chg HB.out.1 (Nat.le_refl _) (by simp)).mono (by simp))).mono ?_
  rintro e w2 ⟨bA, rfl, MA, C2, hbA⟩
  have B2 := C2.blk HB.out.2 (by simp)
  have b0 := B2.cellv 0 rfl
  have b1 := B2.cellv 1 rfl
  have b2 := B2.cellv 2 rfl
  have b3 := B2.cellv 3 rfl
  have b4 := B2.cellv 4 rfl
  have b5 := B2.cellv 5 rfl
  have b6 := B2.cellv 6 rfl
  have b7 := B2.cellv 7 rfl
  have b8 := B2.cellv 8 rfl
  have HC := Lib.hid (And.intro (HB.out.1.trans C2) (And.intro B2 MA)); clear B2 MA C2 hbA
  go_wp2_with fail
  refine (reach_ok _ _ V ((HV.out.chg HC.out.1 (Nat.le_refl _) (by simp)).mono HC.out.1.size) hS).mono ?_
  rintro e w3 ⟨l, hr, v10, rfl, O10, C3, F3⟩
  have hll := hr.len
  have hn := hS.n
  obtain ⟨A10, c10, rfl⟩ := O10.slice
  have HD := Lib.hid (And.intro hr (And.intro O10 (And.intro (HC.out.1.trans C3) (And.intro (C3.blk HC.out.2.1 (by simp)) (HC.out.2.2.chg C3 (by simp)))))); clear hr O10 C3 F3 b0 b1 b2 b3 b4 b5 b6 b7 b8
  go_wp2_with fail
  go_loopg [4, 12] (l.length + 1) (fun gk v4 idx wr => WhRel w V w.heap.size bA #[.int .i64 V.phase, .int .i64 V.cycle, .int .i64 V.clock, .slice A0 V.globals.length c0, .slice A1 V.gs.length c1, .slice A2 V.objects.length c2, .int .i64 V.grey, .int .i64 V.notes, .int .i64 V.roots] (.slice A10 l.length c10) l gk v4 idx wr)
  case atStart => exact ⟨0, by omega, by omega, rfl, HD.out.2.2.2.2, HD.out.2.2.2.1, HD.out.2.1, OwnI.nil _ _, by simp [fpv, Value.ownBlock], HD.out.2.2.1, by simp [fpv, Value.ownBlock]⟩
  case round =>
    obtain ⟨i, hgk, hin, rfl, MA, B, O10, O4, hd, C, F⟩ := hrel
    obtain ⟨A4, c4, rfl⟩ := O4.slice
    by_cases e : i < l.length
    · obtain ⟨x, hx⟩ : ∃ x, l[i]? = some x := ⟨_, List.getElem?_eq_getElem e⟩
      obtain ⟨g10, rfl, i0, -⟩ := O10.cell hx
      have hxr := (HD.out.1.m x).1 (List.mem_of_getElem? hx)
      have hw := hnw.out x hxr.1.named
      obtain ⟨k, hk⟩ := Option.isSome_iff_exists.1 hxr.2
      obtain ⟨o, ho, _⟩ := at_lt hk
      obtain ⟨bo, off, s, rfl, hbo, -, -, j2, -⟩ := H.out.at_ k o ho
      have j2' := C.cellv hbo (by simp) j2
      have b5 := B.cellv 5 rfl
      have hm := markedAt_of hk ho
      have hkl : (k : Int) < (V.objects.length : Int) := by have := (List.getElem?_eq_some_iff.1 ho).1; omega
      have hk0 : (0 : Int) ≤ (k : Int) := by omega
      have hi' : (i : Int) < (l.length : Int) := by omega
      have hat : atF V x = some (k : Int) := by unfold atF; rw [hk]; rfl
      have hwl : (whiteL V (l.take i)).length + 1 ≤ 1000000000000 := by
        have h1 : (whiteL V (l.take i)).length ≤ (l.take i).length := List.length_filter_le _ _
        rw [List.length_take] at h1; omega
      have hts := take_succ_get hx
      have HX := Lib.hid (And.intro MA (And.intro B (And.intro O10 (And.intro O4 (And.intro hd (And.intro C (And.intro F (And.intro hm (And.intro hat (And.intro hw hts)))))))))); clear MA B O10 O4 hd C F hm hat hw hx hxr hk ho j2 hbo hts
      cases hom : o.marked with
      | true =>
        rw [hom] at j2'
        have hwt : whiteL V (l.take (i + 1)) = whiteL V (l.take i) := by
          rw [HX.out.2.2.2.2.2.2.2.2.2.2]; unfold whiteL; rw [List.filter_append]; simp [HX.out.2.2.2.2.2.2.2.1, hom]
        have HT := Lib.hid hwt; clear hwt hom
        go_wp2_with (at_lookup; refine wpList_imap_val rfl _ _ rfl HX.out.1 ity rfl rfl HX.out.2.2.2.2.2.2.2.2.2.1 HX.out.2.2.2.2.2.2.2.2.1 ?_)
        go_roundg (l.length - i)
        case measure => omega
        case rel => exact ⟨i + 1, by omega, by omega, by go_num, HX.out.1, HX.out.2.1, HX.out.2.2.1, by rw [HT.out]; exact HX.out.2.2.2.1, HX.out.2.2.2.2.1, HX.out.2.2.2.2.2.1, HX.out.2.2.2.2.2.2.1⟩
      | false =>
        rw [hom] at j2'
        have hwt : whiteL V (l.take (i + 1)) = whiteL V (l.take i) ++ [x] := by
          rw [HX.out.2.2.2.2.2.2.2.2.2.2]; unfold whiteL; rw [List.filter_append]; simp [HX.out.2.2.2.2.2.2.2.1, hom]
        have HT := Lib.hid hwt; clear hwt hom
        go_wp2_with (first
          | (at_lookup; refine wpList_imap_val rfl _ _ rfl HX.out.1 ity rfl rfl HX.out.2.2.2.2.2.2.2.2.2.1 HX.out.2.2.2.2.2.2.2.2.1 ?_)
          | (at_builtin; refine wpList_push_int rfl _ _ rfl slty rfl HX.out.2.2.2.1 rfl hwl ?_))
        intro A5 c5 w5 O5 S5
        have q1 := HX.out.1.chg S5.c (HX.out.1.ne_own HX.out.2.2.2.1)
        have q2 := S5.c.blk HX.out.2.1 (HX.out.2.2.2.1.ne_blk HX.out.2.1 (by decide))
        have q3 := HX.out.2.2.1.chg S5.c (fun k hk hm => HX.out.2.2.2.2.1 k hm hk)
        have q4 := fresh_not HX.out.2.2.1 S5 HX.out.2.2.2.2.1
        have q5 := HX.out.2.2.2.2.2.1.new S5.c HX.out.2.2.2.2.2.2.1
        have q6 := fresh_ge S5 HX.out.2.2.2.2.2.1 HX.out.2.2.2.2.2.2.1
        have HQ := Lib.hid (And.intro q1 (And.intro q2 (And.intro q3 (And.intro O5 (And.intro q4 (And.intro q5 q6)))))); clear q1 q2 q3 q4 q5 q6 O5 S5
        go_wp2_with fail
        go_roundg (l.length - i)
        case measure => omega
        case rel => exact ⟨i + 1, by omega, by omega, by go_num, HQ.out.1, HQ.out.2.1, HQ.out.2.2.1, by rw [HT.out]; exact HQ.out.2.2.2.1, HQ.out.2.2.2.2.1, HQ.out.2.2.2.2.2.1, HQ.out.2.2.2.2.2.2⟩
    · obtain rfl : i = l.length := by omega
      rw [List.take_length] at O4 F
      rw [List.take_length]
      have HX := Lib.hid (And.intro O4 (And.intro C F)); clear MA B O10 O4 hd C F e hgk hin
      go_wp2_with fail
      go_ret
      exact ⟨l, HD.out.1, _, rfl, HX.out.1, HX.out.2.1, HX.out.2.2⟩
end Go.Proofs.Ytfkgooliglcjkaa
