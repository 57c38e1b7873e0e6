/- The walks of package view: Find, Words; class.Of, class.Size. -/
import Derived.Test.YtfkgooliglcjkaaVwAsk
namespace Go.Proofs.Ytfkgooliglcjkaa
open Go.RowKit Go.Maps

theorem lt_of_cell' {w : World} {b off : Nat} {v : Value} (h : w.cell? ⟨b, off, none⟩ = some v) : b < w.heap.size := by
  rcases Nat.lt_or_ge b w.heap.size with hlt | hge
  · exact hlt
  · simp [World.cell?, Array.getElem?_eq_none hge] at h
/-! Find -/
def findOs (os : List Ob) (x : Int) : Int := match os.findIdx? (fun o => o.addr == x) with | some k => (k : Int) | none => -1
def findI (V : Vw) (a : Int) : Int := findOs V.objects a
theorem findI_eq (V : Vw) (a : Int) : findI V a = match V.at_ a with | some k => (k : Int) | none => -1 := rfl
theorem findOs_some {os : List Ob} {x : Int} {k : Nat} (h : os.findIdx? (fun o => o.addr == x) = some k) : findOs os x = k := by unfold findOs; rw [h]
theorem findOs_none {os : List Ob} {x : Int} (h : os.findIdx? (fun o => o.addr == x) = none) : findOs os x = -1 := by unfold findOs; rw [h]
def IntPost (x : Int) (w : World) (e : Ending) (w' : World) : Prop := e = .returned (.int .i64 x) ∧ Chg [] w w'
def FdPost (b : Bool) (w : World) (e : Ending) (w' : World) : Prop := e = .returned (.bool b) ∧ Chg [] w w'
set_option maxHeartbeats 800000 in
theorem find1_ok (w : World) (a x : Int) (A : Option Addr) (n c ba : Nat) (m : Bool) (h : w.cell? ⟨ba, 0, none⟩ = some (.int .i64 x)) :
    Calls Try.prog 49 #[.agg #[.int .i64 a, .slice A n c, .bool m], .pointer (some ⟨ba, 0, none⟩)] w (FdPost (a == x) w) := by
  have hlt : ba < w.heap.size := lt_of_cell' h
  have C := (Chg.refl [] w).alloc (.cells #[.int .i64 a, .slice A n c, .bool m] 30)
  have h2 := C.cellv hlt (by simp) h
  have HC := Lib.hid C; clear C
  go_enter Try.func49, Try.ntmps49
  go_wp2_with fail
  go_ret
  exact ⟨rfl, HC.out⟩
def IxRelV (w0 : World) (os : List Ob) (x : Int) (_ : Nat) (gk : Nat) (idx : Value) (w : World) : Prop :=
  ∃ i, gk + i = os.length + 1 ∧ i ≤ os.length ∧ idx = .int .i64 (i : Nat) ∧ (os.take i).findIdx? (fun o => o.addr == x) = none ∧ Chg [] w0 w
set_option maxHeartbeats 1600000 in
set_option maxRecDepth 100000 in
theorem indexFunc_ok (w : World) (B : Nat) (A : Option Addr) (c ba : Nat) (os : List Ob) (x : Int) (h : ObsAt w B A os) (hB : B ≤ w.heap.size) (hl : os.length ≤ 1000000) (hb : w.cell? ⟨ba, 0, none⟩ = some (.int .i64 x)) :
    Calls Try.prog 48 #[.slice A os.length c, .func (.func 49) #[] #[.pointer (some ⟨ba, 0, none⟩)]] w (IntPost (findOs os x) w) := by
  have H := Lib.hid h; clear h
  have hlt : ba < w.heap.size := lt_of_cell' hb
  have HB := Lib.hid hb; clear hb
  go_enter Try.func48, Try.ntmps48
  go_wp2_with fail
  go_loopg [8] (os.length + 1) (fun gk idx wr => IxRelV w os x ba gk idx wr)
  case atStart => exact ⟨0, by omega, by omega, rfl, by simp, Chg.refl _ _⟩
  case round =>
    obtain ⟨i, hgk, hin, rfl, hno, C⟩ := hrel
    by_cases e : i < os.length
    · obtain ⟨o, ho⟩ : ∃ o, os[i]? = some o := ⟨_, List.getElem?_eq_getElem e⟩
      obtain ⟨b, off, s, rfl, hbb, i0, i1, i2, hsl, -⟩ := (H.out.chg C hB (by simp)).at_ i o ho
      obtain ⟨As, cs, rfl⟩ := hsl.ex
      clear hsl
      have hi' : (i : Int) < (os.length : Int) := by omega
      have hts : os.take (i + 1) = os.take i ++ [o] := by
        obtain ⟨hi, rfl⟩ := List.getElem?_eq_some_iff.1 ho
        exact List.take_succ_eq_append_getElem hi
      have hyes : (o.addr == x) = true → os.findIdx? (fun o => o.addr == x) = some i := fun hq => by
        have h1 : (os.take (i + 1)).findIdx? (fun o => o.addr == x) = some i := by
          rw [hts, List.findIdx?_append, hno]
          simp [List.findIdx?_singleton, hq]; omega
        have h2 : os = os.take (i + 1) ++ os.drop (i + 1) := (List.take_append_drop _ _).symm
        rw [h2, List.findIdx?_append, h1]; rfl
      have hnot : (o.addr == x) = false → (os.take (i + 1)).findIdx? (fun o => o.addr == x) = none := fun hq => by
        rw [hts, List.findIdx?_append, hno]; simp [List.findIdx?_singleton, hq]
      have hcb := C.cellv hlt (by simp) HB.out
      have HX := Lib.hid (And.intro hyes (And.intro hnot C)); clear hyes hnot C hts hno ho hbb
      go_wp2_with fail
      refine (find1_ok wr o.addr x As o.slots.length cs ba o.marked hcb).mono ?_
      rintro e w2 ⟨rfl, C2⟩
      have HC := Lib.hid C2; clear C2
      cases hq : (o.addr == x) with
      | true =>
        have HE := Lib.hid (HX.out.1 hq); clear hq
        go_wp2_with fail
        go_ret
        exact ⟨by rw [findOs_some HE.out]; rfl, HX.out.2.2.trans HC.out⟩
      | false =>
        have HE := Lib.hid (HX.out.2.1 hq); clear hq
        go_wp2_with fail
        go_roundg (os.length - i)
        case measure => omega
        case rel => exact ⟨i + 1, by omega, by omega, by go_num, HE.out, HX.out.2.2.trans HC.out⟩
    · obtain rfl : i = os.length := by omega
      rw [List.take_length] at hno
      have HX := Lib.hid (And.intro hno C); clear hno C e hgk hin
      go_wp2_with fail
      go_ret
      exact ⟨by rw [findOs_none HX.out.1]; rfl, HX.out.2⟩
set_option maxHeartbeats 800000 in
theorem find_ok (w : World) (v : Value) (V : Vw) (a : Int) (h : VwAt w w.heap.size v V) (hS : Small V) : Calls Try.prog 22 #[v, .int .i64 a] w (IntPost (findI V a) w) := by
  obtain ⟨g, A1, c1, A2, c2, rfl, h1, h2, h3, h4, h5⟩ := h.ex
  obtain ⟨A0, c0, rfl⟩ := h1.ex
  have C1 := ((Chg.refl [] w).alloc (.cells #[.int .i64 V.phase, .int .i64 V.cycle, .int .i64 V.clock, .slice A0 V.globals.length c0, .slice A1 V.gs.length c1, .slice A2 V.objects.length c2, .int .i64 V.grey, .int .i64 V.notes, .int .i64 V.roots] 26)).alloc (.cells #[.int .i64 a] 3)
  have B1 := Blk.new (w.alloc (.cells #[.int .i64 V.phase, .int .i64 V.cycle, .int .i64 V.clock, .slice A0 V.globals.length c0, .slice A1 V.gs.length c1, .slice A2 V.objects.length c2, .int .i64 V.grey, .int .i64 V.notes, .int .i64 V.roots] 26)) 3 #[.int .i64 a]
  rw [World.size_alloc] at B1
  have HB := Lib.hid (And.intro C1 (And.intro B1 h3)); clear C1 B1 h h1 h2 h3 h4 h5
  go_enter Try.func22, Try.ntmps22
  go_wp2_with fail
  refine (indexFunc_ok _ w.heap.size A2 c2 (w.heap.size + 1) V.objects a (HB.out.2.2.chg HB.out.1 (Nat.le_refl _) (by simp)) HB.out.1.size hS.o (HB.out.2.1.cellv 0 rfl)).mono ?_
  rintro e w2 ⟨rfl, C2⟩
  have HC := Lib.hid (HB.out.1.trans C2); clear C2
  go_wp2_with fail
  go_ret
  exact ⟨rfl, HC.out⟩
end Go.Proofs.Ytfkgooliglcjkaa
