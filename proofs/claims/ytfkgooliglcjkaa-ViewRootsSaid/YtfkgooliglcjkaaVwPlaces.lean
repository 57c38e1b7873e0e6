/- The walks of package view: places. -/
import Derived.Test.YtfkgooliglcjkaaOwnI
import Derived.Carry
import Derived.Deep.LoopGhost
import Derived.Outline
namespace Go.Proofs.Ytfkgooliglcjkaa
open Go.RowKit Go.Maps

theorem take_succ_get {L : List Int} {i : Nat} {a : Int} (h : L[i]? = some a) : L.take (i + 1) = L.take i ++ [a] := by
  obtain ⟨hi, rfl⟩ := List.getElem?_eq_some_iff.1 h
  exact List.take_succ_eq_append_getElem hi
/-- A new list of integers. -/
def NewI (xs : List Int) (w : World) (e : Ending) (w' : World) : Prop := ∃ v, e = .returned v ∧ OwnI 3 w' v xs ∧ Chg [] w w' ∧ ∀ k ∈ fpv v, w.heap.size ≤ k
theorem ity : IntTy Try.prog 51 3 := ⟨Try.underlying51, Try.underlying3, fun _ => by kernel_rfl⟩
theorem slty : SlTy Try.prog 22 3 := ⟨Try.underlying22, by kernel_rfl⟩

/-- The first places among the first i. -/
def plF (os : List Ob) (i : Nat) (a : Int) : Option Int := ((os.take i).findIdx? fun o => o.addr == a).map fun k => (k : Int)
theorem plF_zero (os : List Ob) : plF os 0 = fun _ => none := by funext a; simp [plF]
def atF (V : Vw) (a : Int) : Option Int := (V.at_ a).map fun k => (k : Int)
theorem plF_all (V : Vw) : plF V.objects V.objects.length = atF V := by
  funext a; unfold plF atF Vw.at_; rw [List.take_length]
theorem plF_succ {os : List Ob} {i : Nat} {o : Ob} (h : os[i]? = some o) (a : Int) : plF os (i + 1) a = match plF os i a with | some k => some k | none => if o.addr = a then some (i : Int) else none := by
  obtain ⟨hi, rfl⟩ := List.getElem?_eq_some_iff.1 h
  unfold plF
  rw [List.take_succ_eq_append_getElem hi, List.findIdx?_append]
  cases (os.take i).findIdx? fun o => o.addr == a with
  | some k => simp
  | none =>
    simp only [List.findIdx?_singleton, List.length_take, Option.none_or]
    rw [Nat.min_eq_left (by omega)]
    by_cases e : os[i].addr = a
    · simp [e]
    · simp [e]
theorem plF_old {os : List Ob} {i : Nat} {o : Ob} (h : os[i]? = some o) (hs : (plF os i o.addr).isSome = true) (a : Int) : plF os i a = plF os (i + 1) a := by
  rw [plF_succ h]
  cases e : plF os i a with
  | some k => rfl
  | none =>
    by_cases e2 : o.addr = a
    · subst e2; rw [e] at hs; cases hs
    · simp [e2]
theorem plF_new {os : List Ob} {i : Nat} {o : Ob} (h : os[i]? = some o) (hs : (plF os i o.addr).isSome = false) (a : Int) : putF (plF os i) o.addr (i : Int) a = plF os (i + 1) a := by
  rw [plF_succ h]
  unfold putF
  by_cases e2 : a = o.addr
  · subst e2
    rw [if_pos rfl]
    have : plF os i o.addr = none := by simpa using hs
    rw [this]; simp
  · rw [if_neg e2]
    cases e : plF os i a with
    | some k => rfl
    | none => simp [Ne.symm e2]

def PlPost (V : Vw) (w : World) (e : Ending) (w' : World) : Prop :=
  ∃ b, e = .returned (.map (some b)) ∧ IMap Try.prog 3 w' b V.objects.length (atF V) ∧ Chg [] w w' ∧ w.heap.size ≤ b
def PlRel (w0 : World) (b : Nat) (os : List Ob) (gk : Nat) (idx : Value) (w : World) : Prop :=
  ∃ i, gk + i = os.length + 1 ∧ i ≤ os.length ∧ idx = .int .i64 (i : Nat) ∧ IMap Try.prog 3 w b i (plF os i) ∧ Chg [] w0 w
set_option maxHeartbeats 1600000 in
set_option maxRecDepth 100000 in
theorem places_ok (w : World) (v : Value) (V : Vw) (h : VwAt w w.heap.size v V) : Calls Try.prog 41 #[v] w (PlPost V w) := by
  have hmm := @run_makeMap Try.prog
  obtain ⟨g, A1, c1, A2, c2, rfl, h1, h2, h3, h4, h5⟩ := h.ex
  have hs : (V.objects.length : Int) ≤ 9223372036854775807 := by unfold maxLen at h5; omega
  unfold maxLen at h5
  have H := Lib.hid h3; clear h h1 h2 h3 h4
  go_enter Try.func41, Try.ntmps41
  go_wp2_with fail
  have M0 := IMap.made (w.alloc (.cells #[.int .i64 V.phase, .int .i64 V.cycle, .int .i64 V.clock, g, .slice A1 V.gs.length c1, .slice A2 V.objects.length c2, .int .i64 V.grey, .int .i64 V.notes, .int .i64 V.roots] 26)) Try.prog 3
  have C0 := ((Chg.refl [] w).alloc (.cells #[.int .i64 V.phase, .int .i64 V.cycle, .int .i64 V.clock, g, .slice A1 V.gs.length c1, .slice A2 V.objects.length c2, .int .i64 V.grey, .int .i64 V.notes, .int .i64 V.roots] 26)).alloc (.map #[] 0)
  rw [World.size_alloc, ← plF_zero V.objects] at M0
  have HM := Lib.hid (And.intro M0 C0); clear M0 C0
  go_loopg [12] (V.objects.length + 1) (fun gk idx wr => PlRel w (w.heap.size + 1) V.objects gk idx wr)
  case atStart => exact ⟨0, by omega, by omega, rfl, HM.out.1, HM.out.2⟩
  case round =>
    obtain ⟨i, hgk, hin, rfl, M, C⟩ := hrel
    by_cases e : i < V.objects.length
    · obtain ⟨o, ho⟩ : ∃ o, V.objects[i]? = some o := ⟨V.objects[i], List.getElem?_eq_getElem e⟩
      obtain ⟨b, off, s, rfl, hb, i0, i1, i2, hsl, hwf⟩ := (H.out.chg C (Nat.le_refl _) (by simp)).at_ i o ho
      obtain ⟨As, cs, rfl⟩ := hsl.ex
      clear hsl
      have hi' : (i : Int) < (V.objects.length : Int) := by omega
      have HA := Lib.hid (And.intro M (And.intro C ho)); clear M C ho
      have HW := Lib.hid hwf; clear hwf
      by_cases hp : (plF V.objects i o.addr).isSome = true
      · have hp2 := plF_old HA.out.2.2 hp
        have HP := Lib.hid hp2; clear hp2
        go_wp2_with (at_lookup; refine wpList_imap_lookOk rfl _ _ rfl (HA.out.1.alloc _) ity rfl rfl HW.out ?_)
        go_roundg (V.objects.length - i)
        case measure => omega
        case rel => exact ⟨i + 1, by omega, by omega, by go_num, ((HA.out.1.alloc _).mono (by omega)).ext HP.out, HA.out.2.1.alloc _⟩
      · have hp' : (plF V.objects i o.addr).isSome = false := by simpa using hp
        have hp2 := plF_new HA.out.2.2 hp'
        have HP := Lib.hid hp2; clear hp2 hp
        go_wp2_with (first
          | (at_lookup; refine wpList_imap_lookOk rfl _ _ rfl (HA.out.1.alloc _) ity rfl rfl HW.out ?_)
          | (at_mapUpdate; refine wpList_imap_put rfl _ _ _ rfl (HA.out.1.alloc _) ity rfl rfl HW.out rfl ⟨by omega, by omega⟩ (by unfold maxLen; omega) ?_; intro w1 M1 C1))
        have HB := Lib.hid (And.intro M1 C1); clear M1 C1
        go_wp2_with fail
        go_roundg (V.objects.length - i)
        case measure => omega
        case rel => exact ⟨i + 1, by omega, by omega, by go_num, HB.out.1.ext HP.out, (HA.out.2.1.alloc _).new HB.out.2 (by simp)⟩
    · obtain rfl : i = V.objects.length := by omega
      rw [plF_all] at M
      have HA := Lib.hid (And.intro M C); clear M C hin e hgk
      go_wp2_with fail
      go_ret
      exact ⟨_, rfl, HA.out.1, HA.out.2, by omega⟩
end Go.Proofs.Ytfkgooliglcjkaa
