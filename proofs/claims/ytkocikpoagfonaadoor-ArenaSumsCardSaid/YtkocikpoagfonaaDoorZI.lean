/- A slice of integers that is read; treadmillref1.Ints, Has (XRdI without the view). -/
import Derived.Test.YtkocikpoagfonaaDoorOwnZ
import Derived.BigQuiet
import Derived.Deep.LoopGhost
import Derived.Deep.DeepCutAuto
namespace Go.Proofs.YtkocikpoagfonaaDoor
open Go.RowKit Go.Maps

structure RdI (w : World) (v : Value) (xs : List Int) : Prop where
  ex : ∃ A c, v = .slice A xs.length c
  len : xs.length ≤ 9223372036854775807
  at_ : ∀ A n c, v = .slice A n c → ∀ i x, xs[i]? = some x → ∃ b off, A = some ⟨b, off, none⟩ ∧ w.cell? ⟨b, off + i, none⟩ = some (.int .i64 x)
theorem take_succ_get {L : List Int} {i : Nat} {a : Int} (h : L[i]? = some a) : L.take (i + 1) = L.take i ++ [a] := by
  obtain ⟨hi, rfl⟩ := List.getElem?_eq_some_iff.1 h
  exact List.take_succ_eq_append_getElem hi
theorem OwnI.rd {E : TypeId} {w : World} {v : Value} {xs : List Int} (h : OwnI E w v xs) : RdI w v xs := by
  refine ⟨h.slice, ?_, fun A n c e i x hx => ?_⟩
  · rcases h.o.2 with ⟨_, h0⟩ | ⟨g, cap, cur, _, _, _, hc, hm, _⟩
    · omega
    · unfold maxLen at hm; omega
  · subst e
    obtain ⟨g, e1, h1, _⟩ := h.cell hx
    exact ⟨g, 0, e1, by rw [Nat.zero_add]; exact h1⟩
theorem RdI.drewN {w : World} {v : Value} {xs : List Int} (h : RdI w v xs) (n : Nat) : RdI (w.drewN n) v xs := ⟨h.ex, h.len, h.at_⟩
/-- A literal of the call's own: in a new block. -/
theorem RdI.blk {w : World} {g c : Nat} {T : TypeId} {xs : List Int} (h : Blk w g T (xs.map (Value.int .i64)).toArray) (hl : xs.length ≤ 9223372036854775807) : RdI w (.slice (some ⟨g, 0, none⟩) xs.length c) xs :=
  ⟨⟨_, _, rfl⟩, hl, fun A n c e i x hx => by
    injection e with e1 e2 e3
    exact ⟨g, 0, e1.symm, by rw [Nat.zero_add, h.cell]; simp [hx]⟩⟩

def BoolD (b : Bool) (w : World) (e : Ending) (w' : World) : Prop := e = .returned (.bool b) ∧ ∃ n, w' = w.drewN n
theorem BoolD.chg {b : Bool} {w : World} {e : Ending} {w' : World} (h : BoolD b w e w') : e = .returned (.bool b) ∧ Chg [] w w' := by
  obtain ⟨h1, n, rfl⟩ := h
  exact ⟨h1, (Chg.refl _ _).drewN n⟩
def IntsRel (w0 : World) (xs ys : List Int) (gk : Nat) (idx : Value) (w : World) : Prop := ∃ i, gk + i = xs.length + 1 ∧ i ≤ xs.length ∧ idx = .int .i64 (i : Nat) ∧ xs.take i = ys.take i ∧ ∃ n, w = w0.drewN n
theorem drewN_drewN (w : World) (a b : Nat) : (w.drewN a).drewN b = w.drewN (a + b) := by simp [World.drewN, Nat.add_assoc]
theorem rd_of {w w' : World} {v : Value} {xs : List Int} (h : ∃ n, w' = w.drewN n) (hv : RdI w v xs) : RdI w' v xs := by obtain ⟨n, rfl⟩ := h; exact hv.drewN n
theorem drew_of {w w' : World} (h : ∃ n, w' = w.drewN n) (m : Nat) : ∃ n, w'.drewN m = w.drewN n := by obtain ⟨n, rfl⟩ := h; exact ⟨_, drewN_drewN w n m⟩
theorem take_ne {xs ys : List Int} {i : Nat} {x y : Int} (hx : xs[i]? = some x) (hy : ys[i]? = some y) (h : x ≠ y) : xs ≠ ys := by
  rintro rfl
  rw [hx] at hy; injection hy with hy; exact h hy
set_option maxHeartbeats 1600000 in
set_option maxRecDepth 100000 in
theorem ints_ok (w : World) (v u : Value) (xs ys : List Int) (hv : RdI w v xs) (hu : RdI w u ys) : Calls Tryd.prog 16 #[v, u] w (BoolD (decide (xs = ys)) w) := by
  obtain ⟨A, c, rfl⟩ := hv.ex
  obtain ⟨B, d, rfl⟩ := hu.ex
  have hl1 := hv.len
  have hl2 := hu.len
  by_cases hne : xs.length = ys.length
  · have hb : ((xs.length : Int) != (ys.length : Int)) = false := by simp [hne]
    have hb' : (xs.length != ys.length) = false := by simp [hne]
    have HV := Lib.hid (And.intro hv (And.intro hu hne)); clear hv hu hne
    go_enter Tryd.func16, Tryd.ntmps16
    go_wp2_with fail
    go_loopg [5] (xs.length + 1) (fun gk idx wr => IntsRel w xs ys gk idx wr)
    case atStart => exact ⟨0, by omega, by omega, rfl, rfl, 0, rfl⟩
    case round =>
      obtain ⟨i, hgk, hin, rfl, ht, hn⟩ := hrel
      have hv := rd_of hn HV.out.1
      have hu := rd_of hn HV.out.2.1
      by_cases e : i < xs.length
      · obtain ⟨x, hx⟩ : ∃ x, xs[i]? = some x := ⟨_, List.getElem?_eq_getElem e⟩
        obtain ⟨y, hy⟩ : ∃ y, ys[i]? = some y := ⟨_, List.getElem?_eq_getElem (by have := HV.out.2.2; omega)⟩
        obtain ⟨b1, o1, rfl, c1⟩ := hv.at_ _ _ _ rfl i x hx
        obtain ⟨b2, o2, rfl, c2⟩ := hu.at_ _ _ _ rfl i y hy
        have HN := Lib.hid hn; clear hn hv hu
        have hi' : (i : Int) < (xs.length : Int) := by omega
        have hi2 : (i : Int) < (ys.length : Int) := by have := HV.out.2.2; omega
        have hi0 : (0 : Int) ≤ (i : Int) := by omega
        have ht2 : x = y → xs.take (i + 1) = ys.take (i + 1) := fun e => by rw [take_succ_get hx, take_succ_get hy, ht, e]
        have HT := Lib.hid (And.intro ht2 (And.intro hx hy)); clear ht2 hx hy ht
        by_cases exy : x = y
        · have hq : (x != y) = false := by simpa using exy
          have HE := Lib.hid exy; clear exy
          go_wp2_with fail
          go_quiet (fail)
          go_wp2_with fail
          go_roundg (xs.length - i)
          case measure => omega
          case rel => exact ⟨i + 1, by omega, by omega, by go_num, HT.out.1 HE.out, drew_of HN.out _⟩
        · have hq : (x != y) = true := by simpa using exy
          have HE := Lib.hid exy; clear exy
          go_wp2_with fail
          go_quiet (fail)
          go_wp2_with fail
          go_ret
          exact ⟨by rw [decide_eq_false (take_ne HT.out.2.1 HT.out.2.2 HE.out)]; rfl, drew_of HN.out _⟩
      · obtain rfl : i = xs.length := by omega
        have hxy : xs = ys := by
          have h1 : xs.take xs.length = xs := List.take_length
          have h2 : ys.take xs.length = ys := by rw [HV.out.2.2]; exact List.take_length
          rw [h1, h2] at ht; exact ht
        have HX := Lib.hid (And.intro hxy hn); clear hxy ht e hgk hin hn hv hu
        have hb3 : ¬ (xs.length : Int) < (xs.length : Int) := by omega
        go_wp2_with fail
        go_ret
        exact ⟨by rw [decide_eq_true HX.out.1]; rfl, HX.out.2⟩
  · have hb : ((xs.length : Int) != (ys.length : Int)) = true := by rw [bne_iff_ne]; omega
    have hb' : (xs.length != ys.length) = true := by rw [bne_iff_ne]; exact hne
    have HN := Lib.hid hne; clear hv hu hne
    go_enter Tryd.func16, Tryd.ntmps16
    go_wp2_with fail
    go_ret
    exact ⟨by rw [decide_eq_false (fun e => HN.out (by rw [e]))]; rfl, 0, rfl⟩
def HasRel (xs : List Int) (x : Int) (idx : Value) : Prop := ∃ i, i ≤ xs.length ∧ idx = .int .i64 (i : Nat) ∧ x ∉ xs.take i
set_option maxHeartbeats 800000 in
set_option maxRecDepth 100000 in
theorem has_ok (w : World) (v : Value) (xs : List Int) (x : Int) (hv : RdI w v xs) : Calls Tryd.prog 25 #[v, .int .i64 x] w fun e w' => e = .returned (.bool (decide (x ∈ xs))) ∧ w' = w := by
  obtain ⟨A, c, rfl⟩ := hv.ex
  have hl1 := hv.len
  have HV := Lib.hid hv; clear hv
  go_enter Tryd.func25, Tryd.ntmps25
  go_wp2_with fail
  go_loop [5] (fun idx => HasRel xs x idx) (fun idx => xs.length - (intOf idx).toNat)
  case atStart => exact ⟨0, by omega, rfl, by simp⟩
  case round =>
    obtain ⟨i, hin, rfl, ht⟩ := hrel
    by_cases e : i < xs.length
    · obtain ⟨y, hy⟩ : ∃ y, xs[i]? = some y := ⟨_, List.getElem?_eq_getElem e⟩
      obtain ⟨b1, o1, rfl, c1⟩ := HV.out.at_ _ _ _ rfl i y hy
      have hi' : (i : Int) < (xs.length : Int) := by omega
      have ht2 : y ≠ x → x ∉ xs.take (i + 1) := fun e => by
        rw [take_succ_get hy, List.mem_append]
        rintro (g | g)
        · exact ht g
        · exact e (by simpa using g : x = y).symm
      have hm := List.mem_of_getElem? hy
      have HT := Lib.hid (And.intro ht2 hm); clear ht2 hm hy ht
      by_cases exy : y = x
      · have hq : (y == x) = true := by simpa using exy
        have HE := Lib.hid exy; clear exy
        go_wp2_with fail
        go_ret
        exact ⟨by rw [decide_eq_true (HE.out ▸ HT.out.2)]; rfl, rfl⟩
      · have hq : (y == x) = false := by simpa using exy
        have HE := Lib.hid exy; clear exy
        go_wp2_with fail
        go_round
        case rel => exact ⟨i + 1, by omega, by go_num, HT.out.1 HE.out⟩
        case measure => simp [intOf]; omega
    · obtain rfl : i = xs.length := by omega
      rw [List.take_length] at ht
      have HX := Lib.hid ht; clear ht e hin
      go_wp2_with fail
      go_ret
      exact ⟨by rw [decide_eq_false HX.out]; rfl, rfl⟩
end Go.Proofs.YtkocikpoagfonaaDoor
