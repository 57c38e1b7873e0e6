/- A machine just made: its parts put together. -/
import Derived.Test.YtoeppmnoifankaaGreatDoorMe1
namespace Go.Proofs.YtoeppmnoifankaaGreatDoor
open Go.RowKit Go.Maps

/-- In which order the parts are made. -/
def rkK : Kd → Nat
  | .prog => 0
  | .globs => 1
  | .mach => 2
  | .heap => 3
  | .sched => 4
  | .phases => 5
  | .states => 6
  | .timers => 7
  | .waits => 8
  | .psl => 9
  | .proc _ => 9
  | .notes _ => 9
  | .gsl => 10
  | .gor _ => 10
  | .commits => 10
  | .parked => 10
  | .freed => 10
theorem rkK_inj (k k' : Kd) (h : rkK k = rkK k') (h9 : rkK k < 9) : k = k' := by
  cases k <;> cases k' <;> simp [rkK] at h h9 ⊢
theorem mm_made {w wr : World} {p : MAt} {m : Mac} (a : Nat → Nat) (h0 : w.heap.size ≤ a 0) (c : Chg [] w wr) (mono : ∀ r, r < 9 → a r ≤ a (r + 1))
    (rg : ∀ k j, MF p m k j → (rkK k < 9 ∧ a (rkK k) ≤ j ∧ j < a (rkK k + 1)) ∨ (rkK k = 9 ∧ a 9 ≤ j))
    (lp : ∀ k k' j, rkK k = 9 → rkK k' = 9 → MF p m k j → MF p m k' j → k = k') (hi9 : ∀ k j, rkK k = 9 → MF p m k j → j < wr.heap.size) (h9 : a 9 ≤ wr.heap.size) (hk : ∀ k, MC ⟨w, []⟩ p m wr k) : MM ⟨w, []⟩ wr p m := by
  have le : ∀ d r, r + d ≤ 9 → a r ≤ a (r + d) := by
    intro d
    induction d with
    | zero => intro r _; exact Nat.le_refl _
    | succ d ih => intro r h; exact Nat.le_trans (ih r (by omega)) (mono (r + d) (by omega))
  refine ⟨c, fun k j h => .inr ?_, fun k j h => ?_, fun k k' j h h' => ?_, hk⟩
  · show w.heap.size ≤ j
    rcases rg k j h with ⟨h9, h1, _⟩ | ⟨h9, h1⟩
    · have := le (rkK k) 0 (by omega)
      rw [Nat.zero_add] at this
      omega
    · have := le 9 0 (by omega)
      rw [Nat.zero_add] at this
      omega
  · rcases rg k j h with ⟨h8, h1, h2⟩ | ⟨h8, h1⟩
    · have := le (9 - (rkK k + 1)) (rkK k + 1) (by omega)
      rw [show rkK k + 1 + (9 - (rkK k + 1)) = 9 by omega] at this
      omega
    · exact hi9 k j h8 h
  · have key : ∀ k k', MF p m k j → MF p m k' j → rkK k < rkK k' → False := fun k k' h h' hlt => by
      rcases rg k j h with ⟨h9, h1, h2⟩ | ⟨h9, h1⟩ <;> rcases rg k' j h' with ⟨h9', h1', h2'⟩ | ⟨h9', h1'⟩
      · have := le (rkK k' - (rkK k + 1)) (rkK k + 1) (by omega)
        rw [show rkK k + 1 + (rkK k' - (rkK k + 1)) = rkK k' by omega] at this
        omega
      · have := le (9 - (rkK k + 1)) (rkK k + 1) (by omega)
        rw [show rkK k + 1 + (9 - (rkK k + 1)) = 9 by omega] at this
        omega
      · omega
      · omega
    rcases Nat.lt_trichotomy (rkK k) (rkK k') with h1 | h1 | h1
    · exact (key k k' h h' h1).elim
    · rcases rg k j h with ⟨h9, _⟩ | ⟨h9, _⟩
      · exact rkK_inj k k' h1 h9
      · exact lp k k' j h9 (by omega) h h'
    · exact (key k' k h' h h1).elim
def aSt (x0 x1 x2 x3 x4 x5 x6 x7 x8 x9 : Nat) : Nat → Nat
  | 0 => x0
  | 1 => x1
  | 2 => x2
  | 3 => x3
  | 4 => x4
  | 5 => x5
  | 6 => x6
  | 7 => x7
  | 8 => x8
  | _ => x9
def mk0p (gm : Nat) (H : HpH) (gst : Nat) (vps : Value) (bp bn : Nat → Nat) (gsd gq : Nat) (vr : Value) (gr : Nat → Nat) (gtm gwt gl G gph bsd : Nat) (vfn : Value) (vf : Nat → Value) : MAt :=
  { gm := gm, H := H, N := 0, b := 0, gst := gst, vst := .slice none 0 0, vgs := .slice none 0 0, bg := fun _ => 0, vps := vps, bp := bp, bn := bn, gsd := gsd, gq := gq, vr := vr, vq := .slice none 0 0, gr := gr, gtm := gtm, vtm := .slice none 0 0, gwt := gwt, vwt := fun _ => .slice none 0 0, vgl := .slice (some ⟨gl, 0, none⟩) G G, gph := gph, bsd := bsd, vco := .slice none 0 0, vpk := .slice none 0 0, vfr := .slice none 0 0, vfn := vfn, vf := vf, vpo := .pointer none, vro := .pointer none, vcr := .pointer none, vsc := fun _ => .pointer none }
def mk0m (G : Nat) (fs : List (List Ins)) (wo pct : Int) (on : Bool) (part : Int) (n P : Nat) : Mac :=
  { nglob := (G : Nat), fs := fs, words := wo, pct := pct, on := on, part := part, A := hp0 n P, sts := [], ng := 0, gs := fun _ => ⟨0, 0, 0, fun _ => 0, 0, 0⟩, np := P, ps := fun _ => ⟨-1, 0, 0, false, 0, 0, 0⟩, ntl := fun _ _ => 0, ntn := fun _ => 0, rg := fun _ => rg0, com := [], made := 0, tm := [], wt := fun _ => [], gl := List.replicate G 0, clock := 0, ph := { ph := 0, cyc := 0, said := List.replicate P false, cnt := 0, rs := 0 }, gT := 0, gG := 0, gR := 0, force := 0, pk := [], cms := [], fr := [], steps := 0, out := false }
theorem OwnI.zer {w : World} {g n : Nat} (h : Blk w g 3 (zcells (.int .i64 0) n)) (hl : n ≤ 1000000) : OwnI 3 w (.slice (some ⟨g, 0, none⟩) n n) (List.replicate n 0) := by
  have h' : Blk w g 3 ((List.replicate n (0 : Int)).map (Value.int .i64)).toArray := by rw [zcells_list] at h; rw [List.map_replicate]; exact h
  have hn : (List.replicate n (0 : Int)).length = n := by simp
  generalize List.replicate n (0 : Int) = xs at h' hn
  subst hn
  exact ⟨⟨by simp, .inr ⟨g, xs.length, _, rfl, Nat.zero_le _, h', Nat.le_refl _, by unfold maxLen; omega, by simp, by simp [List.take_of_length_le]⟩⟩⟩
end Go.Proofs.YtoeppmnoifankaaGreatDoor
