/- The walks of package page: New, Runs, Left. -/
import Derived.Test.YtkocikpoagfonaaDoorPgAlloc
namespace Go.Proofs.YtkocikpoagfonaaDoor
open Go.RowKit

def newN (n : Int) : Nat := (min (max n 1) 262144).toNat
def newL (N : Nat) : List R := if 1 < N then [⟨1, N - 1⟩] else []
def NewPost (N : Nat) (w : World) (e : Ending) (w' : World) : Prop :=
  ∃ g v, e = .returned (.pointer (some ⟨g, 0, none⟩)) ∧ IsPg w' g N v (newL N) ∧ Chg [] w w' ∧ ∀ k ∈ g :: fpv v, w.heap.size ≤ k
theorem newL_ok (N : Nat) (h : 1 ≤ N) : Okn N (newL N) := by
  unfold newL
  split
  · refine ⟨⟨Nat.le_refl _, by show 1 ≤ N - 1; omega, trivial⟩, ?_⟩
    show 1 + (N - 1) + 1 ≤ N + 1
    omega
  · exact ⟨trivial, by show 1 ≤ N + 1; omega⟩

theorem new_one (w : World) : NewPost 1 w (.returned (.pointer (some ⟨w.heap.size, 0, none⟩))) (w.alloc (.cells #[.int .i64 1, .slice none 0 0] 71)) :=
  ⟨_, _, rfl, ⟨Blk.new _ _ _, rfl, .inl ⟨rfl, rfl⟩⟩, (Chg.refl _ w).alloc _, fun k hk => by
    have : k = w.heap.size := by simpa [fpv, Value.ownBlock] using hk
    omega⟩
theorem new_many (w : World) (N : Nat) (h : 1 < N) (x y : Int) (hx : x = N) (hy : y = (N : Int) - 1) : NewPost N w (.returned (.pointer (some ⟨w.heap.size, 0, none⟩)))
    ((w.alloc (.cells #[.int .i64 x, .slice (some ⟨w.heap.size + 1, 0, none⟩) 1 1] 71)).alloc (.cells #[.int .i64 1, .int .i64 y] 73)) := by
  subst hx hy
  have hsz : (w.alloc (.cells #[.int .i64 (N : Int), .slice (some ⟨w.heap.size + 1, 0, none⟩) 1 1] 71)).heap.size = w.heap.size + 1 := World.size_alloc ..
  have B0 := (Blk.new w 71 #[Value.int .i64 (N : Int), .slice (some ⟨w.heap.size + 1, 0, none⟩) 1 1]).alloc (.cells #[.int .i64 1, .int .i64 ((N : Int) - 1)] 73)
  have B1 := Blk.new (w.alloc (.cells #[.int .i64 (N : Int), .slice (some ⟨w.heap.size + 1, 0, none⟩) 1 1] 71)) 73 #[Value.int .i64 1, Value.int .i64 ((N : Int) - 1)]
  rw [hsz] at B1
  have e : newL N = [⟨1, N - 1⟩] := by unfold newL; rw [if_pos h]
  have e2 : ((N - 1 : Nat) : Int) = (N : Int) - 1 := by omega
  refine ⟨w.heap.size, .slice (some ⟨w.heap.size + 1, 0, none⟩) 1 1, rfl, ⟨B0, ?_⟩, ((Chg.refl [] w).alloc _).alloc _, fun k hk => ?_⟩
  · rw [e]
    refine own_mk (rest := []) ?_ rfl (Nat.le_refl _) (by decide) rfl
    have e3 : (rc [(⟨1, N - 1⟩ : R)] ++ []).toArray = #[Value.int .i64 1, Value.int .i64 ((N : Int) - 1)] := by rw [← e2]; rfl
    rw [e3]; exact B1
  · have : k = w.heap.size ∨ k = w.heap.size + 1 := by simpa [fpv, Value.ownBlock, eq_comm] using hk
    omega
theorem sum_take {l : List R} {i : Nat} {r : R} (h : l[i]? = some r) : sumR (l.take (i + 1)) = sumR (l.take i) + r.p := by
  obtain ⟨h1, rfl⟩ := List.getElem?_eq_some_iff.1 h
  unfold sumR
  rw [List.take_succ_eq_append_getElem h1, List.map_append, List.sum_append]
  simp only [List.map_cons, List.map_nil, List.sum_cons, List.sum_nil, Nat.add_zero]
theorem sum_le (l : List R) (i : Nat) : sumR (l.take i) ≤ sumR l := by
  have h : sumR l = sumR (l.take i) + sumR (l.drop i) := by
    unfold sumR
    rw [← List.sum_append, ← List.map_append, List.take_append_drop]
  omega

set_option maxRecDepth 100000 in
set_option maxHeartbeats 1600000 in
theorem new_ok (w : World) (n : Int) : Calls Tryd.prog 27 #[.int .i64 n] w (NewPost (newN n) w) := by
  rcases Int.lt_or_le n 1 with h1 | h1
  · have e : newN n = 1 := by unfold newN; omega
    rw [e]
    clear e
    go_enter Tryd.func27, Tryd.ntmps27
    go_wp2_with fail
    go_ret
    exact new_one w
  · rcases Int.lt_or_le 262144 n with h2 | h2
    · have e : newN n = 262144 := by unfold newN; omega
      rw [e]
      have h3 : ¬ n < 1 := by omega
      clear e h1
      go_enter Tryd.func27, Tryd.ntmps27
      go_wp2_with fail
      go_ret
      exact new_many w 262144 (by omega) _ _ rfl rfl
    · have h3 : ¬ n < 1 := by omega
      have h4 : ¬ 262144 < n := by omega
      obtain ⟨N, rfl⟩ : ∃ N : Nat, n = N := ⟨n.toNat, by omega⟩
      have e : newN N = N := by unfold newN; omega
      rw [e]
      clear e
      rcases Nat.lt_or_ge 1 N with h5 | h5
      · have h6 : (1 : Int) < (N : Int) := by omega
        have h7 : IntKind.i64.wrap ((N : Int) - 1) = (N : Int) - 1 := by rw [IntKind.wrap_i64]; omega
        go_enter Tryd.func27, Tryd.ntmps27
        go_wp2_with fail
        all_goals
          go_ret
          exact new_many w N h5 _ _ rfl rfl
      · obtain rfl : N = 1 := by omega
        go_enter Tryd.func27, Tryd.ntmps27
        go_wp2_with fail
        all_goals
          go_ret
          exact new_one w

theorem runs_nil (w : World) : Calls Tryd.prog 76 #[.pointer none] w fun e w' => e = .returned (.slice none 0 0) ∧ w' = w := by
  go_enter Tryd.func76, Tryd.ntmps76
  go_wp2_with fail
  go_ret
  exact ⟨rfl, rfl⟩
theorem runs_ok (w : World) (g n : Nat) (v : Value) (l : List R) (I : IsPg w g n v l) (hl : l.length ≤ 1000000) :
    Calls Tryd.prog 76 #[.pointer (some ⟨g, 0, none⟩)] w (ClPost l w) := by
  have c1 := I.b.cellv 1 rfl
  have HC := Lib.hid (clone_ok w v l I.o hl)
  obtain ⟨A, c, rfl⟩ := own_slice I.o
  clear I
  go_enter Tryd.func76, Tryd.ntmps76
  go_wp2_with fail
  refine HC.out.mono ?_
  rintro e w1 ⟨v', rfl, hp⟩
  have HP := Lib.hid hp; clear hp
  obtain ⟨A', c', rfl⟩ := own_slice HP.out.1
  go_wp2_with fail
  go_ret
  exact ⟨_, rfl, HP.out⟩

def LfPost (s : Nat) (w : World) (e : Ending) (w' : World) : Prop := e = .returned (.int .i64 s) ∧ Chg [] w w'
theorem left_nil (w : World) : Calls Tryd.prog 63 #[.pointer none] w (LfPost 0 w) := by
  go_enter Tryd.func63, Tryd.ntmps63
  go_wp2_with fail
  refine (runs_nil w).mono ?_
  rintro e w1 ⟨rfl, rfl⟩
  go_wp2_with fail
  go_loopg [3, 9] 1 (fun gk s idx wr => s = .int .i64 0 ∧ idx = .int .i64 0 ∧ wr = w1)
  case atStart => exact ⟨rfl, rfl, rfl⟩
  case round =>
    obtain ⟨rfl, rfl, rfl⟩ := hrel
    go_wp2_with fail
    go_ret
    exact ⟨rfl, Chg.refl _ _⟩

def LfRel (w0 : World) (v : Value) (l : List R) (gk : Nat) (s idx : Value) (w : World) : Prop :=
  ∃ i, gk + i = l.length + 1 ∧ i ≤ l.length ∧ s = .int .i64 (sumR (l.take i) : Nat) ∧ idx = .int .i64 (i : Nat) ∧ Chg [] w0 w ∧ w.ownsRow 0 73 2 v l.length (rc l)
set_option maxRecDepth 100000 in
set_option maxHeartbeats 1600000 in
theorem left_ok (w : World) (g n : Nat) (v : Value) (l : List R) (I : IsPg w g n v l) (hl : l.length ≤ 1000000) (hs : sumR l ≤ 1000000) :
    Calls Tryd.prog 63 #[.pointer (some ⟨g, 0, none⟩)] w (LfPost (sumR l) w) := by
  have HR := Lib.hid (runs_ok w g n v l I hl); clear I
  go_enter Tryd.func63, Tryd.ntmps63
  go_wp2_with fail
  refine HR.out.mono ?_
  rintro e w1 ⟨v', rfl, hp⟩
  have HP := Lib.hid hp; clear hp
  obtain ⟨A', c', rfl⟩ := own_slice HP.out.1
  go_wp2_with fail
  go_loopg [3, 9] (l.length + 1) (fun gk s idx wr => LfRel w (.slice A' l.length c') l gk s idx wr)
  case atStart => exact ⟨0, by omega, by omega, rfl, rfl, HP.out.2.1, HP.out.1⟩
  case round =>
    obtain ⟨i, hgk, hin, rfl, rfl, hc, ho⟩ := hrel
    by_cases e : i < l.length
    · obtain ⟨r, hr⟩ : ∃ r, l[i]? = some r := ⟨l[i], List.getElem?_eq_getElem e⟩
      obtain ⟨g', cap, rest, hvv, hbb, hll, hcc, hm, _⟩ := own_open ho (by omega)
      injection hvv with q1 q2 q3
      subst q1 q3
      have i0 := hbb.cellv (i * 2) (by simpa using (rc_at hr rest).1)
      have i1 := hbb.cellv (i * 2 + 1) (by simpa using (rc_at hr rest).2)
      have hi' : (i : Int) < (l.length : Int) := by omega
      have hsum := sum_take hr
      have hle := sum_le l (i + 1)
      have HA := Lib.hid (And.intro hc (And.intro ho hsum)); clear hc ho hbb hll hcc hm
      have hw : IntKind.i64.wrap ((sumR (l.take i) : Int) + (r.p : Int)) = ((sumR (l.take i) + r.p : Nat) : Int) := by rw [IntKind.wrap_i64]; omega
      clear hr hsum
      go_wp2_with fail
      go_roundg (l.length - i)
      case measure => omega
      case rel => exact ⟨i + 1, by omega, by omega, by rw [HA.out.2.2]; go_num, by go_num, HA.out.1.alloc _, HA.out.2.1.alloc _⟩
    · obtain rfl : i = l.length := by omega
      rw [List.take_length]
      have HA := Lib.hid (And.intro hc ho); clear hc ho hin e hgk
      go_wp2_with fail
      go_ret
      exact ⟨rfl, HA.out.1⟩
end Go.Proofs.YtkocikpoagfonaaDoor
