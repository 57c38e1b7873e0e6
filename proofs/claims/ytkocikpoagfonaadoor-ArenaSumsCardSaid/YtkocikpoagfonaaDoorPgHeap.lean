/- The walks of package page's heap of runs (container/heap over bySize). -/
import Derived.Test.YtkocikpoagfonaaDoorMem
import Derived.Test.YtkocikpoagfonaaDoorPgLaw
import Derived.Deep.LoopGhost
import Derived.StillTailTactics
import Derived.BigRegion
import Derived.Test.YtkocikpoagfonaaDoorMeth
import Derived.Deep.RegionLaw
import Derived.Deep.AppendLies
namespace Go.Proofs.YtkocikpoagfonaaDoor
open Go.RowKit

def rc (l : List R) : List Value := l.flatMap fun r => [.int .i64 r.f, .int .i64 r.p]
theorem rc_len : ∀ l : List R, (rc l).length = l.length * 2
  | [] => rfl
  | r :: t => by have := rc_len t; simp [rc] at this ⊢; omega
theorem rc_append (a b : List R) : rc (a ++ b) = rc a ++ rc b := by simp [rc, List.flatMap_append]
theorem rc_get : ∀ (l : List R) (i : Nat) (h : i < l.length) (rest : List Value), (rc l ++ rest)[i * 2]? = some (.int .i64 l[i].f) ∧ (rc l ++ rest)[i * 2 + 1]? = some (.int .i64 l[i].p)
  | r :: t, 0, _, rest => by simp [rc]
  | r :: t, i + 1, h, rest => by
    have ih := rc_get t i (by simpa using h) rest
    have e : rc (r :: t) ++ rest = .int .i64 r.f :: .int .i64 r.p :: (rc t ++ rest) := by simp [rc]
    rw [e, show (i + 1) * 2 = i * 2 + 1 + 1 by omega]
    simpa using ih
theorem rc_set : ∀ (l : List R) (i : Nat) (r : R) (rest : List Value), i < l.length → ((rc l ++ rest).set (i * 2) (.int .i64 r.f)).set (i * 2 + 1) (.int .i64 r.p) = rc (l.set i r) ++ rest
  | x :: t, 0, r, rest, _ => by simp [rc]
  | x :: t, i + 1, r, rest, h => by
    have ih := rc_set t i r rest (by simpa using h)
    have e : rc (x :: t) ++ rest = .int .i64 x.f :: .int .i64 x.p :: (rc t ++ rest) := by simp [rc]
    rw [e, show (i + 1) * 2 = i * 2 + 1 + 1 by omega]
    simp only [List.set_cons_succ, ih]
    simp [rc]

/-- Each number of each run is small. -/
def Sm (l : List R) : Prop := ∀ r ∈ l, r.f ≤ 1000000 ∧ r.p ≤ 1000000

/-- The heap's variable lies in block h; the runs are l. -/
structure IsBy (w : World) (h : Nat) (v : Value) (l : List R) : Prop where
  b : Blk w h 76 #[v]
  o : w.ownsRow 0 73 2 v l.length (rc l)

def lessR (a b : R) : Bool := decide (a.p < b.p) || (a.p == b.p && decide (a.f < b.f))

set_option maxHeartbeats 800000 in
theorem less_ok (w : World) (v : Value) (l : List R) (i j : Nat) (o : w.ownsRow 0 73 2 v l.length (rc l)) (hi : i < l.length) (hj : j < l.length) (q : Bool) (hq : lessR l[i] l[j] = q) :
    Calls Tryd.prog 120 #[v, .int .i64 i, .int .i64 j] w fun e w' => e = .returned (.bool q) ∧ ∃ m, w' = w.drewN m := by
  obtain ⟨g, cap, rest, rfl, hb, hl, hc, hm, _⟩ := own_open o (by omega)
  have i0 := hb.cellv (i * 2) (by simpa using (rc_get l i hi rest).1)
  have i1 := hb.cellv (i * 2 + 1) (by simpa using (rc_get l i hi rest).2)
  have j0 := hb.cellv (j * 2) (by simpa using (rc_get l j hj rest).1)
  have j1 := hb.cellv (j * 2 + 1) (by simpa using (rc_get l j hj rest).2)
  have hi' : (i : Int) < (l.length : Int) := by omega
  have hj' : (j : Int) < (l.length : Int) := by omega
  generalize l[i] = a at *
  generalize l[j] = b at *
  have H := Lib.hid hq; clear hq
  clear o hb hl hc hm hi hj
  rcases Nat.lt_trichotomy a.p b.p with h1 | h1 | h1
  · have h1' : (a.p : Int) < (b.p : Int) := by omega
    have e : lessR a b = true := by simp [lessR, h1]
    have E := Lib.hid (e.symm.trans H.out); clear e H
    have h1b : decide (a.p < b.p) = true := by simpa using h1
    go_enter Tryd.func120, Tryd.ntmps120
    go_wp2
    go_quiet (fail)
    go_wp2
    go_ret
    exact ⟨by rw [← E.out]; rfl, _, rfl⟩
  · have h2 : ¬ (a.p : Int) < (b.p : Int) := by omega
    have h3 : ((a.p : Int) == (b.p : Int)) = true := by simp [h1]
    have e : lessR a b = decide (a.f < b.f) := by simp [lessR, h1]
    have h2' : decide (a.p < b.p) = false := by simp; omega
    have h4 : (a.p == b.p) = true := by rw [beq_iff_eq]; omega
    have E := Lib.hid (e.symm.trans H.out); clear e H h1
    go_enter Tryd.func120, Tryd.ntmps120
    go_wp2
    go_quiet (fail)
    go_wp2
    go_ret
    exact ⟨by rw [← E.out]; rfl, _, rfl⟩
  · have h2 : ¬ (a.p : Int) < (b.p : Int) := by omega
    have h3 : ((a.p : Int) == (b.p : Int)) = false := by rw [beq_eq_false_iff_ne]; omega
    have e : lessR a b = false := by simp [lessR]; omega
    have h2' : decide (a.p < b.p) = false := by simp; omega
    have h4 : (a.p == b.p) = false := by rw [beq_eq_false_iff_ne]; omega
    have E := Lib.hid (e.symm.trans H.out); clear e H h1
    go_enter Tryd.func120, Tryd.ntmps120
    go_wp2
    go_quiet (fail)
    go_wp2
    go_ret
    exact ⟨by rw [← E.out]; rfl, _, rfl⟩

set_option maxHeartbeats 800000 in
theorem len_ok (w : World) (A : Option Addr) (n c : Nat) :
    Calls Tryd.prog 119 #[.slice A n c] w fun e w' => e = .returned (.int .i64 n) ∧ w = w' := by
  go_enter Tryd.func119, Tryd.ntmps119
  go_wp2
  go_ret
  exact ⟨rfl, rfl⟩

theorem blk_setR {w : World} {g : Nat} {T : TypeId} {l : List R} {rest : List Value} (hb : Blk w g T (rc l ++ rest).toArray) (i : Nat) (r : R) (hi : i < l.length) :
    Blk ((w.setCell ⟨g, i * 2, none⟩ (.int .i64 r.f)).setCell ⟨g, i * 2 + 1, none⟩ (.int .i64 r.p)) g T (rc (l.set i r) ++ rest).toArray :=
  (hb.set_ (i * 2) _).setv (i * 2 + 1) _ (by rw [← rc_set l i r rest hi]; simp)
def swapR (l : List R) (i j : Nat) (a b : R) : List R := (l.set i b).set j a

theorem own_swap {w : World} {g cap i j : Nat} {T : TypeId} {l : List R} {a b : R} {rest : List Value} (hb : Blk w g T (rc ((l.set i b).set j a) ++ rest).toArray) (hl : (rc (swapR l i j a b)).length + rest.length = cap * 2) (hc : l.length ≤ cap) (hm : cap ≤ maxLen) :
    w.ownsRow 0 T 2 (.slice (some ⟨g, 0, none⟩) l.length cap) l.length (rc (swapR l i j a b)) :=
  own_mk hb hl hc hm (by simp [swapR, rc_len])

set_option maxHeartbeats 1600000 in
theorem swap_ok (w : World) (v : Value) (l : List R) (i j : Nat) (o : w.ownsRow 0 73 2 v l.length (rc l)) (hi : i < l.length) (hj : j < l.length) (hij : i ≠ j) :
    Calls Tryd.prog 121 #[v, .int .i64 i, .int .i64 j] w fun e w' => e = .returned (.tuple #[]) ∧ w'.ownsRow 0 73 2 v l.length (rc (swapR l i j l[i] l[j])) ∧ Chg (fpv v) w w' := by
  obtain ⟨g, cap, rest, rfl, hb, hl, hc, hm, _⟩ := own_open o (by omega)
  have i0 := hb.cellv (i * 2) (by simpa using (rc_get l i hi rest).1)
  have i1 := hb.cellv (i * 2 + 1) (by simpa using (rc_get l i hi rest).2)
  have j0 := hb.cellv (j * 2) (by simpa using (rc_get l j hj rest).1)
  have j1 := hb.cellv (j * 2 + 1) (by simpa using (rc_get l j hj rest).2)
  have fi0 := hb.frozen (i * 2)
  have fi1 := hb.frozen (i * 2 + 1)
  have fj0 := hb.frozen (j * 2)
  have fj1 := hb.frozen (j * 2 + 1)
  have hi' : (i : Int) < (l.length : Int) := by omega
  have hj' : (j : Int) < (l.length : Int) := by omega
  have n1 : ¬ i * 2 = j * 2 := by omega
  have n2 : ¬ i * 2 = j * 2 + 1 := by omega
  have n3 : ¬ i * 2 + 1 = j * 2 := by omega
  have n4 : ¬ i * 2 + 1 = j * 2 + 1 := by omega
  have m1 : ¬ j * 2 = i * 2 := by omega
  have m2 : ¬ j * 2 = i * 2 + 1 := by omega
  have m3 : ¬ j * 2 + 1 = i * 2 := by omega
  have m4 : ¬ j * 2 + 1 = i * 2 + 1 := by omega
  generalize ha : l[i] = a at *
  generalize hbb : l[j] = b at *
  have H := Lib.hid (And.intro hb (And.intro hl (And.intro hc (And.intro hm (And.intro hi (And.intro hj hij)))))); clear hb hl hc hm o ha hbb hi hj hij
  go_enter Tryd.func121, Tryd.ntmps121
  go_wp2
  go_region
  go_end0
  obtain ⟨hb, hl, hc, hm, hi, hj, hij⟩ := H.out
  have hk1 := blk_setR hb i b hi
  have hk2 := blk_setR hk1 j a (by simpa using hj)
  exact ⟨rfl, own_swap hk2.drew (by simpa [swapR, rc_len] using hl) (by simpa using hc) hm, ((((((Chg.refl _ _).setCell (.inl (by simp [fpv, Value.ownBlock])) _).setCell (.inl (by simp [fpv, Value.ownBlock])) _).setCell (.inl (by simp [fpv, Value.ownBlock])) _).setCell (.inl (by simp [fpv, Value.ownBlock])) _)).drew⟩

theorem m_push (fuel : Nat) (a : Addr) (w : World) : (method (fuel + 1) 78 (.pointer (some a)) "Push").run Tryd.prog w = .ok (123, .pointer (some a)) w :=
  run_method_ptr (by kernel_rfl) Tryd.underlying78 fuel a w
theorem m_pop (fuel : Nat) (a : Addr) (w : World) : (method (fuel + 1) 78 (.pointer (some a)) "Pop").run Tryd.prog w = .ok (122, .pointer (some a)) w :=
  run_method_ptr (by kernel_rfl) Tryd.underlying78 fuel a w
theorem m_less (fuel : Nat) (a : Addr) (w : World) (v : Value) (h : w.cell? a = some v) : (method (fuel + 1) 78 (.pointer (some a)) "Less").run Tryd.prog w = .ok (120, v) w := by
  rw [run_method_val (P := Tryd.prog) (f := 120) (by kernel_rfl) Tryd.underlying78]
  have hu := Tryd.underlying76
  go_simp
theorem m_swap (fuel : Nat) (a : Addr) (w : World) (v : Value) (h : w.cell? a = some v) : (method (fuel + 1) 78 (.pointer (some a)) "Swap").run Tryd.prog w = .ok (121, v) w := by
  rw [run_method_val (P := Tryd.prog) (f := 121) (by kernel_rfl) Tryd.underlying78]
  have hu := Tryd.underlying76
  go_simp
theorem m_len (fuel : Nat) (a : Addr) (w : World) (v : Value) (h : w.cell? a = some v) : (method (fuel + 1) 78 (.pointer (some a)) "Len").run Tryd.prog w = .ok (119, v) w := by
  rw [run_method_val (P := Tryd.prog) (f := 119) (by kernel_rfl) Tryd.underlying78]
  have hu := Tryd.underlying76
  go_simp

theorem info_run : (Tryd.prog.info? 73).map (fun i => (i.zero, i.size, i.bytes)) = some (some (.agg #[.int .i64 0, .int .i64 0]), 2, 16) := by kernel_rfl

theorem cells2_new (w : World) (x y : Value) (t : TypeId) : ∀ (j : Nat) (u : Value), [x, y][j]? = some u → (w.alloc (.cells #[x, y] t)).cell? ((⟨w.heap.size, 0, none⟩ : Addr).add j) = some u := by
  intro j u hj
  have hb := Blk.new w t #[x, y]
  rw [Addr.add_lit, Nat.zero_add, hb.cell]
  match j, hj with
  | 0, hj => simpa using hj
  | 1, hj => simpa using hj
theorem one2 (a b : Int) : ∀ u ∈ [Value.int .i64 a, Value.int .i64 b], u.oneCell' = true := by
  intro u hu
  simp at hu
  rcases hu with rfl | rfl <;> rfl
theorem push_blk {w w1 : World} {h : Nat} {v : Value} {l : List R} {o : Obj} (I : IsBy w h v l) (hg : (w.alloc o).drew.grownBy w1 v.ownBlock) : Blk w1 h 76 #[v] :=
  ((I.b.alloc o).drew).grown hg (fun e => own_ne I.o I.b (by decide) e.symm)
theorem size_alloc_drew (w : World) (o : Obj) : (w.alloc o).drew.heap.size = w.heap.size + 1 := by simp
def PushPost (h : Nat) (v : Value) (l : List R) (w : World) (e : Ending) (w' : World) : Prop :=
  e = .returned (.tuple #[]) ∧ ∃ v', IsBy w' h v' l ∧ Stp (h :: fpv v) (h :: fpv v') w w'

theorem push_done {w w1 : World} {h g cap : Nat} {v : Value} {l : List R} {r : R} (I : IsBy w h v l)
    (ho : w1.ownsRow 0 73 2 (.slice (some ⟨g, 0, none⟩) (l.length + 1) cap) (l.length + 1) (rc l ++ [.int .i64 r.f, .int .i64 r.p]))
    (hg : (w.alloc (.cells #[.int .i64 r.f, .int .i64 r.p] 73)).drew.grownBy w1 v.ownBlock) (hat : v.ownBlock = some g ∨ g = w.heap.size + 1) :
    PushPost h v (l ++ [r]) w (.returned (.tuple #[])) (w1.setCell ⟨h, 0, none⟩ (.slice (some ⟨g, 0, none⟩) (l.length + 1) cap)) := by
  have hb := push_blk I hg
  have ne : (some g : Option Nat) ≠ some h := own_ne ho hb (by decide)
  refine ⟨rfl, _, ⟨hb.setv 0 _ rfl, ?_⟩, ?_, ?_⟩
  · have e : rc (l ++ [r]) = rc l ++ [.int .i64 r.f, .int .i64 r.p] := by rw [rc_append]; rfl
    rw [e, List.length_append]
    exact own_chg ho ((Chg.refl [h] w1).setCell (.inl (by simp)) _) (fun k hk => by
      simp only [Value.ownBlock, Option.some.injEq] at hk
      subst hk
      simpa using fun e => ne (by rw [e]))
  · refine Chg.setCell ?_ (.inl (by simp)) _
    exact ((Chg.refl _ w).alloc _).drew.grown hg (fun k hk => .inl (List.mem_cons_of_mem _ (mem_fpv.2 hk)))
  · intro k hk
    rcases List.mem_cons.1 hk with rfl | hk
    · exact .inl (by simp)
    · have hk' := mem_fpv.1 hk
      simp only [Value.ownBlock, Option.some.injEq] at hk'
      subst hk'
      rcases hat with hat | rfl
      · exact .inl (List.mem_cons_of_mem _ (mem_fpv.2 hat))
      · exact .inr (by omega)

set_option maxHeartbeats 1600000 in
theorem push_ok (w : World) (h : Nat) (v : Value) (l : List R) (r : R) (I : IsBy w h v l) (hl : l.length ≤ 1000000) :
    Calls Tryd.prog 123 #[.pointer (some ⟨h, 0, none⟩), .iface 73 (.agg #[.int .i64 r.f, .int .i64 r.p])] w (PushPost h v (l ++ [r]) w) := by
  obtain ⟨i0, hi0, hz0, hz1, hz2⟩ := info_parts info_run
  have c0 := I.b.cellv 0 rfl
  have f0 := I.b.frozen 0
  have hlt := I.b.lt
  have H := Lib.hid I; clear I
  have hta := fun v W => run_assert_struct (P := Tryd.prog) (xT := 20) Tryd.underlying73 v W
  have HI := Lib.hid (And.intro hi0 (And.intro hz0 (And.intro hz1 hz2))); clear hi0 hz0 hz1 hz2
  have HL := Lib.hid (show l.length + 1 ≤ maxLen ∧ (l.length + 1) * 16 ≤ 140737488355328 by simp only [maxLen]; omega); clear hl
  go_enter Tryd.func123, Tryd.ntmps123
  go_wp2
  go_region_law ((refine step_append_lies _ rfl _ _ 76 rfl 0 73 i0 _ 2 16 Tryd.underlying76 HI.out.1 HI.out.2.1 HI.out.2.2.1 HI.out.2.2.2 rfl (by decide) v l.length (rc l) rfl ?_ ⟨w.heap.size, 0, none⟩ 1 1 [.int .i64 r.f, .int .i64 r.p] rfl rfl ?_ ?_ (by decide) ?_ ?_ (Nat.zero_le _) (w.heap.size + 1) ?_ ?_; exact H.out.o.alloc (.cells #[.int .i64 r.f, .int .i64 r.p] 73); exact cells2_new w (.int .i64 r.f) (.int .i64 r.p) 73; exact one2 r.f r.p; exact HL.out.1; exact HL.out.2; exact size_alloc_drew w (.cells #[.int .i64 r.f, .int .i64 r.p] 73); intro g cap w1 hown1 hgr1 hat1 hlt1; have c1 := (push_blk H.out hgr1).cellv 0 rfl; have f1 := (push_blk H.out hgr1).frozen 0))
  all_goals
    go_end0
    exact push_done H.out hown1 hgr1 hat1
end Go.Proofs.YtkocikpoagfonaaDoor
