/- The walks of package slices at runs of pages: Index, Delete, Clone, Insert. -/
import Derived.Test.YtkocikpoagfonaaDoorPgHeap
import Derived.Test.YtkocikpoagfonaaDoorSl
namespace Go.Proofs.YtkocikpoagfonaaDoor
open Go.RowKit

theorem R_eq {r s : R} (h1 : r.f = s.f) (h2 : r.p = s.p) : r = s := by cases r; cases s; simp_all
def IxPost (n : Nat) (w : World) (e : Ending) (w' : World) : Prop := e = .returned (.int .i64 n) ∧ Chg [] w w'
def IxRel (w0 : World) (h n : Nat) (r : R) (gk : Nat) (v : Value) (w : World) : Prop :=
  ∃ i : Nat, gk + i = n + 1 ∧ i ≤ n ∧ v = .int .i64 i ∧ Chg [] w0 w ∧ Blk w h 73 #[.int .i64 r.f, .int .i64 r.p]

set_option maxRecDepth 100000 in
set_option maxHeartbeats 1600000 in
theorem index_ok (w : World) (v : Value) (a b : List R) (r : R) (o : w.ownsRow 0 73 2 v (a ++ r :: b).length (rc (a ++ r :: b))) (hl : (a ++ r :: b).length ≤ 1000000) (ha : r ∉ a) :
    Calls Tryd.prog 51 #[v, .agg #[.int .i64 r.f, .int .i64 r.p]] w (IxPost a.length w) := by
  obtain ⟨g, cap, rest, rfl, hb, hll, hc, _, _⟩ := own_open o (by rw [List.length_append, List.length_cons]; omega)
  generalize hL : a ++ r :: b = L at *
  have hln : a.length < L.length := by rw [← hL]; simp
  have hgl := hb.lt
  have HB := Lib.hid hb
  clear o hll hc hb
  go_enter Tryd.func51, Tryd.ntmps51
  go_wp2_with fail
  go_loopg [8] (a.length + 1) (fun gk v wr => IxRel w w.heap.size a.length r gk v wr)
  case atStart => exact ⟨0, by omega, by omega, rfl, (Chg.refl _ _).alloc _, Blk.new _ _ _⟩
  case round =>
    obtain ⟨i, hgk, hin, rfl, hc, hbx⟩ := hrel
    have hiL : i < L.length := by omega
    have hbg := hc.blk HB.out (by simp)
    have i0 := hbg.cellv (i * 2) (by simpa using (rc_get L i hiL rest).1)
    have i1 := hbg.cellv (i * 2 + 1) (by simpa using (rc_get L i hiL rest).2)
    have x0 := hbx.cellv 0 rfl
    have x1 := hbx.cellv 1 rfl
    have hi' : (i : Int) < (L.length : Int) := by omega
    have H := Lib.hid (And.intro hc hbx); clear hc hbx hbg
    by_cases e : i = a.length
    · have er : L[i] = r := by subst e; simp [← hL]
      rw [er] at i0 i1
      clear er
      obtain rfl : i = a.length := e
      go_wp2_with fail
      go_quiet (fail)
      go_wp2_with fail
      go_ret
      exact ⟨rfl, H.out.1.drewN _⟩
    · have er : L[i] ≠ r := by
        intro h
        have h2 : L[i] = a[i]'(by omega) := by simp only [← hL]; exact List.getElem_append_left _
        exact ha (h ▸ h2 ▸ List.getElem_mem _)
      generalize L[i] = s at *
      by_cases ef : r.f = s.f
      · have ep : ((r.p : Int) == (s.p : Int)) = false := by
          rw [beq_eq_false_iff_ne]; intro h; exact er (R_eq ef.symm (by omega))
        have ep2 : (r.p == s.p) = false := by
          rw [beq_eq_false_iff_ne]; intro h; exact er (R_eq ef.symm h.symm)
        have ef2 : (r.f == s.f) = true := by rw [beq_iff_eq]; exact ef
        have ef3 : ((r.f : Int) == (s.f : Int)) = true := by rw [beq_iff_eq]; omega
        clear er ef
        go_wp2_with fail
        go_quiet (fail)
        go_wp2_with fail
        go_roundg (a.length - i)
        case measure => omega
        case rel => exact ⟨i + 1, by omega, by omega, by go_num, H.out.1.drewN _, H.out.2.drewN _⟩
      · have ef2 : (r.f == s.f) = false := by rw [beq_eq_false_iff_ne]; exact ef
        have ef3 : ((r.f : Int) == (s.f : Int)) = false := by rw [beq_eq_false_iff_ne]; omega
        clear er ef
        go_wp2_with fail
        go_quiet (fail)
        go_wp2_with fail
        go_roundg (a.length - i)
        case measure => omega
        case rel => exact ⟨i + 1, by omega, by omega, by go_num, H.out.1.drewN _, H.out.2.drewN _⟩

theorem rc_cons (r : R) (l : List R) : rc (r :: l) = [.int .i64 r.f, .int .i64 r.p] ++ rc l := rfl
theorem rc_one (l : List R) : ∀ u ∈ rc l, u.oneCell' = true := by
  intro u hu
  obtain ⟨r, _, hr⟩ := List.mem_flatMap.1 hu
  simp at hr
  rcases hr with rfl | rfl <;> rfl

def DelPost (v : Value) (l : List R) (w : World) (e : Ending) (w' : World) : Prop :=
  ∃ v', e = .returned v' ∧ w'.ownsRow 0 73 2 v' l.length (rc l) ∧ Chg (fpv v) w w' ∧ v'.ownBlock = v.ownBlock

/-- What Delete's stores leave. -/
theorem del_done {w : World} {g cap : Nat} {a b : List R} {r : R} {rest : List Value} (hb : Blk w g 73 (rc (a ++ r :: b) ++ rest).toArray) (hll : (rc (a ++ r :: b)).length + rest.length = cap * 2) (hm : cap ≤ maxLen) :
    ∀ (W : World), W.heap[g]? = ((w.setCells g (a.length * 2) (rc b)).setCells g ((a ++ b).length * 2) [Value.int .i64 0, Value.int .i64 0]).heap[g]? →
      W.ownsRow 0 73 2 (.slice (some ⟨g, 0, none⟩) (a ++ b).length cap) (a ++ b).length (rc (a ++ b)) := by
  intro W hW
  obtain ⟨y2, hy2, hy2l⟩ : ∃ y2 : List Value, (rc (r :: b)) = (rc (r :: b)).take (rc b).length ++ y2 ∧ y2.length = 2 :=
    ⟨(rc (r :: b)).drop (rc b).length, (List.take_append_drop _ _).symm, by rw [List.length_drop]; simp [rc_len]; omega⟩
  have h0 : Blk w g 73 (rc a ++ (rc (r :: b)).take (rc b).length ++ (y2 ++ rest)).toArray := by
    have e : rc a ++ (rc (r :: b)).take (rc b).length ++ (y2 ++ rest) = rc (a ++ r :: b) ++ rest := by
      rw [rc_append, List.append_assoc, ← List.append_assoc _ y2 rest, ← hy2, List.append_assoc]
    rw [e]; exact hb
  have h1 := h0.mid (rc b) (by rw [List.length_take]; simp [rc_len]) (o := a.length * 2) (rc_len a).symm
  have h2 : Blk ((w.setCells g (a.length * 2) (rc b)).setCells g ((a ++ b).length * 2) [Value.int .i64 0, Value.int .i64 0]) g 73 (rc (a ++ b) ++ [Value.int .i64 0, Value.int .i64 0] ++ rest).toArray := by
    refine Blk.mid (y := y2) ?_ _ (by rw [hy2l]; rfl) (rc_len (a ++ b)).symm
    have e : rc (a ++ b) ++ y2 ++ rest = rc a ++ rc b ++ (y2 ++ rest) := by rw [rc_append]; simp
    rw [e]; exact h1
  have h3 : Blk W g 73 (rc (a ++ b) ++ ([Value.int .i64 0, Value.int .i64 0] ++ rest)).toArray := by
    rw [← List.append_assoc]; exact hW.trans h2
  refine own_mk h3 ?_ ?_ hm (rc_len _)
  · simp [rc_len] at hll ⊢; omega
  · simp [rc_len] at hll ⊢; omega

theorem zero_run1 : (Builtin.zeroCells (Value.agg #[.int .i64 0, .int .i64 0]).cells 1).toList = [Value.int .i64 0, Value.int .i64 0] := by kernel_rfl
set_option maxRecDepth 100000 in
set_option maxHeartbeats 1600000 in
theorem delete_ok (w : World) (v : Value) (a b : List R) (r : R) (o : w.ownsRow 0 73 2 v (a ++ r :: b).length (rc (a ++ r :: b))) (hl : (a ++ r :: b).length ≤ 1000000) (x y : Int) (hx : x = (a.length : Int)) (hy : y = (a.length : Int) + 1) :
    Calls Tryd.prog 52 #[v, .int .i64 x, .int .i64 y] w (DelPost v (a ++ b) w) := by
  subst hx hy
  obtain ⟨i0, hi0, hz0, hz1, hz2⟩ := info_parts info_run
  obtain ⟨g, cap, rest, rfl, hb, hll, hc, hm, _⟩ := own_open o (by rw [List.length_append, List.length_cons]; omega)
  have hn : (a ++ r :: b).length = a.length + b.length + 1 := by simp only [List.length_append, List.length_cons]; omega
  have hsz : (rc (a ++ r :: b) ++ rest).toArray.size = cap * 2 := by simp only [List.size_toArray, List.length_append]; omega
  have hin : ∀ j, j < cap * 2 → (w.cell? ⟨g, j, none⟩).isSome = true := fun j hj => hb.some j (by rw [hsz]; exact hj)
  have hcb : ∀ j u, (rc b)[j]? = some u → w.cell? ⟨g, (a.length + 1) * 2 + j, none⟩ = some u := fun j u hj => by
    rw [hb.cell]
    have e : rc (a ++ r :: b) ++ rest = (rc a ++ [Value.int .i64 r.f, Value.int .i64 r.p]) ++ (rc b ++ rest) := by rw [rc_append, rc_cons]; simp
    have hjl := (List.getElem?_eq_some_iff.1 hj).1
    rw [List.getElem?_toArray, e, List.getElem?_append_right (by simp [rc_len]; omega), List.getElem?_append_left (by simp [rc_len]; rw [rc_len] at hjl; omega), ← hj]
    congr 1
    simp [rc_len]; omega
  have hlb : (rc b).length = b.length * 2 := rc_len b
  have hab : (a ++ b).length = a.length + b.length := List.length_append
  rw [hn] at hl hc ⊢
  -- the source of the append: at the array's end nothing is moved
  obtain ⟨src, hsrc, hnews⟩ : ∃ src : Addr, (if cap = a.length + 1 then some (⟨g, 0, none⟩ : Addr) else some ⟨g, (a.length + 1) * 2, none⟩) = some src ∧ ∀ j u, (rc b)[j]? = some u → w.cell? (src.add j) = some u := by
    by_cases hcap : cap = a.length + 1
    · refine ⟨⟨g, 0, none⟩, by simp [hcap], fun j u hj => ?_⟩
      have hb0 : b.length = 0 := by omega
      have := (List.getElem?_eq_some_iff.1 hj).1
      omega
    · refine ⟨⟨g, (a.length + 1) * 2, none⟩, by simp [hcap], fun j u hj => ?_⟩
      rw [Addr.add_lit]; exact hcb j u hj
  have hrun : ∀ ty, (Builtin.append_ #[69, 69] ty #[.slice (some ⟨g, 0, none⟩) a.length cap, .slice (some src) b.length (cap - (a.length + 1))]).run Tryd.prog w.drew = .ok (.slice (some ⟨g, 0, none⟩) (a.length + b.length) cap) (w.drew.setCells g (a.length * 2) (rc b)) := fun ty => by
    have h := run_append_room_cells (P := Tryd.prog) w.drew 69 ty 73 i0 Tryd.underlying69 hi0 g 0 a.length cap src b.length (cap - (a.length + 1)) (rc b) (by rw [hz1]; exact hlb) hnews (rc_one b) (by omega)
      (fun j hj => by rw [hz1, Nat.zero_add]; exact hin _ (by omega)) (fun j hj => hb.frozen _)
    rw [hz1, Nat.zero_add] at h
    exact h
  have hin2 : ∀ j, j < cap * 2 → ((w.drew.setCells g (a.length * 2) (rc b)).cell? ⟨g, j, none⟩).isSome = true := fun j hj => by
    have h1 := Blk.setCells_at (cs := #[]) (rc b) (a.length * 2) w.drew _ hb.drew
    refine h1.some j ?_
    rw [putAll_size, hsz]; exact hj
  have hfr2 : ∀ j, (w.drew.setCells g (a.length * 2) (rc b)).frozen? ⟨g, j, none⟩ = false := fun j => (Blk.setCells_at (cs := #[]) (rc b) (a.length * 2) w.drew _ hb.drew).frozen j
  have hclr : ∀ ty c, (Builtin.clear_ #[69] ty #[.slice (some ⟨g, (a.length + b.length) * 2, none⟩) 1 c]).run Tryd.prog (w.drew.setCells g (a.length * 2) (rc b)) =
      .ok (.tuple #[]) ((w.drew.setCells g (a.length * 2) (rc b)).setCells g ((a.length + b.length) * 2) [Value.int .i64 0, Value.int .i64 0]) := fun ty c =>
    run_clear_N _ 69 73 ty (.agg #[.int .i64 0, .int .i64 0]) _ Tryd.underlying69 (fun w => by kernel_rfl) g _ 1 c (by omega) zero_run1 (one2 0 0) (fun j hj => hin2 _ (by simp only [List.length_cons, List.length_nil] at hj; omega)) (fun j hj => hfr2 _)
  have hD := Lib.hid (del_done hb.drew hll hm)
  have HR := Lib.hid (And.intro hrun hclr)
  have b1 : (a.length : Int) + 1 ≤ (a.length + b.length + 1 : Nat) := by omega
  have b2 : a.length ≤ cap := by omega
  have b3 : a.length + 1 ≤ cap := by omega
  have b4 : a.length + 1 ≤ a.length + b.length + 1 := by omega
  have b5 : (0 : Int) ≤ (a.length : Int) + 1 := by omega
  have b6 : (a.length : Int) ≤ (a.length : Int) + (b.length : Int) := by omega
  have b7 : ¬ cap = a.length + b.length := by omega
  have b8 : ¬ cap = a.length := by omega
  have HS := Lib.hid hsrc; clear hsrc
  clear hb hll hin hcb o hm hnews hrun hclr hin2 hfr2 hsz hi0 hz0 hz1 hz2 hlb hn
  go_enter Tryd.func52, Tryd.ntmps52
  go_wp2_with fail
  go_still_tail 6, (by kernel_rfl)
  rw [HS.out]
  go_wp2_with (at_builtin; refine Lib.wpList_append_run _ rfl _ _ _ _ rfl _ _ rfl rfl _ _ (HR.out.1 _) ?_)
  have hclr := HR.out.2 0 (cap - (a.length + b.length))
  go_wp2_with fail
  rw [hclr]
  go_wp2_with fail
  go_ret
  refine ⟨_, rfl, ?_, ?_, rfl⟩
  · have h := hD.out _ rfl
    rw [hab] at h ⊢
    exact h
  · exact (((Chg.refl _ w).drew).setCells (.inl (by simp [fpv, Value.ownBlock])) _ _).setCells (.inl (by simp [fpv, Value.ownBlock])) _ _
end Go.Proofs.YtkocikpoagfonaaDoor
