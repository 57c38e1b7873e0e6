/- The walks of package slices at runs of pages: Clone, Insert. -/
import Derived.Test.YtkocikpoagfonaaDoorPgSl
import Derived.Maps.AppendAt
namespace Go.Proofs.YtkocikpoagfonaaDoor
open Go.RowKit

def ClPost (l : List R) (w : World) (e : Ending) (w' : World) : Prop :=
  ∃ v', e = .returned v' ∧ w'.ownsRow 0 73 2 v' l.length (rc l) ∧ Chg [] w w' ∧ ∀ k, v'.ownBlock = some k → w.heap.size ≤ k

theorem own_nil_len {w : World} {T size n c : Nat} {xs : List Value} (h : w.ownsRow 0 T size (.slice none n c) n xs) : n = 0 ∧ c = 0 := by
  rcases h.2 with ⟨h1, _⟩ | ⟨_, _, _, h1, _⟩
  · injection h1 with _ h1 h2; exact ⟨h1, h2⟩
  · injection h1 with h1; cases h1

set_option maxRecDepth 100000 in
set_option maxHeartbeats 1600000 in
theorem clone_ok (w : World) (v : Value) (l : List R) (o : w.ownsRow 0 73 2 v l.length (rc l)) (hl : l.length ≤ 1000000) :
    Calls Tryd.prog 82 #[v] w (ClPost l w) := by
  obtain ⟨i0, hi0, hz0, hz1, hz2⟩ := info_parts info_run
  have hu := Tryd.underlying69
  rcases o.2 with ⟨rfl, h0⟩ | ⟨g, cap, cur, rfl, _, hg, hc, hm, hs, ht⟩
  · have hn : l = [] := List.eq_nil_of_length_eq_zero h0
    subst hn
    have hnil := Lib.run_eql_slice_nil (P := Tryd.prog) w 69 73 none 0 0 0 0 hu
    clear hi0 hz0 hz1 hz2 o
    go_enter Tryd.func82, Tryd.ntmps82
    go_wp2_with fail
    go_ret
    exact ⟨_, rfl, ⟨rfl, .inl ⟨rfl, rfl⟩⟩, Chg.refl _ _, fun k hk => by simp [Value.ownBlock] at hk⟩
  · have hnil := Lib.run_eql_slice_nil (P := Tryd.prog) w 69 73 (some ⟨g, 0, none⟩) l.length cap 0 0 hu
    have hgl : g < w.heap.size := Blk.lt (cs := cur) hg
    have hcells : ∀ j u, (rc l)[j]? = some u → (w.alloc (.cells #[] 73)).cell? ((⟨g, 0, none⟩ : Addr).add j) = some u := fun j u hj => by
      exact (o.alloc (.cells #[] 73)).cells (g := g) rfl j u hj
    have HO := Lib.hid (And.intro o (And.intro hcells (show l.length ≤ maxLen ∧ l.length * 16 ≤ 140737488355328 by simp only [maxLen]; omega))); clear o hcells
    have HI := Lib.hid (And.intro hi0 (And.intro hz0 (And.intro hz1 hz2))); clear hi0 hz0 hz1 hz2 hg hs ht hm hc
    go_enter Tryd.func82, Tryd.ntmps82
    have hmade := World.ownsRow_made (base := 0) (e := 73) (size := 2) w #[] 0 (Nat.zero_le _) (Nat.zero_le _) rfl
    have HM := Lib.hid hmade; clear hmade
    go_wp2_with (at_builtin; refine wpList_append_own_at _ rfl (.tmp 5) (.tmp 6) _ rfl 0 73 i0 _ 2 16 hu HI.out.1 HI.out.2.1 HI.out.2.2.1 HI.out.2.2.2 rfl (by decide) (.slice (some ⟨w.heap.size, 0, none⟩) 0 0) 0 [] rfl HM.out ⟨g, 0, none⟩ l.length cap (rc l) rfl (rc_len l) HO.out.2.1 (rc_one l) (by rw [Nat.zero_add]; exact HO.out.2.2.1) (by rw [Nat.zero_add]; exact HO.out.2.2.2) (Nat.zero_le _) ?_; intro v1 w1 hown1 hgr1 hnl1 hat1)
    have H1 := Lib.hid (And.intro hown1 (And.intro hgr1 hat1)); clear hown1 hgr1 hnl1 hat1
    go_wp2_with fail
    go_ret
    obtain ⟨hown1, hgr1, hat1⟩ := H1.out
    refine ⟨v1, rfl, by simpa using hown1, ((Chg.refl _ w).alloc _).grown hgr1 (fun k hk => .inr ?_), fun k hk => ?_⟩
    · simp [Value.ownBlock] at hk; omega
    · rcases hat1 with e | e <;> rw [e] at hk <;> simp [Value.ownBlock] at hk <;> omega

def InsPost (v : Value) (l : List R) (w : World) (e : Ending) (w' : World) : Prop :=
  ∃ v', e = .returned v' ∧ w'.ownsRow 0 73 2 v' l.length (rc l) ∧ Chg (fpv v) w w' ∧ (v'.ownBlock = v.ownBlock ∨ ∃ k, v'.ownBlock = some k ∧ w.heap.size ≤ k)

theorem insert_done {w w1 : World} {v v1 : Value} {l : List R} {r : R} (ho : w1.ownsRow 0 73 2 v1 (l.length + 1) (rc l ++ [.int .i64 r.f, .int .i64 r.p])) (hg : w.grownBy w1 v.ownBlock) (hat : v1.ownBlock = v.ownBlock ∨ v1.ownBlock = some w.heap.size) :
    InsPost v (l ++ [r]) w (.returned v1) w1 := by
  refine ⟨v1, rfl, ?_, (Chg.refl _ w).grown hg (fun k hk => .inl (mem_fpv.2 hk)), hat.imp id fun e => ⟨_, e, Nat.le_refl _⟩⟩
  rw [rc_append, List.length_append]
  exact ho

set_option maxRecDepth 100000 in
set_option maxHeartbeats 1600000 in
/-- At the end. -/
theorem insert_end (w : World) (v : Value) (l : List R) (r : R) (vb : Nat) (o : w.ownsRow 0 73 2 v l.length (rc l)) (hl : l.length ≤ 1000000) (hvb : Blk w vb 73 #[.int .i64 r.f, .int .i64 r.p]) :
    Calls Tryd.prog 65 #[v, .int .i64 l.length, .slice (some ⟨vb, 0, none⟩) 1 1] w (InsPost v (l ++ [r]) w) := by
  obtain ⟨i0, hi0, hz0, hz1, hz2⟩ := info_parts info_run
  have hu := Tryd.underlying69
  have hcells : ∀ j u, [Value.int .i64 r.f, Value.int .i64 r.p][j]? = some u → w.cell? ((⟨vb, 0, none⟩ : Addr).add j) = some u := fun j u hj => by
    rw [Addr.add_lit, Nat.zero_add, hvb.cell]; simpa using hj
  obtain ⟨A, c, rfl⟩ : ∃ A c, v = .slice A l.length c := by
    rcases o.2 with ⟨rfl, h0⟩ | ⟨g, cap, cur, rfl, _⟩
    · exact ⟨none, 0, by rw [h0]⟩
    · exact ⟨_, _, rfl⟩
  have HO := Lib.hid (And.intro o (And.intro hcells (show l.length + 1 ≤ maxLen ∧ (l.length + 1) * 16 ≤ 140737488355328 by simp only [maxLen]; omega)))
  have HI := Lib.hid (And.intro hi0 (And.intro hz0 (And.intro hz1 hz2))); clear hi0 hz0 hz1 hz2 hcells hvb
  have hlc : l.length ≤ c := by
    rcases o.2 with ⟨h1, h2⟩ | ⟨g, cap, cur, h1, _, _, h2, _⟩
    · rw [h2]; omega
    · injection h1 with _ _ h1; omega
  clear o
  rcases A with _ | ad
  all_goals
    go_enter Tryd.func65, Tryd.ntmps65
    go_wp2_with (at_builtin; refine wpList_append_own_at _ rfl (.tmp 23) (.tmp 24) _ rfl 0 73 i0 _ 2 16 hu HI.out.1 HI.out.2.1 HI.out.2.2.1 HI.out.2.2.2 rfl (by decide) _ l.length (rc l) rfl HO.out.1 ⟨vb, 0, none⟩ 1 1 [.int .i64 r.f, .int .i64 r.p] rfl rfl HO.out.2.1 (one2 _ _) HO.out.2.2.1 HO.out.2.2.2 (Nat.zero_le _) ?_; intro v1 w1 hown1 hgr1 hnl1 hat1)
    all_goals
      go_ret
      exact insert_done hown1 hgr1 hat1

theorem shape_of {w : World} {g n : Nat} {t : TypeId} {cs : Array Value} (h : Blk w g t cs) (hn : cs.size = n) : w.shape? g = some (t, n) := by
  unfold Blk at h
  simp [World.shape?, h, hn]
/-- In the middle, where there is room. -/
theorem ins_mid {w : World} {g cap : Nat} {a b : List R} {r : R} {rest : List Value} (hb : Blk w g 73 (rc (a ++ b) ++ rest).toArray) (hll : (rc (a ++ b)).length + rest.length = cap * 2) (hc : (a ++ b).length < cap) (hm : cap ≤ maxLen) :
    ∀ (W : World), W.heap[g]? = ((w.setCells g ((a.length + 1) * 2) (rc b)).setCells g (a.length * 2) [.int .i64 r.f, .int .i64 r.p]).heap[g]? →
      W.ownsRow 0 73 2 (.slice (some ⟨g, 0, none⟩) (a ++ r :: b).length cap) (a ++ r :: b).length (rc (a ++ r :: b)) := by
  intro W hW
  have hrl : 2 ≤ rest.length := by rw [rc_len] at hll; omega
  obtain ⟨c0, c1, rest', rfl⟩ : ∃ c0 c1 rest', rest = c0 :: c1 :: rest' := by
    match rest, hrl with
    | c0 :: c1 :: rest', _ => exact ⟨c0, c1, rest', rfl⟩
  obtain ⟨y1, hy1, hy1l⟩ : ∃ y1 : List Value, rc b ++ [c0, c1] = y1 ++ (rc b ++ [c0, c1]).drop 2 ∧ y1.length = 2 :=
    ⟨(rc b ++ [c0, c1]).take 2, (List.take_append_drop _ _).symm, by rw [List.length_take]; simp⟩
  have h0 : Blk w g 73 (rc a ++ y1 ++ (rc b ++ [c0, c1]).drop 2 ++ rest').toArray := by
    have e : rc a ++ y1 ++ (rc b ++ [c0, c1]).drop 2 ++ rest' = rc (a ++ b) ++ c0 :: c1 :: rest' := by
      rw [List.append_assoc (rc a), ← hy1, rc_append]; simp
    rw [e]; exact hb
  have h1 := h0.mid (rc b) (by rw [List.length_drop]; simp) (o := (a.length + 1) * 2) (by simp [rc_len, hy1l]; omega)
  have h2 : Blk ((w.setCells g ((a.length + 1) * 2) (rc b)).setCells g (a.length * 2) [.int .i64 r.f, .int .i64 r.p]) g 73 (rc a ++ [Value.int .i64 r.f, Value.int .i64 r.p] ++ (rc b ++ rest')).toArray := by
    refine Blk.mid (y := y1) ?_ _ (by rw [hy1l]; rfl) (rc_len a).symm
    rw [← List.append_assoc]; exact h1
  have h3 : Blk W g 73 (rc (a ++ r :: b) ++ rest').toArray := by
    have e : rc (a ++ r :: b) ++ rest' = rc a ++ [Value.int .i64 r.f, Value.int .i64 r.p] ++ (rc b ++ rest') := by rw [rc_append, rc_cons]; simp
    rw [e]; exact hW.trans h2
  refine own_mk h3 ?_ ?_ hm (rc_len _)
  · simp [rc_len] at hll ⊢; omega
  · simp at hc ⊢; omega

set_option maxRecDepth 100000 in
set_option maxHeartbeats 1600000 in
/-- In the middle, where there is room. -/
theorem insert_room (w : World) (g cap : Nat) (a b : List R) (r : R) (vb : Nat) (o : w.ownsRow 0 73 2 (.slice (some ⟨g, 0, none⟩) (a ++ b).length cap) (a ++ b).length (rc (a ++ b))) (hl : (a ++ b).length ≤ 1000000)
    (hvb : Blk w vb 73 #[.int .i64 r.f, .int .i64 r.p]) (hne : vb ≠ g) (hb0 : 0 < b.length) (hroom : (a ++ b).length < cap) :
    Calls Tryd.prog 65 #[.slice (some ⟨g, 0, none⟩) (a ++ b).length cap, .int .i64 a.length, .slice (some ⟨vb, 0, none⟩) 1 1] w (InsPost (.slice (some ⟨g, 0, none⟩) (a ++ b).length cap) (a ++ r :: b) w) := by
  obtain ⟨g', cap', rest, hv, hb, hll, hc, hm, _⟩ := own_open o (by rw [List.length_append]; omega)
  injection hv with h1 h2 h3
  injection h1 with h1
  injection h1 with h1
  subst h1 h3
  have hab : (a ++ b).length = a.length + b.length := List.length_append
  have hlb : (rc b).length = b.length * 2 := rc_len b
  have hsz : (rc (a ++ b) ++ rest).toArray.size = cap * 2 := by simp only [List.size_toArray, List.length_append]; exact hll
  have hu := Tryd.underlying69
  have hinfo : (Tryd.prog.info? 73).map (·.size) = some 2 := by kernel_rfl
  have hin : ∀ j, j < cap * 2 → (w.cell? ⟨g, j, none⟩).isSome = true := fun j hj => hb.some j (by rw [hsz]; exact hj)
  have hcb : ∀ j u, (rc b)[j]? = some u → w.drew.cell? ((⟨g, a.length * 2, none⟩ : Addr).add j) = some u := fun j u hj => by
    rw [Addr.add_lit]
    refine (hb.cell _).trans ?_
    have hjl := (List.getElem?_eq_some_iff.1 hj).1
    rw [List.getElem?_toArray, rc_append, List.append_assoc, List.getElem?_append_right (by simp [rc_len]), List.getElem?_append_left (by simp [rc_len]; rw [rc_len] at hjl; omega), ← hj]
    congr 1
    simp [rc_len]
  have hov : ∀ lb cb, (callFunc 77 #[.slice (some ⟨vb, 0, none⟩) 1 1, .slice (some ⟨g, (a.length + 1) * 2, none⟩) lb cb]).run Tryd.prog w = .ok (.value (.bool false)) w := fun lb cb => by
    rw [run_callFunc_extern Tryd.func77 (by kernel_rfl) (by kernel_rfl) (by kernel_rfl) (e := Extern.SlicesOverlaps.overlaps #[69, 69] #[4]) (by kernel_rfl),
      Lib.run_overlaps_apart w 69 4 73 hu 2 (fun w => by kernel_rfl) ⟨vb, 0, none⟩ ⟨g, (a.length + 1) * 2, none⟩ 1 1 lb cb hne 73 73 2 (cap * 2) (shape_of hvb rfl) (shape_of hb hsz) (by omega) (hvb.frozen 0) (hvb.frozen 2)]
    rfl
  -- the first copy
  have hcp1 : ∀ ty dc sc la lb, la = b.length → lb = b.length + 1 → (Builtin.copy_ #[69, 69] ty #[.slice (some ⟨g, (a.length + 1) * 2, none⟩) la dc, .slice (some ⟨g, a.length * 2, none⟩) lb sc]).run Tryd.prog w.drew = .ok (goInt b.length) (w.drew.setCells g ((a.length + 1) * 2) (rc b)) := fun ty dc sc la lb hla hlb' => by
    subst hla hlb'
    exact run_copy_N w.drew _ _ ty 73 2 g ((a.length + 1) * 2) b.length dc ⟨g, a.length * 2, none⟩ (b.length + 1) sc b.length (rc b) hu hinfo (by simp only [Nat.min_def]; split <;> omega) hlb hcb
      (fun j hj => hin _ (by omega)) (fun j hj => hb.drew.frozen _) (rc_one b)
  have hb1 := Blk.setCells_at (cs := #[]) (rc b) ((a.length + 1) * 2) w.drew _ hb.drew
  have hvb1 : Blk (w.drew.setCells g ((a.length + 1) * 2) (rc b)) vb 73 #[.int .i64 r.f, .int .i64 r.p] := hvb.drew.setCells_far hne _ _
  have hcp2 : ∀ ty dc lb, lb = b.length + 1 → (Builtin.copy_ #[69, 69] ty #[.slice (some ⟨g, a.length * 2, none⟩) lb dc, .slice (some ⟨vb, 0, none⟩) 1 1]).run Tryd.prog (w.drew.setCells g ((a.length + 1) * 2) (rc b)) = .ok (goInt 1) ((w.drew.setCells g ((a.length + 1) * 2) (rc b)).setCells g (a.length * 2) [.int .i64 r.f, .int .i64 r.p]) := fun ty dc lb hlb' => by
    subst hlb'
    exact run_copy_N _ _ _ ty 73 2 g (a.length * 2) (b.length + 1) dc ⟨vb, 0, none⟩ 1 1 1 [.int .i64 r.f, .int .i64 r.p] hu hinfo (by simp only [Nat.min_def]; split <;> omega) rfl
      (fun j u hj => by rw [Addr.add_lit, Nat.zero_add, hvb1.cell]; simpa using hj)
      (fun j hj => hb1.some _ (by rw [putAll_size, hsz]; simp only [List.length_cons, List.length_nil] at hj; omega)) (fun j hj => hb1.frozen _) (one2 _ _)
  have hD := Lib.hid (ins_mid (r := r) hb.drew hll hroom hm)
  have HC := Lib.hid (And.intro hcp1 hcp2)
  have hm2 : cap ≤ 9223372036854775807 := by simp only [maxLen] at hm; omega
  rw [hab] at hl hroom ⊢
  have b1 : a.length + b.length + 1 ≤ cap := by omega
  have b2 : a.length ≤ a.length + b.length := by omega
  have b3 : ¬ cap = a.length := by omega
  have b4 : ¬ cap = a.length + 1 := by omega
  have b5 : ¬ ((a.length : Int) = (a.length : Int) + (b.length : Int)) := by omega
  have b6 : (0 : Int) ≤ (a.length : Int) + 1 := by omega
  have b7 : (a.length : Int) + 1 ≤ (a.length : Int) + (b.length : Int) + 1 := by omega
  have b8 : a.length + b.length + 1 - a.length = b.length + 1 := by omega
  have b9 : a.length + b.length + 1 - (a.length + 1) = b.length := by omega
  have b10 : (a.length : Int) ≤ (a.length : Int) + (b.length : Int) := by omega
  have b11 : (0 : Int) ≤ (a.length : Int) := by omega
  have b12 : IntKind.i64.wrap ((a.length : Int) + 1) = (a.length : Int) + 1 := by rw [IntKind.wrap_i64]; omega
  have b13 : ((a.length : Int) + 1).toNat = a.length + 1 := by omega
  have b14 : a.length + 1 ≤ a.length + b.length + 1 := by omega
  have b15 : a.length ≤ a.length + b.length + 1 := by omega
  have b16 : (a.length : Int) ≤ (a.length : Int) + (b.length : Int) + 1 := by omega
  have b17 : (a.length : Int) + 1 ≤ (a.length : Int) + (b.length : Int) := by omega
  have b18 : a.length + 1 ≤ a.length + b.length := by omega
  have HE := Lib.hid (And.intro b8 b9); clear b8 b9
  clear hb hll hin hcb o hm hcp1 hcp2 hb1 hvb1 hsz hlb hc
  go_enter Tryd.func65, Tryd.ntmps65
  go_wp2_with fail
  go_still_tail 8, (by kernel_rfl)
  change wpList _ _ _ _ _ w.drew
  refine wpList_copy_eq _ rfl _ _ 69 69 rfl _ _ rfl rfl (HC.out.1 _ _ _ _ _ (by omega) (by omega)) ?_
  go_wp2_with fail
  rw [HC.out.2 _ _ _ (by omega)]
  go_wp2_with fail
  go_ret
  refine ⟨_, rfl, ?_, ?_, .inl rfl⟩
  · have h := hD.out _ rfl
    rw [show (a ++ r :: b).length = a.length + b.length + 1 by simp only [List.length_append, List.length_cons]; omega] at h ⊢
    exact h
  · exact (((Chg.refl _ w).drew).setCells (.inl (by simp [fpv, Value.ownBlock])) _ _).setCells (.inl (by simp [fpv, Value.ownBlock])) _ _
end Go.Proofs.YtkocikpoagfonaaDoor
