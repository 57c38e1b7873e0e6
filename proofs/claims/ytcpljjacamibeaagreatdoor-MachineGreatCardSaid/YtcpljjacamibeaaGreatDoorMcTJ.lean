/- A script in memory. -/
/- Package phase: its functions' contracts. -/
/- Package state: what goroutines do. -/
/- Package state: Spawn. -/
/- Packages queue, timer, wait, barrier, as long as nobody is in them. -/
/- The machine's small parts as data: a ring's cells. No program in sight. -/
import Derived.Test.YtcpljjacamibeaaGreatDoorMcOJ
import Derived.Test.YtcpljjacamibeaaGreatDoorMemJ
import Derived.Test.YtcpljjacamibeaaGreatDoorMOw
import Derived.Test.YtcpljjacamibeaaGreatDoorMClJ
namespace Go.Proofs.YtcpljjacamibeaaGreatDoor
set_option maxHeartbeats 16000000
set_option maxRecDepth 100000
open Go.RowKit Go.Maps
def insC (i : Ins) : List Value := [.int .i64 (i.o : Nat), .int .i64 (i.a : Nat), .int .i64 (i.b : Nat), .int .i64 (i.c : Nat)]
theorem insC_len (i : Ins) : (insC i).length = 4 := rfl
theorem insC_one (i : Ins) : ∀ u ∈ insC i, u.oneCell' = true := by
  intro u hu
  simp [insC] at hu
  rcases hu with rfl | rfl | rfl | rfl <;> rfl
structure IsFn (w : World) (v : Value) (vf : Nat → Value) (fs : List (List Ins)) : Prop where
  o : OwnV 34 w v ((List.range fs.length).map vf)
  f : ∀ i l, fs[i]? = some l → OwnG insC 4 33 w (vf i) l
def FnF (v : Value) (vf : Nat → Value) (n : Nat) (k : Nat) : Prop := k ∈ fpv v ∨ ∃ i, i < n ∧ k ∈ fpv (vf i)
open Go.RowKit
structure PhA where
  ph : Int
  cyc : Int
  said : List Bool
  cnt : Int
  rs : Int
structure IsPh (w : World) (g b : Nat) (s : PhA) : Prop where
  g : Blk w g 168 #[.int .i64 s.ph, .int .i64 s.cyc, .slice (some ⟨b, 0, none⟩) s.said.length s.said.length, .int .i64 s.cnt, .int .i64 s.rs]
  b : Blk w b 4 (s.said.map Value.bool).toArray
theorem IsPh.chg {S : List Nat} {a w : World} {g b : Nat} {s : PhA} (h : IsPh a g b s) (hc : Chg S a w) (hg : g ∉ S) (hb : b ∉ S) : IsPh w g b s :=
  ⟨hc.blk h.g hg, hc.blk h.b hb⟩
structure PhA.ok (s : PhA) : Prop where
  p0 : 0 ≤ s.ph
  p3 : s.ph ≤ 3
  l1 : 1 ≤ s.said.length
  l2 : s.said.length ≤ 64
  c0 : 0 ≤ s.cnt
  c1 : s.cnt ≤ 1000000
  y0 : 0 ≤ s.cyc
  r0 : 0 ≤ s.rs
def ph_nxt (ph : Int) : Int := if ph = 3 then 0 else ph + 1
def ph_none_said (l : List Bool) : List Bool := List.replicate l.length false
def PhA.zero (s : PhA) : PhA := { s with said := ph_none_said s.said, cnt := 0 }
def PhA.quiet (s : PhA) : Bool := s.ph == 1 && s.cnt == (s.said.length : Int)
theorem ph_phase_ok (g b : Nat) (s : PhA) (w : World) (h : IsPh w g b s) :
    Calls Tryz.prog 39 #[.pointer (some ⟨g, 0, none⟩)] w fun e w' => e = .returned (.int .i64 s.ph) ∧ w = w' := by
  have c0 := h.g.cellv 0 rfl
  clear h
  go_enter Tryz.func39, Tryz.ntmps39
  go_wp2
  go_ret
  exact ⟨rfl, rfl⟩
theorem ph_cycle_ok (g b : Nat) (s : PhA) (w : World) (h : IsPh w g b s) :
    Calls Tryz.prog 40 #[.pointer (some ⟨g, 0, none⟩)] w fun e w' => e = .returned (.int .i64 s.cyc) ∧ w = w' := by
  have c0 := h.g.cellv 1 rfl
  clear h
  go_enter Tryz.func40, Tryz.ntmps40
  go_wp2
  go_ret
  exact ⟨rfl, rfl⟩
def PhA.say (s : PhA) (p : Nat) (empty flushed : Bool) : PhA :=
  if empty && !flushed then
    if s.said.getD p false then s else { s with said := s.said.set p true, cnt := s.cnt + 1 }
  else { s with said := ph_none_said s.said, cnt := 0, rs := if 0 < s.cnt then s.rs + 1 else s.rs }
def ph_NewPost (n : Nat) (w : World) (e : Ending) (w' : World) : Prop :=
  ∃ g b, e = .returned (.tuple #[.pointer (some ⟨g, 0, none⟩), .int .i64 0]) ∧ IsPh w' g b { ph := 0, cyc := 0, said := List.replicate n false, cnt := 0, rs := 0 } ∧ Chg [] w w' ∧ w.heap.size ≤ g ∧ w.heap.size ≤ b
theorem ph_new_ok (n : Nat) (w : World) (h1 : 1 ≤ n) (h2 : n ≤ 64) :
    Calls Tryz.prog 57 #[.int .i64 n] w (ph_NewPost n w) := by
  have n1 : ¬ ((n : Int) < 1) := by omega
  have n2 : ¬ (64 < (n : Int)) := by omega
  have hmk := fun W => run_make_z (P := Tryz.prog) 147 4 (.bool false) 1 Tryz.underlying147 (by kernel_rfl) rfl .i64 .i64 n (by omega) (by omega) W
  go_enter Tryz.func57, Tryz.ntmps57
  go_wp2
  go_ret2
  refine ⟨w.heap.size + 1, w.heap.size, rfl, ⟨?_, ?_⟩, ((Chg.refl _ w).alloc _).alloc _, ?_, ?_⟩
  · simpa using Blk.new (w.alloc _) _ _
  · simpa [zcells_list] using (Blk.new w _ _).alloc _
  · simp
  · simp
def cntI (xs : List Int) (i : Int) : Nat := xs.count i
def stC (v : Value) (c : Nat → Nat) : Array Value := #[v, .int .i64 (c 0 : Nat), .int .i64 (c 1 : Nat), .int .i64 (c 2 : Nat), .int .i64 (c 3 : Nat), .int .i64 (c 4 : Nat), .int .i64 (c 5 : Nat)]
structure IsSt (w : World) (g : Nat) (v : Value) (xs : List Int) : Prop where
  b : Blk w g 162 (stC v fun i => cntI xs i)
  o : OwnI 3 w v xs
  r : ∀ x ∈ xs, 1 ≤ x ∧ x ≤ 5
theorem stC_at (v : Value) (c : Nat → Nat) {i : Nat} (hi : i < 6) : (stC v c)[1 + i]? = some (.int .i64 (c i : Nat)) := by
  have : i = 0 ∨ i = 1 ∨ i = 2 ∨ i = 3 ∨ i = 4 ∨ i = 5 := by omega
  rcases this with rfl | rfl | rfl | rfl | rfl | rfl <;> rfl
theorem stC_set (v : Value) (c : Nat → Nat) {i : Nat} (hi : i < 6) (x : Nat) : (stC v c).setIfInBounds (1 + i) (.int .i64 (x : Nat)) = stC v (fun k => if k = i then x else c k) := by
  have : i = 0 ∨ i = 1 ∨ i = 2 ∨ i = 3 ∨ i = 4 ∨ i = 5 := by omega
  rcases this with rfl | rfl | rfl | rfl | rfl | rfl <;> rfl
theorem stC_set0 (v u : Value) (c : Nat → Nat) : (stC v c).setIfInBounds 0 u = stC u c := rfl
theorem cntI_le (xs : List Int) (i : Int) : cntI xs i ≤ xs.length := List.count_le_length
theorem cntI_push (xs : List Int) (x i : Int) : cntI (xs ++ [x]) i = cntI xs i + if x = i then 1 else 0 := by
  unfold cntI
  rw [List.count_append, List.count_singleton]
  by_cases h : x = i
  · subst h; simp
  · simp [h]
theorem st_new (w : World) : Calls Tryz.prog 58 #[] w fun e w' => ∃ g, e = .returned (.pointer (some ⟨g, 0, none⟩)) ∧ w.heap.size ≤ g ∧ IsSt w' g (.slice none 0 0) [] ∧ Chg [] w w' := by
  go_enter Tryz.func58, Tryz.ntmps58
  go_wp2_with fail
  go_ret
  exact ⟨w.heap.size, rfl, Nat.le_refl _, ⟨Blk.new _ _ _, OwnI.nil _ _, by simp⟩, (Chg.refl _ _).alloc _⟩
section
variable (w : World) (g : Nat) (v : Value) (xs : List Int) (I : IsSt w g v xs)
include I
theorem st_len : Calls Tryz.prog 37 #[.pointer (some ⟨g, 0, none⟩)] w (QuPost (.int .i64 (xs.length : Nat)) w) := by
  obtain ⟨A, c, hv⟩ := I.o.slice
  have c0 : w.cell? ⟨g, 0, none⟩ = some v := I.b.cellv 0 rfl
  rw [hv] at c0
  generalize xs.length = n at c0 ⊢
  go_enter Tryz.func37, Tryz.ntmps37
  go_wp2_with fail
  go_ret
  exact ⟨rfl, rfl⟩
theorem st_count (k : Nat) (h1 : 1 ≤ k) (h5 : k ≤ 5) : Calls Tryz.prog 36 #[.pointer (some ⟨g, 0, none⟩), .int .i64 (k : Nat)] w (QuPost (.int .i64 (cntI xs k : Nat)) w) := by
  have c0 := I.b.cellv (1 + k) (stC_at v _ (i := k) (by omega))
  have d1 : decide ((k : Int) ≤ 0) = false := decide_eq_false (by omega)
  have d2 : decide ((k : Int) > 5) = false := decide_eq_false (by omega)
  have e1 : (0 : Int) ≤ k := by omega
  have e2 : (k : Int) < 6 := by omega
  go_enter Tryz.func36, Tryz.ntmps36
  go_wp2_with fail
  go_ret
  exact ⟨rfl, rfl⟩
theorem st_of (k : Nat) (x : Int) (hx : xs[k]? = some x) : Calls Tryz.prog 42 #[.pointer (some ⟨g, 0, none⟩), .int .i64 (k : Nat)] w (QuPost (.int .i64 x) w) := by
  obtain ⟨A, c, hv⟩ := I.o.slice
  have c0 : w.cell? ⟨g, 0, none⟩ = some v := I.b.cellv 0 rfl
  obtain ⟨n, hn⟩ : ∃ n, n = xs.length := ⟨_, rfl⟩
  rw [hv, ← hn] at c0
  have o := I.o
  rw [hv] at o
  obtain ⟨b, hA, hc, -, -⟩ := o.cell hx
  subst hA
  have hk : k < n := by rw [hn]; exact (List.getElem?_eq_some_iff.1 hx).1
  have d1 : decide ((k : Int) < 0) = false := decide_eq_false (by omega)
  have d2 : decide ((k : Int) ≥ (n : Int)) = false := decide_eq_false (by omega)
  have e1 : (0 : Int) ≤ k := by omega
  have e2 : (k : Int) < (n : Int) := by omega
  go_enter Tryz.func42, Tryz.ntmps42
  go_wp2_with fail
  go_ret
  exact ⟨rfl, rfl⟩
end
def StSpPost (g : Nat) (v : Value) (xs : List Int) (w : World) (e : Ending) (w' : World) : Prop := ∃ v', e = .returned (.tuple #[.int .i64 (xs.length : Nat), .int .i64 0]) ∧ IsSt w' g v' (xs ++ [1]) ∧ Stp (g :: fpv v) (g :: fpv v') w w'
theorem slS : SlTy Tryz.prog 37 3 := ⟨Tryz.underlying37, by kernel_rfl⟩
theorem st_spawn (w : World) (g : Nat) (v : Value) (xs : List Int) (I : IsSt w g v xs) (hl : xs.length < 1024) : Calls Tryz.prog 113 #[.pointer (some ⟨g, 0, none⟩)] w (StSpPost g v xs w) := by
  obtain ⟨A, c, hv⟩ := I.o.slice
  have c0 : w.cell? ⟨g, 0, none⟩ = some v := I.b.cellv 0 rfl
  obtain ⟨n, hn⟩ : ∃ n, n = xs.length := ⟨_, rfl⟩
  rw [hv, ← hn] at c0
  have d1 : decide ((n : Int) ≥ 1024) = false := decide_eq_false (by omega)
  have d2 : ¬ ((n : Int) ≥ 1024) := by omega
  have O := I.o
  rw [hv, ← hn] at O
  have HI := Lib.hid (And.intro I (And.intro O (And.intro hn hv))); clear I O hn hv
  have hll : xs.length + 1 ≤ 1000000000000 := by omega
  go_enter Tryz.func113, Tryz.ntmps113
  go_upto_region 5 with fail
  go_wp2_with (at_builtin; refine wpList_push_int rfl _ _ rfl slS rfl HI.out.2.1 rfl hll ?_)
  intro A' c' w5 O5 S5
  have hgv : g ∉ fpv v := fun hm => own_ne HI.out.1.o.o HI.out.1.b (by decide) (mem_fpv.1 hm)
  have S6 : Stp (fpv v) (fpv (.slice A' (xs.length + 1) c')) w w5 := by
    have h5 := S5
    rw [HI.out.2.2.1] at h5
    rw [HI.out.2.2.2]
    exact h5
  have B5 := S6.c.blk HI.out.1.b hgv
  have f5 := B5.frozen 0
  have e5 : w5.cell? ⟨g, 0, none⟩ = some v := B5.cellv 0 rfl
  obtain ⟨m, hvN⟩ : ∃ m, m = xs.length + 1 := ⟨_, rfl⟩
  rw [← hvN] at O5 S6 ⊢
  have HJ := Lib.hid (And.intro O5 (And.intro S6 (And.intro B5 (And.intro hgv hvN)))); clear O5 S6 B5 hgv hvN S5
  go_upto_region 6 with fail
  obtain ⟨w6, hw6⟩ : ∃ w6, w6 = w5.setCell ⟨g, 0, none⟩ (.slice A' m c') := ⟨_, rfl⟩
  rw [← hw6]
  have B6 : Blk w6 g 162 (stC (.slice A' m c') fun i => cntI xs i) := by rw [hw6]; exact HJ.out.2.2.1.setv 0 (.slice A' m c') (stC_set0 _ _ _)
  have C6 : Chg [g] w5 w6 := by rw [hw6]; exact (Chg.refl _ _).setCell (.inl (by simp)) _
  have e6 : w6.cell? ⟨g, 2, none⟩ = some (.int .i64 (cntI xs 1 : Nat)) := B6.cellv 2 rfl
  have f6 := B6.frozen 2
  have HL := Lib.hid (And.intro B6 (And.intro C6 (cntI_le xs 1))); clear B6 C6 hw6
  generalize hk : cntI xs 1 = k at e6
  go_still_tail 8, (by kernel_rfl)
  change wpList _ _ _ _ _ w6.drew
  have f6' : w6.drew.frozen? ⟨g, 2, none⟩ = false := f6
  have e6' : w6.drew.cell? ⟨g, 2, none⟩ = some (.int .i64 (k : Nat)) := e6
  have hk2 : (k : Int) ≤ 1024 := by have := HL.out.2.2; omega
  go_upto_region 7 with fail
  obtain ⟨w7, hw7⟩ : ∃ w7, w7 = (w6.setCell ⟨g, 2, none⟩ (.int .i64 ((k : Int) + 1))).drew := ⟨_, rfl⟩
  rw [← hw7]
  have ek : (k : Int) + 1 = ((k + 1 : Nat) : Int) := by omega
  rw [ek] at hw7
  clear ek
  have B7 : Blk w7 g 162 (stC (.slice A' m c') fun i => cntI (xs ++ [1]) i) := by
    rw [hw7]
    refine Blk.drew (HL.out.1.setv 2 _ ?_)
    rw [← hk, show (2 : Nat) = 1 + 1 from rfl, stC_set _ _ (by decide)]
    congr 1; funext i
    rw [cntI_push]
    by_cases e : i = 1
    · subst e; simp
    · rw [if_neg e, if_neg (by omega)]; rfl
  have C7 : Chg [g] w5 w7 := by rw [hw7]; exact (HL.out.2.1.setCell (.inl (by simp)) _).drew
  have e7 : w7.cell? ⟨g, 0, none⟩ = some (.slice A' m c') := B7.cellv 0 rfl
  have HM := Lib.hid (And.intro B7 C7); clear B7 C7 hw7
  go_wp2_with fail
  have em : wrap64 ((m : Int) - 1) = (xs.length : Int) := by have := HJ.out.2.2.2.2; unfold wrap64; omega
  rw [em]
  go_ret2
  have hg' : g ∉ fpv (.slice A' m c') := fun hm => by
    rcases HJ.out.2.1.f g hm with h | h
    · exact HJ.out.2.2.2.1 h
    · have := HI.out.1.b.lt; omega
  refine ⟨.slice A' m c', rfl, ⟨HM.out.1, HJ.out.1.chg HM.out.2 (fun k hk hm => hg' (by simp at hm; exact hm ▸ hk)), fun x hx => ?_⟩, ⟨(HJ.out.2.1.c.mono (fun k hk => .inl (List.mem_cons_of_mem _ hk))).trans (HM.out.2.mono (by simp)), fun k hk => ?_⟩⟩
  · rcases List.mem_append.1 hx with h | h
    · exact HI.out.1.r x h
    · simp at h; omega
  · rcases List.mem_cons.1 hk with rfl | h
    · exact .inl (by simp)
    · rcases HJ.out.2.1.f k h with h | h
      · exact .inl (List.mem_cons_of_mem _ h)
      · exact .inr h
def NbPost (t : TypeId) (cs : Array Value) (w : World) (e : Ending) (w' : World) : Prop := ∃ g, e = .returned (.pointer (some ⟨g, 0, none⟩)) ∧ w.heap.size ≤ g ∧ Blk w' g t cs ∧ Chg [] w w'
theorem q_new (w : World) : Calls Tryz.prog 110 #[] w (NbPost 267 #[.slice none 0 0] w) := by
  go_enter Tryz.func110, Tryz.ntmps110
  go_wp2_with fail
  go_ret
  exact ⟨w.heap.size, rfl, Nat.le_refl _, Blk.new _ _ _, (Chg.refl _ _).alloc _⟩
theorem tm_new (w : World) : Calls Tryz.prog 59 #[] w (NbPost 166 #[.slice none 0 0, .int .i64 0] w) := by
  go_enter Tryz.func59, Tryz.ntmps59
  go_wp2_with fail
  go_ret
  exact ⟨w.heap.size, rfl, Nat.le_refl _, Blk.new _ _ _, (Chg.refl _ _).alloc _⟩
def wtC (v : Nat → Value) : Array Value := ((List.range 32).map v).toArray
theorem wt_new (w : World) : Calls Tryz.prog 60 #[] w (NbPost 223 (wtC fun _ => .slice none 0 0) w) := by
  go_enter Tryz.func60, Tryz.ntmps60
  go_wp2_with fail
  go_ret
  exact ⟨w.heap.size, rfl, Nat.le_refl _, Blk.new _ _ _, (Chg.refl _ _).alloc _⟩
def brC : Array Value := ((List.range 33).map fun _ => Value.int .i64 0).toArray
theorem br_new (w : World) : Calls Tryz.prog 61 #[] w (NbPost 205 brC w) := by
  go_enter Tryz.func61, Tryz.ntmps61
  go_wp2_with fail
  go_ret
  exact ⟨w.heap.size, rfl, Nat.le_refl _, Blk.new _ _ _, (Chg.refl _ _).alloc _⟩
section
variable (w : World) (g : Nat)
theorem q_len0 (B : Blk w g 267 #[.slice none 0 0]) : Calls Tryz.prog 209 #[.pointer (some ⟨g, 0, none⟩)] w (QuPost (.int .i64 0) w) := by
  have c0 := B.cellv 0 rfl
  go_enter Tryz.func209, Tryz.ntmps209
  go_wp2_with fail
  go_ret
  exact ⟨rfl, rfl⟩
theorem q_put0 (B : Blk w g 267 #[.slice none 0 0]) : Calls Tryz.prog 127 #[.pointer (some ⟨g, 0, none⟩), .slice none 0 0] w fun e w' => e = .returned (.tuple #[]) ∧ Blk w' g 267 #[.slice none 0 0] ∧ Chg [g] w w' := by
  have c0 := B.cellv 0 rfl
  have f0 := B.frozen 0
  have HB := Lib.hid B; clear B
  go_enter Tryz.func127, Tryz.ntmps127
  go_wp2_with fail
  go_end0
  exact ⟨rfl, HB.out.setv 0 _ rfl, (Chg.refl _ _).setCell (.inl (by simp)) _⟩
theorem lclone_nil (w : World) : Calls Tryz.prog 41 #[.slice none 0 0] w (NwPost (.slice none 0 0) w) := by
  have hnil : ∀ w : World, (binOp BinOp.eql 37 (.slice none 0 0) (.slice none 0 0)).run Tryz.prog w = .ok (.bool true) w := fun _ => by kernel_rfl
  go_enter Tryz.func41, Tryz.ntmps41
  go_wp2_with fail
  go_ret
  exact ⟨rfl, Chg.refl _ _⟩
theorem q_all0 (B : Blk w g 267 #[.slice none 0 0]) : Calls Tryz.prog 94 #[.pointer (some ⟨g, 0, none⟩)] w (NwPost (.slice none 0 0) w) := by
  have c0 := B.cellv 0 rfl
  go_enter Tryz.func94, Tryz.ntmps94
  go_wp2_with fail
  refine (lclone_nil w).mono ?_
  rintro e w1 ⟨rfl, c1⟩
  go_wp2_with fail
  go_ret
  exact ⟨rfl, c1⟩
theorem tm_len0 (B : Blk w g 166 #[.slice none 0 0, .int .i64 0]) : Calls Tryz.prog 38 #[.pointer (some ⟨g, 0, none⟩)] w (QuPost (.int .i64 0) w) := by
  have c0 := B.cellv 0 rfl
  go_enter Tryz.func38, Tryz.ntmps38
  go_wp2_with fail
  go_ret
  exact ⟨rfl, rfl⟩
theorem tm_due0 (B : Blk w g 166 #[.slice none 0 0, .int .i64 0]) (now : Int) : Calls Tryz.prog 81 #[.pointer (some ⟨g, 0, none⟩), .int .i64 now] w (QuPost (.slice none 0 0) w) := by
  go_enter Tryz.func81, Tryz.ntmps81
  have HB := Lib.hid B; clear B
  go_wp2_with fail
  go_loopg [5] 1 (fun gk idx wr => gk = 1 ∧ idx = .slice none 0 0 ∧ wr = w)
  case atStart => exact ⟨rfl, rfl, rfl⟩
  case round =>
    obtain ⟨rfl, rfl, rfl⟩ := hrel
    go_wp2_with fail
    refine (tm_len0 _ g HB.out).mono ?_
    rintro e w1 ⟨rfl, rfl⟩
    go_wp2_with fail
    go_ret
    exact ⟨rfl, rfl⟩
end
structure RgR where
  l : Nat → Int
  fr : Nat
  n : Nat
  nx : Int
  hs : Bool
def rgC (r : RgR) : Array Value := (((List.range 256).map fun i => Value.int .i64 (r.l i)) ++ ([.int .i64 (r.fr : Nat), .int .i64 (r.n : Nat), .int .i64 r.nx, .bool r.hs] : List Value)).toArray
theorem rgC_at (r : RgR) {i : Nat} (hi : i < 256) : (rgC r)[i]? = some (.int .i64 (r.l i)) := by
  unfold rgC
  rw [List.getElem?_toArray, List.getElem?_append_left (by simpa using hi), List.getElem?_map, List.getElem?_range hi]; rfl
theorem rgC_hi (r : RgR) (i : Nat) : (rgC r)[256 + i]? = [Value.int .i64 (r.fr : Nat), .int .i64 (r.n : Nat), .int .i64 r.nx, .bool r.hs][i]? := by
  unfold rgC
  rw [List.getElem?_toArray, List.getElem?_append_right (by simp)]; simp
theorem rgC_fr (r : RgR) : (rgC r)[256]? = some (.int .i64 (r.fr : Nat)) := rgC_hi r 0
theorem rgC_n (r : RgR) : (rgC r)[257]? = some (.int .i64 (r.n : Nat)) := rgC_hi r 1
theorem rgC_nx (r : RgR) : (rgC r)[258]? = some (.int .i64 r.nx) := rgC_hi r 2
theorem rgC_hs (r : RgR) : (rgC r)[259]? = some (.bool r.hs) := rgC_hi r 3
theorem rgC_size (r : RgR) : (rgC r).size = 260 := by unfold rgC; simp
theorem rgC_ext {a : Array Value} (r : RgR) (hs : a.size = 260) (hl : ∀ i, i < 256 → a[i]? = some (.int .i64 (r.l i))) (h0 : a[256]? = some (.int .i64 (r.fr : Nat))) (h1 : a[257]? = some (.int .i64 (r.n : Nat))) (h2 : a[258]? = some (.int .i64 r.nx)) (h3 : a[259]? = some (.bool r.hs)) : a = rgC r := by
  apply Array.ext_getElem?
  intro i
  by_cases hi : i < 256
  · rw [hl i hi, rgC_at r hi]
  · have : i = 256 ∨ i = 257 ∨ i = 258 ∨ i = 259 ∨ 260 ≤ i := by omega
    rcases this with rfl | rfl | rfl | rfl | h
    · rw [h0, rgC_fr]
    · rw [h1, rgC_n]
    · rw [h2, rgC_nx]
    · rw [h3, rgC_hs]
    · rw [Array.getElem?_eq_none (by omega), Array.getElem?_eq_none (by rw [rgC_size]; omega)]
section
variable (r : RgR)
theorem rgC_setl {i : Nat} (hi : i < 256) (x : Int) : (rgC r).setIfInBounds i (.int .i64 x) = rgC { r with l := fun k => if k = i then x else r.l k } := by
  refine rgC_ext _ (by simp [rgC_size]) (fun k hk => ?_) ?_ ?_ ?_ ?_
  · rw [Array.getElem?_setIfInBounds]
    by_cases e : i = k
    · subst e; rw [if_pos rfl, if_pos (by rw [rgC_size]; omega)]; simp
    · rw [if_neg e, rgC_at r hk]; simp [show ¬ k = i from fun h => e h.symm]
  · rw [Array.getElem?_setIfInBounds_ne (by omega), rgC_fr]
  · rw [Array.getElem?_setIfInBounds_ne (by omega), rgC_n]
  · rw [Array.getElem?_setIfInBounds_ne (by omega), rgC_nx]
  · rw [Array.getElem?_setIfInBounds_ne (by omega), rgC_hs]
theorem rgC_setfr (x : Nat) : (rgC r).setIfInBounds 256 (.int .i64 (x : Nat)) = rgC { r with fr := x } := by
  refine rgC_ext _ (by simp [rgC_size]) (fun k hk => ?_) ?_ ?_ ?_ ?_
  · rw [Array.getElem?_setIfInBounds_ne (by omega), rgC_at r hk]
  · rw [Array.getElem?_setIfInBounds, if_pos rfl, if_pos (by rw [rgC_size]; omega)]
  · rw [Array.getElem?_setIfInBounds_ne (by omega), rgC_n]
  · rw [Array.getElem?_setIfInBounds_ne (by omega), rgC_nx]
  · rw [Array.getElem?_setIfInBounds_ne (by omega), rgC_hs]
theorem rgC_setn (x : Nat) : (rgC r).setIfInBounds 257 (.int .i64 (x : Nat)) = rgC { r with n := x } := by
  refine rgC_ext _ (by simp [rgC_size]) (fun k hk => ?_) ?_ ?_ ?_ ?_
  · rw [Array.getElem?_setIfInBounds_ne (by omega), rgC_at r hk]
  · rw [Array.getElem?_setIfInBounds_ne (by omega), rgC_fr]
  · rw [Array.getElem?_setIfInBounds, if_pos rfl, if_pos (by rw [rgC_size]; omega)]
  · rw [Array.getElem?_setIfInBounds_ne (by omega), rgC_nx]
  · rw [Array.getElem?_setIfInBounds_ne (by omega), rgC_hs]
end
def rg0 : RgR := ⟨fun _ => 0, 0, 0, 0, false⟩
def RgR.xs (r : RgR) : List Int := (if r.hs then [r.nx] else []) ++ (List.range r.n).map fun i => r.l ((r.fr + i) % 256)
end Go.Proofs.YtcpljjacamibeaaGreatDoor
