/- The document's law 28: Round, Run: whatever is kept from step to step is kept by a run. -/
/- MachineYields, in plain Lean: goroutines that yield to one another on one P: what stays true of the machine. -/
import Derived.Test.YthjplmminmhiaaaGreatDoorMi6
import Derived.Test.YthjplmminmhiaaaGreatDoorMg6J
namespace Go.Proofs.YthjplmminmhiaaaGreatDoor
open Go.RowKit Go.Maps

def rndV (P i : Nat) : Value := .agg #[.int .i64 ((i % P : Nat) : Int), .int .i64 (((i % P + 1) % P : Nat) : Int), .bool false, .int .i64 0]
set_option maxHeartbeats 1600000 in
set_option maxRecDepth 100000 in
theorem round_ok (w : World) (gW P i : Nat) (hW : w.cell? ⟨gW, 2, none⟩ = some (.int .i64 (P : Nat))) (h1 : 1 ≤ P) (hP : P ≤ 64) (hi : i ≤ 100000000) :
    Calls Tryz.prog 10 #[.pointer (some ⟨gW, 0, none⟩), .int .i64 (i : Nat)] w (NwPost (rndV P i) w) := by
  have e0 : ¬ (P : Int) = 0 := by omega
  have m1 : (i : Int).tmod (P : Int) = ((i % P : Nat) : Int) := by rw [Int.tmod_eq_emod_of_nonneg (by omega)]; exact (Int.natCast_emod i P).symm
  have m2 : (((i % P : Nat) : Int) + 1).tmod (P : Int) = (((i % P + 1) % P : Nat) : Int) := by
    rw [Int.tmod_eq_emod_of_nonneg (by omega)]
    exact (Int.natCast_emod (i % P + 1) P).symm
  have b1 : i % P < P := Nat.mod_lt _ h1
  have b2 : (i % P + 1) % P < P := Nat.mod_lt _ h1
  unfold rndV
  obtain ⟨r, hr⟩ : ∃ r, r = i % P := ⟨_, rfl⟩
  obtain ⟨v, hv⟩ : ∃ v, v = (r + 1) % P := ⟨_, rfl⟩
  rw [← hr] at m1 m2 b1 b2 ⊢
  rw [← hv] at m2 b2 ⊢
  clear hr hv
  have w1 : IntKind.i64.wrap ((i : Int).tmod (P : Int)) = (r : Int) := by rw [m1, IntKind.wrap_i64]; omega
  have w2 : IntKind.i64.wrap (((r : Int) + 1).tmod (P : Int)) = (v : Int) := by rw [m2, IntKind.wrap_i64]; omega
  go_enter Tryz.func10, Tryz.ntmps10
  go_upto_region 1 with fail
  obtain ⟨gR, hgR⟩ : ∃ g', g' = w.heap.size := ⟨_, rfl⟩
  obtain ⟨w3, hw3⟩ : ∃ w3, w3 = w.alloc (.cells #[.int .i64 0, .int .i64 0, .bool false, .int .i64 0] 43) := ⟨_, rfl⟩
  rw [← hw3, ← hgR]
  have BR : Blk w3 gR 43 #[.int .i64 0, .int .i64 0, .bool false, .int .i64 0] := by rw [hw3, hgR]; exact Blk.new _ _ _
  have c03 : Chg [] w w3 := by rw [hw3]; exact (Chg.refl [] w).alloc _
  have hW : w3.cell? ⟨gW, 2, none⟩ = some (.int .i64 (P : Nat)) := c03.cellv (lt_of_cellM hW) (by simp) hW
  have hnR : w.heap.size ≤ gR := by omega
  clear hw3 hgR
  have k0 : w3.cell? ⟨gR, 0, none⟩ = some (.int .i64 0) := BR.cellv 0 rfl
  have k1 : w3.cell? ⟨gR, 1, none⟩ = some (.int .i64 0) := BR.cellv 1 rfl
  have k2 : w3.cell? ⟨gR, 2, none⟩ = some (.bool false) := BR.cellv 2 rfl
  have k3 : w3.cell? ⟨gR, 3, none⟩ = some (.int .i64 0) := BR.cellv 3 rfl
  have f0 := BR.frozen 0
  have f1 := BR.frozen 1
  have f2 := BR.frozen 2
  have f3 := BR.frozen 3
  have HR := Lib.hid (And.intro BR c03); clear BR c03
  go_wp2_with fail
  have B4 := (((HR.out.1.setv 0 (.int .i64 (r : Nat)) rfl).setv 1 (.int .i64 (v : Nat)) rfl).setv 2 (.bool false) rfl).setv 3 (.int .i64 0) (cs' := #[.int .i64 (r : Nat), .int .i64 (v : Nat), .bool false, .int .i64 0]) rfl
  have c4 := (((HR.out.2.setCell (p := ⟨gR, 0, none⟩) (.inr hnR) (.int .i64 (r : Nat))).setCell (p := ⟨gR, 1, none⟩) (.inr hnR) (.int .i64 (v : Nat))).setCell (p := ⟨gR, 2, none⟩) (.inr hnR) (.bool false)).setCell (p := ⟨gR, 3, none⟩) (.inr hnR) (.int .i64 0)
  exact ⟨rfl, _, results_cell_row (P := Tryz.prog) (fn := Tryz.f10) rfl _ _ gR 43 _ _ _ rfl B4 Tryz.underlying43 rfl (by kernel_rfl), rfl, c4⟩
/-- What is kept from step to step: i steps of the run were done, s is how it stands. -/
structure RunJ (gW P N : Nat) (J : Nat → Int → World → Prop) : Prop where
  cells : ∀ i s w, J i s w → ∃ gm, w.cell? ⟨gW, 0, none⟩ = some (.pointer (some ⟨gm, 0, none⟩)) ∧ w.cell? ⟨gW, 2, none⟩ = some (.int .i64 (P : Nat)) ∧ gW < w.heap.size ∧ Calls Tryz.prog 11 #[.pointer (some ⟨gm, 0, none⟩)] w (QdPost (.int .i64 s) w)
  chg : ∀ i s w w', J i s w → Chg [] w w' → J i s w'
  step : ∀ i w, i < N → J i 0 w → Calls Tryz.prog 9 #[.pointer (some ⟨gW, 0, none⟩), rndV P i] w (fun e w' => ∃ k g s', e = .returned (.tuple #[evV k g 0, .bool true]) ∧ J (i + 1) s' w')
def RunRel (N : Nat) (J : Nat → Int → World → Prop) (gk : Nat) (idx : Value) (w : World) : Prop := ∃ i s, gk + i = N + 1 ∧ i ≤ N ∧ idx = .int .i64 (i : Nat) ∧ J i s w
def RunQ (N : Nat) (J : Nat → Int → World → Prop) (e : Ending) (w : World) : Prop := ∃ i s, e = .returned (.bool true) ∧ J i s w ∧ (s ≠ 0 ∨ i = N)
set_option maxHeartbeats 1600000 in
set_option maxRecDepth 100000 in
theorem run_ok (w : World) (gW P rounds : Nat) (J : Nat → Int → World → Prop) (s0 : Int) (R : RunJ gW P (rounds * P) J) (h1 : 1 ≤ P) (hP : P ≤ 64) (hr : rounds ≤ 100000) (h : J 0 s0 w) :
    Calls Tryz.prog 13 #[.pointer (some ⟨gW, 0, none⟩), .int .i64 (rounds : Nat)] w (RunQ (rounds * P) J) := by
  obtain ⟨N, hN⟩ : ∃ N, N = rounds * P := ⟨_, rfl⟩
  have bN : N ≤ 6400000 := by rw [hN]; exact Nat.mul_le_mul hr hP
  have eN : IntKind.i64.wrap ((rounds : Int) * (P : Int)) = (N : Int) := by rw [IntKind.wrap_i64, hN]; push_cast; have : (N : Int) = (rounds : Int) * (P : Int) := by rw [hN]; push_cast; rfl
                                                                            omega
  rw [← hN] at R ⊢
  have HR := Lib.hid (And.intro R (And.intro h hN)); clear R h hN
  go_enter Tryz.func13, Tryz.ntmps13
  go_wp2_with fail
  go_loopg [5] (N + 1) (fun gk idx wr => RunRel N J gk idx wr)
  case atStart => exact ⟨0, s0, by omega, by omega, rfl, HR.out.2.1⟩
  case round =>
    obtain ⟨i, s, hgk, hi, rfl, hJ⟩ := hrel
    obtain ⟨gm, c0, c2, lW, KS⟩ := HR.out.1.cells i s wr hJ
    have HJ := Lib.hid (And.intro hJ (And.intro KS lW)); clear hJ KS
    by_cases hlt : i < N
    · have d1 : (i : Int) < (N : Int) := by omega
      go_wp2_with fail
      refine (HJ.out.2.1).mono ?_
      rintro e w1 ⟨rfl, kk, hw1⟩
      have c1 : Chg [] wr w1 := by rw [hw1]; exact (Chg.refl [] wr).drewN _
      have J1 := HR.out.1.chg i s wr w1 HJ.out.1 c1
      clear hw1
      by_cases hs : s = 0
      · subst hs
        obtain ⟨gm', c0', c2', lW', -⟩ := HR.out.1.cells i 0 w1 J1
        have KR := round_ok w1 gW P i c2' h1 hP (by omega)
        have H1 := Lib.hid (And.intro J1 KR); clear J1 KR c1 c0 c2 c0' c2' lW' lW
        go_wp2_with fail
        refine (H1.out.2).mono ?_
        rintro e w2 ⟨rfl, c12⟩
        have KD := HR.out.1.step i w2 hlt (HR.out.1.chg _ _ _ _ H1.out.1 c12)
        have H2 := Lib.hid KD; clear KD c12
        go_wp2_with fail
        refine (H2.out).mono ?_
        rintro e w3 ⟨k, g, s', rfl, J3⟩
        unfold evV
        have H3 := Lib.hid J3; clear J3
        go_wp2_with fail
        go_roundg (N - i)
        case measure => omega
        case rel => exact ⟨i + 1, s', by omega, by omega, rfl, HR.out.1.chg _ _ _ _ H3.out ((Chg.refl [] w3).alloc _)⟩
      · have e0 : (s == 0) = false := by rw [beq_eq_false_iff_ne]; exact hs
        have H1 := Lib.hid J1; clear J1 c1 c0 c2 lW
        go_wp2_with fail
        go_ret
        exact ⟨i, s, rfl, H1.out, .inl hs⟩
    · have d1 : ¬ (i : Int) < (N : Int) := by omega
      go_wp2_with fail
      go_ret
      exact ⟨i, s, rfl, HJ.out.1, .inr (by omega)⟩
end Go.Proofs.YthjplmminmhiaaaGreatDoor
namespace Go.Proofs.YthjplmminmhiaaaGreatDoor
open Go.RowKit Go.Maps

/-- A ring holds this list. -/
structure RingIs (r : RgR) (L : List Nat) : Prop where
  n : r.n = L.length
  fr : r.fr < 256
  hs : r.hs = false
  at_ : ∀ (j x : Nat), L[j]? = some x → r.l ((r.fr + j) % 256) = (x : Nat)
theorem RingIs.pop {r : RgR} {x : Nat} {L : List Nat} (h : RingIs r (x :: L)) : RingIs (rgPop r) L := by
  refine ⟨?_, ?_, h.hs, fun j y hj => ?_⟩
  · show r.n - 1 = _
    rw [h.n, List.length_cons]; omega
  · show (r.fr + 1) % 256 < 256
    omega
  · show r.l (((r.fr + 1) % 256 + j) % 256) = _
    rw [← h.at_ (j + 1) y (by simpa using hj)]
    congr 1
    omega
theorem RingIs.put {r : RgR} {L : List Nat} (h : RingIs r L) (x : Nat) (hl : L.length < 256) : RingIs (rgPut r (x : Nat)) (L ++ [x]) := by
  refine ⟨?_, h.fr, h.hs, fun j y hj => ?_⟩
  · show r.n + 1 = _
    rw [h.n, List.length_append, List.length_singleton]
  · show (if (r.fr + j) % 256 = (r.fr + r.n) % 256 then (x : Int) else r.l ((r.fr + j) % 256)) = _
    have hn := h.n
    by_cases e : j < L.length
    · rw [List.getElem?_append_left e] at hj
      rw [if_neg (by omega)]
      exact h.at_ j y hj
    · have hj' := (List.getElem?_eq_some_iff.1 hj).1
      rw [List.length_append, List.length_singleton] at hj'
      have ej : j = L.length := by omega
      subst ej
      rw [List.getElem?_append_right (Nat.le_refl _), Nat.sub_self, List.getElem?_cons_zero] at hj
      rw [if_pos (by rw [hn]), Option.some.inj hj]
theorem RingIs.head {r : RgR} {x : Nat} {L : List Nat} (h : RingIs r (x :: L)) : r.l r.fr = (x : Nat) := by
  have := h.at_ 0 x rfl
  rw [Nat.add_zero, Nat.mod_eq_of_lt h.fr] at this
  exact this

/-- The programs of the row. -/
def yFirst (k : Nat) : List Ins := List.replicate k ⟨8, 1, 0, 0⟩ ++ [⟨0, 0, 0, 0⟩]
def yEach (y : Nat) : List Ins := [⟨16, 0, y, 0⟩, ⟨9, 0, 0, 0⟩, ⟨17, 1, 0, 0⟩]
/-- How many yields of one goroutine. -/
def yds (cms : List ComA) (g : Nat) : Nat := cms.countP fun c : ComA => decide (c.op = 9 ∧ c.g = (g : Nat))
theorem yds_snoc (cms : List ComA) (c : ComA) (g : Nat) : yds (cms ++ [c]) g = yds cms g + (if c.op = 9 ∧ c.g = (g : Nat) then 1 else 0) := by
  unfold yds
  rw [List.countP_append, List.countP_singleton]
  by_cases h : c.op = 9 ∧ c.g = (g : Nat)
  · rw [if_pos h, if_pos (by simpa using h)]
  · rw [if_neg h, if_neg (by simpa using h)]
/-- How far a goroutine is. -/
def GOk (k y ng g : Nat) (x : GorA) (Y : Nat) (alive : Prop) : Prop :=
  (∀ j, x.st j = 0) ∧ ((g = 0 ∧ x.f = 0 ∧ x.cnt = 0 ∧ ((alive ∧ x.pc + 1 = (ng : Nat)) ∨ (¬ alive ∧ ng = k + 1))) ∨
  (g ≠ 0 ∧ x.f = 1 ∧ ((alive ∧ x.pc = 0 ∧ x.cnt = 0 ∧ Y = 0) ∨ (alive ∧ x.pc = 1 ∧ 0 ≤ x.cnt ∧ (Y : Int) + x.cnt = y) ∨ (alive ∧ x.pc = 2 ∧ 0 ≤ x.cnt ∧ (Y : Int) + x.cnt = y + 1) ∨ (alive ∧ x.pc = 3 ∧ x.cnt = 0 ∧ Y = y + 1) ∨ (¬ alive ∧ Y = y + 1))))
/-- Where one rests that nobody runs. -/
def Rests (g : Nat) (x : GorA) : Prop := if g = 0 then x.pc = 0 else x.pc = 0 ∨ x.pc = 2
/-- What is always true. -/
structure YC (k y s i : Nat) (m : Mac) (Q : List Nat) : Prop where
  C : Calm m
  np : m.np = 1
  fs : m.fs = [yFirst k, yEach y]
  n1 : 1 ≤ m.ng
  nk : m.ng ≤ k + 1
  nd : Q.Nodup
  lt : ∀ g ∈ Q, g < m.ng
  ql : Q.length ≤ m.ng
  gor : ∀ g, g < m.ng → GOk k y m.ng g (m.gs g) (yds m.cms g) (g ∈ Q)
  cmg : ∀ c ∈ m.cms, ∃ g : Nat, c.g = (g : Nat) ∧ g < m.ng
  new : ∀ g, m.ng ≤ g → yds m.cms g = 0
  cml : m.cms.length = i
  wk : (m.ps 0).worked = 0
  al : (m.ps 0).all = (s : Nat)
  pk : ∃ n : Nat, (m.ps 0).picks = n ∧ n ≤ s
  sp : m.steps = (s : Nat)
  ck : m.clock = 0
/-- P 0 runs nobody. -/
structure YIdle (k y s i : Nat) (m : Mac) (Q : List Nat) : Prop where
  c : YC k y s i m Q
  r : RingIs (m.rg 0) Q
  pg : (m.ps 0).g = -1
  st : ∀ j, j < m.ng → m.sts[j]? = some (if j ∈ Q then 1 else 5)
  re : ∀ j ∈ Q, Rests j (m.gs j)
/-- P 0 runs g. -/
structure YBusy (k y s i : Nat) (m : Mac) (g : Nat) (L : List Nat) : Prop where
  c : YC k y s i m (g :: L)
  r : RingIs (m.rg 0) L
  pg : (m.ps 0).g = (g : Nat)
  st : ∀ j, j < m.ng → m.sts[j]? = some (if j = g then 2 else if j ∈ L then 1 else 5)
  re : ∀ j ∈ L, Rests j (m.gs j)
  row : (m.ps 0).row = if g = 0 then (m.gs g).pc else (m.gs g).pc % 2
def YI (k y s i : Nat) (m : Mac) (Q : List Nat) : Prop := YIdle k y s i m Q ∨ ∃ g L, Q = g :: L ∧ YBusy k y s i m g L
theorem YI.c {k y s i : Nat} {m : Mac} {Q : List Nat} (h : YI k y s i m Q) : YC k y s i m Q := by
  rcases h with h | ⟨g, L, rfl, h⟩
  · exact h.c
  · exact h.c
theorem YI.st5 {k y s i : Nat} {m : Mac} {Q : List Nat} (h : YI k y s i m Q) (j : Nat) (hj : j < m.ng) : m.sts[j]? = some 5 ↔ j ∉ Q := by
  rcases h with h | ⟨g, L, rfl, h⟩
  · rw [h.st j hj]
    by_cases e : j ∈ Q <;> simp [e]
  · rw [h.st j hj]
    by_cases e : j = g
    · simp [e]
    · by_cases e2 : j ∈ L <;> simp [e, e2]
theorem YI.st12 {k y s i : Nat} {m : Mac} {Q : List Nat} (h : YI k y s i m Q) (j : Nat) (hj : j ∈ Q) : m.sts[j]? = some 1 ∨ m.sts[j]? = some 2 := by
  have hl := h.c.lt j hj
  rcases h with h | ⟨g, L, rfl, h⟩
  · rw [h.st j hl, if_pos hj]; exact .inl rfl
  · rw [h.st j hl]
    by_cases e : j = g
    · rw [if_pos e]; exact .inr rfl
    · have : j ∈ L := by simpa [e] using hj
      rw [if_neg e, if_pos this]; exact .inl rfl
/-- It runs as long as somebody lives. -/
theorem YI.stV {k y s i : Nat} {m : Mac} {Q : List Nat} (h : YI k y s i m Q) : stV m = if Q = [] then 1 else 0 := by
  have hsl := h.c.C.sl
  unfold Proofs.YthjplmminmhiaaaGreatDoor.stV
  rw [if_neg (by rw [h.c.C.out]; decide)]
  unfold cntI
  by_cases hQ : Q = []
  · rw [if_pos hQ, if_pos]
    rw [List.count_eq_length]
    intro x hx
    obtain ⟨j, hj, rfl⟩ := List.mem_iff_getElem.1 hx
    have := (h.st5 j (by omega)).2 (by rw [hQ]; simp)
    rw [List.getElem?_eq_getElem hj] at this
    exact (Option.some.inj this).symm
  · rw [if_neg hQ]
    obtain ⟨g, hg⟩ : ∃ g, g ∈ Q := by cases Q with | nil => exact absurd rfl hQ | cons a r => exact ⟨a, by simp⟩
    have hgl := h.c.lt g hg
    rw [if_neg, if_neg]
    · rcases h.st12 g hg with e | e
      · have := List.count_pos_iff.2 (List.mem_of_getElem? e)
        omega
      · have := List.count_pos_iff.2 (List.mem_of_getElem? e)
        omega
    · intro hc
      rw [List.count_eq_length] at hc
      rcases h.st12 g hg with e | e
      · exact absurd (hc _ (List.mem_of_getElem? e)) (by decide)
      · exact absurd (hc _ (List.mem_of_getElem? e)) (by decide)
/-- At the end each has all of its yields. -/
theorem YI.done {k y s i : Nat} {m : Mac} (h : YI k y s i m []) (g : Nat) (h1 : 1 ≤ g) (hg : g ≤ k) : m.ng = k + 1 ∧ yds m.cms g = y + 1 := by
  have h0 := (h.c.gor 0 (by have := h.c.n1; omega)).2
  have hn : m.ng = k + 1 := by
    rcases h0 with ⟨-, -, -, h0⟩ | ⟨h0, -⟩
    · rcases h0 with ⟨h0, -⟩ | ⟨-, h0⟩
      · exact absurd h0 (by simp)
      · exact h0
    · exact absurd rfl h0
  refine ⟨hn, ?_⟩
  rcases (h.c.gor g (by omega)).2 with ⟨h0, -⟩ | ⟨-, -, h0⟩
  · omega
  · rcases h0 with ⟨h0, -⟩ | ⟨h0, -⟩ | ⟨h0, -⟩ | ⟨h0, -⟩ | ⟨-, h0⟩
    · exact absurd h0 (by simp)
    · exact absurd h0 (by simp)
    · exact absurd h0 (by simp)
    · exact absurd h0 (by simp)
    · exact h0
theorem YBusy.ne {k y s i : Nat} {m : Mac} {g : Nat} {L : List Nat} (h : YBusy k y s i m g L) : g ∉ L ∧ L.Nodup ∧ g < m.ng ∧ ∀ j ∈ L, j < m.ng :=
  ⟨(List.nodup_cons.1 h.c.nd).1, (List.nodup_cons.1 h.c.nd).2, h.c.lt g (by simp), fun j hj => h.c.lt j (by simp [hj])⟩
/-- P 0 takes the next one, or goes on. -/
theorem YI.serve {k y s i : Nat} {m : Mac} {g : Nat} {L : List Nat} (h : YI k y s i m (g :: L)) : YBusy k y (s + 1) i (serve m 0 g) g L := by
  rcases h with h | ⟨g', L', e, h⟩
  · have c := h.c
    have hsl := c.C.sl
    have hgl := c.lt g (by simp)
    have hgL := (List.nodup_cons.1 c.nd).1
    have hre := h.re g (by simp)
    unfold Proofs.YthjplmminmhiaaaGreatDoor.serve
    rw [if_pos h.pg]
    obtain ⟨pk, hpk, bpk⟩ := c.pk
    have eg : ∀ j, ((takeA (tickA m 0) 0 g).gs j).f = (m.gs j).f ∧ ((takeA (tickA m 0) 0 g).gs j).pc = (m.gs j).pc ∧ ((takeA (tickA m 0) 0 g).gs j).cnt = (m.gs j).cnt ∧ ((takeA (tickA m 0) 0 g).gs j).st = (m.gs j).st := by
      intro j
      have hx : (takeA (tickA m 0) 0 g).gs j = if j = g then { m.gs g with p := ((0 : Nat) : Int) } else m.gs j := rfl
      rw [hx]
      by_cases e : j = g
      · subst e; rw [if_pos rfl]; exact ⟨rfl, rfl, rfl, rfl⟩
      · rw [if_neg e]; exact ⟨rfl, rfl, rfl, rfl⟩
    have es : (takeA (tickA m 0) 0 g).sts = m.sts.set g 2 := rfl
    have ep : (takeA (tickA m 0) 0 g).ps 0 = { m.ps 0 with all := (m.ps 0).all + 1, g := (g : Nat), row := 0, picks := (m.ps 0).picks + 1 } := by simp [takeA, tickA, updV_same]
    have er : (takeA (tickA m 0) 0 g).rg 0 = rgPop (m.rg 0) := by simp [takeA, tickA, updV_same]
    refine ⟨⟨?_, c.np, c.fs, c.n1, c.nk, c.nd, c.lt, c.ql, fun j hj => ?_, c.cmg, c.new, c.cml, ?_, ?_, ⟨pk + 1, ?_, by omega⟩, ?_, c.ck⟩, ?_, ?_, fun j hj => ?_, fun j hj => ?_, ?_⟩
    · exact ⟨c.C.P, c.C.tm, c.C.made, c.C.out, c.C.h0, c.C.fo, c.C.cy, c.C.lv, c.C.T, by rw [es, List.length_set]; exact hsl, c.C.ng, c.C.cl⟩
    · have := c.gor j hj
      unfold GOk at this ⊢
      rw [(eg j).1, (eg j).2.1, (eg j).2.2.1, (eg j).2.2.2]
      exact this
    · rw [ep]; exact c.wk
    · rw [ep]; show (m.ps 0).all + 1 = _; rw [c.al]; rfl
    · rw [ep]; show (m.ps 0).picks + 1 = _; rw [hpk]; rfl
    · show m.steps + 1 = _; rw [c.sp]; rfl
    · rw [er]; exact h.r.pop
    · rw [ep]
    · rw [es, List.getElem?_set]
      have := h.st j hj
      by_cases e : g = j
      · subst e; rw [if_pos rfl, if_pos (by omega), if_pos rfl]
      · have e' : ¬ j = g := fun h => e h.symm
        rw [if_neg e, this, if_neg e']
        by_cases e2 : j ∈ L
        · rw [if_pos (by simp [e2]), if_pos e2]
        · rw [if_neg (by simp [e2, e']), if_neg e2]
    · have := h.re j (by simp [hj])
      unfold Rests at this ⊢
      rw [(eg j).2.1]
      exact this
    · rw [ep, (eg g).2.1]
      unfold Rests at hre
      by_cases e : g = 0
      · rw [if_pos e] at hre ⊢; exact hre.symm
      · rw [if_neg e] at hre ⊢
        rcases hre with hre | hre <;> rw [hre] <;> rfl
  · obtain ⟨rfl, rfl⟩ := List.cons.inj e
    have c := h.c
    have hne : ¬ (m.ps 0).g = -1 := by rw [h.pg]; omega
    unfold Proofs.YthjplmminmhiaaaGreatDoor.serve
    rw [if_neg hne]
    obtain ⟨pk, hpk, bpk⟩ := c.pk
    have ep : (tickA m 0).ps 0 = { m.ps 0 with all := (m.ps 0).all + 1 } := by simp [tickA, updV_same]
    refine ⟨⟨⟨c.C.P, c.C.tm, c.C.made, c.C.out, c.C.h0, c.C.fo, c.C.cy, c.C.lv, c.C.T, c.C.sl, c.C.ng, c.C.cl⟩, c.np, c.fs, c.n1, c.nk, c.nd, c.lt, c.ql, c.gor, c.cmg, c.new, c.cml, ?_, ?_, ⟨pk, ?_, by omega⟩, ?_, c.ck⟩, h.r, ?_, h.st, h.re, ?_⟩
    · rw [ep]; exact c.wk
    · rw [ep]; show (m.ps 0).all + 1 = _; rw [c.al]; rfl
    · rw [ep]; exact hpk
    · show m.steps + 1 = _; rw [c.sp]; rfl
    · rw [ep]; exact h.pg
    · rw [ep]; exact h.row
end Go.Proofs.YthjplmminmhiaaaGreatDoor
