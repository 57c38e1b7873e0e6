/- The arena's ops, as to a state that a law carries along. -/
import Derived.Test.YtkocikpoagfonaaDoorArP
namespace Go.Proofs.YtkocikpoagfonaaDoor
open Go.RowKit

theorem turnH_self (h : ArH) (id : Nat) : turnH h id (h.B id) = h := by
  have : (fun j => if j = id then h.B id else h.B j) = h.B := by
    funext j
    by_cases e : j = id
    · rw [if_pos e, e]
    · rw [if_neg e]
  unfold turnH
  rw [this]
theorem ArM.nn {w : World} {h : ArH} {a : Ar} (M : ArM w h a) (N : Nat) : ArM w { h with N := N } a := ⟨M.b, M.P, M.s, M.o, M.j, M.S, M.O, M.d1, M.d2, M.m1, M.m2, M.m3⟩
theorem livN_le {f : Nat → Option Sp} (h : ∀ i s, f i = some s → s.k < 16) : ∀ n, livN f n ≤ n * 16384
  | 0 => Nat.le_refl _
  | n + 1 => by
    have ih := livN_le h n
    rw [livN]
    have : spW (f n) ≤ 16384 := by
      cases e : f n with
      | none => exact Nat.zero_le _
      | some s =>
        have hk := h n s e
        have h1 := cntF_le s.F (slK s.k)
        have h2 := (kF hk).2.2.2.2.2.2.2.2
        have h3 := (kF hk).2.2.2.1
        show cntF s.F (slK s.k) * szK s.k ≤ 64 * 256
        exact Nat.mul_le_mul (by omega) h3
    omega
theorem ArI.small {N : Nat} {a : Ar} (I : ArI N a) (hN : N ≤ 6000) : a.live ≤ 100000000 := by
  have := livN_le (fun i s h => (I.ok.pg i s h).1) N
  have := I.lv
  omega
/-- The state: where all lies, far from what was there ahead. -/
structure ArS (w0 w : World) (g : Nat) (h : ArH) (a : Ar) (N b : Nat) : Prop where
  M : ArM w h a
  I : ArI N a
  far : ∀ k, ArF h a k → w0.heap.size ≤ k
  c : Chg [] w0 w
  ga : h.ga = g
  m : h.m ≤ b
section
variable {w0 w w' : World} {g N b : Nat} {h h' : ArH} {a a' : Ar}
theorem ArS.chg0 (S : ArS w0 w g h a N b) (c : Chg [] w w') : ArS w0 w' g h a N b := ⟨S.M.chg0 c, S.I, S.far, S.c.trans c, S.ga, S.m⟩
theorem ArS.step (S : ArS w0 w g h a N b) {N' b' : Nat} (M : ArM w' h' a') (st : StA h a h' a' w w') (I : ArI N' a') (ga : h'.ga = h.ga) (m : h'.m ≤ b') : ArS w0 w' g h' a' N' b' :=
  ⟨M, I, fun k hk => by
    rcases st.fr k hk with h1 | h1
    · exact S.far k h1
    · exact Nat.le_trans S.c.size h1, ⟨st.os.trans S.c.os, st.tape.trans S.c.tape, st.output.trans S.c.output, Nat.le_trans S.c.size st.size, fun k hk _ => (st.block k (Nat.lt_of_lt_of_le hk S.c.size) (fun hm => by have := S.far k hm; omega)).trans (S.c.block k hk (by simp))⟩, ga.trans S.ga, m⟩
/-- What the call owns of its own beside the arena stays. -/
theorem StA.chg (st : StA h a h' a' w w') : ∃ S : List Nat, Chg S w w' ∧ ∀ k ∈ S, ArF h a k := by
  classical
  refine ⟨(List.range w.heap.size).filter (fun k => decide (ArF h a k)), ⟨st.os, st.tape, st.output, st.size, fun k hk hn => st.block k hk (fun hf => hn ?_)⟩, fun k hk => ?_⟩
  · rw [List.mem_filter, List.mem_range]
    exact ⟨hk, decide_eq_true hf⟩
  · rw [List.mem_filter] at hk
    exact of_decide_eq_true hk.2
theorem OwnI.sta {E : TypeId} {v : Value} {xs : List Int} (O : OwnI E w v xs) (st : StA h a h' a' w w') (hn : ∀ k ∈ fpv v, ¬ ArF h a k) : OwnI E w' v xs := by
  obtain ⟨S, c, hS⟩ := st.chg
  exact O.chg c (fun k hk hm => hn k hk (hS k hm))
theorem StA.keep (st : StA h a h' a' w w') {k : Nat} (hk : k < w.heap.size) (hn : ¬ ArF h a k) : w'.heap[k]? = w.heap[k]? := st.block k hk hn
end
def SpPost (w0 w : World) (g : Nat) (h : ArH) (a : Ar) (N b : Nat) (q : Nat) (e : Ending) (w' : World) : Prop :=
  ∃ x c l', AllocSays a.l (pgK q : Nat) x c l' ∧
    ((c ≠ 0 ∧ e = .returned (.tuple #[.int .i64 0, .int .i64 c]) ∧ ∃ h', ArS w0 w' g h' a N b ∧ StA h a h' a w w') ∨
     (c = 0 ∧ ∃ (f id : Nat) (h' : ArH), x = f ∧ a.sp id = none ∧ (∀ j, j < id → a.sp j ≠ none) ∧ id ≤ N ∧ e = .returned (.tuple #[.int .i64 (id : Nat), .int .i64 0]) ∧ ArS w0 w' g h' (spanA a l' id q f) (N + 1) (b + 6) ∧ StA h a h' (spanA a l' id q f) w w'))
def AlPost' (w0 w : World) (g : Nat) (h : ArH) (a : Ar) (N b : Nat) (id n : Int) (black : Bool) (e : Ending) (w' : World) : Prop :=
  (∃ c : Int, e = .returned (.tuple #[.int .i64 0, .int .i64 c]) ∧ ArS w0 w' g h a N b ∧ Chg [] w w' ∧ ((spI a id = none ∧ c = 4) ∨ ∃ s, spI a id = some s ∧ (((n < 1 ∨ (szK s.k : Int) < n) ∧ c = 1) ∨ (1 ≤ n ∧ n ≤ szK s.k ∧ (∀ x, s.fr ≤ x → x < slK s.k → s.F x = true) ∧ c = 3)))) ∨
  ∃ s y h', 0 ≤ id ∧ a.sp id.toNat = some s ∧ 1 ≤ n ∧ n ≤ szK s.k ∧ s.fr ≤ y ∧ y < slK s.k ∧ s.F y = false ∧ (∀ x, s.fr ≤ x → x < y → s.F x = true) ∧ e = .returned (.tuple #[.int .i64 (s.addr y : Nat), .int .i64 0]) ∧ ArS w0 w' g h' (allocA a id.toNat s y n.toNat black) N (b + 1) ∧ StA h a h' (allocA a id.toNat s y n.toNat black) w w'
section
variable {w0 w : World} {g N b : Nat} {h : ArH} {a : Ar} (S : ArS w0 w g h a N b)
include S
theorem s_span (hb : b ≤ 1000000) (hN : N ≤ 1000000) (q : Nat) (hq : q < 16) : Calls Tryd.prog 9 #[.pointer (some ⟨g, 0, none⟩), .int .i64 (q : Nat)] w (SpPost w0 w g h a N b q) := by
  have hm := S.m
  have ok := S.I.ok
  have h1 := aspan_ok w h a S.M ok.ok ok.n (by omega) N hN (fun id hid => by
    cases e : a.sp id with
    | none => rfl
    | some s => have := ok.top id s e; omega) q
  rw [S.ga] at h1
  refine h1.mono ?_
  rintro e w' (⟨hk, -, -⟩ | ⟨q', hqq, hq', x, c, l', hs, ⟨hc, he, h', M, st, hm', -, hga⟩ | ⟨hc, f, id, h', hx, hn, hall, he, M, st, hm', -, hga⟩⟩)
  · exact absurd ⟨by omega, by omega⟩ hk
  · obtain rfl : q = q' := by omega
    have el : l' = a.l := by
      rcases hs with ⟨_, _, _, h2⟩ | ⟨_, _, _, _, h2⟩ | ⟨_, _, _, _, h2, _⟩
      · exact h2
      · exact h2
      · exact absurd h2 hc
    have ea : ({ a with l := l' } : Ar) = a := by rw [el]
    rw [ea] at M st
    exact ⟨x, c, l', hs, .inl ⟨hc, he, h', S.step M st S.I hga (by omega), st⟩⟩
  · obtain rfl : q = q' := by omega
    subst hx hc
    have hid : id ≤ N := by
      rcases Nat.lt_or_ge N id with h2 | h2
      · have h3 := hall N h2
        cases e : a.sp N with
        | none => exact absurd e h3
        | some s => have := ok.top N s e; omega
      · exact h2
    exact ⟨f, 0, l', hs, .inr ⟨rfl, f, id, h', rfl, hn, hall, hid, he, S.step M st ((S.I.more (Nat.le_succ N)).span hq hn (by omega) hs) hga (by omega), st⟩⟩
theorem s_alloc (T0 : Tab w0) (hb : b ≤ 1000000) (hN : N ≤ 6000) (id n : Int) (hid : Wf64 id) (black : Bool) : Calls Tryd.prog 11 #[.pointer (some ⟨g, 0, none⟩), .int .i64 id, .int .i64 n, .bool black] w (AlPost' w0 w g h a N b id n black) := by
  have hm := S.m
  have h1 := aalloc_ok w h a S.M (T0.chg S.c (by simp)) (by omega) (S.I.small hN) id n hid black
  rw [S.ga] at h1
  refine h1.mono ?_
  rintro e w' (⟨c, he, c1, hc⟩ | ⟨s, y, h', h0, hs, hn1, hn2, hy1, hy2, hF, hall, he, -, hga, hm', M, st⟩)
  · exact .inl ⟨c, he, S.chg0 c1, c1, hc⟩
  · exact .inr ⟨s, y, h', h0, hs, hn1, hn2, hy1, hy2, hF, hall, he, S.step M st (S.I.alloc hs hy2 hF (by omega) (by omega)) hga (by omega), st⟩
theorem s_load (x i : Int) (hx : Wf64 x) : Calls Tryd.prog 15 #[.pointer (some ⟨g, 0, none⟩), .int .i64 x, .int .i64 i] w (NwPost (.tuple #[.int .i64 (loadV a x i), .int .i64 (slotC a x i)]) w) := by
  have h1 := load_ok w h a S.M x i hx
  rwa [S.ga] at h1
theorem s_store (x i v : Int) (hx : Wf64 x) : Calls Tryd.prog 13 #[.pointer (some ⟨g, 0, none⟩), .int .i64 x, .int .i64 i, .int .i64 v] w fun e w' => e = .returned (.int .i64 (slotC a x i)) ∧ ArS w0 w' g h (putA a x i v) N b ∧ StA h a h (putA a x i v) w w' := by
  have h1 := store_ok w h a S.M x i v hx
  rw [S.ga] at h1
  refine h1.mono ?_
  rintro e w' ⟨he, M, st⟩
  exact ⟨he, S.step M st (S.I.put x i v) rfl S.m, st⟩
theorem s_len (x : Int) (hx : Wf64 x) : Calls Tryd.prog 17 #[.pointer (some ⟨g, 0, none⟩), .int .i64 x] w (QuPost (.int .i64 (((obI a x).getD []).length : Nat)) w) := by
  have h1 := alen_ok w h a S.M x hx
  rwa [S.ga] at h1
theorem s_live : Calls Tryd.prog 24 #[.pointer (some ⟨g, 0, none⟩)] w (QuPost (.int .i64 (a.live : Nat)) w) := by
  have h1 := alive_ok w h a S.M
  rwa [S.ga] at h1
theorem s_left (hl : a.l.length ≤ 1000000) (hs : sumR a.l ≤ 1000000) : Calls Tryd.prog 38 #[.pointer (some ⟨g, 0, none⟩)] w (NwPost (.int .i64 (sumR a.l : Nat)) w) := by
  have h1 := aleft_ok w h a S.M hl hs
  rwa [S.ga] at h1
theorem s_find (hN : N ≤ 1000000) (x : Int) (hx : Wf64 x) : Calls Tryd.prog 22 #[.pointer (some ⟨g, 0, none⟩), .int .i64 x] w (FdPost a x w) := by
  have h1 := find_ok w { h with N := N } a (S.M.nn N) S.I.ok hN x hx
  have e : ({ h with N := N } : ArH).ga = g := S.ga
  rwa [e] at h1
/-- An object's mark. -/
theorem s_marked (hN : N ≤ 1000000) {id i : Nat} {s : Sp} (hs : a.sp id = some s) (hi : i < slK s.k) (hF : s.F i = true) : Calls Tryd.prog 12 #[.pointer (some ⟨g, 0, none⟩), .int .i64 (s.addr i : Nat)] w (NwPost (.bool (s.M i)) w) := by
  have hk := S.I.ok.pg id s hs
  have hn := S.I.ok.n
  have hp := Sp.addr_page hk.1 hi
  have h1 := amarked_ok w { h with N := N } a (S.M.nn N) S.I.ok hN (s.addr i : Nat) (by unfold Wf64; omega)
  have e : ({ h with N := N } : ArH).ga = g := S.ga
  rw [e] at h1
  refine h1.mono ?_
  rintro e w' ⟨c, ⟨ho, -⟩ | ⟨id', i', s', -, hs', hi', hF', hx, he⟩⟩
  · have h2 := (S.I.ok.ob (s.addr i)).2 ⟨id, s, i, hs, hi, hF, rfl⟩
    unfold obI at ho
    rw [if_pos (by omega), Int.toNat_natCast] at ho
    rw [ho] at h2; cases h2
  · have hx2 : s.addr i = s'.addr i' := by omega
    have e1 := S.I.ok.other hs hs' hi hi' hx2
    subst e1
    rw [hs] at hs'; injection hs' with hs'; subst hs'
    have e2 := Sp.addr_inj hk.1 hx2
    subst e2
    exact ⟨he, c⟩
theorem s_marked_no (hN : N ≤ 1000000) (x : Int) (hx : Wf64 x) (ho : obI a x = none) : Calls Tryd.prog 12 #[.pointer (some ⟨g, 0, none⟩), .int .i64 x] w (NwPost (.bool false) w) := by
  have h1 := amarked_ok w { h with N := N } a (S.M.nn N) S.I.ok hN x hx
  have e : ({ h with N := N } : ArH).ga = g := S.ga
  rw [e] at h1
  refine h1.mono ?_
  rintro e w' ⟨c, ⟨_, he⟩ | ⟨id', i', s', h2, _⟩⟩
  · exact ⟨he, c⟩
  · rw [ho] at h2; cases h2
theorem s_mark (hN : N ≤ 1000000) {id i : Nat} {s : Sp} (hs : a.sp id = some s) (hi : i < slK s.k) (hF : s.F i = true) : Calls Tryd.prog 26 #[.pointer (some ⟨g, 0, none⟩), .int .i64 (s.addr i : Nat)] w fun e w' => e = .returned (.bool (!(s.M i))) ∧ ArS w0 w' g h { a with sp := updF a.sp id (some (markS s i)) } N b ∧ StA h a h { a with sp := updF a.sp id (some (markS s i)) } w w' := by
  have hk := S.I.ok.pg id s hs
  have hn := S.I.ok.n
  have hp := Sp.addr_page hk.1 hi
  have h1 := amark_ok w { h with N := N } a (S.M.nn N) S.I.ok hN (s.addr i : Nat) (by unfold Wf64; omega)
  obtain rfl : h.ga = g := S.ga
  refine h1.mono ?_
  rintro e w' (⟨ho, -⟩ | ⟨id', i', s', -, hs', hi', hF', hx, he, M, c⟩)
  · have h2 := (S.I.ok.ob (s.addr i)).2 ⟨id, s, i, hs, hi, hF, rfl⟩
    unfold obI at ho
    rw [if_pos (by omega), Int.toNat_natCast] at ho
    rw [ho] at h2; cases h2
  · have hx2 : s.addr i = s'.addr i' := by omega
    have e1 := S.I.ok.other hs hs' hi hi' hx2
    subst e1
    rw [hs] at hs'; injection hs' with hs'; subst hs'
    have e2 := Sp.addr_inj hk.1 hx2
    subst e2
    have st := StA.turn (h := h) (a := a) (id := id) (s := s) (s' := markS s i) (b := h.B id) hs c (fun k hk => hk)
    rw [turnH_self] at st
    have M2 : ArM w' h { a with sp := updF a.sp id (some (markS s i)) } := M.nn h.N
    exact ⟨he, S.step M2 st (S.I.mark hs hF) rfl S.m, st⟩
theorem s_sweep (T0 : Tab w0) (hN : N ≤ 6000) {id : Nat} {s : Sp} (hs : a.sp id = some s) : Calls Tryd.prog 14 #[.pointer (some ⟨g, 0, none⟩), .int .i64 (id : Nat)] w fun e w' => ∃ v h', e = .returned (.tuple #[v, .int .i64 0]) ∧ OwnI 3 w' v (intsN ((sweptL s).map s.addr)) ∧ (∀ k ∈ fpv v, w.heap.size ≤ k) ∧ (∀ k ∈ fpv v, ¬ ArF h' (sweepA a id s (sweptL s).length) k) ∧ ArS w0 w' g h' (sweepA a id s (sweptL s).length) N b ∧ StA h a h' (sweepA a id s (sweptL s).length) w w' := by
  have hlt := S.I.ok.top id s hs
  have e0 : spI a (id : Nat) = some s := by unfold spI; rw [if_pos (by omega), Int.toNat_natCast]; exact hs
  have h1 := asweep_ok w h a S.M (T0.chg S.c (by simp)) (id : Nat) (by unfold Wf64; omega) (S.I.small hN) (fun t ht => by
    rw [e0] at ht; injection ht with ht; subst ht
    exact S.I.swept_le hs)
  rw [S.ga] at h1
  refine h1.mono ?_
  rintro e w' (⟨ho, -⟩ | ⟨t, v, -, ht, he, O, f, nf, M, st⟩)
  · rw [e0] at ho; cases ho
  · rw [Int.toNat_natCast] at ht nf M st
    rw [hs] at ht; injection ht with ht; subst ht
    exact ⟨v, _, he, O, f, nf, S.step M st (S.I.sweep hs) rfl S.m, st⟩
end
end Go.Proofs.YtkocikpoagfonaaDoor
