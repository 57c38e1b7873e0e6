/- Two lists of runs that are the same are told so; a page beside other blocks. -/
import Derived.Test.YtcmligooekbodaaPgOwnR
import Derived.Test.YtcmligooekbodaaPgLaw2
import Derived.BigQuiet
import Derived.Deep.DeepCutAuto
namespace Go.Proofs.Ytcmligooekbodaa
open Go.RowKit

def CmRel (w0 : World) (n : Nat) (gk : Nat) (idx : Value) (w : World) : Prop := ∃ i, gk + i = n + 1 ∧ i ≤ n ∧ idx = .int .i64 (i : Nat) ∧ ∃ m, w = w0.drewN m
set_option maxHeartbeats 1600000 in
set_option maxRecDepth 100000 in
theorem cmp_ok (w : World) (v u : Value) (l : List R) (hv : OwnR w v l) (hu : OwnR w u l) (hl : l.length ≤ 1000000) : Calls Try.prog 18 #[v, u] w fun e w' => e = .returned (.bool true) ∧ ∃ m, w' = w.drewN m := by
  obtain ⟨A, c, rfl⟩ := hv.slice
  obtain ⟨B, d, rfl⟩ := hu.slice
  have HV := Lib.hid (And.intro hv hu); clear hv hu
  have hb : ((l.length : Int) != (l.length : Int)) = false := by simp
  have hb' : (l.length != l.length) = false := by simp
  go_enter Try.func18, Try.ntmps18
  go_wp2_with fail
  go_loopg [5] (l.length + 1) (fun gk idx wr => CmRel w l.length gk idx wr)
  case atStart => exact ⟨0, by omega, by omega, rfl, 0, rfl⟩
  case round =>
    obtain ⟨i, hgk, hin, rfl, m, rfl⟩ := hrel
    by_cases e : i < l.length
    · obtain ⟨r, hr⟩ : ∃ r, l[i]? = some r := ⟨_, List.getElem?_eq_getElem e⟩
      obtain ⟨g, rfl, q0, q1, -⟩ := HV.out.1.cell hr
      obtain ⟨g', rfl, p0, p1, -⟩ := HV.out.2.cell hr
      have hi' : (i : Int) < (l.length : Int) := by omega
      have hi0 : (0 : Int) ≤ (i : Int) := by omega
      clear hr
      go_upto_region 6 with fail
      go_quiet (fail)
      go_wp2_with fail
      go_roundg (l.length - i)
      case measure => omega
      case rel => exact ⟨i + 1, by omega, by omega, by go_num, ⟨_, by first | rfl | exact World.drewN_drewN _ _ _⟩⟩
    · have e2 : i = l.length := by omega
      subst e2
      have hi' : ¬ (l.length : Int) < (l.length : Int) := by omega
      clear e hgk hin
      go_wp2_with fail
      go_ret
      exact ⟨rfl, m, rfl⟩
theorem OwnR.keep {S : List Nat} {w w' : World} {v : Value} {l : List R} (h : OwnR w v l) (k : Keep S w w') (hs : ∀ j ∈ fpv v, j ∈ S) : OwnR w' v l := by
  refine ⟨h.o.1, ?_⟩
  rcases h.o.2 with h0 | ⟨g, cap, cur, rfl, hb, hg, r⟩
  · exact .inl h0
  · exact .inr ⟨g, cap, cur, rfl, hb, (k g (hs g (by simp [fpv, Value.ownBlock]))).trans hg, r⟩
theorem Chg.newP {T : List Nat} {a w w' : World} (h : Chg [] a w) (c : Chg T w w') (hT : ∀ k ∈ T, a.heap.size ≤ k) : Chg [] a w' :=
  ⟨c.os.trans h.os, c.tape.trans h.tape, c.output.trans h.output, Nat.le_trans h.size c.size, fun k hk _ =>
    (c.block k (Nat.lt_of_lt_of_le hk h.size) (fun hm => by have := hT k hm; omega)).trans (h.block k hk (by simp))⟩
/-- A change of the walk's own blocks. -/
theorem PgI.chgS {w0 w w' : World} {S T : List Nat} {g n : Nat} {l : List R} {v : Value} (P : PgI w0 S w g n l v) (c : Chg T w w') (hT : ∀ k ∈ T, k ∈ S) (h0 : ∀ k ∈ T, w0.heap.size ≤ k) : PgI w0 S w' g n l v := by
  refine ⟨⟨c.blk P.I.b (fun hm => (P.n g (List.mem_cons_self ..)).2 (hT g hm)), own_chg P.I.o c fun k hk hm => (P.n k (List.mem_cons_of_mem _ (mem_fpv.2 hk))).2 (hT k hm)⟩, P.c.newP c h0, P.n, fun k hk => Nat.lt_of_lt_of_le (P.s k hk) c.size⟩
/-- Other blocks of the walk. -/
theorem PgI.swap {w0 w : World} {S T : List Nat} {g n : Nat} {l : List R} {v : Value} (P : PgI w0 S w g n l v) (h1 : ∀ k ∈ T, k ∉ g :: fpv v) (h2 : ∀ k ∈ T, k < w.heap.size) : PgI w0 T w g n l v :=
  ⟨P.I, P.c, fun k hk => ⟨(P.n k hk).1, fun hm => h1 k hm hk⟩, h2⟩
theorem PgI.lt {w0 w : World} {S : List Nat} {g n : Nat} {l : List R} {v : Value} (P : PgI w0 S w g n l v) : ∀ k ∈ g :: fpv v, k < w.heap.size := fun k hk => by
  rcases List.mem_cons.1 hk with rfl | h
  · exact P.I.b.lt
  · exact own_lt P.I.o (mem_fpv.1 h)
/-! One answer. -/
theorem AllocSays.uniq {l : List R} {k a c a' c' : Int} {l1 l2 : List R} (h1 : AllocSays l k a c l1) (h2 : AllocSays l k a' c' l2) : a = a' ∧ c = c' ∧ l1 = l2 := by
  rcases h1 with ⟨x, rfl, rfl, rfl⟩ | ⟨x, y, rfl, rfl, rfl⟩ | ⟨x, r, hr, rfl, rfl, rfl⟩
  · rcases h2 with ⟨_, rfl, rfl, rfl⟩ | ⟨x', _⟩ | ⟨x', _⟩
    · exact ⟨rfl, rfl, rfl⟩
    · omega
    · omega
  · rcases h2 with ⟨x', _⟩ | ⟨_, _, rfl, rfl, rfl⟩ | ⟨_, s, hs, _⟩
    · omega
    · exact ⟨rfl, rfl, rfl⟩
    · have := y s hs.1; have := hs.2.1; omega
  · rcases h2 with ⟨x', _⟩ | ⟨_, y, _⟩ | ⟨_, s, hs, rfl, rfl, rfl⟩
    · omega
    · have := y r hr.1; have := hr.2.1; omega
    · obtain rfl := Best.uniq hr hs
      exact ⟨rfl, rfl, rfl⟩
theorem FreeSays.uniq {n : Nat} {l : List R} {f k c c' : Int} {l1 l2 : List R} (h1 : FreeSays n l f k c l1) (h2 : FreeSays n l f k c' l2) : c = c' ∧ l1 = l2 := by
  rcases h1 with ⟨x, rfl, rfl⟩ | ⟨x, ⟨y, rfl, rfl⟩ | ⟨y, rfl, rfl⟩⟩
  · rcases h2 with ⟨_, rfl, rfl⟩ | ⟨x', _⟩
    · exact ⟨rfl, rfl⟩
    · exact absurd x x'
  · rcases h2 with ⟨x', _⟩ | ⟨_, ⟨_, rfl, rfl⟩ | ⟨y', _⟩⟩
    · exact absurd x' x
    · exact ⟨rfl, rfl⟩
    · exact absurd y y'
  · rcases h2 with ⟨x', _⟩ | ⟨_, ⟨y', _⟩ | ⟨_, rfl, rfl⟩⟩
    · exact absurd x' x
    · exact absurd y' y
    · exact ⟨rfl, rfl⟩
end Go.Proofs.Ytcmligooekbodaa
