/- A program as an argument: its functions read; Great, one, Fit. -/
import Derived.Test.YtoeppmnoifankaaGreatDoorMcDJ
import Derived.Test.YtoeppmnoifankaaGreatDoorMCl
namespace Go.Proofs.YtoeppmnoifankaaGreatDoor
open Go.RowKit Go.Maps

theorem mod28 (x : Int) (m : Nat) (hm : 1 ≤ m) (hm2 : m ≤ 1000000) : ∃ n : Nat, n < m ∧ wrap64 ((IntKind.u64.wrap x).tmod m) = n := by
  have h0 : 0 ≤ IntKind.u64.wrap x := by rw [IntKind.wrap_u64]; omega
  rw [Int.tmod_eq_emod_of_nonneg h0]
  have h1 := Int.emod_nonneg (IntKind.u64.wrap x) (b := (m : Int)) (by omega)
  have h2 := Int.emod_lt_of_pos (IntKind.u64.wrap x) (b := (m : Int)) (by omega)
  obtain ⟨n, hn⟩ : ∃ n : Nat, (n : Int) = (IntKind.u64.wrap x) % (m : Int) := ⟨((IntKind.u64.wrap x) % (m : Int)).toNat, by omega⟩
  exact ⟨n, by omega, by unfold wrap64; omega⟩
/-- A list of structs that is read, below the block B. -/
structure RdG {α : Type} (f : α → List Value) (sz : Nat) (w : World) (B : Nat) (v : Value) (xs : List α) : Prop where
  ex : ∃ A c, v = .slice A xs.length c
  at_ : ∀ A n c, v = .slice A n c → ∀ i x, xs[i]? = some x → ∃ b off, A = some ⟨b, off, none⟩ ∧ b < B ∧ ∀ j u, (f x)[j]? = some u → w.cell? ⟨b, off + i * sz + j, none⟩ = some u
/-- A program's functions, read. -/
structure PrR (w : World) (B : Nat) (v : Value) (vs : List Value) (fs : List (List Ins)) : Prop where
  o : RdV w B v vs
  n : vs.length = fs.length
  f : ∀ (i : Nat) u l, vs[i]? = some u → fs[i]? = some l → RdG insC 4 w B u l
section
variable {w w' : World} {B : Nat} {v : Value} {vs : List Value} {fs : List (List Ins)}
theorem RdG.chg {α : Type} {f : α → List Value} {sz : Nat} {xs : List α} {u : Value} {S : List Nat} (h : RdG f sz w B u xs) (c : Chg S w w') (hB : B ≤ w.heap.size) (hS : ∀ k ∈ S, B ≤ k) : RdG f sz w' B u xs := ⟨h.ex, fun A n cc e i x hx => by
  obtain ⟨b, off, h1, h2, h3⟩ := h.at_ A n cc e i x hx
  exact ⟨b, off, h1, h2, fun j u hu => c.cellv (by omega) (fun hm => by have := hS b hm; omega) (h3 j u hu)⟩⟩
theorem PrR.chg {S : List Nat} (h : PrR w B v vs fs) (c : Chg S w w') (hB : B ≤ w.heap.size) (hS : ∀ k ∈ S, B ≤ k) : PrR w' B v vs fs := ⟨h.o.chg c hB hS, h.n, fun i u l h1 h2 => (h.f i u l h1 h2).chg c hB hS⟩
theorem PrR.chg0 (h : PrR w B v vs fs) (c : Chg [] w w') (hB : B ≤ w.heap.size) : PrR w' B v vs fs := h.chg c hB (by simp)
/-- A function, where it lies. -/
theorem PrR.fn {A : Option Addr} {n c i : Nat} (h : PrR w B (.slice A n c) vs fs) (hi : i < fs.length) : ∃ l b off A' c', fs[i]? = some l ∧ vs[i]? = some (.slice A' l.length c') ∧ A = some ⟨b, off, none⟩ ∧ b < B ∧ w.cell? ⟨b, off + i, none⟩ = some (.slice A' l.length c') ∧ RdG insC 4 w B (.slice A' l.length c') l := by
  have hv : i < vs.length := by rw [h.n]; exact hi
  have h1 := List.getElem?_eq_getElem hi
  have h2 := List.getElem?_eq_getElem hv
  have g := h.f i _ _ h2 h1
  obtain ⟨A', c', e⟩ := g.ex
  obtain ⟨b, off, e1, e2, e3⟩ := h.o.at_ _ _ _ rfl i _ h2
  rw [e] at g e3 h2
  exact ⟨fs[i], b, off, A', c', h1, h2, e1, e2, e3, g⟩
theorem PrR.len (h : PrR w B v vs fs) : ∃ A c, v = .slice A fs.length c := by
  obtain ⟨A, c, e⟩ := h.o.ex
  exact ⟨A, c, by rw [e, h.n]⟩
end
def sumL (fs : List (List Ins)) : Nat := (fs.map List.length).sum
theorem sumL_take {fs : List (List Ins)} {i : Nat} {l : List Ins} (h : fs[i]? = some l) : sumL (fs.take (i + 1)) = sumL (fs.take i) + l.length := by
  unfold sumL
  rw [List.take_add_one, h, List.map_append, List.sum_append]
  simp
theorem sumL_le (fs : List (List Ins)) (i : Nat) : sumL (fs.take i) ≤ sumL fs := by
  unfold sumL
  conv => rhs; rw [← List.take_append_drop i fs, List.map_append, List.sum_append]
  omega
def GreatR (w0 : World) (fs : List (List Ins)) (gk : Nat) (acc idx : Value) (w : World) : Prop := ∃ i : Nat, gk + i = fs.length + 1 ∧ i ≤ fs.length ∧ acc = .int .i64 ((fs.length + sumL (fs.take i) : Nat) : Int) ∧ idx = .int .i64 (i : Nat) ∧ w = w0
set_option maxHeartbeats 1600000 in
set_option maxRecDepth 100000 in
theorem great_ok (w : World) (G : Int) (v : Value) (vs : List Value) (fs : List (List Ins)) (R : PrR w w.heap.size v vs fs) (hs : fs.length + sumL fs ≤ 2000) : Calls Tryz.prog 22 #[.agg #[.int .i64 G, v]] w (NwPost (.bool false) w) := by
  obtain ⟨A, c, rfl⟩ := R.len
  go_enter Tryz.func22, Tryz.ntmps22
  go_upto_region 1 with fail
  obtain ⟨w1, hw1⟩ : ∃ w1, w1 = w.alloc (.cells #[.int .i64 G, .slice A fs.length c] 30) := ⟨_, rfl⟩
  obtain ⟨gP, hgP⟩ : ∃ gP, gP = w.heap.size := ⟨_, rfl⟩
  rw [← hw1, ← hgP]
  have B1 : Blk w1 gP 30 #[.int .i64 G, .slice A fs.length c] := by rw [hw1, hgP]; exact Blk.new _ _ _
  have c01 : Chg [] w w1 := by rw [hw1]; exact (Chg.refl [] w).alloc _
  have R1 := R.chg0 c01 (Nat.le_refl _)
  have p1 : w1.cell? ⟨gP, 1, none⟩ = some (.slice A fs.length c) := B1.cellv 1 rfl
  have l1 := B1.lt
  have H1 := Lib.hid (And.intro R1 (And.intro c01 hs)); clear R R1 c01 hw1 hgP hs B1
  go_wp2_with fail
  go_loopg [3, 4] (fs.length + 1) (fun gk acc idx wr => GreatR w1 fs gk acc idx wr)
  case atStart => exact ⟨0, by omega, by omega, by simp [sumL], rfl, rfl⟩
  case round =>
    obtain ⟨i, hgk, hi, rfl, rfl, rfl⟩ := hrel
    have hb := sumL_le fs i
    have hb2 := H1.out.2.2
    obtain ⟨s, hs⟩ : ∃ s, s = sumL (fs.take i) := ⟨_, rfl⟩
    rw [← hs] at hb ⊢
    by_cases hin : i < fs.length
    · obtain ⟨l, b, off, A', c', hl, -, hA, -, hc, -⟩ := H1.out.1.fn hin
      have hst := sumL_take hl
      rw [← hs] at hst
      have hb3 := sumL_le fs (i + 1)
      have h1 : (i : Int) < fs.length := by omega
      have h2 : (0 : Int) ≤ i := by omega
      have hb4 : (fs.length : Int) + s + l.length ≤ 2000 := by omega
      have HS := Lib.hid (And.intro hst (And.intro hb3 hb4)); clear hst hb3 hs hl
      subst hA
      go_wp2_with fail
      go_roundg (fs.length - i)
      case measure => omega
      case rel => exact ⟨i + 1, by omega, by omega, by have h3 := HS.out.1; have h4 := HS.out.2.2; have e : ((fs.length + sumL (fs.take (i + 1)) : Nat) : Int) = (fs.length : Int) + s + l.length := (by omega); rw [e], by go_num, rfl⟩
    · have h1 : ¬ (i : Int) < fs.length := by omega
      have h2 : ¬ ((fs.length + s : Nat) : Int) > 2000 := by omega
      clear hs hb hb2
      go_wp2_with fail
      go_ret
      exact ⟨by simp; omega, H1.out.2.1⟩
/-- A program made of its parts. -/
theorem one_ok (w : World) (G : Int) (v : Value) (A : Option Addr) (n c : Nat) (hv : v = .slice A n c) : Calls Tryz.prog 6 #[.int .i64 G, v] w (NwPost (.agg #[.int .i64 G, v]) w) := by
  subst hv
  go_enter Tryz.func6, Tryz.ntmps6
  go_wp2_with fail
  exact ⟨rfl, _, results_cell_row (P := Tryz.prog) (fn := Tryz.f6) rfl _ _ w.heap.size 30 _ _ _ rfl (heap_alloc_new w (.cells #[.int .i64 G, .slice A n c] 30)) Tryz.underlying30 rfl (by kernel_rfl), rfl, (Chg.refl [] w).alloc _⟩
set_option maxHeartbeats 1600000 in
set_option maxRecDepth 100000 in
theorem fit_ok (w : World) (ps wo : Int) (b1 b2 : Nat) : Calls Tryz.prog 25 #[.agg #[.int .i64 ps, .int .i64 wo, .float .f64 b1, .float .f64 b2]] w (fun e w' => ∃ P n : Nat, 1 ≤ P ∧ P ≤ 6 ∧ 4 ≤ n ∧ n ≤ 19 ∧ NwPost (.agg #[.int .i64 (P : Nat), .int .i64 ((n * 64 : Nat) : Int), .float .f64 b1, .float .f64 b2]) w e w') := by
  obtain ⟨n1, h1, e1⟩ := mod28 ps 6 (by omega) (by omega)
  obtain ⟨n2, h2, e2⟩ := mod28 wo 16 (by omega) (by omega)
  have e1 : wrap64 ((IntKind.u64.wrap ps).tmod 6) = n1 := e1
  have e2 : wrap64 ((IntKind.u64.wrap wo).tmod 16) = n2 := e2
  have hfl : ∀ (a : Addr) (n : Nat) (m : Mode) (w : World), (store a (.float .f64 n) m).run Tryz.prog w = stored Tryz.prog w a (.float .f64 n) m := fun a n m w => run_store _ w a _ m rfl
  go_enter Tryz.func25, Tryz.ntmps25
  go_wp2_with fail
  rw [show (1 : Int) + (n1 : Nat) = ((n1 + 1 : Nat) : Int) by omega, show (256 : Int) + 64 * (n2 : Nat) = (((n2 + 4) * 64 : Nat) : Int) by omega]
  have B := Blk.new (w.alloc (.cells #[.int .i64 ((n1 + 1 : Nat) : Int), .int .i64 (((n2 + 4) * 64 : Nat) : Int), .float .f64 b1, .float .f64 b2] 24)) 24 #[.int .i64 ((n1 + 1 : Nat) : Int), .int .i64 (((n2 + 4) * 64 : Nat) : Int), .float .f64 b1, .float .f64 b2]
  rw [World.size_alloc] at B
  exact ⟨rfl, _, results_cell_row (P := Tryz.prog) (fn := Tryz.f25) rfl _ _ (w.heap.size + 1) 24 _ _ _ rfl B Tryz.underlying24 rfl (by kernel_rfl), n1 + 1, n2 + 4, by omega, by omega, by omega, by omega, rfl, ((Chg.refl [] w).alloc _).alloc _⟩
end Go.Proofs.YtoeppmnoifankaaGreatDoor
