/- The ops of ArenaPlays, read off an argument. -/
import Derived.Test.YtmafiagakoglkaaGreatDoorAp1
import Derived.Test.YtmafiagakoglkaaGreatDoorRow
namespace Go.Proofs.YtmafiagakoglkaaGreatDoor
open Go.ChangeShapes Go.WideShapes Go.ChangeAt Go.RowKit Go.Deep

structure Op7 where
  k : Int
  cl : Int
  id : Int
  n : Int
  ad : Int
  i : Int
  v : Int
  bl : Bool
  rw : Bool
def Op7.wf (o : Op7) : Prop := Wf64 o.cl ∧ Wf64 o.id ∧ Wf64 o.n ∧ Wf64 o.ad ∧ Wf64 o.i ∧ Wf64 o.v
def Op7.cs (o : Op7) : Array Value := #[.int .i64 o.k, .int .i64 o.cl, .int .i64 o.id, .int .i64 o.n, .int .i64 o.ad, .int .i64 o.i, .int .i64 o.v, .bool o.bl, .bool o.rw]
def Op7At (w : World) (b off i : Nat) (o : Op7) : Prop :=
  w.cell? ⟨b, off + i * 9, none⟩ = some (.int .i64 o.k) ∧ w.cell? ⟨b, off + i * 9 + 1, none⟩ = some (.int .i64 o.cl) ∧ w.cell? ⟨b, off + i * 9 + 2, none⟩ = some (.int .i64 o.id) ∧ w.cell? ⟨b, off + i * 9 + 3, none⟩ = some (.int .i64 o.n) ∧
  w.cell? ⟨b, off + i * 9 + 4, none⟩ = some (.int .i64 o.ad) ∧ w.cell? ⟨b, off + i * 9 + 5, none⟩ = some (.int .i64 o.i) ∧ w.cell? ⟨b, off + i * 9 + 6, none⟩ = some (.int .i64 o.v) ∧ w.cell? ⟨b, off + i * 9 + 7, none⟩ = some (.bool o.bl) ∧ w.cell? ⟨b, off + i * 9 + 8, none⟩ = some (.bool o.rw)
def Ops7At (w : World) (B : Nat) (A : Option Addr) (xs : List Op7) : Prop :=
  ∀ i o, xs[i]? = some o → o.wf ∧ ∃ b off, A = some ⟨b, off, none⟩ ∧ b < B ∧ Op7At w b off i o
theorem Ops7At.chg {w w' : World} {A : Option Addr} {xs : List Op7} (h : Ops7At w w.heap.size A xs) (c : Chg [] w w') : Ops7At w' w.heap.size A xs := fun i o hi => by
  obtain ⟨hw, b, off, e, hB, h0, h1, h2, h3, h4, h5, h6, h7, h8⟩ := h i o hi
  exact ⟨hw, b, off, e, hB, c.cellv hB (by simp) h0, c.cellv hB (by simp) h1, c.cellv hB (by simp) h2, c.cellv hB (by simp) h3, c.cellv hB (by simp) h4, c.cellv hB (by simp) h5, c.cellv hB (by simp) h6, c.cellv hB (by simp) h7, c.cellv hB (by simp) h8⟩
theorem wf_int {n : Int} (h : (Lit.int .i64 n).wf = true) : Wf64 n := by
  have e1 : IntKind.i64.min = -9223372036854775808 := by decide
  have e2 : IntKind.i64.max = 9223372036854775807 := by decide
  simp only [Lit.wf, e1, e2, Bool.and_eq_true, decide_eq_true_eq] at h; exact h
theorem ops7_of_trod {H : Type} {enc : TypeId × Value → H} {w : World} {spare : Nat → Bool} {A : Option Addr} {n c : Nat} {d : DataW H} {p : List MemPlace}
    (h : DataW.Trod enc Tryz.prog w 0 spare true 66 (.slice A n c) d p) : ∃ xs : List Op7, xs.length = n ∧ xs.length ≤ maxLen ∧ Ops7At w w.heap.size A xs := by
  obtain ⟨hm, hi⟩ := rows_of_trod Tryz.underlying66 Tryz.underlying72 (by kernel_rfl) (by kernel_rfl) (by decide) h
  obtain ⟨xs, hl, hx⟩ := list_of_each (p := fun i (o : Op7) => o.wf ∧ ∃ b off, A = some ⟨b, off, none⟩ ∧ b < w.heap.size ∧ Op7At w b off i o) n (fun i hin => by
      obtain ⟨b, off, rfl, hb, hf⟩ := hi i hin
      obtain ⟨v0, y0, u0, c0, t0⟩ := hf 0 _ rfl
      obtain ⟨v1, y1, u1, c1, t1⟩ := hf 1 _ rfl
      obtain ⟨v2, y2, u2, c2, t2⟩ := hf 2 _ rfl
      obtain ⟨v3, y3, u3, c3, t3⟩ := hf 3 _ rfl
      obtain ⟨v4, y4, u4, c4, t4⟩ := hf 4 _ rfl
      obtain ⟨v5, y5, u5, c5, t5⟩ := hf 5 _ rfl
      obtain ⟨v6, y6, u6, c6, t6⟩ := hf 6 _ rfl
      obtain ⟨v7, y7, u7, c7, t7⟩ := hf 7 _ rfl
      obtain ⟨v8, y8, u8, c8, t8⟩ := hf 8 _ rfl
      obtain ⟨k, e0, _, _⟩ := DataW.trod_int Tryz.underlying3 t0
      obtain ⟨cl, e1, _, f1⟩ := DataW.trod_int Tryz.underlying3 t1
      obtain ⟨id, e2, _, f2⟩ := DataW.trod_int Tryz.underlying3 t2
      obtain ⟨m, e3, _, f3⟩ := DataW.trod_int Tryz.underlying3 t3
      obtain ⟨ad, e4, _, f4⟩ := DataW.trod_int Tryz.underlying3 t4
      obtain ⟨ii, e5, _, f5⟩ := DataW.trod_int Tryz.underlying3 t5
      obtain ⟨vv, e6, _, f6⟩ := DataW.trod_int Tryz.underlying3 t6
      obtain ⟨bl, e7, _⟩ := DataW.trod_bool Tryz.underlying4 t7
      obtain ⟨rw, e8, _⟩ := DataW.trod_bool Tryz.underlying4 t8
      simp at e0 e1 e2 e3 e4 e5 e6 e7 e8
      subst e0 e1 e2 e3 e4 e5 e6 e7 e8
      exact ⟨⟨k, cl, id, m, ad, ii, vv, bl, rw⟩, ⟨wf_int f1, wf_int f2, wf_int f3, wf_int f4, wf_int f5, wf_int f6⟩, b, off, rfl, hb, c0, c1, c2, c3, c4, c5, c6, c7, c8⟩)
  exact ⟨xs, hl, by omega, hx⟩
end Go.Proofs.YtmafiagakoglkaaGreatDoor
