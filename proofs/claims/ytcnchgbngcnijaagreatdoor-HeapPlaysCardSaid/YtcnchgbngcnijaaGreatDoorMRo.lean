/- The ops of ArenaPlays, read off an argument. -/
/- The ops of HeapPlays, read off an argument. -/
import Derived.Test.YtcnchgbngcnijaaGreatDoorMGa
import Derived.Test.YtcnchgbngcnijaaGreatDoorRow
namespace Go.Proofs.YtcnchgbngcnijaaGreatDoor
open Go.ChangeShapes Go.WideShapes Go.ChangeAt Go.RowKit Go.Deep

structure Op7 where
  k : Int
  cl : Int
  id : Int
  n : Int
  ad : Int
  i : Int
  v : Int
  bl : Bool
  rw : Bool
def Op7.wf (o : Op7) : Prop := Wf64 o.cl ∧ Wf64 o.id ∧ Wf64 o.n ∧ Wf64 o.ad ∧ Wf64 o.i ∧ Wf64 o.v
def Op7.cs (o : Op7) : Array Value := #[.int .i64 o.k, .int .i64 o.cl, .int .i64 o.id, .int .i64 o.n, .int .i64 o.ad, .int .i64 o.i, .int .i64 o.v, .bool o.bl, .bool o.rw]
def Op7At (w : World) (b off i : Nat) (o : Op7) : Prop :=
  w.cell? ⟨b, off + i * 9, none⟩ = some (.int .i64 o.k) ∧ w.cell? ⟨b, off + i * 9 + 1, none⟩ = some (.int .i64 o.cl) ∧ w.cell? ⟨b, off + i * 9 + 2, none⟩ = some (.int .i64 o.id) ∧ w.cell? ⟨b, off + i * 9 + 3, none⟩ = some (.int .i64 o.n) ∧
  w.cell? ⟨b, off + i * 9 + 4, none⟩ = some (.int .i64 o.ad) ∧ w.cell? ⟨b, off + i * 9 + 5, none⟩ = some (.int .i64 o.i) ∧ w.cell? ⟨b, off + i * 9 + 6, none⟩ = some (.int .i64 o.v) ∧ w.cell? ⟨b, off + i * 9 + 7, none⟩ = some (.bool o.bl) ∧ w.cell? ⟨b, off + i * 9 + 8, none⟩ = some (.bool o.rw)
def Ops7At (w : World) (B : Nat) (A : Option Addr) (xs : List Op7) : Prop :=
  ∀ i o, xs[i]? = some o → o.wf ∧ ∃ b off, A = some ⟨b, off, none⟩ ∧ b < B ∧ Op7At w b off i o
theorem wf_int {n : Int} (h : (Lit.int .i64 n).wf = true) : Wf64 n := by
  have e1 : IntKind.i64.min = -9223372036854775808 := by decide
  have e2 : IntKind.i64.max = 9223372036854775807 := by decide
  simp only [Lit.wf, e1, e2, Bool.and_eq_true, decide_eq_true_eq] at h; exact h
end Go.Proofs.YtcnchgbngcnijaaGreatDoor
namespace Go.Proofs.YtcnchgbngcnijaaGreatDoor
open Go.ChangeShapes Go.WideShapes Go.ChangeAt Go.RowKit Go.Deep

structure Op9 where
  k : Int
  p : Int
  n : Int
  bl : Bool
def Op9.wf (o : Op9) : Prop := Wf64 o.k ∧ Wf64 o.p ∧ Wf64 o.n
def Op9.cs (o : Op9) : Array Value := #[.int .i64 o.k, .int .i64 o.p, .int .i64 o.n, .bool o.bl]
def Op9At (w : World) (b off i : Nat) (o : Op9) : Prop :=
  w.cell? ⟨b, off + i * 4, none⟩ = some (.int .i64 o.k) ∧ w.cell? ⟨b, off + i * 4 + 1, none⟩ = some (.int .i64 o.p) ∧ w.cell? ⟨b, off + i * 4 + 2, none⟩ = some (.int .i64 o.n) ∧ w.cell? ⟨b, off + i * 4 + 3, none⟩ = some (.bool o.bl)
def Ops9At (w : World) (B : Nat) (A : Option Addr) (xs : List Op9) : Prop :=
  ∀ i o, xs[i]? = some o → o.wf ∧ ∃ b off, A = some ⟨b, off, none⟩ ∧ b < B ∧ Op9At w b off i o
theorem ops9_of_trod {H : Type} {enc : TypeId × Value → H} {w : World} {spare : Nat → Bool} {A : Option Addr} {n c : Nat} {d : DataW H} {p : List MemPlace}
    (h : DataW.Trod enc Tryz.prog w 0 spare true 63 (.slice A n c) d p) : ∃ xs : List Op9, xs.length = n ∧ xs.length ≤ maxLen ∧ Ops9At w w.heap.size A xs := by
  obtain ⟨hm, hi⟩ := rows_of_trod Tryz.underlying63 Tryz.underlying68 (by kernel_rfl) (by kernel_rfl) (by decide) h
  obtain ⟨xs, hl, hx⟩ := list_of_each (p := fun i (o : Op9) => o.wf ∧ ∃ b off, A = some ⟨b, off, none⟩ ∧ b < w.heap.size ∧ Op9At w b off i o) n (fun i hin => by
      obtain ⟨b, off, rfl, hb, hf⟩ := hi i hin
      obtain ⟨v0, y0, u0, c0, t0⟩ := hf 0 _ rfl
      obtain ⟨v1, y1, u1, c1, t1⟩ := hf 1 _ rfl
      obtain ⟨v2, y2, u2, c2, t2⟩ := hf 2 _ rfl
      obtain ⟨v3, y3, u3, c3, t3⟩ := hf 3 _ rfl
      obtain ⟨k, e0, _, f0⟩ := DataW.trod_int Tryz.underlying3 t0
      obtain ⟨pp, e1, _, f1⟩ := DataW.trod_int Tryz.underlying3 t1
      obtain ⟨m, e2, _, f2⟩ := DataW.trod_int Tryz.underlying3 t2
      obtain ⟨bl, e3, _⟩ := DataW.trod_bool Tryz.underlying4 t3
      simp at e0 e1 e2 e3
      subst e0 e1 e2 e3
      exact ⟨⟨k, pp, m, bl⟩, ⟨wf_int f0, wf_int f1, wf_int f2⟩, b, off, rfl, hb, c0, c1, c2, c3⟩)
  exact ⟨xs, hl, by omega, hx⟩
end Go.Proofs.YtcnchgbngcnijaaGreatDoor
