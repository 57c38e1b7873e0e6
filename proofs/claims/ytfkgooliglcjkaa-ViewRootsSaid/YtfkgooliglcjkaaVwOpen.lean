/- A view, read off an argument. -/
import Derived.Test.YtfkgooliglcjkaaVwTold
import Derived.Test.YtfkgooliglcjkaaRow
import Derived.Lib.SmallJoins
namespace Go.Proofs.Ytfkgooliglcjkaa
open Go.ChangeShapes Go.WideShapes Go.ChangeAt Go.RowKit Go.Deep

theorem list3 {α : Type} {l : List α} (h : l.length = 3) : ∃ a b c, l = [a, b, c] :=
  match l, h with
  | [a, b, c], _ => ⟨a, b, c, rfl⟩
theorem list9 {α : Type} {l : List α} (h : l.length = 9) : ∃ a b c d e f g i j, l = [a, b, c, d, e, f, g, i, j] :=
  match l, h with
  | [a, b, c, d, e, f, g, i, j], _ => ⟨a, b, c, d, e, f, g, i, j, rfl⟩
section
variable {H : Type} {enc : TypeId × Value → H} {w : World} {spare : Nat → Bool}
theorem wfI_of {x : Int} (h : (Lit.int .i64 x).wf = true) : WfI x := by
  have e1 : IntKind.i64.min = -9223372036854775808 := by decide
  have e2 : IntKind.i64.max = 9223372036854775807 := by decide
  simp only [Lit.wf, e1, e2, Bool.and_eq_true, decide_eq_true_eq] at h
  exact h
theorem int_of_trod {fuel : Nat} {v : Value} {x : DataW H × List MemPlace} (h : DataW.trod enc Try.prog w 0 spare true fuel 3 [v] = some x) : ∃ n, v = .int .i64 n ∧ WfI n := by
  obtain ⟨n, e, _, hw⟩ := DataW.trod_int Try.underlying3 h
  exact ⟨n, by simpa using e, wfI_of hw⟩
theorem int64_of_trod {fuel : Nat} {v : Value} {x : DataW H × List MemPlace} (h : DataW.trod enc Try.prog w 0 spare true fuel 2 [v] = some x) : ∃ n, v = .int .i64 n ∧ WfI n := by
  obtain ⟨n, e, _, hw⟩ := DataW.trod_int Try.underlying2 h
  exact ⟨n, by simpa using e, wfI_of hw⟩
theorem bool_of_trod {fuel : Nat} {v : Value} {x : DataW H × List MemPlace} (h : DataW.trod enc Try.prog w 0 spare true fuel 4 [v] = some x) : ∃ b, v = .bool b := by
  obtain ⟨b, e, _⟩ := DataW.trod_bool Try.underlying4 h
  exact ⟨b, by simpa using e⟩
theorem spot_none {a : Addr} {v : Value} (h : w.cell? (a.add 0) = some v) : a = ⟨a.block, a.off, none⟩ := by
  have := World.cell?_spot h
  obtain ⟨b, off, spot⟩ := a
  have hs : spot = none := by simpa [Addr.add] using this
  subst hs; rfl
theorem sli_of_trod {fuel : Nat} {v : Value} {x : DataW H × List MemPlace} (h : DataW.trod enc Try.prog w 0 spare true fuel 22 [v] = some x) : ∃ xs, SlI w w.heap.size v xs := by
  rcases open_slice1 Try.underlying22 (by kernel_rfl) h with ⟨hcs, _⟩ | ⟨a, len, cap, m, k, V, D, Pl, hcs, _, hl, hm, hmm, _, hi⟩
  · have e : v = .slice none 0 0 := by simpa using hcs
    subst e
    exact ⟨[], SlI.nilI _ _ _⟩
  · have e : v = .slice (some a) len cap := by simpa using hcs
    subst e
    obtain ⟨xs, hxl, hx⟩ := list_of_each (p := fun i (x : Int) => WfI x ∧ ∃ b' off', (some a : Option Addr) = some ⟨b', off', none⟩ ∧ b' < w.heap.size ∧ w.cell? ⟨b', off' + i, none⟩ = some (.int .i64 x)) len (fun i hin => by
      have him : i < m := by rw [hmm]; split <;> omega
      obtain ⟨hc, ht⟩ := hi i him
      obtain ⟨x, e0, hw⟩ := int_of_trod ht
      rw [e0] at hc
      have h0 := (hi 0 (by omega)).1
      have hs := spot_none h0
      rw [hs, Go.WideShapes.add_plain] at hc
      exact ⟨x, hw, a.block, a.off, by rw [← hs], lt_of_cell hc, hc⟩)
    refine ⟨xs, ⟨some a, cap, by rw [hxl]⟩, by omega, fun A n c e i x hix => ?_, fun x hx' => ?_⟩
    · injection e with e1 e2 e3
      rw [← e1]
      exact (hx i x hix).2
    · obtain ⟨i, hi'⟩ := List.getElem?_of_mem hx'
      exact (hx i x hi').1
theorem obs_of_trod {fuel : Nat} {v : Value} {x : DataW H × List MemPlace} (h : DataW.trod enc Try.prog w 0 spare true fuel 24 [v] = some x) : ∃ os A c, v = .slice A os.length c ∧ os.length ≤ maxLen ∧ ObsAt w w.heap.size A os := by
  rcases open_slice Try.underlying24 h with ⟨hcs, _⟩ | ⟨a, len, cap, m, k, D, Pl, hcs, _, hl, hm, hmm, _, hi⟩
  · have e : v = .slice none 0 0 := by simpa using hcs
    subst e
    exact ⟨[], none, 0, rfl, by simp, ⟨fun i o ho => by simp at ho⟩⟩
  · have e : v = .slice (some a) len cap := by simpa using hcs
    subst e
    have hC : Try.prog.cellsOf 30 = 3 := by kernel_rfl
    have hci : Try.prog.cellsOf 3 = 1 := by kernel_rfl
    have hcs : Try.prog.cellsOf 22 = 1 := by kernel_rfl
    have hcb : Try.prog.cellsOf 4 = 1 := by kernel_rfl
    rw [hC] at hi
    have elem : ∀ i, i < m → ∃ (o : Ob) (s : Value), a = ⟨a.block, a.off, none⟩ ∧ w.cell? ⟨a.block, a.off + i * 3, none⟩ = some (.int .i64 o.addr) ∧ w.cell? ⟨a.block, a.off + i * 3 + 1, none⟩ = some s ∧ w.cell? ⟨a.block, a.off + i * 3 + 2, none⟩ = some (.bool o.marked) ∧ SlI w w.heap.size s o.slots ∧ WfI o.addr := fun i him => by
      obtain ⟨cs0, hc0, _⟩ := hi 0 (by omega)
      obtain ⟨_, hl0, hat0⟩ := World.cells?_some hc0
      have hs : a = ⟨a.block, a.off, none⟩ := by
        have h0 := (hat0 0 (by omega)).trans (List.getElem?_eq_getElem (by omega))
        rw [Nat.zero_mul] at h0
        have h1 := World.cell?_spot h0
        obtain ⟨b, off, spot⟩ := a
        have hs : spot = none := by simpa [Addr.add] using h1
        subst hs; rfl
      obtain ⟨cs', hc, htr⟩ := hi i him
      obtain ⟨_, hlen, hat⟩ := World.cells?_some hc
      obtain ⟨y0, y1, y2, n, _, _, t0, t1, t2⟩ := trod_struct3 Try.underlying30 htr
      obtain ⟨u0, u1, u2, rfl⟩ := list3 hlen
      · simp only [hci, hcs, hcb, List.drop_zero, List.drop_succ_cons, List.take_succ_cons, List.take_zero] at t0 t1 t2
        obtain ⟨ad, rfl, hw⟩ := int_of_trod t0
        obtain ⟨xs, hxs⟩ := sli_of_trod t1
        obtain ⟨b, rfl⟩ := bool_of_trod t2
        have hadd : ∀ j, (Addr.add (Addr.add a (i * 3)) j) = ⟨a.block, a.off + i * 3 + j, none⟩ := fun j => by
          rw [hs, Go.WideShapes.add_plain, Go.WideShapes.add_plain]
        have g0 := hat 0 (by omega)
        have g1 := hat 1 (by omega)
        have g2 := hat 2 (by omega)
        rw [hadd] at g0 g1 g2
        exact ⟨⟨ad, xs, b⟩, u1, hs, g0, g1, g2, hxs, hw⟩
    obtain ⟨os, hol, ho⟩ := list_of_each (p := fun i (o : Ob) => ∃ s, a = ⟨a.block, a.off, none⟩ ∧ w.cell? ⟨a.block, a.off + i * 3, none⟩ = some (.int .i64 o.addr) ∧ w.cell? ⟨a.block, a.off + i * 3 + 1, none⟩ = some s ∧ w.cell? ⟨a.block, a.off + i * 3 + 2, none⟩ = some (.bool o.marked) ∧ SlI w w.heap.size s o.slots ∧ WfI o.addr) len
      (fun i hin => elem i (by rw [hmm]; split <;> omega))
    refine ⟨os, some a, cap, by rw [hol], by omega, ⟨fun i o hio => ?_⟩⟩
    obtain ⟨s, hs, g0, g1, g2, g3, g4⟩ := ho i o hio
    exact ⟨a.block, a.off, s, by rw [← hs], lt_of_cell g0, g0, g1, g2, g3, g4⟩
theorem grs_of_trod {fuel : Nat} {v : Value} {x : DataW H × List MemPlace} (h : DataW.trod enc Try.prog w 0 spare true fuel 23 [v] = some x) : ∃ gs A c, v = .slice A gs.length c ∧ gs.length ≤ maxLen ∧ GrsAt w w.heap.size A gs := by
  rcases open_slice Try.underlying23 h with ⟨hcs, _⟩ | ⟨a, len, cap, m, k, D, Pl, hcs, _, hl, hm, hmm, _, hi⟩
  · have e : v = .slice none 0 0 := by simpa using hcs
    subst e
    exact ⟨[], none, 0, rfl, by simp, ⟨fun i o ho => by simp at ho⟩⟩
  · have e : v = .slice (some a) len cap := by simpa using hcs
    subst e
    have hC : Try.prog.cellsOf 41 = 3 := by kernel_rfl
    have hci : Try.prog.cellsOf 3 = 1 := by kernel_rfl
    have hcs : Try.prog.cellsOf 22 = 1 := by kernel_rfl
    rw [hC] at hi
    have elem : ∀ i, i < m → ∃ (o : Gr) (s : Value), a = ⟨a.block, a.off, none⟩ ∧ w.cell? ⟨a.block, a.off + i * 3, none⟩ = some (.int .i64 o.state) ∧ w.cell? ⟨a.block, a.off + i * 3 + 1, none⟩ = some (.int .i64 o.p) ∧ w.cell? ⟨a.block, a.off + i * 3 + 2, none⟩ = some s ∧ SlI w w.heap.size s o.stack ∧ WfI o.state ∧ WfI o.p := fun i him => by
      obtain ⟨cs0, hc0, _⟩ := hi 0 (by omega)
      obtain ⟨_, hl0, hat0⟩ := World.cells?_some hc0
      have hs : a = ⟨a.block, a.off, none⟩ := by
        have h0 := (hat0 0 (by omega)).trans (List.getElem?_eq_getElem (by omega))
        rw [Nat.zero_mul] at h0
        have h1 := World.cell?_spot h0
        obtain ⟨b, off, spot⟩ := a
        have hs : spot = none := by simpa [Addr.add] using h1
        subst hs; rfl
      obtain ⟨cs', hc, htr⟩ := hi i him
      obtain ⟨_, hlen, hat⟩ := World.cells?_some hc
      obtain ⟨y0, y1, y2, n, _, _, t0, t1, t2⟩ := trod_struct3 Try.underlying41 htr
      obtain ⟨u0, u1, u2, rfl⟩ := list3 hlen
      · simp only [hci, hcs, List.drop_zero, List.drop_succ_cons, List.take_succ_cons, List.take_zero] at t0 t1 t2
        obtain ⟨ad, rfl, hw⟩ := int_of_trod t0
        obtain ⟨pp, rfl, hw2⟩ := int_of_trod t1
        obtain ⟨xs, hxs⟩ := sli_of_trod t2
        have hadd : ∀ j, (Addr.add (Addr.add a (i * 3)) j) = ⟨a.block, a.off + i * 3 + j, none⟩ := fun j => by
          rw [hs, Go.WideShapes.add_plain, Go.WideShapes.add_plain]
        have g0 := hat 0 (by omega)
        have g1 := hat 1 (by omega)
        have g2 := hat 2 (by omega)
        rw [hadd] at g0 g1 g2
        exact ⟨⟨ad, pp, xs⟩, u2, hs, g0, g1, g2, hxs, hw, hw2⟩
    obtain ⟨os, hol, ho⟩ := list_of_each (p := fun i (o : Gr) => ∃ s, a = ⟨a.block, a.off, none⟩ ∧ w.cell? ⟨a.block, a.off + i * 3, none⟩ = some (.int .i64 o.state) ∧ w.cell? ⟨a.block, a.off + i * 3 + 1, none⟩ = some (.int .i64 o.p) ∧ w.cell? ⟨a.block, a.off + i * 3 + 2, none⟩ = some s ∧ SlI w w.heap.size s o.stack ∧ WfI o.state ∧ WfI o.p) len
      (fun i hin => elem i (by rw [hmm]; split <;> omega))
    refine ⟨os, some a, cap, by rw [hol], by omega, ⟨fun i o hio => ?_⟩⟩
    obtain ⟨s, hs, g0, g1, g2, g3, g4⟩ := ho i o hio
    exact ⟨a.block, a.off, s, by rw [← hs], lt_of_cell g0, g0, g1, g2, g3, g4⟩
set_option maxRecDepth 100000 in
theorem view_of_trod {v : Value} {d : DataW H} {p : List MemPlace} (h : DataW.Trod enc Try.prog w 0 spare true 26 v d p) {r : Reach} {b0 : Nat} (hv : Value.okWide Try.prog w r b0 26 v) : ∃ V, VwAt w w.heap.size v V := by
  obtain ⟨cs, rfl, hsz⟩ := okWide_struct Try.underlying26 hv
  obtain ⟨fuel, hf⟩ := h
  obtain ⟨xs, n, _, _, hl, hxl, hx⟩ := DataW.trod_struct Try.underlying26 hf
  have hC : Try.prog.cellsOf 26 = 9 := by kernel_rfl
  have hci : Try.prog.cellsOf 3 = 1 := by kernel_rfl
  have hc6 : Try.prog.cellsOf 2 = 1 := by kernel_rfl
  have hcs : Try.prog.cellsOf 22 = 1 := by kernel_rfl
  have hcg : Try.prog.cellsOf 23 = 1 := by kernel_rfl
  have hco : Try.prog.cellsOf 24 = 1 := by kernel_rfl
  rw [hC] at hsz
  have hsz' : cs.toList.length = 9 := (Array.length_toList ..).trans hsz
  have ecs : (Value.agg cs).cells.toList = cs.toList := rfl
  rw [ecs] at hx
  obtain ⟨x0, x1, x2, x3, x4, x5, x6, x7, x8, rfl⟩ := list9 hxl
  · have f0 := hx 0 _ rfl
    have f1 := hx 1 _ rfl
    have f2 := hx 2 _ rfl
    have f3 := hx 3 _ rfl
    have f4 := hx 4 _ rfl
    have f5 := hx 5 _ rfl
    have f6 := hx 6 _ rfl
    have f7 := hx 7 _ rfl
    have f8 := hx 8 _ rfl
    obtain ⟨l, rfl⟩ : ∃ l : List Value, cs = l.toArray := ⟨cs.toList, (Array.toArray_toList ..).symm⟩
    obtain ⟨u0, u1, u2, u3, u4, u5, u6, u7, u8, rfl⟩ := list9 (show l.length = 9 from hsz')
    · simp only [List.getElem?_cons_zero, List.getElem?_cons_succ] at f0 f1 f2 f3 f4 f5 f6 f7 f8
      obtain ⟨a0, rfl, w0⟩ := int_of_trod f0
      obtain ⟨a1, rfl, w1⟩ := int_of_trod f1
      obtain ⟨a2, rfl, w2⟩ := int64_of_trod f2
      obtain ⟨gl, h3⟩ := sli_of_trod f3
      obtain ⟨gs, A1, c1, rfl, hgl, hgs⟩ := grs_of_trod f4
      obtain ⟨os, A2, c2, rfl, hol, hos⟩ := obs_of_trod f5
      obtain ⟨a6, rfl, w6⟩ := int_of_trod f6
      obtain ⟨a7, rfl, w7⟩ := int_of_trod f7
      obtain ⟨a8, rfl, w8⟩ := int_of_trod f8
      exact ⟨⟨a0, a1, a2, gl, gs, os, a6, a7, a8⟩, ⟨u3, A1, c1, A2, c2, rfl, h3, hgs, hos, hgl, hol⟩, w0, w1, w2, w6, w7, w8⟩
end
end Go.Proofs.Ytfkgooliglcjkaa
