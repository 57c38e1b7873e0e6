/- Package state: which turns may be (ways, May). -/
/- Lists of structs that the call owns, whatever the struct: reads, append of one. Plain theorems on worlds; no program in sight. -/
/- Package state: Move, a turn that may be. -/
import Derived.Test.YtepnlcemlnkpdaaGreatDoorMcCJ
import Derived.Test.YtepnlcemlnkpdaaGreatDoorMOw
namespace Go.Proofs.YtepnlcemlnkpdaaGreatDoor
set_option maxHeartbeats 16000000
set_option maxRecDepth 100000
open Go.RowKit Go.Maps
section
variable {P : Program} {w : World} {g : Nat} {t : TypeId} {cs cs' : Array Value}
theorem run_storeAt_blk (h : Blk w g t cs) (hi : (P.info? t).map (·.size) = some cs'.size) (ho : cs.size = cs'.size) (h1 : cs'.all (·.oneCell') = true) :
    (Instr.storeAt t (.pointer (some ⟨g, 0, none⟩)) (.agg cs')).run P w = .ok () (w.setRow g cs') := by
  simp only [Instr.storeAt, Instr.sureAddr, Sem.run_bind, Sem.run_pure, Result.andThen]
  exact run_storeVar_row w g t t cs cs' h hi ho h1
theorem run_loadAt_blk {n : Nat} {e : TypeId} (h : Blk w g t cs) (hu : P.underlying t = some (.array n e)) (hi : (P.info? t).map (·.size) = some cs.size) :
    (Instr.loadAt t (.pointer (some ⟨g, 0, none⟩))).run P w = .ok (.agg cs) w := by
  simp only [Instr.loadAt, Instr.sureAddr, Sem.run_bind, Sem.run_pure, Result.andThen]
  exact run_loadVar_row w g t t cs (0, 0) _ h hu rfl hi
theorem Blk.row (h : Blk w g t cs) (cs' : Array Value) : Blk (w.setRow g cs') g t cs' := setRow_heap w g cs _ t _ h
theorem Chg.row (w : World) (g : Nat) (cs' : Array Value) : Chg [g] w (w.setRow g cs') := ⟨rfl, rfl, rfl, by simp [World.setRow], fun k hk hn => setRow_other w g k cs' (by simpa using hn)⟩
end
section
variable {P : Program} {ops : Array Oper} {rest : List Oper} {o : Oper} {a : Act} {Q : Exit → Act → World → Prop} {w w' : World}
theorem wpList_load {T : TypeId} {p : Operand} (hg : o.guard = none) (hop : o.op = Op.load T p) {ad v : Value} (hp : a.eval p = ad) (hr : (Instr.loadAt T ad).run P w = .ok v w) (hK : wpList P ops Q rest (a.put o.dst v) w) : wpList P ops Q (o :: rest) a w := by
  refine wpList_plain hg fun K' hK' => ?_
  unfold Oper.wp
  simp [execOp, hop, hp, hr, Result.andThen]
  exact hK' _ _ hK
end
def wyC (f : Nat → Bool) : Array Value := ((List.range 36).map fun i => Value.bool (f i)).toArray
theorem wyC_size (f : Nat → Bool) : (wyC f).size = 36 := by unfold wyC; simp
theorem wyC_at (f : Nat → Bool) {i : Nat} (h : i < 36) : (wyC f)[i]? = some (.bool (f i)) := by unfold wyC; simp [h]
theorem wyC_set (f f' : Nat → Bool) {i : Nat} (h : i < 36) (b : Bool) (hf : ∀ k, k < 36 → f' k = if k = i then b else f k) : (wyC f).setIfInBounds i (.bool b) = wyC f' := by
  apply Array.ext_getElem?
  intro k
  rw [Array.getElem?_setIfInBounds]
  by_cases e : i = k
  · subst e
    rw [if_pos rfl, if_pos (by rw [wyC_size]; exact h), wyC_at _ h, hf i h, if_pos rfl]
  · rw [if_neg e]
    by_cases hk : k < 36
    · rw [wyC_at _ hk, wyC_at _ hk, hf k hk, if_neg (Ne.symm e)]
    · rw [Array.getElem?_eq_none (by rw [wyC_size]; omega), Array.getElem?_eq_none (by rw [wyC_size]; omega)]
def wyF (l : List Nat) (k : Nat) : Bool := l.contains k
theorem wyF_set (l : List Nat) {i : Nat} (h : i < 36) : (wyC (wyF l)).setIfInBounds i (.bool true) = wyC (wyF (i :: l)) :=
  wyC_set _ _ h true (fun k _ => by
    unfold wyF
    by_cases e : k = i
    · subst e; simp
    · rw [if_neg e]; simp [e])
def waysV : Value := .agg (wyC (wyF [25, 19, 17, 16, 15, 13, 8]))
structure WyW (w0 : World) (gR gW gS : Nat) (l : List Nat) (w : World) : Prop where
  r : Blk w gR 300 (wyC (wyF []))
  y : Blk w gW 300 (wyC (wyF l))
  s : Blk w gS 3 #[.int .i64 1, .int .i64 3, .int .i64 4, .int .i64 5]
  c : Chg [] w0 w
  n : w0.heap.size ≤ gW
  m : w0.heap.size ≤ gR
  d : gR ≠ gW
theorem WyW.put {w0 w : World} {gR gW gS : Nat} {l : List Nat} (h : WyW w0 gR gW gS l w) {i : Nat} (hi : i < 36) : WyW w0 gR gW gS (i :: l) (w.setCell ⟨gW, i, none⟩ (.bool true)) :=
  have n := h.n
  ⟨h.r.far (p := ⟨gW, i, none⟩) h.d _, h.y.setv i _ (wyF_set l hi), h.s.far (p := ⟨gW, i, none⟩) (h.s.ne_ h.y (by decide)) _, h.c.setCell (.inr n) _, h.n, h.m, h.d⟩
def WyRel (w0 : World) (gR gW gS : Nat) (gk : Nat) (idx : Value) (w : World) : Prop :=
  (gk = 5 ∧ idx = .int .i64 0 ∧ WyW w0 gR gW gS [8] w) ∨ (gk = 4 ∧ idx = .int .i64 1 ∧ WyW w0 gR gW gS [13, 8] w) ∨ (gk = 3 ∧ idx = .int .i64 2 ∧ WyW w0 gR gW gS [15, 13, 8] w) ∨ (gk = 2 ∧ idx = .int .i64 3 ∧ WyW w0 gR gW gS [16, 15, 13, 8] w) ∨ (gk = 1 ∧ idx = .int .i64 4 ∧ WyW w0 gR gW gS [17, 16, 15, 13, 8] w)
theorem st_ways (w : World) : Calls Tryz.prog 184 #[] w (NwPost waysV w) := by
  go_enter Tryz.func184, Tryz.ntmps184
  go_upto_region 2 with fail
  generalize hw1 : World.alloc (World.alloc w _) _ = w1
  have b1 : Blk w1 w.heap.size 300 (wyC (wyF [])) := by rw [← hw1]; exact (Blk.new _ _ _).alloc _
  have b2 : Blk w1 (w.heap.size + 1) 300 (wyC (wyF [])) := by
    rw [← hw1]
    have h := Blk.new (w.alloc (.cells (wyC (wyF [])) 300)) 300 (wyC (wyF []))
    rw [World.size_alloc] at h
    exact h
  have c1 : Chg [] w w1 := by rw [← hw1]; exact ((Chg.refl [] w).alloc _).alloc _
  clear hw1
  have hd : w.heap.size ≠ w.heap.size + 1 := by omega
  have hn : w.heap.size ≤ w.heap.size + 1 := by omega
  generalize w.heap.size + 1 = gW at b2 hd hn ⊢
  generalize hgR : w.heap.size = gR at b1 hd hn ⊢
  have q0 : w1.cell? ⟨gW, 8, none⟩ = some (.bool false) := b2.cellv 8 rfl
  have q1 := b2.frozen 8
  have H1 := Lib.hid (And.intro b1 (And.intro b2 (And.intro c1 (And.intro hd (And.intro hn hgR))))); clear b1 b2 c1 hd hn hgR
  go_upto_region 3 with fail
  generalize hw2 : World.setCell w1 ⟨gW, 8, none⟩ (.bool true) = w2
  obtain ⟨w3, hw3⟩ : ∃ w3, w3 = w2.alloc (.cells #[.int .i64 1, .int .i64 3, .int .i64 4, .int .i64 5] 3) := ⟨_, rfl⟩
  obtain ⟨gS, hgS⟩ : ∃ gS, gS = w2.heap.size := ⟨_, rfl⟩
  have W3 : WyW w gR gW gS [8] w3 := by
    have hh := H1.out
    have c2 : Chg [gW] w1 w2 := by rw [← hw2]; exact (Chg.refl [gW] w1).setCell (.inl (by simp)) _
    have y2 : Blk w2 gW 300 (wyC (wyF [8])) := by rw [← hw2]; exact hh.2.1.setv 8 _ (wyF_set [] (by decide))
    have n := hh.2.2.2.2.1
    rw [hw3, hgS]
    exact ⟨(c2.blk hh.1 (by simpa using hh.2.2.2.1)).alloc _, y2.alloc _, Blk.new _ _ _, (hh.2.2.1.newS c2 (by have := hh.2.2.2.2.2; simpa [this] using n)).alloc _, by have := hh.2.2.2.2.2; omega, by have := hh.2.2.2.2.2; omega, hh.2.2.2.1⟩
  have HW3 := Lib.hid W3; clear W3 H1 q0 q1 hw2
  go_wp2_with fail
  rw [← hw3, ← hgS]
  clear hw3 hgS
  go_loopg [8] 5 (fun gk idx wr => WyRel w gR gW gS gk idx wr)
  case atStart => exact .inl ⟨rfl, rfl, HW3.out⟩
  case round =>
    rcases hrel with ⟨rfl, rfl, V⟩ | ⟨rfl, rfl, V⟩ | ⟨rfl, rfl, V⟩ | ⟨rfl, rfl, V⟩ | ⟨rfl, rfl, V⟩
    · have q0 : wr.cell? ⟨gW, 13, none⟩ = some (.bool false) := V.y.cellv 13 rfl
      have q1 := V.y.frozen 13
      have t0 := V.s.cellv 0 rfl
      have HV := Lib.hid V; clear V
      go_wp2_with fail
      go_roundg 4
      case measure => omega
      case rel => exact .inr (.inl ⟨rfl, rfl, HV.out.put (i := 13) (by decide)⟩)
    · have q0 : wr.cell? ⟨gW, 15, none⟩ = some (.bool false) := V.y.cellv 15 rfl
      have q1 := V.y.frozen 15
      have t0 := V.s.cellv 1 rfl
      have HV := Lib.hid V; clear V
      go_wp2_with fail
      go_roundg 3
      case measure => omega
      case rel => exact .inr (.inr (.inl ⟨rfl, rfl, HV.out.put (i := 15) (by decide)⟩))
    · have q0 : wr.cell? ⟨gW, 16, none⟩ = some (.bool false) := V.y.cellv 16 rfl
      have q1 := V.y.frozen 16
      have t0 := V.s.cellv 2 rfl
      have HV := Lib.hid V; clear V
      go_wp2_with fail
      go_roundg 2
      case measure => omega
      case rel => exact .inr (.inr (.inr (.inl ⟨rfl, rfl, HV.out.put (i := 16) (by decide)⟩)))
    · have q0 : wr.cell? ⟨gW, 17, none⟩ = some (.bool false) := V.y.cellv 17 rfl
      have q1 := V.y.frozen 17
      have t0 := V.s.cellv 3 rfl
      have HV := Lib.hid V; clear V
      go_wp2_with fail
      go_roundg 1
      case measure => omega
      case rel => exact .inr (.inr (.inr (.inr (⟨rfl, rfl, HV.out.put (i := 17) (by decide)⟩))))
    · have q0 : wr.cell? ⟨gW, 19, none⟩ = some (.bool false) := V.y.cellv 19 rfl
      have q1 := V.y.frozen 19
      have q2 : wr.cell? ⟨gW, 25, none⟩ = some (.bool false) := V.y.cellv 25 rfl
      have q3 := V.y.frozen 25
      have HV := Lib.hid V; clear V HW3
      go_upto_region 10 with fail
      generalize hw4 : World.setCell (World.setCell wr ⟨gW, 19, none⟩ (.bool true)) ⟨gW, 25, none⟩ (.bool true) = w4
      have V4 : WyW w gR gW gS [25, 19, 17, 16, 15, 13, 8] w4 := by rw [← hw4]; exact (HV.out.put (i := 19) (by decide)).put (i := 25) (by decide)
      clear hw4 q0 q1 q2 q3 HV
      have hld := run_loadAt_blk (P := Tryz.prog) V4.y Tryz.underlying300 (by kernel_rfl)
      have hst := run_storeAt_blk (P := Tryz.prog) (cs' := wyC (wyF [25, 19, 17, 16, 15, 13, 8])) V4.r (by kernel_rfl) (by rw [wyC_size, wyC_size]) (by decide +kernel)
      have R5 := V4.r.row (wyC (wyF [25, 19, 17, 16, 15, 13, 8]))
      have C5 := Chg.row w4 gR (wyC (wyF [25, 19, 17, 16, 15, 13, 8]))
      have HL := Lib.hid hld; have HS := Lib.hid hst; clear hld hst
      go_wp2_with (first
        | (refine wpList_load (T := 300) rfl rfl rfl HL.out ?_)
        | (refine wpList_store (T := 300) rfl rfl rfl rfl HS.out ?_))
      have hi : (Tryz.prog.info? 300).map (·.size) = some (wyC (wyF [25, 19, 17, 16, 15, 13, 8])).size := by rw [wyC_size]; kernel_rfl
      clear HL HS C5
      have n2 := V4.m
      have C6 : Chg [] w (w4.setRow gR (wyC (wyF [25, 19, 17, 16, 15, 13, 8]))) := V4.c.newS (Chg.row w4 gR _) (by simpa using n2)
      clear V4
      unfold waysV
      generalize wyC (wyF [25, 19, 17, 16, 15, 13, 8]) = cs at R5 hi C6 ⊢
      simp only [Act.put, Array.setIfInBounds, List.size_toArray, List.length_cons, List.length_nil]
      have hr := fun tmps hp => results_cell_row (P := Tryz.prog) (fn := Tryz.f184) rfl tmps _ gR 300 cs _ _ hp R5 Tryz.underlying300 rfl hi
      refine ⟨rfl, _, hr _ ?_, rfl, C6⟩
      rfl
def okT (f t : Nat) : Prop := (f = 1 ∧ t = 2) ∨ (f = 2 ∧ t = 1) ∨ (f = 2 ∧ t = 3) ∨ (f = 2 ∧ t = 4) ∨ (f = 2 ∧ t = 5) ∨ (f = 3 ∧ t = 1) ∨ (f = 4 ∧ t = 1)
theorem run_ways_at (w : World) {f t : Nat} (h : okT f t) : ∃ r : Value, (Instr.index 300 waysV (.int .i64 (f : Nat))).run Tryz.prog w = .ok r w ∧ (Instr.index 299 r (.int .i64 (t : Nat))).run Tryz.prog w = .ok (.bool true) w := by
  rcases h with ⟨rfl, rfl⟩ | ⟨rfl, rfl⟩ | ⟨rfl, rfl⟩ | ⟨rfl, rfl⟩ | ⟨rfl, rfl⟩ | ⟨rfl, rfl⟩ | ⟨rfl, rfl⟩
  · exact ⟨.agg #[.bool false, .bool false, .bool true, .bool false, .bool false, .bool false], by kernel_rfl, by kernel_rfl⟩
  · exact ⟨.agg #[.bool false, .bool true, .bool false, .bool true, .bool true, .bool true], by kernel_rfl, by kernel_rfl⟩
  · exact ⟨.agg #[.bool false, .bool true, .bool false, .bool true, .bool true, .bool true], by kernel_rfl, by kernel_rfl⟩
  · exact ⟨.agg #[.bool false, .bool true, .bool false, .bool true, .bool true, .bool true], by kernel_rfl, by kernel_rfl⟩
  · exact ⟨.agg #[.bool false, .bool true, .bool false, .bool true, .bool true, .bool true], by kernel_rfl, by kernel_rfl⟩
  · exact ⟨.agg #[.bool false, .bool true, .bool false, .bool false, .bool false, .bool false], by kernel_rfl, by kernel_rfl⟩
  · exact ⟨.agg #[.bool false, .bool true, .bool false, .bool false, .bool false, .bool false], by kernel_rfl, by kernel_rfl⟩
theorem st_may (w : World) (f t : Nat) (h : okT f t) : Calls Tryz.prog 125 #[.int .i64 (f : Nat), .int .i64 (t : Nat)] w (NwPost (.bool true) w) := by
  have hb : f < 6 ∧ t < 6 := by rcases h with ⟨rfl, rfl⟩ | ⟨rfl, rfl⟩ | ⟨rfl, rfl⟩ | ⟨rfl, rfl⟩ | ⟨rfl, rfl⟩ | ⟨rfl, rfl⟩ | ⟨rfl, rfl⟩ <;> decide
  have d1 : (0 : Int) ≤ (f : Int) := by omega
  have d2 : (f : Int) < 6 := by omega
  have d3 : (0 : Int) ≤ (t : Int) := by omega
  have d4 : (t : Int) < 6 := by omega
  go_enter Tryz.func125, Tryz.ntmps125
  go_wp2_with fail
  refine (st_ways w).mono ?_
  rintro e w1 ⟨rfl, c1⟩
  obtain ⟨r, r1, r2⟩ := run_ways_at w1 h
  have HC := Lib.hid c1; clear c1
  go_wp2_with fail
  go_ret
  exact ⟨rfl, HC.out⟩
structure TyS (P : Program) (T E : TypeId) (sz by_ : Nat) : Prop where
  s : P.underlying T = some (.slice E)
  i : ∃ z, (P.info? E).map (fun i => (i.zero, i.size, i.bytes)) = some (some z, sz, by_) ∧ z.cells.size = sz
  b : by_ ≤ 256
  p : 0 < sz
section
variable {α : Type} {f : α → List Value} {sz : Nat}
theorem flat_len (hf : ∀ x, (f x).length = sz) (xs : List α) : (xs.flatMap f).length = xs.length * sz := by
  induction xs with
  | nil => simp
  | cons x xs ih => rw [List.flatMap_cons, List.length_append, ih, hf, List.length_cons, Nat.add_mul]; omega
theorem flat_at (hf : ∀ x, (f x).length = sz) : ∀ {xs : List α} {i : Nat} {x : α} (_ : xs[i]? = some x) {j : Nat} (_ : j < sz), (xs.flatMap f)[i * sz + j]? = (f x)[j]?
  | y :: ys, 0, x, hx, j, hj => by
    have e : y = x := by simpa using hx
    subst e
    rw [List.flatMap_cons, List.getElem?_append_left (by rw [hf]; omega)]; congr 1; omega
  | y :: ys, i + 1, x, hx, j, hj => by
    rw [List.flatMap_cons, List.getElem?_append_right (by rw [hf, Nat.add_mul]; omega), hf, show (i + 1) * sz + j - sz = i * sz + j by rw [Nat.add_mul]; omega]
    exact flat_at hf (by simpa using hx) hj
end
structure OwnG {α : Type} (f : α → List Value) (sz : Nat) (E : TypeId) (w : World) (v : Value) (xs : List α) : Prop where
  o : w.ownsRow 0 E sz v xs.length (xs.flatMap f)
section
variable {α : Type} {f : α → List Value} {sz : Nat} {P : Program} {T E : TypeId} {by_ : Nat} {w w' : World} {v : Value} {xs : List α}
theorem OwnG.nil (E : TypeId) (w : World) : OwnG f sz E w (.slice none 0 0) [] := ⟨World.ownsRow_nil _ _ _ _⟩
theorem OwnG.lt (h : OwnG f sz E w v xs) {k : Nat} (hk : k ∈ fpv v) : k < w.heap.size := own_lt h.o (mem_fpv.1 hk)
theorem OwnG.chg {S : List Nat} (h : OwnG f sz E w v xs) (c : Chg S w w') (hn : ∀ k ∈ fpv v, k ∉ S) : OwnG f sz E w' v xs := ⟨own_chg h.o c fun k hk => hn k (mem_fpv.2 hk)⟩
theorem OwnG.chg0 (h : OwnG f sz E w v xs) (c : Chg [] w w') : OwnG f sz E w' v xs := h.chg c (by simp)
theorem OwnG.slice (h : OwnG f sz E w v xs) : ∃ A c, v = .slice A xs.length c := by
  rcases h.o.2 with ⟨rfl, h0⟩ | ⟨g, cap, cur, rfl, _⟩
  · exact ⟨none, 0, by rw [h0]⟩
  · exact ⟨_, _, rfl⟩
theorem OwnG.ne_blk {g : Nat} {t : TypeId} {cs : Array Value} (h : OwnG f sz E w v xs) (hb : Blk w g t cs) (hne : E ≠ t) : g ∉ fpv v := fun hm => own_ne h.o hb hne (mem_fpv.1 hm)
theorem OwnG.cell {A : Option Addr} {n c i : Nat} {x : α} (hf : ∀ x, (f x).length = sz) (h : OwnG f sz E w (.slice A n c) xs) (hx : xs[i]? = some x) :
    ∃ g, A = some ⟨g, 0, none⟩ ∧ (∀ j u, (f x)[j]? = some u → w.cell? ⟨g, i * sz + j, none⟩ = some u) ∧ (∀ j, w.frozen? ⟨g, j, none⟩ = false) ∧ n = xs.length ∧ n ≤ c ∧ g < w.heap.size := by
  have hil := (List.getElem?_eq_some_iff.1 hx).1
  obtain ⟨g, cap, rest, ev, hb, _, hnc, _⟩ := own_open h.o (by omega)
  injection ev with e1 e2 e3
  refine ⟨g, e1, fun j u hu => ?_, fun j => hb.frozen _, e2, by omega, hb.lt⟩
  have hj : j < sz := by have := (List.getElem?_eq_some_iff.1 hu).1; rw [hf] at this; exact this
  have h1 := flat_at hf hx hj
  have hl := flat_len hf xs
  rw [hb.cell, List.getElem?_toArray, List.getElem?_append_left (by
    have := (List.getElem?_eq_some_iff.1 (h1.trans hu)).1; exact this)]
  exact h1.trans hu
theorem run_push_g (hf : ∀ x, (f x).length = sz) (h1 : ∀ x, ∀ u ∈ f x, u.oneCell' = true) (t : TyS P T E sz by_) (ty : TypeId) (h : OwnG f sz E w v xs) (x : α) (hl : xs.length ≤ 100000000) :
    ∃ v' w', (Builtin.append_ #[T, T] ty #[v, .slice (some ⟨w.heap.size, 0, none⟩) 1 1]).run P (w.alloc (.cells (f x).toArray E)) = .ok v' w' ∧ OwnG f sz E w' v' (xs ++ [x]) ∧ Stp (fpv v) (fpv v') w w' := by
  obtain ⟨z, hz0, hzc⟩ := t.i
  obtain ⟨i, hi, hz, hsz, hb⟩ := info_parts hz0
  have hb2 := t.b
  have hm : (xs.length + 1) * by_ ≤ 140737488355328 := by
    have := Nat.mul_le_mul (show xs.length + 1 ≤ 100000001 by omega) hb2
    omega
  obtain ⟨v', w', hrun, g1, g2, g3, g4⟩ := run_append_own_at (P := P) (w.alloc (.cells (f x).toArray E)) 0 T ty E i z sz by_ t.s hi hz hsz hb hzc t.p v xs.length (xs.flatMap f) (h.o.alloc _) ⟨w.heap.size, 0, none⟩ 1 1 (f x) (by rw [hf]; omega)
    (fun j u hu => by rw [WideShapes.add_plain, Nat.zero_add, (Blk.new w E (f x).toArray).cell]; simpa using hu)
    (h1 x) (by unfold maxLen; omega) hm (Nat.zero_le _)
  refine ⟨v', w', hrun, ⟨?_⟩, ⟨((Chg.refl (fpv v) w).alloc _).grown g2 fun k hk => .inl (mem_fpv.2 hk), fun k hk => ?_⟩⟩
  · have e : (xs ++ [x]).flatMap f = xs.flatMap f ++ f x := by simp
    rw [e, List.length_append]; exact g1
  · rcases g4 with h4 | h4
    · rw [mem_fpv, h4] at hk; exact .inl (mem_fpv.2 hk)
    · rw [mem_fpv, h4] at hk
      injection hk with hk
      rw [World.size_alloc] at hk
      exact .inr (by omega)
theorem wpList_push_g {ops : Array Oper} {rest : List Oper} {op : Oper} {a : Act} {Q : Exit → Act → World → Prop} {cs : Array Value} (hf : ∀ x, (f x).length = sz) (h1 : ∀ x, ∀ u ∈ f x, u.oneCell' = true) (t : TyS P T E sz by_) (x : α) (hcs : cs = (f x).toArray) (hgd : op.guard = none) (s y : Operand)
    (hop : op.op = .call { callee := .builtin .append, args := #[s, y], argTypes := #[T, T] }) (hs : a.eval s = v) (h : OwnG f sz E w v xs) (hx : a.eval y = .slice (some ⟨w.heap.size, 0, none⟩) 1 1) (hl : xs.length ≤ 100000000)
    (hK : ∀ A' c' w', OwnG f sz E w' (.slice A' (xs.length + 1) c') (xs ++ [x]) → Stp (fpv v) (fpv (.slice A' (xs.length + 1) c')) w w' → wpList P ops Q rest (a.put op.dst (.slice A' (xs.length + 1) c')) w') : wpList P ops Q (op :: rest) a (w.alloc (.cells cs E)) := by
  subst hcs
  obtain ⟨v', w', hr, h2, h3⟩ := run_push_g hf h1 t op.type h x hl
  obtain ⟨A', c', e⟩ := h2.slice
  rw [List.length_append, List.length_singleton] at e
  subst e
  refine wpList_plain hgd fun K' hK' => ?_
  unfold Oper.wp execOp
  simp only [hop, resolve, invoke, builtin, Sem.run_bind, Sem.run_pure, Result.andThen_ok, List.map_toArray, List.map_cons, List.map_nil, hs, hx, hr]
  exact hK' _ _ (hK A' c' w' h2 h3)
theorem wpList_cat_v {z : Value} {u : Value} {ys zs : List Value} {B : Nat} {ops : Array Oper} {rest : List Oper} {op : Oper} {a : Act} {Q : Exit → Act → World → Prop} (t : SlV P T E z by_) (hgd : op.guard = none) (s x : Operand)
    (hop : op.op = .call { callee := .builtin .append, args := #[s, x], argTypes := #[T, T] }) (hs : a.eval s = v) (h : OwnV E w v ys) (hx : a.eval x = u) (hu : RdV w B u zs) (hl : ys.length + zs.length ≤ 1000000)
    (hK : ∀ A' c' w', OwnV E w' (.slice A' (ys.length + zs.length) c') (ys ++ zs) → Stp (fpv v) (fpv (.slice A' (ys.length + zs.length) c')) w w' → wpList P ops Q rest (a.put op.dst (.slice A' (ys.length + zs.length) c')) w') : wpList P ops Q (op :: rest) a w := by
  obtain ⟨v', w', hr, h2, h3⟩ := run_cat_v t op.type h hu hl
  obtain ⟨A', c', e⟩ := h2.slice
  rw [List.length_append] at e
  subst e
  refine wpList_plain hgd fun K' hK' => ?_
  unfold Oper.wp execOp
  simp only [hop, resolve, invoke, builtin, Sem.run_bind, Sem.run_pure, Result.andThen_ok, List.map_toArray, List.map_cons, List.map_nil, hs, hx, hr]
  exact hK' _ _ (hK A' c' w' h2 h3)
end
theorem lt_of_cellM {w : World} {b off : Nat} {v : Value} (h : w.cell? ⟨b, off, none⟩ = some v) : b < w.heap.size := by
  rcases Nat.lt_or_ge b w.heap.size with hlt | hge
  · exact hlt
  · simp [World.cell?, Array.getElem?_eq_none hge] at h
theorem RdV.chg0 {w w' : World} {B : Nat} {u : Value} {ys : List Value} (h : RdV w B u ys) (c : Chg [] w w') : RdV w' B u ys :=
  ⟨h.ex, fun A n cc e i y hy => by
    obtain ⟨b, off, h1, h2, h3⟩ := h.at_ A n cc e i y hy
    exact ⟨b, off, h1, h2, c.cellv (lt_of_cellM h3) (by simp) h3⟩, h.one⟩
theorem RdV.far {w w' : World} {B : Nat} {u : Value} {ys : List Value} {S : List Nat} (h : RdV w B u ys) (c : Chg S w w') (hS : ∀ k ∈ S, B ≤ k) : RdV w' B u ys :=
  ⟨h.ex, fun A n cc e i y hy => by
    obtain ⟨b, off, h1, h2, h3⟩ := h.at_ A n cc e i y hy
    exact ⟨b, off, h1, h2, c.cellv (lt_of_cellM h3) (fun hm => by have := hS b hm; omega) h3⟩, h.one⟩
theorem stC_dec {xs : List Int} {k f t : Nat} (hx : xs[k]? = some (f : Int)) (hf : f < 6) (ht : t < 6) (hne : f ≠ t) (i : Nat) :
    cntI (xs.set k (t : Int)) (i : Int) = if i = t then cntI xs (i : Int) + 1 else if i = f then cntI xs (i : Int) - 1 else cntI xs (i : Int) := by
  have hk := (List.getElem?_eq_some_iff.1 hx).1
  have hxk := (List.getElem?_eq_some_iff.1 hx).2
  unfold cntI
  rw [List.count_set hk, hxk]
  by_cases h1 : i = t
  · subst h1
    rw [if_pos rfl]
    have e1 : ¬ ((f : Int) == (i : Int)) = true := by simp; omega
    have e2 : ((i : Int) == (i : Int)) = true := by simp
    simp only [e1, e2, if_true, if_false]
    simp
  · rw [if_neg h1]
    by_cases h2 : i = f
    · subst h2
      rw [if_pos rfl]
      have e2 : ¬ ((t : Int) == (i : Int)) = true := by simp; omega
      simp [e2]
    · rw [if_neg h2]
      have e1 : ¬ ((f : Int) == (i : Int)) = true := by simp; omega
      have e2 : ¬ ((t : Int) == (i : Int)) = true := by simp; omega
      simp [e1, e2]
theorem cntI_pos {xs : List Int} {k f : Nat} (hx : xs[k]? = some (f : Int)) : 1 ≤ cntI xs (f : Int) := List.count_pos_iff.2 (List.mem_of_getElem? hx)
def MvPost (g : Nat) (v : Value) (xs : List Int) (w : World) (e : Ending) (w' : World) : Prop := e = .returned (.int .i64 0) ∧ IsSt w' g v xs ∧ Stp (g :: fpv v) (g :: fpv v) w w'
theorem st_move (w : World) (g : Nat) (v : Value) (xs : List Int) (I : IsSt w g v xs) (k f t : Nat) (hx : xs[k]? = some (f : Int)) (h : okT f t) (hl : xs.length ≤ 1000000) : Calls Tryz.prog 82 #[.pointer (some ⟨g, 0, none⟩), .int .i64 (k : Nat), .int .i64 (t : Nat)] w (MvPost g v (xs.set k (t : Int)) w) := by
  have hb : 1 ≤ f ∧ f < 6 ∧ 1 ≤ t ∧ t < 6 ∧ f ≠ t := by rcases h with ⟨rfl, rfl⟩ | ⟨rfl, rfl⟩ | ⟨rfl, rfl⟩ | ⟨rfl, rfl⟩ | ⟨rfl, rfl⟩ | ⟨rfl, rfl⟩ | ⟨rfl, rfl⟩ <;> decide
  have K1 := st_of w g v xs I k (f : Int) hx
  obtain ⟨A, c, hv⟩ := I.o.slice
  have c0 : w.cell? ⟨g, 0, none⟩ = some v := I.b.cellv 0 rfl
  obtain ⟨n, hn⟩ : ∃ n, n = xs.length := ⟨_, rfl⟩
  rw [hv, ← hn] at c0
  have O := I.o
  rw [hv, ← hn] at O
  obtain ⟨b, hA, ck, fk, -⟩ := O.cell hx
  subst hA
  have hk : k < n := by rw [hn]; exact (List.getElem?_eq_some_iff.1 hx).1
  have hbv : b ∈ fpv v := by rw [hv]; simp [fpv, Value.ownBlock]
  have e1 : (0 : Int) ≤ k := by omega
  have e2 : (k : Int) < (n : Int) := by omega
  have e3 : ¬ (f : Int) = 0 := by omega
  have e4 : ((f : Int) == 0) = false := by rw [beq_eq_false_iff_ne]; omega
  have HI := Lib.hid (And.intro I (And.intro hn (And.intro hv (And.intro hbv (And.intro hx (And.intro K1 O)))))); clear I hn hv hbv hx K1 O
  go_enter Tryz.func82, Tryz.ntmps82
  go_wp2_with fail
  refine HI.out.2.2.2.2.2.1.mono ?_
  rintro e w1 ⟨rfl, rfl⟩
  go_wp2_with fail
  refine (st_may w1 f t h).mono ?_
  rintro e w2 ⟨rfl, c2⟩
  have I2 : IsSt w2 g v xs := ⟨c2.blk HI.out.1.b (by simp), HI.out.1.o.chg0 c2, HI.out.1.r⟩
  have c0' : w2.cell? ⟨g, 0, none⟩ = some (.slice (some ⟨b, 0, none⟩) n c) := by
    have e : w2.cell? ⟨g, 0, none⟩ = some v := I2.b.cellv 0 rfl
    rw [e, HI.out.2.1]; exact congrArg some HI.out.2.2.1
  have ck' : w2.cell? ⟨b, k, none⟩ = some (.int .i64 (f : Nat)) := c2.cellv (lt_of_cellM ck) (by simp) ck
  have cf : w2.cell? ⟨g, 1 + f, none⟩ = some (.int .i64 (cntI xs (f : Int) : Nat)) := I2.b.cellv (1 + f) (stC_at v _ (by omega))
  have ff := I2.b.frozen (1 + f)
  have g0 : (0 : Int) ≤ (f : Int) := by omega
  have g1 : (f : Int) < 6 := by omega
  have g2 : (0 : Int) ≤ (t : Int) := by omega
  have g3 : (t : Int) < 6 := by omega
  have HJ := Lib.hid (And.intro I2 c2); clear I2 c2 c0 ck fk
  go_upto_region 7 with fail
  go_still_tail 15, (by kernel_rfl)
  change wpList _ _ _ _ _ w2.drew
  obtain ⟨p, hp⟩ : ∃ p, cntI xs (f : Int) = p + 1 := ⟨cntI xs (f : Int) - 1, by have := cntI_pos HI.out.2.2.2.2.1; omega⟩
  have hpl : p ≤ 1000000 := by have := cntI_le xs (f : Int); omega
  rw [hp] at cf ⊢
  have ew : IntKind.i64.wrap (((p + 1 : Nat) : Int) - 1) = (p : Int) := by rw [show ((p + 1 : Nat) : Int) - 1 = (p : Int) by omega]; exact IntWalk.i64_in _ (by omega)
  rw [ew]
  have cf' : w2.drew.cell? ⟨g, 1 + f, none⟩ = some (.int .i64 ((p + 1 : Nat) : Int)) := cf
  have ff' : w2.drew.frozen? ⟨g, 1 + f, none⟩ = false := ff
  go_upto_region 8 with fail
  generalize hw3 : World.drew (World.setCell w2 ⟨g, 1 + f, none⟩ (.int .i64 (p : Nat))) = w3
  have B3 : Blk w3 g 153 (stC v fun i => if i = f then p else cntI xs (i : Int)) := by
    rw [← hw3]
    exact (HJ.out.1.b.setv (1 + f) (.int .i64 (p : Nat)) (stC_set _ _ (by omega) p)).drew
  have C3 : Chg [g] w1 w3 := by rw [← hw3]; exact (((HJ.out.2.mono (by simp)).setCell (p := ⟨g, 1 + f, none⟩) (.inl (by simp)) (.int .i64 (p : Nat))).drew)
  clear hw3 cf cf' ff ff' c0' ck' ew
  have ct : w3.cell? ⟨g, 1 + t, none⟩ = some (.int .i64 (cntI xs (t : Int) : Nat)) := by
    have := B3.cellv (1 + t) (stC_at v _ (i := t) (by omega))
    rwa [if_neg (fun e => hb.2.2.2.2 e.symm)] at this
  have ft := B3.frozen (1 + t)
  have HK := Lib.hid (And.intro B3 (And.intro C3 hp)); clear B3 C3 hp
  obtain ⟨q, hq⟩ : ∃ q, cntI xs (t : Int) = q := ⟨_, rfl⟩
  have hql : q ≤ 1000000 := by have := cntI_le xs (t : Int); omega
  rw [hq] at ct
  have hq := Lib.hid hq
  go_still_tail 9, (by kernel_rfl)
  change wpList _ _ _ _ _ w3.drew
  have ew : IntKind.i64.wrap ((q : Int) + 1) = ((q + 1 : Nat) : Int) := by rw [show (q : Int) + 1 = ((q + 1 : Nat) : Int) by omega]; exact IntWalk.i64_in _ (by omega)
  rw [ew]
  have ct' : w3.drew.cell? ⟨g, 1 + t, none⟩ = some (.int .i64 (q : Int)) := ct
  have ft' : w3.drew.frozen? ⟨g, 1 + t, none⟩ = false := ft
  clear ew
  go_upto_region 9 with fail
  have eq1 : (q : Int) + 1 = ((q + 1 : Nat) : Int) := rfl
  rw [eq1]
  clear eq1
  generalize hw4 : World.drew (World.setCell w3 ⟨g, 1 + t, none⟩ (.int .i64 ((q + 1 : Nat) : Int))) = w4
  have B4 : Blk w4 g 153 (stC v fun i => if i = t then q + 1 else if i = f then p else cntI xs (i : Int)) := by
    rw [← hw4]
    exact (HK.out.1.setv (1 + t) (.int .i64 ((q + 1 : Nat) : Int)) (stC_set _ _ (by omega) (q + 1))).drew
  have C4 : Chg [g] w1 w4 := by rw [← hw4]; exact ((HK.out.2.1.setCell (p := ⟨g, 1 + t, none⟩) (.inl (by simp)) (.int .i64 ((q + 1 : Nat) : Int))).drew)
  clear hw4 ct ct' ft ft'
  have hgv : g ∉ fpv v := fun hm => own_ne HI.out.1.o.o HI.out.1.b (by decide) (mem_fpv.1 hm)
  have O4 := HI.out.1.o.chg C4 (fun k' hk' hm => hgv (by have e : k' = g := (by simpa using hm); rw [← e]; exact hk'))
  have c4 : w4.cell? ⟨g, 0, none⟩ = some (.slice (some ⟨b, 0, none⟩) n c) := by
    have e : w4.cell? ⟨g, 0, none⟩ = some v := B4.cellv 0 rfl
    rw [e, HI.out.2.1]; exact congrArg some HI.out.2.2.1
  have O4' := O4
  rw [HI.out.2.2.1] at O4'
  obtain ⟨b', hb', ck, fk, -⟩ := O4'.cell HI.out.2.2.2.2.1
  injection hb' with hb'
  injection hb' with hb'
  subst hb'
  have HL := Lib.hid (And.intro B4 (And.intro C4 (And.intro hgv O4'))); clear B4 C4 hgv O4 O4'
  go_wp2_with fail
  go_ret
  have hk2 : k < xs.length := by rw [← HI.out.2.1]; exact hk
  have cb : Chg [b] w4 (w4.setCell ⟨b, k, none⟩ (.int .i64 (t : Nat))) := (Chg.refl [b] w4).setCell (.inl (by simp)) _
  have hgb : g ≠ b := fun e => HL.out.2.2.1 (by rw [e]; exact HI.out.2.2.2.1)
  refine ⟨rfl, ⟨?_, ?_, fun x hx => ?_⟩, ⟨(HL.out.2.1.mono (by simp)).trans (cb.mono (fun k' hk' => .inl (by have e : k' = b := (by simpa using hk'); rw [e]; exact List.mem_cons_of_mem _ HI.out.2.2.2.1))), fun k' hk' => .inl hk'⟩⟩
  · have h5 := cb.blk HL.out.1 (by simpa using hgb)
    have e : (fun i : Nat => cntI (xs.set k (t : Int)) (i : Int)) = fun i => if i = t then q + 1 else if i = f then p else cntI xs (i : Int) := by
      funext i
      rw [stC_dec (xs := xs) HI.out.2.2.2.2.1 hb.2.1 hb.2.2.2.1 hb.2.2.2.2 i]
      by_cases h1 : i = t
      · subst h1; rw [if_pos rfl, if_pos rfl, hq.out]
      · rw [if_neg h1, if_neg h1]
        by_cases h2 : i = f
        · subst h2; rw [if_pos rfl, if_pos rfl, HK.out.2.2]; omega
        · rw [if_neg h2, if_neg h2]
    rw [e]; exact h5
  · have h6 := OwnI.set_ HL.out.2.2.2 hk2 (t : Int)
    rw [← HI.out.2.2.1] at h6
    exact h6
  · rcases List.mem_or_eq_of_mem_set hx with h1 | h1
    · exact HI.out.1.r x h1
    · omega
end Go.Proofs.YtepnlcemlnkpdaaGreatDoor
