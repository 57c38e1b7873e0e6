/- Package code: what may stand in a part; the reader's next byte. -/
/- Package state: which turns may be (ways, May). -/
import Derived.Test.YthjplmminmhiaaaGreatDoorMcOJ
import Derived.Test.YthjplmminmhiaaaGreatDoorMClJ
import Derived.Test.YthjplmminmhiaaaGreatDoorMOw
import Derived.Deep.WholeRow
import Derived.Test.YthjplmminmhiaaaGreatDoorMemJ
import Derived.Test.YthjplmminmhiaaaGreatDoorMcTJ
namespace Go.Proofs.YthjplmminmhiaaaGreatDoor
open Go.RowKit Go.Maps

theorem tyC : VTy Tryz.prog 159 3 3 (.int .i64 0) := ⟨Tryz.underlying159, Tryz.underlying3, fun _ => by kernel_rfl⟩
theorem wpList_vmap_look' {P : Program} {T K E : TypeId} {z : Value} {w : World} {b n : Nat} {f : Int → Option Value} {ops : Array Oper} {rest : List Oper} {o : Oper} {a : Act} {Q : Exit → Act → World → Prop} (hg : o.guard = none) (m x : Operand) (hop : o.op = Op.lookup T m x false) (h : VMap P K w b n f) (t : VTy P T K E z) (hm : a.eval m = .map (some b)) {k : Int} (hx : a.eval x = .int .i64 k) (hk : Wf64 k) {u : Value} (hf : f k = some u)
    (hK : wpList P ops Q rest (a.put o.dst u) w) : wpList P ops Q (o :: rest) a w :=
  wpList_vmap_look hg m x hop h t hm hx hk (by rw [hf]; exact hK)
/-- How many may stand there: a map's look-up. -/
theorem most_at (G F S part : Nat) (hp : part ≤ 6) : (putV (putV (putV (putV (putV (putV (putV (fun _ => none) 0 (Value.int .i64 1)) 1 (Value.int .i64 256)) 2 (Value.int .i64 16)) 3 (Value.int .i64 (G : Nat))) 4 (Value.int .i64 (F : Nat))) 5 (Value.int .i64 (S : Nat))) 6 (Value.int .i64 32)) (part : Nat) = some (Value.int .i64 (mostP G F S part : Nat)) := by
  have : part = 0 ∨ part = 1 ∨ part = 2 ∨ part = 3 ∨ part = 4 ∨ part = 5 ∨ part = 6 := by omega
  rcases this with rfl | rfl | rfl | rfl | rfl | rfl | rfl <;> rfl
set_option maxHeartbeats 1600000 in
set_option maxRecDepth 100000 in
theorem cd_fits (w : World) (G F S part v : Nat) (hp : part ≤ 6) : Calls Tryz.prog 276 #[.agg #[.int .i64 (G : Nat), .int .i64 (F : Nat), .int .i64 (S : Nat)], .int .i64 (part : Nat), .int .i64 (v : Nat)] w (NwPost (.bool (fitsP G F S part v)) w) := by
  have hmm := @run_makeMap Tryz.prog
  go_enter Tryz.func276, Tryz.ntmps276
  go_upto_region 1 with fail
  obtain ⟨w1, hw1⟩ : ∃ w1, w1 = w.alloc (.cells #[.int .i64 (G : Nat), .int .i64 (F : Nat), .int .i64 (S : Nat)] 250) := ⟨_, rfl⟩
  have B : Blk w1 w.heap.size 250 #[.int .i64 (G : Nat), .int .i64 (F : Nat), .int .i64 (S : Nat)] := by rw [hw1]; exact Blk.new _ _ _
  have D : Chg [] w w1 := by rw [hw1]; exact (Chg.refl _ _).alloc _
  rw [← hw1]
  have M := VMap.made w1 Tryz.prog 3
  have hne : w.heap.size ∉ [w1.heap.size] := by have := B.lt; simp; omega
  have hnw : ∀ k ∈ [w1.heap.size], w.heap.size ≤ k := by have := D.size; simpa using this
  have B2 := B.alloc (.map #[] 0)
  have D2 := D.alloc (.map #[] 0)
  clear B D hw1
  have HL := Lib.hid (most_at G F S part hp)
  go_wp2_with (first
    | (at_lookup; refine wpList_vmap_look' rfl _ _ rfl M tyC rfl rfl (by unfold Wf64; omega) HL.out ?_)
    | (refine wpList_vmap_insert rfl _ _ _ rfl M tyC rfl rfl (by unfold Wf64; omega) rfl (by decide) ?_
       intro x1 M1 C1 _
       have M := M1
       have B2 := C1.blk B2 hne
       have k0 := B2.cellv 0 rfl
       have k1 := B2.cellv 1 rfl
       have k2 := B2.cellv 2 rfl
       have D2 := D2.new C1 hnw
       clear C1 M1))
  go_ret
  exact ⟨by simp [fitsP], D2⟩
section
variable {P : Program} {ops : Array Oper} {rest : List Oper} {o : Oper} {a : Act} {Q : Exit → Act → World → Prop} {w w' : World}
theorem wpList_build {T : TypeId} {ps : Array (Nat × Operand)} (hg : o.guard = none) (hop : o.op = Op.build T ps) (v : Value) (hr : (execOp a.eval o).run P w = .ok (.value v) w) (hK : wpList P ops Q rest (a.put o.dst v) w) : wpList P ops Q (o :: rest) a w := by
  refine wpList_plain hg fun K' hK' => ?_
  unfold Oper.wp
  rw [hr]; exact hK' _ _ hK
theorem wpList_store {T : TypeId} {p x : Operand} (hg : o.guard = none) (hop : o.op = Op.store T p x) {ad v : Value} (hp : a.eval p = ad) (hx : a.eval x = v) (hr : (Instr.storeAt T ad v).run P w = .ok () w') (hK : wpList P ops Q rest (a.put o.dst undef) w') : wpList P ops Q (o :: rest) a w := by
  refine wpList_plain hg fun K' hK' => ?_
  unfold Oper.wp
  simp [execOp, hop, hp, hx, hr, Result.andThen]
  exact hK' _ _ hK
end
def partsL : List Value := (ptab.flatMap id).map (Value.int .i64)
def partsV : Value := .agg partsL.toArray
set_option maxHeartbeats 1600000 in
set_option maxRecDepth 100000 in
theorem cd_parts (w : World) : Calls Tryz.prog 275 #[] w (NwPost partsV w) := by
  go_enter Tryz.func275, Tryz.ntmps275
  have hst : ∀ c : Array Value, c.size = 54 → (Instr.storeAt 366 (.pointer (some ⟨w.heap.size, 0, none⟩)) partsV).run Tryz.prog (w.alloc (.cells c 366)) = .ok () (w.alloc (.cells partsL.toArray 366)) := fun c hc =>
    run_storeAt_new w 366 c partsL.toArray (by kernel_rfl) (by rw [hc]; rfl) (by decide +kernel)
  go_upto_region 1 with fail
  go_wp2_with (first
    | (refine wpList_build (T := 366) rfl rfl partsV (by kernel_rfl) ?_)
    | (refine wpList_store (T := 366) rfl rfl rfl rfl (hst _ rfl) ?_))
  obtain ⟨cs, hcs⟩ : ∃ cs, cs = partsL.toArray := ⟨_, rfl⟩
  have hi : (Tryz.prog.info? 366).map (·.size) = some cs.size := by rw [hcs]; kernel_rfl
  have hV : partsV = .agg cs := by rw [hcs]; rfl
  rw [← hcs, hV]
  clear hst hV hcs
  simp only [Act.put, Array.setIfInBounds, List.size_toArray, List.length_cons, List.length_nil]
  have hr := fun tmps hp => results_cell_row (P := Tryz.prog) (fn := Tryz.f275) rfl tmps _ w.heap.size 366 cs _ _ hp (heap_alloc_new w (.cells cs 366)) Tryz.underlying366 rfl hi
  refine ⟨rfl, _, hr _ ?_, ?_⟩
  · rfl
  · exact ⟨rfl, (Chg.refl [] w).alloc _⟩
set_option maxRecDepth 100000 in
theorem run_parts_at (w : World) {o : Nat} (ho : o ≤ 17) {x y z : Int} (h : ptab[o]? = some [x, y, z]) : (Instr.index 366 partsV (.int .i64 (o : Nat))).run Tryz.prog w = .ok (.agg #[.int .i64 x, .int .i64 y, .int .i64 z]) w := by
  have hh : o = 0 ∨ o = 1 ∨ o = 2 ∨ o = 3 ∨ o = 4 ∨ o = 5 ∨ o = 6 ∨ o = 7 ∨ o = 8 ∨ o = 9 ∨ o = 10 ∨ o = 11 ∨ o = 12 ∨ o = 13 ∨ o = 14 ∨ o = 15 ∨ o = 16 ∨ o = 17 := by omega
  rcases hh with rfl | rfl | rfl | rfl | rfl | rfl | rfl | rfl | rfl | rfl | rfl | rfl | rfl | rfl | rfl | rfl | rfl | rfl
  all_goals
    injection h with h; injection h with e1 h; injection h with e2 h; injection h with e3 _
    subst e1 e2 e3
    show _ = _
    kernel_rfl
end Go.Proofs.YthjplmminmhiaaaGreatDoor
namespace Go.Proofs.YthjplmminmhiaaaGreatDoor
open Go.RowKit Go.Maps

section
variable {P : Program} {w : World} {g : Nat} {t : TypeId} {cs cs' : Array Value}
theorem run_storeAt_blk (h : Blk w g t cs) (hi : (P.info? t).map (·.size) = some cs'.size) (ho : cs.size = cs'.size) (h1 : cs'.all (·.oneCell') = true) :
    (Instr.storeAt t (.pointer (some ⟨g, 0, none⟩)) (.agg cs')).run P w = .ok () (w.setRow g cs') := by
  simp only [Instr.storeAt, Instr.sureAddr, Sem.run_bind, Sem.run_pure, Result.andThen]
  exact run_storeVar_row w g t t cs cs' h hi ho h1
theorem run_loadAt_blk {n : Nat} {e : TypeId} (h : Blk w g t cs) (hu : P.underlying t = some (.array n e)) (hi : (P.info? t).map (·.size) = some cs.size) :
    (Instr.loadAt t (.pointer (some ⟨g, 0, none⟩))).run P w = .ok (.agg cs) w := by
  simp only [Instr.loadAt, Instr.sureAddr, Sem.run_bind, Sem.run_pure, Result.andThen]
  exact run_loadVar_row w g t t cs (0, 0) _ h hu rfl hi
theorem Blk.row (h : Blk w g t cs) (cs' : Array Value) : Blk (w.setRow g cs') g t cs' := setRow_heap w g cs _ t _ h
theorem Chg.row (w : World) (g : Nat) (cs' : Array Value) : Chg [g] w (w.setRow g cs') := ⟨rfl, rfl, rfl, by simp [World.setRow], fun k hk hn => setRow_other w g k cs' (by simpa using hn)⟩
end
section
variable {P : Program} {ops : Array Oper} {rest : List Oper} {o : Oper} {a : Act} {Q : Exit → Act → World → Prop} {w w' : World}
theorem wpList_load {T : TypeId} {p : Operand} (hg : o.guard = none) (hop : o.op = Op.load T p) {ad v : Value} (hp : a.eval p = ad) (hr : (Instr.loadAt T ad).run P w = .ok v w) (hK : wpList P ops Q rest (a.put o.dst v) w) : wpList P ops Q (o :: rest) a w := by
  refine wpList_plain hg fun K' hK' => ?_
  unfold Oper.wp
  simp [execOp, hop, hp, hr, Result.andThen]
  exact hK' _ _ hK
end
/-- 36 Booleans. -/
def wyC (f : Nat → Bool) : Array Value := ((List.range 36).map fun i => Value.bool (f i)).toArray
theorem wyC_size (f : Nat → Bool) : (wyC f).size = 36 := by unfold wyC; simp
theorem wyC_at (f : Nat → Bool) {i : Nat} (h : i < 36) : (wyC f)[i]? = some (.bool (f i)) := by unfold wyC; simp [h]
theorem wyC_set (f f' : Nat → Bool) {i : Nat} (h : i < 36) (b : Bool) (hf : ∀ k, k < 36 → f' k = if k = i then b else f k) : (wyC f).setIfInBounds i (.bool b) = wyC f' := by
  apply Array.ext_getElem?
  intro k
  rw [Array.getElem?_setIfInBounds]
  by_cases e : i = k
  · subst e
    rw [if_pos rfl, if_pos (by rw [wyC_size]; exact h), wyC_at _ h, hf i h, if_pos rfl]
  · rw [if_neg e]
    by_cases hk : k < 36
    · rw [wyC_at _ hk, wyC_at _ hk, hf k hk, if_neg (Ne.symm e)]
    · rw [Array.getElem?_eq_none (by rw [wyC_size]; omega), Array.getElem?_eq_none (by rw [wyC_size]; omega)]
def wyF (l : List Nat) (k : Nat) : Bool := l.contains k
theorem wyF_set (l : List Nat) {i : Nat} (h : i < 36) : (wyC (wyF l)).setIfInBounds i (.bool true) = wyC (wyF (i :: l)) :=
  wyC_set _ _ h true (fun k _ => by
    unfold wyF
    by_cases e : k = i
    · subst e; simp
    · rw [if_neg e]; simp [e])
def waysV : Value := .agg (wyC (wyF [25, 19, 17, 16, 15, 13, 8]))
structure WyW (w0 : World) (gR gW gS : Nat) (l : List Nat) (w : World) : Prop where
  r : Blk w gR 269 (wyC (wyF []))
  y : Blk w gW 269 (wyC (wyF l))
  s : Blk w gS 3 #[.int .i64 1, .int .i64 3, .int .i64 4, .int .i64 5]
  c : Chg [] w0 w
  n : w0.heap.size ≤ gW
  m : w0.heap.size ≤ gR
  d : gR ≠ gW
theorem WyW.put {w0 w : World} {gR gW gS : Nat} {l : List Nat} (h : WyW w0 gR gW gS l w) {i : Nat} (hi : i < 36) : WyW w0 gR gW gS (i :: l) (w.setCell ⟨gW, i, none⟩ (.bool true)) :=
  have n := h.n
  ⟨h.r.far (p := ⟨gW, i, none⟩) h.d _, h.y.setv i _ (wyF_set l hi), h.s.far (p := ⟨gW, i, none⟩) (h.s.ne_ h.y (by decide)) _, h.c.setCell (.inr n) _, h.n, h.m, h.d⟩
def WyRel (w0 : World) (gR gW gS : Nat) (gk : Nat) (idx : Value) (w : World) : Prop :=
  (gk = 5 ∧ idx = .int .i64 0 ∧ WyW w0 gR gW gS [8] w) ∨ (gk = 4 ∧ idx = .int .i64 1 ∧ WyW w0 gR gW gS [13, 8] w) ∨ (gk = 3 ∧ idx = .int .i64 2 ∧ WyW w0 gR gW gS [15, 13, 8] w) ∨ (gk = 2 ∧ idx = .int .i64 3 ∧ WyW w0 gR gW gS [16, 15, 13, 8] w) ∨ (gk = 1 ∧ idx = .int .i64 4 ∧ WyW w0 gR gW gS [17, 16, 15, 13, 8] w)
set_option maxHeartbeats 1600000 in
set_option maxRecDepth 100000 in
theorem st_ways (w : World) : Calls Tryz.prog 137 #[] w (NwPost waysV w) := by
  go_enter Tryz.func137, Tryz.ntmps137
  go_upto_region 2 with fail
  generalize hw1 : World.alloc (World.alloc w _) _ = w1
  have b1 : Blk w1 w.heap.size 269 (wyC (wyF [])) := by rw [← hw1]; exact (Blk.new _ _ _).alloc _
  have b2 : Blk w1 (w.heap.size + 1) 269 (wyC (wyF [])) := by
    rw [← hw1]
    have h := Blk.new (w.alloc (.cells (wyC (wyF [])) 269)) 269 (wyC (wyF []))
    rw [World.size_alloc] at h
    exact h
  have c1 : Chg [] w w1 := by rw [← hw1]; exact ((Chg.refl [] w).alloc _).alloc _
  clear hw1
  have hd : w.heap.size ≠ w.heap.size + 1 := by omega
  have hn : w.heap.size ≤ w.heap.size + 1 := by omega
  generalize w.heap.size + 1 = gW at b2 hd hn ⊢
  generalize hgR : w.heap.size = gR at b1 hd hn ⊢
  have q0 : w1.cell? ⟨gW, 8, none⟩ = some (.bool false) := b2.cellv 8 rfl
  have q1 := b2.frozen 8
  have H1 := Lib.hid (And.intro b1 (And.intro b2 (And.intro c1 (And.intro hd (And.intro hn hgR))))); clear b1 b2 c1 hd hn hgR
  go_upto_region 3 with fail
  generalize hw2 : World.setCell w1 ⟨gW, 8, none⟩ (.bool true) = w2
  obtain ⟨w3, hw3⟩ : ∃ w3, w3 = w2.alloc (.cells #[.int .i64 1, .int .i64 3, .int .i64 4, .int .i64 5] 3) := ⟨_, rfl⟩
  obtain ⟨gS, hgS⟩ : ∃ gS, gS = w2.heap.size := ⟨_, rfl⟩
  have W3 : WyW w gR gW gS [8] w3 := by
    have hh := H1.out
    have c2 : Chg [gW] w1 w2 := by rw [← hw2]; exact (Chg.refl [gW] w1).setCell (.inl (by simp)) _
    have y2 : Blk w2 gW 269 (wyC (wyF [8])) := by rw [← hw2]; exact hh.2.1.setv 8 _ (wyF_set [] (by decide))
    have n := hh.2.2.2.2.1
    rw [hw3, hgS]
    exact ⟨(c2.blk hh.1 (by simpa using hh.2.2.2.1)).alloc _, y2.alloc _, Blk.new _ _ _, (hh.2.2.1.newS c2 (by have := hh.2.2.2.2.2; simpa [this] using n)).alloc _, by have := hh.2.2.2.2.2; omega, by have := hh.2.2.2.2.2; omega, hh.2.2.2.1⟩
  have HW3 := Lib.hid W3; clear W3 H1 q0 q1 hw2
  go_wp2_with fail
  rw [← hw3, ← hgS]
  clear hw3 hgS
  go_loopg [8] 5 (fun gk idx wr => WyRel w gR gW gS gk idx wr)
  case atStart => exact .inl ⟨rfl, rfl, HW3.out⟩
  case round =>
    rcases hrel with ⟨rfl, rfl, V⟩ | ⟨rfl, rfl, V⟩ | ⟨rfl, rfl, V⟩ | ⟨rfl, rfl, V⟩ | ⟨rfl, rfl, V⟩
    · have q0 : wr.cell? ⟨gW, 13, none⟩ = some (.bool false) := V.y.cellv 13 rfl
      have q1 := V.y.frozen 13
      have t0 := V.s.cellv 0 rfl
      have HV := Lib.hid V; clear V
      go_wp2_with fail
      go_roundg 4
      case measure => omega
      case rel => exact .inr (.inl ⟨rfl, rfl, HV.out.put (i := 13) (by decide)⟩)
    · have q0 : wr.cell? ⟨gW, 15, none⟩ = some (.bool false) := V.y.cellv 15 rfl
      have q1 := V.y.frozen 15
      have t0 := V.s.cellv 1 rfl
      have HV := Lib.hid V; clear V
      go_wp2_with fail
      go_roundg 3
      case measure => omega
      case rel => exact .inr (.inr (.inl ⟨rfl, rfl, HV.out.put (i := 15) (by decide)⟩))
    · have q0 : wr.cell? ⟨gW, 16, none⟩ = some (.bool false) := V.y.cellv 16 rfl
      have q1 := V.y.frozen 16
      have t0 := V.s.cellv 2 rfl
      have HV := Lib.hid V; clear V
      go_wp2_with fail
      go_roundg 2
      case measure => omega
      case rel => exact .inr (.inr (.inr (.inl ⟨rfl, rfl, HV.out.put (i := 16) (by decide)⟩)))
    · have q0 : wr.cell? ⟨gW, 17, none⟩ = some (.bool false) := V.y.cellv 17 rfl
      have q1 := V.y.frozen 17
      have t0 := V.s.cellv 3 rfl
      have HV := Lib.hid V; clear V
      go_wp2_with fail
      go_roundg 1
      case measure => omega
      case rel => exact .inr (.inr (.inr (.inr (⟨rfl, rfl, HV.out.put (i := 17) (by decide)⟩))))
    · have q0 : wr.cell? ⟨gW, 19, none⟩ = some (.bool false) := V.y.cellv 19 rfl
      have q1 := V.y.frozen 19
      have q2 : wr.cell? ⟨gW, 25, none⟩ = some (.bool false) := V.y.cellv 25 rfl
      have q3 := V.y.frozen 25
      have HV := Lib.hid V; clear V HW3
      go_upto_region 10 with fail
      generalize hw4 : World.setCell (World.setCell wr ⟨gW, 19, none⟩ (.bool true)) ⟨gW, 25, none⟩ (.bool true) = w4
      have V4 : WyW w gR gW gS [25, 19, 17, 16, 15, 13, 8] w4 := by rw [← hw4]; exact (HV.out.put (i := 19) (by decide)).put (i := 25) (by decide)
      clear hw4 q0 q1 q2 q3 HV
      have hld := run_loadAt_blk (P := Tryz.prog) V4.y Tryz.underlying269 (by kernel_rfl)
      have hst := run_storeAt_blk (P := Tryz.prog) (cs' := wyC (wyF [25, 19, 17, 16, 15, 13, 8])) V4.r (by kernel_rfl) (by rw [wyC_size, wyC_size]) (by decide +kernel)
      have R5 := V4.r.row (wyC (wyF [25, 19, 17, 16, 15, 13, 8]))
      have C5 := Chg.row w4 gR (wyC (wyF [25, 19, 17, 16, 15, 13, 8]))
      have HL := Lib.hid hld; have HS := Lib.hid hst; clear hld hst
      go_wp2_with (first
        | (refine wpList_load (T := 269) rfl rfl rfl HL.out ?_)
        | (refine wpList_store (T := 269) rfl rfl rfl rfl HS.out ?_))
      have hi : (Tryz.prog.info? 269).map (·.size) = some (wyC (wyF [25, 19, 17, 16, 15, 13, 8])).size := by rw [wyC_size]; kernel_rfl
      clear HL HS C5
      have n2 := V4.m
      have C6 : Chg [] w (w4.setRow gR (wyC (wyF [25, 19, 17, 16, 15, 13, 8]))) := V4.c.newS (Chg.row w4 gR _) (by simpa using n2)
      clear V4
      unfold waysV
      generalize wyC (wyF [25, 19, 17, 16, 15, 13, 8]) = cs at R5 hi C6 ⊢
      simp only [Act.put, Array.setIfInBounds, List.size_toArray, List.length_cons, List.length_nil]
      have hr := fun tmps hp => results_cell_row (P := Tryz.prog) (fn := Tryz.f137) rfl tmps _ gR 269 cs _ _ hp R5 Tryz.underlying269 rfl hi
      refine ⟨rfl, _, hr _ ?_, rfl, C6⟩
      rfl
/-- The turns that may be. -/
def okT (f t : Nat) : Prop := (f = 1 ∧ t = 2) ∨ (f = 2 ∧ t = 1) ∨ (f = 2 ∧ t = 3) ∨ (f = 2 ∧ t = 4) ∨ (f = 2 ∧ t = 5) ∨ (f = 3 ∧ t = 1) ∨ (f = 4 ∧ t = 1)
set_option maxRecDepth 100000 in
theorem run_ways_at (w : World) {f t : Nat} (h : okT f t) : ∃ r : Value, (Instr.index 269 waysV (.int .i64 (f : Nat))).run Tryz.prog w = .ok r w ∧ (Instr.index 268 r (.int .i64 (t : Nat))).run Tryz.prog w = .ok (.bool true) w := by
  rcases h with ⟨rfl, rfl⟩ | ⟨rfl, rfl⟩ | ⟨rfl, rfl⟩ | ⟨rfl, rfl⟩ | ⟨rfl, rfl⟩ | ⟨rfl, rfl⟩ | ⟨rfl, rfl⟩
  · exact ⟨.agg #[.bool false, .bool false, .bool true, .bool false, .bool false, .bool false], by kernel_rfl, by kernel_rfl⟩
  · exact ⟨.agg #[.bool false, .bool true, .bool false, .bool true, .bool true, .bool true], by kernel_rfl, by kernel_rfl⟩
  · exact ⟨.agg #[.bool false, .bool true, .bool false, .bool true, .bool true, .bool true], by kernel_rfl, by kernel_rfl⟩
  · exact ⟨.agg #[.bool false, .bool true, .bool false, .bool true, .bool true, .bool true], by kernel_rfl, by kernel_rfl⟩
  · exact ⟨.agg #[.bool false, .bool true, .bool false, .bool true, .bool true, .bool true], by kernel_rfl, by kernel_rfl⟩
  · exact ⟨.agg #[.bool false, .bool true, .bool false, .bool false, .bool false, .bool false], by kernel_rfl, by kernel_rfl⟩
  · exact ⟨.agg #[.bool false, .bool true, .bool false, .bool false, .bool false, .bool false], by kernel_rfl, by kernel_rfl⟩
set_option maxHeartbeats 1600000 in
set_option maxRecDepth 100000 in
theorem st_may (w : World) (f t : Nat) (h : okT f t) : Calls Tryz.prog 83 #[.int .i64 (f : Nat), .int .i64 (t : Nat)] w (NwPost (.bool true) w) := by
  have hb : f < 6 ∧ t < 6 := by rcases h with ⟨rfl, rfl⟩ | ⟨rfl, rfl⟩ | ⟨rfl, rfl⟩ | ⟨rfl, rfl⟩ | ⟨rfl, rfl⟩ | ⟨rfl, rfl⟩ | ⟨rfl, rfl⟩ <;> decide
  have d1 : (0 : Int) ≤ (f : Int) := by omega
  have d2 : (f : Int) < 6 := by omega
  have d3 : (0 : Int) ≤ (t : Int) := by omega
  have d4 : (t : Int) < 6 := by omega
  go_enter Tryz.func83, Tryz.ntmps83
  go_wp2_with fail
  refine (st_ways w).mono ?_
  rintro e w1 ⟨rfl, c1⟩
  obtain ⟨r, r1, r2⟩ := run_ways_at w1 h
  have HC := Lib.hid c1; clear c1
  go_wp2_with fail
  go_ret
  exact ⟨rfl, HC.out⟩
end Go.Proofs.YthjplmminmhiaaaGreatDoor
