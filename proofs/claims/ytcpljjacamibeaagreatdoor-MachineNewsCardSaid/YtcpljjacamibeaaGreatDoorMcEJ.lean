/- Package code: what may stand in a part; the reader's next byte. -/
/- Package state: which turns may be (ways, May). -/
/- Package state: Move, a turn that may be. -/
/- Package machine: take, where the P's own ring serves. -/
import Derived.Test.YtcpljjacamibeaaGreatDoorMcOJ
import Derived.Test.YtcpljjacamibeaaGreatDoorMClJ
import Derived.Test.YtcpljjacamibeaaGreatDoorMOw
import Derived.Deep.WholeRow
import Derived.Test.YtcpljjacamibeaaGreatDoorMemJ
import Derived.Test.YtcpljjacamibeaaGreatDoorMd4
namespace Go.Proofs.YtcpljjacamibeaaGreatDoor
set_option maxHeartbeats 16000000
set_option maxRecDepth 100000
open Go.RowKit Go.Maps
theorem tyC : VTy Tryz.prog 185 3 3 (.int .i64 0) := ⟨Tryz.underlying185, Tryz.underlying3, fun _ => by kernel_rfl⟩
theorem wpList_vmap_look' {P : Program} {T K E : TypeId} {z : Value} {w : World} {b n : Nat} {f : Int → Option Value} {ops : Array Oper} {rest : List Oper} {o : Oper} {a : Act} {Q : Exit → Act → World → Prop} (hg : o.guard = none) (m x : Operand) (hop : o.op = Op.lookup T m x false) (h : VMap P K w b n f) (t : VTy P T K E z) (hm : a.eval m = .map (some b)) {k : Int} (hx : a.eval x = .int .i64 k) (hk : Wf64 k) {u : Value} (hf : f k = some u)
    (hK : wpList P ops Q rest (a.put o.dst u) w) : wpList P ops Q (o :: rest) a w :=
  wpList_vmap_look hg m x hop h t hm hx hk (by rw [hf]; exact hK)
theorem most_at (G F S part : Nat) (hp : part ≤ 6) : (putV (putV (putV (putV (putV (putV (putV (fun _ => none) 0 (Value.int .i64 1)) 1 (Value.int .i64 256)) 2 (Value.int .i64 16)) 3 (Value.int .i64 (G : Nat))) 4 (Value.int .i64 (F : Nat))) 5 (Value.int .i64 (S : Nat))) 6 (Value.int .i64 32)) (part : Nat) = some (Value.int .i64 (mostP G F S part : Nat)) := by
  have : part = 0 ∨ part = 1 ∨ part = 2 ∨ part = 3 ∨ part = 4 ∨ part = 5 ∨ part = 6 := by omega
  rcases this with rfl | rfl | rfl | rfl | rfl | rfl | rfl <;> rfl
theorem cd_fits (w : World) (G F S part v : Nat) (hp : part ≤ 6) : Calls Tryz.prog 255 #[.agg #[.int .i64 (G : Nat), .int .i64 (F : Nat), .int .i64 (S : Nat)], .int .i64 (part : Nat), .int .i64 (v : Nat)] w (NwPost (.bool (fitsP G F S part v)) w) := by
  have hmm := @run_makeMap Tryz.prog
  go_enter Tryz.func255, Tryz.ntmps255
  go_upto_region 1 with fail
  obtain ⟨w1, hw1⟩ : ∃ w1, w1 = w.alloc (.cells #[.int .i64 (G : Nat), .int .i64 (F : Nat), .int .i64 (S : Nat)] 213) := ⟨_, rfl⟩
  have B : Blk w1 w.heap.size 213 #[.int .i64 (G : Nat), .int .i64 (F : Nat), .int .i64 (S : Nat)] := by rw [hw1]; exact Blk.new _ _ _
  have D : Chg [] w w1 := by rw [hw1]; exact (Chg.refl _ _).alloc _
  rw [← hw1]
  have M := VMap.made w1 Tryz.prog 3
  have hne : w.heap.size ∉ [w1.heap.size] := by have := B.lt; simp; omega
  have hnw : ∀ k ∈ [w1.heap.size], w.heap.size ≤ k := by have := D.size; simpa using this
  have B2 := B.alloc (.map #[] 0)
  have D2 := D.alloc (.map #[] 0)
  clear B D hw1
  have HL := Lib.hid (most_at G F S part hp)
  go_wp2_with (first
    | (at_lookup; refine wpList_vmap_look' rfl _ _ rfl M tyC rfl rfl (by unfold Wf64; omega) HL.out ?_)
    | (refine wpList_vmap_insert rfl _ _ _ rfl M tyC rfl rfl (by unfold Wf64; omega) rfl (by decide) ?_
       intro x1 M1 C1 _
       have M := M1
       have B2 := C1.blk B2 hne
       have k0 := B2.cellv 0 rfl
       have k1 := B2.cellv 1 rfl
       have k2 := B2.cellv 2 rfl
       have D2 := D2.new C1 hnw
       clear C1 M1))
  go_ret
  exact ⟨by simp [fitsP], D2⟩
section
variable {P : Program} {ops : Array Oper} {rest : List Oper} {o : Oper} {a : Act} {Q : Exit → Act → World → Prop} {w w' : World}
theorem wpList_build {T : TypeId} {ps : Array (Nat × Operand)} (hg : o.guard = none) (hop : o.op = Op.build T ps) (v : Value) (hr : (execOp a.eval o).run P w = .ok (.value v) w) (hK : wpList P ops Q rest (a.put o.dst v) w) : wpList P ops Q (o :: rest) a w := by
  refine wpList_plain hg fun K' hK' => ?_
  unfold Oper.wp
  rw [hr]; exact hK' _ _ hK
theorem wpList_store {T : TypeId} {p x : Operand} (hg : o.guard = none) (hop : o.op = Op.store T p x) {ad v : Value} (hp : a.eval p = ad) (hx : a.eval x = v) (hr : (Instr.storeAt T ad v).run P w = .ok () w') (hK : wpList P ops Q rest (a.put o.dst undef) w') : wpList P ops Q (o :: rest) a w := by
  refine wpList_plain hg fun K' hK' => ?_
  unfold Oper.wp
  simp [execOp, hop, hp, hx, hr, Result.andThen]
  exact hK' _ _ hK
end
def partsL : List Value := (ptab.flatMap id).map (Value.int .i64)
def partsV : Value := .agg partsL.toArray
theorem cd_parts (w : World) : Calls Tryz.prog 254 #[] w (NwPost partsV w) := by
  go_enter Tryz.func254, Tryz.ntmps254
  have hst : ∀ c : Array Value, c.size = 54 → (Instr.storeAt 343 (.pointer (some ⟨w.heap.size, 0, none⟩)) partsV).run Tryz.prog (w.alloc (.cells c 343)) = .ok () (w.alloc (.cells partsL.toArray 343)) := fun c hc =>
    run_storeAt_new w 343 c partsL.toArray (by kernel_rfl) (by rw [hc]; rfl) (by decide +kernel)
  go_upto_region 1 with fail
  go_wp2_with (first
    | (refine wpList_build (T := 343) rfl rfl partsV (by kernel_rfl) ?_)
    | (refine wpList_store (T := 343) rfl rfl rfl rfl (hst _ rfl) ?_))
  obtain ⟨cs, hcs⟩ : ∃ cs, cs = partsL.toArray := ⟨_, rfl⟩
  have hi : (Tryz.prog.info? 343).map (·.size) = some cs.size := by rw [hcs]; kernel_rfl
  have hV : partsV = .agg cs := by rw [hcs]; rfl
  rw [← hcs, hV]
  clear hst hV hcs
  simp only [Act.put, Array.setIfInBounds, List.size_toArray, List.length_cons, List.length_nil]
  have hr := fun tmps hp => results_cell_row (P := Tryz.prog) (fn := Tryz.f254) rfl tmps _ w.heap.size 343 cs _ _ hp (heap_alloc_new w (.cells cs 343)) Tryz.underlying343 rfl hi
  refine ⟨rfl, _, hr _ ?_, ?_⟩
  · rfl
  · exact ⟨rfl, (Chg.refl [] w).alloc _⟩
theorem run_parts_at (w : World) {o : Nat} (ho : o ≤ 17) {x y z : Int} (h : ptab[o]? = some [x, y, z]) : (Instr.index 343 partsV (.int .i64 (o : Nat))).run Tryz.prog w = .ok (.agg #[.int .i64 x, .int .i64 y, .int .i64 z]) w := by
  have hh : o = 0 ∨ o = 1 ∨ o = 2 ∨ o = 3 ∨ o = 4 ∨ o = 5 ∨ o = 6 ∨ o = 7 ∨ o = 8 ∨ o = 9 ∨ o = 10 ∨ o = 11 ∨ o = 12 ∨ o = 13 ∨ o = 14 ∨ o = 15 ∨ o = 16 ∨ o = 17 := by omega
  rcases hh with rfl | rfl | rfl | rfl | rfl | rfl | rfl | rfl | rfl | rfl | rfl | rfl | rfl | rfl | rfl | rfl | rfl | rfl
  all_goals
    injection h with h; injection h with e1 h; injection h with e2 h; injection h with e3 _
    subst e1 e2 e3
    show _ = _
    kernel_rfl
section
variable {P : Program} {w : World} {g : Nat} {t : TypeId} {cs cs' : Array Value}
theorem run_storeAt_blk (h : Blk w g t cs) (hi : (P.info? t).map (·.size) = some cs'.size) (ho : cs.size = cs'.size) (h1 : cs'.all (·.oneCell') = true) :
    (Instr.storeAt t (.pointer (some ⟨g, 0, none⟩)) (.agg cs')).run P w = .ok () (w.setRow g cs') := by
  simp only [Instr.storeAt, Instr.sureAddr, Sem.run_bind, Sem.run_pure, Result.andThen]
  exact run_storeVar_row w g t t cs cs' h hi ho h1
theorem run_loadAt_blk {n : Nat} {e : TypeId} (h : Blk w g t cs) (hu : P.underlying t = some (.array n e)) (hi : (P.info? t).map (·.size) = some cs.size) :
    (Instr.loadAt t (.pointer (some ⟨g, 0, none⟩))).run P w = .ok (.agg cs) w := by
  simp only [Instr.loadAt, Instr.sureAddr, Sem.run_bind, Sem.run_pure, Result.andThen]
  exact run_loadVar_row w g t t cs (0, 0) _ h hu rfl hi
theorem Blk.row (h : Blk w g t cs) (cs' : Array Value) : Blk (w.setRow g cs') g t cs' := setRow_heap w g cs _ t _ h
theorem Chg.row (w : World) (g : Nat) (cs' : Array Value) : Chg [g] w (w.setRow g cs') := ⟨rfl, rfl, rfl, by simp [World.setRow], fun k hk hn => setRow_other w g k cs' (by simpa using hn)⟩
end
section
variable {P : Program} {ops : Array Oper} {rest : List Oper} {o : Oper} {a : Act} {Q : Exit → Act → World → Prop} {w w' : World}
theorem wpList_load {T : TypeId} {p : Operand} (hg : o.guard = none) (hop : o.op = Op.load T p) {ad v : Value} (hp : a.eval p = ad) (hr : (Instr.loadAt T ad).run P w = .ok v w) (hK : wpList P ops Q rest (a.put o.dst v) w) : wpList P ops Q (o :: rest) a w := by
  refine wpList_plain hg fun K' hK' => ?_
  unfold Oper.wp
  simp [execOp, hop, hp, hr, Result.andThen]
  exact hK' _ _ hK
end
def wyC (f : Nat → Bool) : Array Value := ((List.range 36).map fun i => Value.bool (f i)).toArray
theorem wyC_size (f : Nat → Bool) : (wyC f).size = 36 := by unfold wyC; simp
theorem wyC_at (f : Nat → Bool) {i : Nat} (h : i < 36) : (wyC f)[i]? = some (.bool (f i)) := by unfold wyC; simp [h]
theorem wyC_set (f f' : Nat → Bool) {i : Nat} (h : i < 36) (b : Bool) (hf : ∀ k, k < 36 → f' k = if k = i then b else f k) : (wyC f).setIfInBounds i (.bool b) = wyC f' := by
  apply Array.ext_getElem?
  intro k
  rw [Array.getElem?_setIfInBounds]
  by_cases e : i = k
  · subst e
    rw [if_pos rfl, if_pos (by rw [wyC_size]; exact h), wyC_at _ h, hf i h, if_pos rfl]
  · rw [if_neg e]
    by_cases hk : k < 36
    · rw [wyC_at _ hk, wyC_at _ hk, hf k hk, if_neg (Ne.symm e)]
    · rw [Array.getElem?_eq_none (by rw [wyC_size]; omega), Array.getElem?_eq_none (by rw [wyC_size]; omega)]
def wyF (l : List Nat) (k : Nat) : Bool := l.contains k
theorem wyF_set (l : List Nat) {i : Nat} (h : i < 36) : (wyC (wyF l)).setIfInBounds i (.bool true) = wyC (wyF (i :: l)) :=
  wyC_set _ _ h true (fun k _ => by
    unfold wyF
    by_cases e : k = i
    · subst e; simp
    · rw [if_neg e]; simp [e])
def waysV : Value := .agg (wyC (wyF [25, 19, 17, 16, 15, 13, 8]))
structure WyW (w0 : World) (gR gW gS : Nat) (l : List Nat) (w : World) : Prop where
  r : Blk w gR 300 (wyC (wyF []))
  y : Blk w gW 300 (wyC (wyF l))
  s : Blk w gS 3 #[.int .i64 1, .int .i64 3, .int .i64 4, .int .i64 5]
  c : Chg [] w0 w
  n : w0.heap.size ≤ gW
  m : w0.heap.size ≤ gR
  d : gR ≠ gW
theorem WyW.put {w0 w : World} {gR gW gS : Nat} {l : List Nat} (h : WyW w0 gR gW gS l w) {i : Nat} (hi : i < 36) : WyW w0 gR gW gS (i :: l) (w.setCell ⟨gW, i, none⟩ (.bool true)) :=
  have n := h.n
  ⟨h.r.far (p := ⟨gW, i, none⟩) h.d _, h.y.setv i _ (wyF_set l hi), h.s.far (p := ⟨gW, i, none⟩) (h.s.ne_ h.y (by decide)) _, h.c.setCell (.inr n) _, h.n, h.m, h.d⟩
def WyRel (w0 : World) (gR gW gS : Nat) (gk : Nat) (idx : Value) (w : World) : Prop :=
  (gk = 5 ∧ idx = .int .i64 0 ∧ WyW w0 gR gW gS [8] w) ∨ (gk = 4 ∧ idx = .int .i64 1 ∧ WyW w0 gR gW gS [13, 8] w) ∨ (gk = 3 ∧ idx = .int .i64 2 ∧ WyW w0 gR gW gS [15, 13, 8] w) ∨ (gk = 2 ∧ idx = .int .i64 3 ∧ WyW w0 gR gW gS [16, 15, 13, 8] w) ∨ (gk = 1 ∧ idx = .int .i64 4 ∧ WyW w0 gR gW gS [17, 16, 15, 13, 8] w)
theorem st_ways (w : World) : Calls Tryz.prog 184 #[] w (NwPost waysV w) := by
  go_enter Tryz.func184, Tryz.ntmps184
  go_upto_region 2 with fail
  generalize hw1 : World.alloc (World.alloc w _) _ = w1
  have b1 : Blk w1 w.heap.size 300 (wyC (wyF [])) := by rw [← hw1]; exact (Blk.new _ _ _).alloc _
  have b2 : Blk w1 (w.heap.size + 1) 300 (wyC (wyF [])) := by
    rw [← hw1]
    have h := Blk.new (w.alloc (.cells (wyC (wyF [])) 300)) 300 (wyC (wyF []))
    rw [World.size_alloc] at h
    exact h
  have c1 : Chg [] w w1 := by rw [← hw1]; exact ((Chg.refl [] w).alloc _).alloc _
  clear hw1
  have hd : w.heap.size ≠ w.heap.size + 1 := by omega
  have hn : w.heap.size ≤ w.heap.size + 1 := by omega
  generalize w.heap.size + 1 = gW at b2 hd hn ⊢
  generalize hgR : w.heap.size = gR at b1 hd hn ⊢
  have q0 : w1.cell? ⟨gW, 8, none⟩ = some (.bool false) := b2.cellv 8 rfl
  have q1 := b2.frozen 8
  have H1 := Lib.hid (And.intro b1 (And.intro b2 (And.intro c1 (And.intro hd (And.intro hn hgR))))); clear b1 b2 c1 hd hn hgR
  go_upto_region 3 with fail
  generalize hw2 : World.setCell w1 ⟨gW, 8, none⟩ (.bool true) = w2
  obtain ⟨w3, hw3⟩ : ∃ w3, w3 = w2.alloc (.cells #[.int .i64 1, .int .i64 3, .int .i64 4, .int .i64 5] 3) := ⟨_, rfl⟩
  obtain ⟨gS, hgS⟩ : ∃ gS, gS = w2.heap.size := ⟨_, rfl⟩
  have W3 : WyW w gR gW gS [8] w3 := by
    have hh := H1.out
    have c2 : Chg [gW] w1 w2 := by rw [← hw2]; exact (Chg.refl [gW] w1).setCell (.inl (by simp)) _
    have y2 : Blk w2 gW 300 (wyC (wyF [8])) := by rw [← hw2]; exact hh.2.1.setv 8 _ (wyF_set [] (by decide))
    have n := hh.2.2.2.2.1
    rw [hw3, hgS]
    exact ⟨(c2.blk hh.1 (by simpa using hh.2.2.2.1)).alloc _, y2.alloc _, Blk.new _ _ _, (hh.2.2.1.newS c2 (by have := hh.2.2.2.2.2; simpa [this] using n)).alloc _, by have := hh.2.2.2.2.2; omega, by have := hh.2.2.2.2.2; omega, hh.2.2.2.1⟩
  have HW3 := Lib.hid W3; clear W3 H1 q0 q1 hw2
  go_wp2_with fail
  rw [← hw3, ← hgS]
  clear hw3 hgS
  go_loopg [8] 5 (fun gk idx wr => WyRel w gR gW gS gk idx wr)
  case atStart => exact .inl ⟨rfl, rfl, HW3.out⟩
  case round =>
    rcases hrel with ⟨rfl, rfl, V⟩ | ⟨rfl, rfl, V⟩ | ⟨rfl, rfl, V⟩ | ⟨rfl, rfl, V⟩ | ⟨rfl, rfl, V⟩
    · have q0 : wr.cell? ⟨gW, 13, none⟩ = some (.bool false) := V.y.cellv 13 rfl
      have q1 := V.y.frozen 13
      have t0 := V.s.cellv 0 rfl
      have HV := Lib.hid V; clear V
      go_wp2_with fail
      go_roundg 4
      case measure => omega
      case rel => exact .inr (.inl ⟨rfl, rfl, HV.out.put (i := 13) (by decide)⟩)
    · have q0 : wr.cell? ⟨gW, 15, none⟩ = some (.bool false) := V.y.cellv 15 rfl
      have q1 := V.y.frozen 15
      have t0 := V.s.cellv 1 rfl
      have HV := Lib.hid V; clear V
      go_wp2_with fail
      go_roundg 3
      case measure => omega
      case rel => exact .inr (.inr (.inl ⟨rfl, rfl, HV.out.put (i := 15) (by decide)⟩))
    · have q0 : wr.cell? ⟨gW, 16, none⟩ = some (.bool false) := V.y.cellv 16 rfl
      have q1 := V.y.frozen 16
      have t0 := V.s.cellv 2 rfl
      have HV := Lib.hid V; clear V
      go_wp2_with fail
      go_roundg 2
      case measure => omega
      case rel => exact .inr (.inr (.inr (.inl ⟨rfl, rfl, HV.out.put (i := 16) (by decide)⟩)))
    · have q0 : wr.cell? ⟨gW, 17, none⟩ = some (.bool false) := V.y.cellv 17 rfl
      have q1 := V.y.frozen 17
      have t0 := V.s.cellv 3 rfl
      have HV := Lib.hid V; clear V
      go_wp2_with fail
      go_roundg 1
      case measure => omega
      case rel => exact .inr (.inr (.inr (.inr (⟨rfl, rfl, HV.out.put (i := 17) (by decide)⟩))))
    · have q0 : wr.cell? ⟨gW, 19, none⟩ = some (.bool false) := V.y.cellv 19 rfl
      have q1 := V.y.frozen 19
      have q2 : wr.cell? ⟨gW, 25, none⟩ = some (.bool false) := V.y.cellv 25 rfl
      have q3 := V.y.frozen 25
      have HV := Lib.hid V; clear V HW3
      go_upto_region 10 with fail
      generalize hw4 : World.setCell (World.setCell wr ⟨gW, 19, none⟩ (.bool true)) ⟨gW, 25, none⟩ (.bool true) = w4
      have V4 : WyW w gR gW gS [25, 19, 17, 16, 15, 13, 8] w4 := by rw [← hw4]; exact (HV.out.put (i := 19) (by decide)).put (i := 25) (by decide)
      clear hw4 q0 q1 q2 q3 HV
      have hld := run_loadAt_blk (P := Tryz.prog) V4.y Tryz.underlying300 (by kernel_rfl)
      have hst := run_storeAt_blk (P := Tryz.prog) (cs' := wyC (wyF [25, 19, 17, 16, 15, 13, 8])) V4.r (by kernel_rfl) (by rw [wyC_size, wyC_size]) (by decide +kernel)
      have R5 := V4.r.row (wyC (wyF [25, 19, 17, 16, 15, 13, 8]))
      have C5 := Chg.row w4 gR (wyC (wyF [25, 19, 17, 16, 15, 13, 8]))
      have HL := Lib.hid hld; have HS := Lib.hid hst; clear hld hst
      go_wp2_with (first
        | (refine wpList_load (T := 300) rfl rfl rfl HL.out ?_)
        | (refine wpList_store (T := 300) rfl rfl rfl rfl HS.out ?_))
      have hi : (Tryz.prog.info? 300).map (·.size) = some (wyC (wyF [25, 19, 17, 16, 15, 13, 8])).size := by rw [wyC_size]; kernel_rfl
      clear HL HS C5
      have n2 := V4.m
      have C6 : Chg [] w (w4.setRow gR (wyC (wyF [25, 19, 17, 16, 15, 13, 8]))) := V4.c.newS (Chg.row w4 gR _) (by simpa using n2)
      clear V4
      unfold waysV
      generalize wyC (wyF [25, 19, 17, 16, 15, 13, 8]) = cs at R5 hi C6 ⊢
      simp only [Act.put, Array.setIfInBounds, List.size_toArray, List.length_cons, List.length_nil]
      have hr := fun tmps hp => results_cell_row (P := Tryz.prog) (fn := Tryz.f184) rfl tmps _ gR 300 cs _ _ hp R5 Tryz.underlying300 rfl hi
      refine ⟨rfl, _, hr _ ?_, rfl, C6⟩
      rfl
def okT (f t : Nat) : Prop := (f = 1 ∧ t = 2) ∨ (f = 2 ∧ t = 1) ∨ (f = 2 ∧ t = 3) ∨ (f = 2 ∧ t = 4) ∨ (f = 2 ∧ t = 5) ∨ (f = 3 ∧ t = 1) ∨ (f = 4 ∧ t = 1)
theorem run_ways_at (w : World) {f t : Nat} (h : okT f t) : ∃ r : Value, (Instr.index 300 waysV (.int .i64 (f : Nat))).run Tryz.prog w = .ok r w ∧ (Instr.index 299 r (.int .i64 (t : Nat))).run Tryz.prog w = .ok (.bool true) w := by
  rcases h with ⟨rfl, rfl⟩ | ⟨rfl, rfl⟩ | ⟨rfl, rfl⟩ | ⟨rfl, rfl⟩ | ⟨rfl, rfl⟩ | ⟨rfl, rfl⟩ | ⟨rfl, rfl⟩
  · exact ⟨.agg #[.bool false, .bool false, .bool true, .bool false, .bool false, .bool false], by kernel_rfl, by kernel_rfl⟩
  · exact ⟨.agg #[.bool false, .bool true, .bool false, .bool true, .bool true, .bool true], by kernel_rfl, by kernel_rfl⟩
  · exact ⟨.agg #[.bool false, .bool true, .bool false, .bool true, .bool true, .bool true], by kernel_rfl, by kernel_rfl⟩
  · exact ⟨.agg #[.bool false, .bool true, .bool false, .bool true, .bool true, .bool true], by kernel_rfl, by kernel_rfl⟩
  · exact ⟨.agg #[.bool false, .bool true, .bool false, .bool true, .bool true, .bool true], by kernel_rfl, by kernel_rfl⟩
  · exact ⟨.agg #[.bool false, .bool true, .bool false, .bool false, .bool false, .bool false], by kernel_rfl, by kernel_rfl⟩
  · exact ⟨.agg #[.bool false, .bool true, .bool false, .bool false, .bool false, .bool false], by kernel_rfl, by kernel_rfl⟩
theorem st_may (w : World) (f t : Nat) (h : okT f t) : Calls Tryz.prog 125 #[.int .i64 (f : Nat), .int .i64 (t : Nat)] w (NwPost (.bool true) w) := by
  have hb : f < 6 ∧ t < 6 := by rcases h with ⟨rfl, rfl⟩ | ⟨rfl, rfl⟩ | ⟨rfl, rfl⟩ | ⟨rfl, rfl⟩ | ⟨rfl, rfl⟩ | ⟨rfl, rfl⟩ | ⟨rfl, rfl⟩ <;> decide
  have d1 : (0 : Int) ≤ (f : Int) := by omega
  have d2 : (f : Int) < 6 := by omega
  have d3 : (0 : Int) ≤ (t : Int) := by omega
  have d4 : (t : Int) < 6 := by omega
  go_enter Tryz.func125, Tryz.ntmps125
  go_wp2_with fail
  refine (st_ways w).mono ?_
  rintro e w1 ⟨rfl, c1⟩
  obtain ⟨r, r1, r2⟩ := run_ways_at w1 h
  have HC := Lib.hid c1; clear c1
  go_wp2_with fail
  go_ret
  exact ⟨rfl, HC.out⟩
theorem stC_dec {xs : List Int} {k f t : Nat} (hx : xs[k]? = some (f : Int)) (hf : f < 6) (ht : t < 6) (hne : f ≠ t) (i : Nat) :
    cntI (xs.set k (t : Int)) (i : Int) = if i = t then cntI xs (i : Int) + 1 else if i = f then cntI xs (i : Int) - 1 else cntI xs (i : Int) := by
  have hk := (List.getElem?_eq_some_iff.1 hx).1
  have hxk := (List.getElem?_eq_some_iff.1 hx).2
  unfold cntI
  rw [List.count_set hk, hxk]
  by_cases h1 : i = t
  · subst h1
    rw [if_pos rfl]
    have e1 : ¬ ((f : Int) == (i : Int)) = true := by simp; omega
    have e2 : ((i : Int) == (i : Int)) = true := by simp
    simp only [e1, e2, if_true, if_false]
    simp
  · rw [if_neg h1]
    by_cases h2 : i = f
    · subst h2
      rw [if_pos rfl]
      have e2 : ¬ ((t : Int) == (i : Int)) = true := by simp; omega
      simp [e2]
    · rw [if_neg h2]
      have e1 : ¬ ((f : Int) == (i : Int)) = true := by simp; omega
      have e2 : ¬ ((t : Int) == (i : Int)) = true := by simp; omega
      simp [e1, e2]
theorem cntI_pos {xs : List Int} {k f : Nat} (hx : xs[k]? = some (f : Int)) : 1 ≤ cntI xs (f : Int) := List.count_pos_iff.2 (List.mem_of_getElem? hx)
def MvPost (g : Nat) (v : Value) (xs : List Int) (w : World) (e : Ending) (w' : World) : Prop := e = .returned (.int .i64 0) ∧ IsSt w' g v xs ∧ Stp (g :: fpv v) (g :: fpv v) w w'
theorem st_move (w : World) (g : Nat) (v : Value) (xs : List Int) (I : IsSt w g v xs) (k f t : Nat) (hx : xs[k]? = some (f : Int)) (h : okT f t) (hl : xs.length ≤ 1000000) : Calls Tryz.prog 82 #[.pointer (some ⟨g, 0, none⟩), .int .i64 (k : Nat), .int .i64 (t : Nat)] w (MvPost g v (xs.set k (t : Int)) w) := by
  have hb : 1 ≤ f ∧ f < 6 ∧ 1 ≤ t ∧ t < 6 ∧ f ≠ t := by rcases h with ⟨rfl, rfl⟩ | ⟨rfl, rfl⟩ | ⟨rfl, rfl⟩ | ⟨rfl, rfl⟩ | ⟨rfl, rfl⟩ | ⟨rfl, rfl⟩ | ⟨rfl, rfl⟩ <;> decide
  have K1 := st_of w g v xs I k (f : Int) hx
  obtain ⟨A, c, hv⟩ := I.o.slice
  have c0 : w.cell? ⟨g, 0, none⟩ = some v := I.b.cellv 0 rfl
  obtain ⟨n, hn⟩ : ∃ n, n = xs.length := ⟨_, rfl⟩
  rw [hv, ← hn] at c0
  have O := I.o
  rw [hv, ← hn] at O
  obtain ⟨b, hA, ck, fk, -⟩ := O.cell hx
  subst hA
  have hk : k < n := by rw [hn]; exact (List.getElem?_eq_some_iff.1 hx).1
  have hbv : b ∈ fpv v := by rw [hv]; simp [fpv, Value.ownBlock]
  have e1 : (0 : Int) ≤ k := by omega
  have e2 : (k : Int) < (n : Int) := by omega
  have e3 : ¬ (f : Int) = 0 := by omega
  have e4 : ((f : Int) == 0) = false := by rw [beq_eq_false_iff_ne]; omega
  have HI := Lib.hid (And.intro I (And.intro hn (And.intro hv (And.intro hbv (And.intro hx (And.intro K1 O)))))); clear I hn hv hbv hx K1 O
  go_enter Tryz.func82, Tryz.ntmps82
  go_wp2_with fail
  refine HI.out.2.2.2.2.2.1.mono ?_
  rintro e w1 ⟨rfl, rfl⟩
  go_wp2_with fail
  refine (st_may w1 f t h).mono ?_
  rintro e w2 ⟨rfl, c2⟩
  have I2 : IsSt w2 g v xs := ⟨c2.blk HI.out.1.b (by simp), HI.out.1.o.chg0 c2, HI.out.1.r⟩
  have c0' : w2.cell? ⟨g, 0, none⟩ = some (.slice (some ⟨b, 0, none⟩) n c) := by
    have e : w2.cell? ⟨g, 0, none⟩ = some v := I2.b.cellv 0 rfl
    rw [e, HI.out.2.1]; exact congrArg some HI.out.2.2.1
  have ck' : w2.cell? ⟨b, k, none⟩ = some (.int .i64 (f : Nat)) := c2.cellv (lt_of_cellM ck) (by simp) ck
  have cf : w2.cell? ⟨g, 1 + f, none⟩ = some (.int .i64 (cntI xs (f : Int) : Nat)) := I2.b.cellv (1 + f) (stC_at v _ (by omega))
  have ff := I2.b.frozen (1 + f)
  have g0 : (0 : Int) ≤ (f : Int) := by omega
  have g1 : (f : Int) < 6 := by omega
  have g2 : (0 : Int) ≤ (t : Int) := by omega
  have g3 : (t : Int) < 6 := by omega
  have HJ := Lib.hid (And.intro I2 c2); clear I2 c2 c0 ck fk
  go_upto_region 7 with fail
  go_still_tail 15, (by kernel_rfl)
  change wpList _ _ _ _ _ w2.drew
  obtain ⟨p, hp⟩ : ∃ p, cntI xs (f : Int) = p + 1 := ⟨cntI xs (f : Int) - 1, by have := cntI_pos HI.out.2.2.2.2.1; omega⟩
  have hpl : p ≤ 1000000 := by have := cntI_le xs (f : Int); omega
  rw [hp] at cf ⊢
  have ew : IntKind.i64.wrap (((p + 1 : Nat) : Int) - 1) = (p : Int) := by rw [show ((p + 1 : Nat) : Int) - 1 = (p : Int) by omega]; exact IntWalk.i64_in _ (by omega)
  rw [ew]
  have cf' : w2.drew.cell? ⟨g, 1 + f, none⟩ = some (.int .i64 ((p + 1 : Nat) : Int)) := cf
  have ff' : w2.drew.frozen? ⟨g, 1 + f, none⟩ = false := ff
  go_upto_region 8 with fail
  generalize hw3 : World.drew (World.setCell w2 ⟨g, 1 + f, none⟩ (.int .i64 (p : Nat))) = w3
  have B3 : Blk w3 g 162 (stC v fun i => if i = f then p else cntI xs (i : Int)) := by
    rw [← hw3]
    exact (HJ.out.1.b.setv (1 + f) (.int .i64 (p : Nat)) (stC_set _ _ (by omega) p)).drew
  have C3 : Chg [g] w1 w3 := by rw [← hw3]; exact (((HJ.out.2.mono (by simp)).setCell (p := ⟨g, 1 + f, none⟩) (.inl (by simp)) (.int .i64 (p : Nat))).drew)
  clear hw3 cf cf' ff ff' c0' ck' ew
  have ct : w3.cell? ⟨g, 1 + t, none⟩ = some (.int .i64 (cntI xs (t : Int) : Nat)) := by
    have := B3.cellv (1 + t) (stC_at v _ (i := t) (by omega))
    rwa [if_neg (fun e => hb.2.2.2.2 e.symm)] at this
  have ft := B3.frozen (1 + t)
  have HK := Lib.hid (And.intro B3 (And.intro C3 hp)); clear B3 C3 hp
  obtain ⟨q, hq⟩ : ∃ q, cntI xs (t : Int) = q := ⟨_, rfl⟩
  have hql : q ≤ 1000000 := by have := cntI_le xs (t : Int); omega
  rw [hq] at ct
  have hq := Lib.hid hq
  go_still_tail 9, (by kernel_rfl)
  change wpList _ _ _ _ _ w3.drew
  have ew : IntKind.i64.wrap ((q : Int) + 1) = ((q + 1 : Nat) : Int) := by rw [show (q : Int) + 1 = ((q + 1 : Nat) : Int) by omega]; exact IntWalk.i64_in _ (by omega)
  rw [ew]
  have ct' : w3.drew.cell? ⟨g, 1 + t, none⟩ = some (.int .i64 (q : Int)) := ct
  have ft' : w3.drew.frozen? ⟨g, 1 + t, none⟩ = false := ft
  clear ew
  go_upto_region 9 with fail
  have eq1 : (q : Int) + 1 = ((q + 1 : Nat) : Int) := rfl
  rw [eq1]
  clear eq1
  generalize hw4 : World.drew (World.setCell w3 ⟨g, 1 + t, none⟩ (.int .i64 ((q + 1 : Nat) : Int))) = w4
  have B4 : Blk w4 g 162 (stC v fun i => if i = t then q + 1 else if i = f then p else cntI xs (i : Int)) := by
    rw [← hw4]
    exact (HK.out.1.setv (1 + t) (.int .i64 ((q + 1 : Nat) : Int)) (stC_set _ _ (by omega) (q + 1))).drew
  have C4 : Chg [g] w1 w4 := by rw [← hw4]; exact ((HK.out.2.1.setCell (p := ⟨g, 1 + t, none⟩) (.inl (by simp)) (.int .i64 ((q + 1 : Nat) : Int))).drew)
  clear hw4 ct ct' ft ft'
  have hgv : g ∉ fpv v := fun hm => own_ne HI.out.1.o.o HI.out.1.b (by decide) (mem_fpv.1 hm)
  have O4 := HI.out.1.o.chg C4 (fun k' hk' hm => hgv (by have e : k' = g := (by simpa using hm); rw [← e]; exact hk'))
  have c4 : w4.cell? ⟨g, 0, none⟩ = some (.slice (some ⟨b, 0, none⟩) n c) := by
    have e : w4.cell? ⟨g, 0, none⟩ = some v := B4.cellv 0 rfl
    rw [e, HI.out.2.1]; exact congrArg some HI.out.2.2.1
  have O4' := O4
  rw [HI.out.2.2.1] at O4'
  obtain ⟨b', hb', ck, fk, -⟩ := O4'.cell HI.out.2.2.2.2.1
  injection hb' with hb'
  injection hb' with hb'
  subst hb'
  have HL := Lib.hid (And.intro B4 (And.intro C4 (And.intro hgv O4'))); clear B4 C4 hgv O4 O4'
  go_wp2_with fail
  go_ret
  have hk2 : k < xs.length := by rw [← HI.out.2.1]; exact hk
  have cb : Chg [b] w4 (w4.setCell ⟨b, k, none⟩ (.int .i64 (t : Nat))) := (Chg.refl [b] w4).setCell (.inl (by simp)) _
  have hgb : g ≠ b := fun e => HL.out.2.2.1 (by rw [e]; exact HI.out.2.2.2.1)
  refine ⟨rfl, ⟨?_, ?_, fun x hx => ?_⟩, ⟨(HL.out.2.1.mono (by simp)).trans (cb.mono (fun k' hk' => .inl (by have e : k' = b := (by simpa using hk'); rw [e]; exact List.mem_cons_of_mem _ HI.out.2.2.2.1))), fun k' hk' => .inl hk'⟩⟩
  · have h5 := cb.blk HL.out.1 (by simpa using hgb)
    have e : (fun i : Nat => cntI (xs.set k (t : Int)) (i : Int)) = fun i => if i = t then q + 1 else if i = f then p else cntI xs (i : Int) := by
      funext i
      rw [stC_dec (xs := xs) HI.out.2.2.2.2.1 hb.2.1 hb.2.2.2.1 hb.2.2.2.2 i]
      by_cases h1 : i = t
      · subst h1; rw [if_pos rfl, if_pos rfl, hq.out]
      · rw [if_neg h1, if_neg h1]
        by_cases h2 : i = f
        · subst h2; rw [if_pos rfl, if_pos rfl, HK.out.2.2]; omega
        · rw [if_neg h2, if_neg h2]
    rw [e]; exact h5
  · have h6 := OwnI.set_ HL.out.2.2.2 hk2 (t : Int)
    rw [← HI.out.2.2.1] at h6
    exact h6
  · rcases List.mem_or_eq_of_mem_set hx with h1 | h1
    · exact HI.out.1.r x h1
    · omega
def takeA (m : Mac) (q g : Nat) : Mac := { m with ps := updV m.ps q { m.ps q with g := (g : Nat), row := 0, picks := (m.ps q).picks + 1 }, rg := updV m.rg q (rgPop (m.rg q)), sts := m.sts.set g 2, gs := updV m.gs g { m.gs g with p := (q : Nat) } }
theorem updV_updV {α : Type} (f : Nat → α) (i : Nat) (x y : α) : updV (updV f i x) i y = updV f i y := by
  funext k; unfold updV; by_cases h : k = i <;> simp [h]
section
variable {W : Bs} {w : World} {p : MAt} {m : Mac} (M : MM W w p m)
include M
theorem m_take (q g : Nat) (vic : Int) (hq : q < m.np) (h0 : m.ph.ph = 0) (hvq : p.vq = .slice none 0 0) (pk : Nat) (hpk : (m.ps q).picks = pk) (bpk : pk ≤ 1000000) (hs : (m.rg q).hs = false) (hfr : (m.rg q).fr < 256) (hn0 : 0 < (m.rg q).n) (hn : (m.rg q).n ≤ 256) (hg : (m.rg q).l (m.rg q).fr = (g : Nat)) (hgn : g < m.ng) (hst : m.sts[g]? = some 1) (hsl : m.sts.length ≤ 1000000) :
    Calls Tryz.prog 86 #[.pointer (some ⟨p.gm, 0, none⟩), .int .i64 (q : Nat), .int .i64 vic] w (fun e w' => e = .returned (.tuple #[]) ∧ MM W w' p (takeA m q g)) := by
  obtain ⟨b, cap, c9, hps⟩ := M.psl
  obtain ⟨hv, hbq, hbl⟩ := hps q hq
  rw [hv] at c9
  have e1 : (0 : Int) ≤ q := by omega
  have e2 : (q : Int) < (m.np : Int) := by omega
  have k2 : w.cell? ⟨p.bp q, 2, none⟩ = some (.int .i64 (pk : Nat)) := by rw [← hpk]; exact (M.pb hq).cellv 2 rfl
  have f2 := (M.pb hq).frozen 2
  have HM := Lib.hid M
  clear hps hv M
  go_enter Tryz.func86, Tryz.ntmps86
  go_upto_region 3 with fail
  obtain ⟨w1, hw1⟩ : ∃ w1, w1 = w.setCell ⟨p.bp q, 2, none⟩ (.int .i64 ((pk : Int) + 1)) := ⟨_, rfl⟩
  rw [← hw1]
  have M1 : MM W w1 p { m with ps := updV m.ps q { m.ps q with picks := (m.ps q).picks + 1 } } := by
    rw [hw1, ← hpk]
    exact HM.out.pset hq 2 _ _ rfl
  obtain ⟨m1, hm1⟩ : ∃ m1, m1 = { m with ps := updV m.ps q { m.ps q with picks := (m.ps q).picks + 1 } } := ⟨_, rfl⟩
  rw [← hm1] at M1
  have x1 : m1.ps q = { m.ps q with picks := (m.ps q).picks + 1 } := by rw [hm1]; exact updV_same _ _ _
  have k2 : w1.cell? ⟨p.bp q, 2, none⟩ = some (.int .i64 ((pk : Int) + 1)) := by
    have h := (M1.pb (q := q) (by rw [hm1]; exact hq)).cellv 2 (show (prcC (m1.ps q) (p.vsc q) (p.bn q))[2]? = some (.int .i64 ((m1.ps q).picks)) from rfl)
    rw [x1] at h
    rw [h]
    show some (Value.int .i64 ((m.ps q).picks + 1)) = _
    rw [hpk]
  have c15 : w1.cell? ⟨p.gm, 15, none⟩ = some (.pointer (some ⟨p.gph, 0, none⟩)) := M1.mb.cellv 15 rfl
  have c10 : w1.cell? ⟨p.gm, 10, none⟩ = some (.pointer (some ⟨p.gsd, 0, none⟩)) := M1.mb.cellv 10 rfl
  have c7 : w1.cell? ⟨p.gm, 7, none⟩ = some (.pointer (some ⟨p.gst, 0, none⟩)) := M1.mb.cellv 7 rfl
  have KP := ph_phase_ok p.gph p.bsd m1.ph w1 M1.ph
  have hm1ph : m1.ph = m.ph := by rw [hm1]
  rw [hm1ph, h0] at KP
  have KS := sc_pick_own M1.sc hvq q (by rw [hm1]; exact hq) 61 vic (.inr rfl) (by rw [hm1]; exact hs) (by rw [hm1]; exact hfr) (by rw [hm1]; exact hn0) (by rw [hm1]; exact hn)
  have H1 := Lib.hid (And.intro M1 (And.intro KP (And.intro KS hm1)))
  clear M1 KP KS hw1 c9 hbq hbl f2 hm1ph x1
  by_cases hpar : ((pk : Int) + 1) % 2 = 0
  · have d1 : (((pk : Int) + 1) % 2 == 0) = true := by rw [beq_iff_eq]; exact hpar
    go_wp2_with fail
    clear d1 hpar k2 c15
    refine H1.out.2.2.1.mono ?_
    rintro e w2 ⟨rfl, I2, C2⟩
    have M2 := H1.out.1.scT I2 C2 (fun j hj => .inl (.inr (.inr (.inr (.inr ⟨q, by rw [H1.out.2.2.2]; exact hq, by simpa using hj⟩))))) (fun j hj => .inl hj)
    have eg : (m1.rg q).l (m1.rg q).fr = (g : Nat) := by rw [H1.out.2.2.2]; exact hg
    rw [eg]
    have Cl := C2.blk (by exact H1.out.1.mb) (by have := H1.out.1.ap .mach .sched p.gm rfl; simp; intro e; exact absurd (this (.inr (.inr (.inr (.inr ⟨q, by rw [H1.out.2.2.2]; exact hq, e⟩))))) (by simp))
    have c7' : w2.cell? ⟨p.gm, 7, none⟩ = some (.pointer (some ⟨p.gst, 0, none⟩)) := Cl.cellv 7 rfl
    have H2 := Lib.hid M2; clear M2 I2 C2 Cl c10 c7 eg
    go_wp2_with fail
    obtain ⟨m2, hm2⟩ : ∃ m2, m2 = { m1 with rg := updV m1.rg q (rgPop (m1.rg q)), com := m1.com } := ⟨_, rfl⟩
    have M2 : MM W w2 p m2 := by rw [hm2]; exact H2.out
    have KM := st_move w2 p.gst p.vst m2.sts M2.st g 1 2 (by rw [hm2, H1.out.2.2.2]; exact hst) (.inl ⟨rfl, rfl⟩) (by rw [hm2, H1.out.2.2.2]; exact hsl)
    refine KM.mono ?_
    rintro e w3 ⟨rfl, I3, S3⟩
    have M3 := M2.stT I3 rfl S3
    obtain ⟨m3, hm3⟩ : ∃ m3, m3 = { m2 with sts := m2.sts.set g ((2 : Nat) : Int) } := ⟨_, rfl⟩
    rw [← hm3] at M3
    have hgn3 : g < m3.ng := by rw [hm3, hm2, H1.out.2.2.2]; exact hgn
    have hq3 : q < m3.np := by rw [hm3, hm2, H1.out.2.2.2]; exact hq
    obtain ⟨bb, cap2, c8, hgs⟩ := M3.gsl
    obtain ⟨hv8, hbg, -⟩ := hgs g hgn3
    rw [hv8] at c8
    have z0 := (M3.pb hq3).cellv 0 rfl
    have z1 := (M3.pb hq3).cellv 1 rfl
    have y0 := (M3.pb hq3).frozen 0
    have y1 := (M3.pb hq3).frozen 1
    have z2 := (M3.gb hgn3).cellv 19 (gorC_19 _)
    have y2 := (M3.gb hgn3).frozen 19
    have n1 : ¬ p.bg g = p.bp q := (M3.gb hgn3).ne_ (M3.pb hq3) (by decide)
    have n2 : ¬ p.bp q = p.bg g := fun e => n1 e.symm
    have u1 : (0 : Int) ≤ (g : Int) := by omega
    have u2 : (g : Int) < (m3.ng : Int) := by omega
    have H3 := Lib.hid (And.intro M3 (And.intro hm3 hm2)); clear M3 I3 S3 KM M2 hgs hv8 hm3 hm2
    go_wp2_with fail
    go_end0
    have M4 := ((H3.out.1.pset hq3 0 (.int .i64 (g : Nat)) { m3.ps q with g := (g : Nat) } rfl).pset (q := q) hq3 1 (.int .i64 0) { m3.ps q with g := (g : Nat), row := 0 } (by show (prcC (updV m3.ps q _ q) _ _).setIfInBounds 1 _ = _; rw [updV_same]; rfl)).gset (g := g) hgn3 19 (.int .i64 (q : Nat)) { m3.gs g with p := (q : Nat) } rfl
    refine ⟨rfl, ?_⟩
    have h := M4
    rw [H3.out.2.1, H3.out.2.2, H1.out.2.2.2] at h
    simp only [updV_same, updV_updV] at h
    exact h
  · have d1 : (((pk : Int) + 1) % 2 == 0) = false := by rw [beq_eq_false_iff_ne]; exact hpar
    go_wp2_with fail
    refine H1.out.2.1.mono ?_
    rintro e w1 ⟨rfl, rfl⟩
    go_wp2_with fail
    clear d1 hpar k2 c15
    refine H1.out.2.2.1.mono ?_
    rintro e w2 ⟨rfl, I2, C2⟩
    have M2 := H1.out.1.scT I2 C2 (fun j hj => .inl (.inr (.inr (.inr (.inr ⟨q, by rw [H1.out.2.2.2]; exact hq, by simpa using hj⟩))))) (fun j hj => .inl hj)
    have eg : (m1.rg q).l (m1.rg q).fr = (g : Nat) := by rw [H1.out.2.2.2]; exact hg
    rw [eg]
    have Cl := C2.blk (by exact H1.out.1.mb) (by have := H1.out.1.ap .mach .sched p.gm rfl; simp; intro e; exact absurd (this (.inr (.inr (.inr (.inr ⟨q, by rw [H1.out.2.2.2]; exact hq, e⟩))))) (by simp))
    have c7' : w2.cell? ⟨p.gm, 7, none⟩ = some (.pointer (some ⟨p.gst, 0, none⟩)) := Cl.cellv 7 rfl
    have H2 := Lib.hid M2; clear M2 I2 C2 Cl c10 c7 eg
    go_wp2_with fail
    obtain ⟨m2, hm2⟩ : ∃ m2, m2 = { m1 with rg := updV m1.rg q (rgPop (m1.rg q)), com := m1.com } := ⟨_, rfl⟩
    have M2 : MM W w2 p m2 := by rw [hm2]; exact H2.out
    have KM := st_move w2 p.gst p.vst m2.sts M2.st g 1 2 (by rw [hm2, H1.out.2.2.2]; exact hst) (.inl ⟨rfl, rfl⟩) (by rw [hm2, H1.out.2.2.2]; exact hsl)
    refine KM.mono ?_
    rintro e w3 ⟨rfl, I3, S3⟩
    have M3 := M2.stT I3 rfl S3
    obtain ⟨m3, hm3⟩ : ∃ m3, m3 = { m2 with sts := m2.sts.set g ((2 : Nat) : Int) } := ⟨_, rfl⟩
    rw [← hm3] at M3
    have hgn3 : g < m3.ng := by rw [hm3, hm2, H1.out.2.2.2]; exact hgn
    have hq3 : q < m3.np := by rw [hm3, hm2, H1.out.2.2.2]; exact hq
    obtain ⟨bb, cap2, c8, hgs⟩ := M3.gsl
    obtain ⟨hv8, hbg, -⟩ := hgs g hgn3
    rw [hv8] at c8
    have z0 := (M3.pb hq3).cellv 0 rfl
    have z1 := (M3.pb hq3).cellv 1 rfl
    have y0 := (M3.pb hq3).frozen 0
    have y1 := (M3.pb hq3).frozen 1
    have z2 := (M3.gb hgn3).cellv 19 (gorC_19 _)
    have y2 := (M3.gb hgn3).frozen 19
    have n1 : ¬ p.bg g = p.bp q := (M3.gb hgn3).ne_ (M3.pb hq3) (by decide)
    have n2 : ¬ p.bp q = p.bg g := fun e => n1 e.symm
    have u1 : (0 : Int) ≤ (g : Int) := by omega
    have u2 : (g : Int) < (m3.ng : Int) := by omega
    have H3 := Lib.hid (And.intro M3 (And.intro hm3 hm2)); clear M3 I3 S3 KM M2 hgs hv8 hm3 hm2
    go_wp2_with fail
    go_end0
    have M4 := ((H3.out.1.pset hq3 0 (.int .i64 (g : Nat)) { m3.ps q with g := (g : Nat) } rfl).pset (q := q) hq3 1 (.int .i64 0) { m3.ps q with g := (g : Nat), row := 0 } (by show (prcC (updV m3.ps q _ q) _ _).setIfInBounds 1 _ = _; rw [updV_same]; rfl)).gset (g := g) hgn3 19 (.int .i64 (q : Nat)) { m3.gs g with p := (q : Nat) } rfl
    refine ⟨rfl, ?_⟩
    have h := M4
    rw [H3.out.2.1, H3.out.2.2, H1.out.2.2.2] at h
    simp only [updV_same, updV_updV] at h
    exact h
end
end Go.Proofs.YtcpljjacamibeaaGreatDoor
