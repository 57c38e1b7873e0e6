/- The document's Encode, of a program that may be. -/
import Derived.Test.YthjplmminmhiaaaGreatDoorMf2J
import Derived.Test.YthjplmminmhiaaaGreatDoorMcIJ
import Derived.Laws.BytesArg
namespace Go.Proofs.YthjplmminmhiaaaGreatDoor
open Go.RowKit Go.Maps

theorem tyB8 : SlV Tryz.prog 105 5 (.int .u8 0) 1 := ⟨Tryz.underlying105, by kernel_rfl, rfl, by decide⟩
theorem u8s_one2 (bs : List Nat) : ∀ y ∈ u8s bs, y.oneCell' = true := by
  intro y hy
  obtain ⟨x, _, rfl⟩ := List.mem_map.1 hy
  rfl
theorem u8s_cat (a b : List Nat) : u8s (a ++ b) = u8s a ++ u8s b := by unfold u8s; simp
theorem RdV.ofBlk2 {w : World} {g n : Nat} {t : TypeId} {ys : List Value} (h : Blk w g t ys.toArray) (hn : ys.length = n) (h1 : ∀ y ∈ ys, y.oneCell' = true) : RdV w w.heap.size (.slice (some ⟨g, 0, none⟩) n n) ys :=
  ⟨⟨_, _, by rw [hn]⟩, (fun A m c e i y hy => by
    injection e with e1 e2 e3
    exact ⟨g, 0, e1.symm, h.lt, by rw [Nat.zero_add]; exact h.cellv i (by rw [List.getElem?_toArray]; exact hy)⟩), h1⟩
/-- A list that was written out is the call's own. -/
theorem OwnV.ofBlk {w : World} {g n : Nat} {E : TypeId} {ys : List Value} (h : Blk w g E ys.toArray) (hn : ys.length = n) (hm : n ≤ 1000000) : OwnV E w (.slice (some ⟨g, 0, none⟩) n n) ys := by
  subst hn
  exact ⟨⟨by omega, .inr ⟨g, ys.length, ys.toArray, rfl, Nat.zero_le _, h, Nat.le_refl _, by unfold maxLen; omega, by simp, by simp⟩⟩⟩
/-- Bytes that the call makes. -/
structure BtR (w0 : World) (bs : List Nat) (v : Value) (w : World) : Prop where
  o : OwnV 5 w v (u8s bs)
  c : Chg [] w0 w
  f : ∀ k ∈ fpv v, w0.heap.size ≤ k
theorem BtR.cat {w0 w w' : World} {bs ys : List Nat} {v v' : Value} {o : Obj} (E : BtR w0 bs v w) (O : OwnV 5 w' v' (u8s bs ++ u8s ys)) (S : Stp (fpv v) (fpv v') (w.alloc o) w') : BtR w0 (bs ++ ys) v' w' :=
  ⟨by rw [u8s_cat]; exact O, (E.c.alloc o).newS S.c E.f, fun k hk => by
    rcases S.f k hk with h | h
    · exact E.f k h
    · have := (E.c.alloc o).size; omega⟩
theorem BtR.alloc {w0 w : World} {bs : List Nat} {v : Value} (E : BtR w0 bs v w) (o : Obj) : BtR w0 bs v (w.alloc o) := ⟨E.o.alloc o, E.c.alloc o, E.f⟩
theorem wpList_cat_b {w0 w : World} {bs ys : List Nat} {v u : Value} {N B : Nat} {o : Obj} {ops : Array Oper} {rest : List Oper} {op : Oper} {a : Act} {Q : Exit → Act → World → Prop} (hN : bs.length + ys.length = N) (E : BtR w0 bs v w) (hgd : op.guard = none) (s x : Operand)
    (hop : op.op = .call { callee := .builtin .append, args := #[s, x], argTypes := #[105, 105] }) (hs : a.eval s = v) (hx : a.eval x = u) (hu : RdV (w.alloc o) B u (u8s ys)) (hl : N ≤ 100000)
    (hK : ∀ A' c' w', BtR w0 (bs ++ ys) (.slice A' N c') w' → wpList Tryz.prog ops Q rest (a.put op.dst (.slice A' N c')) w') : wpList Tryz.prog ops Q (op :: rest) a (w.alloc o) := by
  subst hN
  refine wpList_cat_v tyB8 hgd s x hop hs (E.o.alloc o) hx hu (by rw [u8s_len, u8s_len]; omega) fun A' c' w' O S => ?_
  rw [u8s_len, u8s_len] at O S ⊢
  exact hK A' c' w' (E.cat O S)
def encT (G : Nat) (fs : List (List Ins)) (i : Nat) : List Nat := fs.length :: G :: (fs.take i).flatMap encF
theorem encT_all (G : Nat) (fs : List (List Ins)) : encT G fs fs.length = encP G fs := by unfold encT encP; rw [List.take_length]
theorem encT_succ (G : Nat) {fs : List (List Ins)} {i : Nat} {l : List Ins} (h : fs[i]? = some l) : encT G fs (i + 1) = encT G fs i ++ encF l := by
  unfold encT; rw [List.take_add_one, h]; simp
theorem flatI_len (l : List Ins) : (l.flatMap encI).length = 4 * l.length := by
  induction l with
  | nil => rfl
  | cons i l ih => rw [List.flatMap_cons, List.length_append, ih]; simp [encI]; omega
theorem encT_len (G : Nat) (fs : List (List Ins)) (h : ∀ l ∈ fs, l.length ≤ 64) (i : Nat) (hi : i ≤ fs.length) : (encT G fs i).length ≤ 2 + i * 257 := by
  induction i with
  | zero => simp [encT]
  | succ i ih =>
    have hl := List.getElem?_eq_getElem (show i < fs.length by omega)
    rw [encT_succ G hl, List.length_append, encF_len]
    have := ih (by omega)
    have := h _ (List.mem_of_getElem? hl)
    omega
def EncR1 (w1 : World) (G : Nat) (fs : List (List Ins)) (gk : Nat) (v idx : Value) (w : World) : Prop := ∃ i : Nat, gk + i = fs.length + 1 ∧ i ≤ fs.length ∧ idx = .int .i64 (i : Nat) ∧ BtR w1 (encT G fs i) v w
def EncR2 (w1 : World) (bs : List Nat) (l : List Ins) (gk : Nat) (v idx : Value) (w : World) : Prop := ∃ i : Nat, gk + i = l.length + 1 ∧ i ≤ l.length ∧ idx = .int .i64 (i : Nat) ∧ BtR w1 (bs ++ (l.take i).flatMap encI) v w
def EcPost (bs : List Nat) (w : World) (e : Ending) (w' : World) : Prop := e = .returned (.tuple #[.string (strOfNums (bs.map fun n : Nat => (n : Int))), .int .i64 0]) ∧ Chg [] w w'
theorem wrap_u8 {n : Nat} (h : n < 256) : IntKind.u8.wrap (n : Int) = n := by
  have e : IntKind.u8.wrap (n : Int) = (n : Int) % 256 := by rfl
  rw [e]; omega
set_option maxHeartbeats 16000000 in
set_option maxRecDepth 100000 in
theorem rencode_ok (w : World) (G : Nat) (v : Value) (vs : List Value) (fs : List (List Ins)) (R : PrR w w.heap.size v vs fs) (hok : OkP G fs) : Calls Tryz.prog 42 #[.agg #[.int .i64 (G : Nat), v]] w (EcPost (encP G fs) w) := by
  obtain ⟨A, c, rfl⟩ := R.len
  have KM := fun (w' : World) (R' : PrR w' w'.heap.size (.slice A fs.length c) vs fs) => rmay_ok w' G _ vs fs R' hok
  go_enter Tryz.func42, Tryz.ntmps42
  go_upto_region 1 with fail
  obtain ⟨w1, hw1⟩ : ∃ w1, w1 = w.alloc (.cells #[.int .i64 (G : Nat), .slice A fs.length c] 30) := ⟨_, rfl⟩
  obtain ⟨gP, hgP⟩ : ∃ gP, gP = w.heap.size := ⟨_, rfl⟩
  rw [← hw1, ← hgP]
  have B1 : Blk w1 gP 30 #[.int .i64 (G : Nat), .slice A fs.length c] := by rw [hw1, hgP]; exact Blk.new _ _ _
  have c01 : Chg [] w w1 := by rw [hw1]; exact (Chg.refl [] w).alloc _
  have R1 := R.chg0 c01 (Nat.le_refl _)
  have R1' : PrR w1 w1.heap.size (.slice A fs.length c) vs fs := ⟨R1.o.mono c01.size, R1.n, fun i u l h1 h2 => ⟨(R1.f i u l h1 h2).ex, fun A n c e j x hx => by
    obtain ⟨b, off, e1, e2, e3⟩ := (R1.f i u l h1 h2).at_ A n c e j x hx
    exact ⟨b, off, e1, Nat.lt_of_lt_of_le e2 c01.size, e3⟩⟩⟩
  have p0 : w1.cell? ⟨gP, 0, none⟩ = some (.int .i64 (G : Nat)) := B1.cellv 0 rfl
  have p1 : w1.cell? ⟨gP, 1, none⟩ = some (.slice A fs.length c) := B1.cellv 1 rfl
  have H1 := Lib.hid (And.intro R1' (And.intro c01 (And.intro hok (And.intro (KM w1 R1') B1)))); clear R R1 R1' c01 hw1 hgP hok KM B1
  go_wp2_with fail
  refine (H1.out.2.2.2.1).mono ?_
  rintro e w2 ⟨rfl, c12⟩
  have B2 := c12.blk H1.out.2.2.2.2 (by simp)
  have R2 := H1.out.1.chg0 c12 (Nat.le_refl _)
  have p0 : w2.cell? ⟨gP, 0, none⟩ = some (.int .i64 (G : Nat)) := B2.cellv 0 rfl
  have p1 : w2.cell? ⟨gP, 1, none⟩ = some (.slice A fs.length c) := B2.cellv 1 rfl
  have u1 : IntKind.u8.wrap (fs.length : Int) = fs.length := wrap_u8 (by have := H1.out.2.2.1.f1; omega)
  have u2 : IntKind.u8.wrap (G : Int) = G := wrap_u8 (by have := H1.out.2.2.1.g; omega)
  have H2 := Lib.hid (And.intro R2 (And.intro B2 c12)); clear R2 B2 c12
  go_upto_region 4 with fail
  obtain ⟨w3, hw3⟩ : ∃ w3, w3 = w2.alloc (.cells #[.int .u8 (fs.length : Nat), .int .u8 (G : Nat)] 5) := ⟨_, rfl⟩
  rw [← hw3]
  have E3 : BtR w2 (encT G fs 0) (.slice (some ⟨w2.heap.size, 0, none⟩) 2 2) w3 := by
    rw [hw3]
    refine ⟨OwnV.ofBlk (ys := u8s (encT G fs 0)) (Blk.new _ _ _) rfl (by omega), (Chg.refl [] w2).alloc _, fun k hk => ?_⟩
    have := fpv_some hk; omega
  clear hw3
  have p0 : w3.cell? ⟨gP, 0, none⟩ = some (.int .i64 (G : Nat)) := E3.c.cellv H2.out.2.1.lt (by simp) p0
  have p1 : w3.cell? ⟨gP, 1, none⟩ = some (.slice A fs.length c) := E3.c.cellv H2.out.2.1.lt (by simp) p1
  have f16 : fs.length ≤ 16 := H1.out.2.2.1.f1
  have HE := Lib.hid E3; clear E3
  go_wp2_with fail
  go_loopg [4, 5] (fs.length + 1) (fun gk v idx wr => EncR1 w2 G fs gk v idx wr)
  case atStart => exact ⟨0, by omega, by omega, rfl, HE.out⟩
  case round =>
    obtain ⟨i, hgk, hi, rfl, E⟩ := hrel
    obtain ⟨w4, hw4⟩ : ∃ w4, w4 = wr := ⟨_, rfl⟩
    subst hw4
    obtain ⟨Ab, cb, hv⟩ := E.o.slice
    rw [u8s_len] at hv
    subst hv
    have q1 : w4.cell? ⟨gP, 1, none⟩ = some (.slice A fs.length c) := E.c.cellv H2.out.2.1.lt (by simp) (H2.out.2.1.cellv 1 rfl)
    have hbl := encT_len G fs (fun l hl => (H1.out.2.2.1.s l hl).2.1) i hi
    obtain ⟨nb, hnb⟩ : ∃ nb, nb = (encT G fs i).length := ⟨_, rfl⟩
    rw [← hnb] at E hbl ⊢
    have hbl2 : nb ≤ 5000 := by omega
    have H4 := Lib.hid (And.intro E (And.intro hnb E.c)); clear E hnb
    by_cases hin : i < fs.length
    · obtain ⟨l, b, off, A', c', hl, -, hA, -, hc2, Rl⟩ := H2.out.1.fn hin
      have hb2 := lt_of_cellM hc2
      have hc := H4.out.2.2.cellv hb2 (by simp) hc2
      have hs := H1.out.2.2.1.s l (List.mem_of_getElem? hl)
      have h1 : (i : Int) < fs.length := by omega
      have h2 : (0 : Int) ≤ i := by omega
      have u3 : IntKind.u8.wrap (l.length : Int) = l.length := wrap_u8 (by omega)
      have hl64 : l.length ≤ 64 := hs.2.1
      subst hA
      have H5 := Lib.hid (And.intro hl (And.intro hs Rl)); clear hs hl Rl
      have hB : ∀ x : Nat, Blk (w4.alloc (.cells #[.int .u8 (x : Nat)] 5)) w4.heap.size 5 (u8s [x]).toArray := fun x => Blk.new _ _ _
      have HB := Lib.hid hB; clear hB
      go_upto_region 8 with (at_builtin; refine wpList_cat_b (ys := [l.length]) (N := nb + 1) (by rw [← H4.out.2.1]; rfl) H4.out.1 rfl _ _ rfl rfl rfl (RdV.ofBlk2 (HB.out l.length) rfl (u8s_one2 _)) (by omega) ?_; intro A5 c5 w5 E5)
      have p1 : w5.cell? ⟨gP, 1, none⟩ = some (.slice (some ⟨b, off, none⟩) fs.length c) := E5.c.cellv H2.out.2.1.lt (by simp) (H2.out.2.1.cellv 1 rfl)
      have hc5 := E5.c.cellv hb2 (by simp) hc2
      have e9 : BtR w2 (encT G fs i ++ [l.length] ++ (l.take 0).flatMap encI) (.slice A5 (nb + 1) c5) w5 := by simpa using E5
      have H6 := Lib.hid e9; clear e9 E5 hc q1
      go_wp2_with fail
      go_loopg [4, 6] (l.length + 1) (fun gk v idx wr => EncR2 w2 (encT G fs i ++ [l.length]) l gk v idx wr)
      case atStart => exact ⟨0, by omega, by omega, rfl, H6.out⟩
      case round =>
        obtain ⟨j, hgk2, hj, rfl, E⟩ := hrel
        obtain ⟨w6, hw6⟩ : ∃ w6, w6 = wr := ⟨_, rfl⟩
        subst hw6
        obtain ⟨Ab, cb, hv⟩ := E.o.slice
        rw [u8s_len] at hv
        subst hv
        have hjl : ((l.take j).flatMap encI).length = 4 * j := by rw [flatI_len, List.length_take]; omega
        obtain ⟨nc, hnc⟩ : ∃ nc, nc = (encT G fs i ++ [l.length] ++ (l.take j).flatMap encI).length := ⟨_, rfl⟩
        have hnc2 : nc ≤ 10000 := by rw [hnc, List.length_append, List.length_append, hjl, ← H4.out.2.1]; simp; omega
        rw [← hnc] at E ⊢
        have p1 : w6.cell? ⟨gP, 1, none⟩ = some (.slice (some ⟨b, off, none⟩) fs.length c) := E.c.cellv H2.out.2.1.lt (by simp) (H2.out.2.1.cellv 1 rfl)
        have hc6 := E.c.cellv hb2 (by simp) hc2
        have hgP := H2.out.2.1.lt
        by_cases hjn : j < l.length
        · have hx := List.getElem?_eq_getElem hjn
          obtain ⟨b', off', e', hb', q0, q1, q2, q3⟩ := (H5.out.2.2.chg E.c (by have := H2.out.2.2.size; omega) (by simp)).ins hx
          obtain ⟨x, ex⟩ : ∃ x, x = l[j] := ⟨_, rfl⟩
          rw [← ex] at q0 q1 q2 q3 hx
          have hok := H5.out.2.1.2.2 x (by rw [ex]; exact List.getElem_mem hjn)
          have v0 : IntKind.u8.wrap (x.o : Int) = x.o := wrap_u8 hok.2.1
          have v1 : IntKind.u8.wrap (x.a : Int) = x.a := wrap_u8 hok.2.2.1
          have v2 : IntKind.u8.wrap (x.b : Int) = x.b := wrap_u8 hok.2.2.2.1
          have v3 : IntKind.u8.wrap (x.c : Int) = x.c := wrap_u8 hok.2.2.2.2
          subst e'
          have h3 : (j : Int) < l.length := by omega
          have h4 : (0 : Int) ≤ j := by omega
          have H7 := Lib.hid (And.intro E (And.intro hnc hx)); clear E hnc hx hok ex
          have hB4 : ∀ (w' : World) (n : Nat), w'.heap.size = n → Blk (w'.alloc (.cells #[.int .u8 (x.o : Nat), .int .u8 (x.a : Nat), .int .u8 (x.b : Nat), .int .u8 (x.c : Nat)] 5)) n 5 (u8s (encI x)).toArray := fun w' n hn => by subst hn; exact Blk.new _ _ _
          have HB4 := Lib.hid hB4; clear hB4
          go_upto_region 10 with (at_builtin; refine wpList_cat_b (ys := encI x) (N := nc + 4) (by rw [← H7.out.2.1]; rfl) (H7.out.1.alloc _) rfl _ _ rfl rfl rfl (RdV.ofBlk2 (HB4.out _ _ (World.size_alloc _ _)) rfl (u8s_one2 _)) (by omega) ?_; intro A8 c8 w8 E8)
          have e8 : BtR w2 (encT G fs i ++ [l.length] ++ (l.take (j + 1)).flatMap encI) (.slice A8 (nc + 4) c8) w8 := by
            rw [List.take_add_one, H7.out.2.2, List.flatMap_append, ← List.append_assoc]
            simpa using E8
          have H8 := Lib.hid e8; clear e8 E8
          go_wp2_with fail
          go_roundg (l.length - j)
          case measure => omega
          case rel => exact ⟨j + 1, by omega, by omega, by go_num, H8.out⟩
        · have h3 : ¬ (j : Int) < l.length := by omega
          have hjj : j = l.length := by omega
          have e6 : BtR w2 (encT G fs (i + 1)) (.slice Ab nc cb) w6 := by
            rw [encT_succ G H5.out.1]
            rw [hjj, List.take_length] at E
            simpa [encF] using E
          have H7 := Lib.hid (And.intro e6 hnc); clear e6 hnc E hjl hjj
          go_wp2_with fail
          go_roundg (fs.length - i)
          case measure => omega
          case rel => exact ⟨i + 1, by omega, by omega, by go_num, H7.out.1⟩
    · have h1 : ¬ (i : Int) < fs.length := by omega
      have hii : i = fs.length := by omega
      have he : encT G fs i = encP G fs := by rw [hii, encT_all]
      have hne : 0 < nb := by rw [H4.out.2.1]; simp [encT]
      obtain ⟨gb, hA, -⟩ := (show OwnV 5 w4 (.slice Ab nb cb) (u8s (encT G fs i)) from H4.out.1.o).cell (i := 0) (x := .int .u8 (fs.length : Nat)) rfl
      subst hA
      have hconv := run_convert_bytes_arg (P := Tryz.prog) w4 105 5 Tryz.underlying105 Tryz.underlying5 gb 0 nb cb ((encP G fs).map fun n : Nat => (n : Int)) (by rw [List.length_map, ← he, H4.out.2.1]) (fun k hk => by
        have hk2 : k < (encP G fs).length := by rw [← he, ← H4.out.2.1]; exact hk
        obtain ⟨g2, e2, h2, -⟩ := (show OwnV 5 w4 (.slice (some ⟨gb, 0, none⟩) nb cb) (u8s (encT G fs i)) from H4.out.1.o).cell (i := k) (x := .int .u8 ((encP G fs)[k] : Nat)) (by rw [he]; exact u8s_at (List.getElem?_eq_getElem hk2))
        injection e2 with e2
        injection e2 with e2
        rw [Nat.zero_add, e2, h2, List.getD_eq_getElem?_getD, List.getElem?_map, List.getElem?_eq_getElem hk2]; rfl) 9 Tryz.underlying9
      clear hii he hne hbl hgk
      go_wp2_with fail
      go_ret2
      exact ⟨rfl, (H1.out.2.1.trans H2.out.2.2).trans H4.out.2.2⟩
end Go.Proofs.YthjplmminmhiaaaGreatDoor
