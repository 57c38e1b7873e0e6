/- The walks of package page: Alloc. -/
import Derived.Test.YtkocikpoagfonaaDoorPgFree2
import Derived.Test.YtkocikpoagfonaaDoorPgPop
namespace Go.Proofs.YtkocikpoagfonaaDoor
open Go.RowKit

/-- The runs that are great enough. -/
def fl (k : Nat) (l : List R) : List R := l.filter fun r => decide (k ≤ r.p)
theorem fl_take {l : List R} {i k : Nat} {s : R} (h : l[i]? = some s) : fl k (l.take (i + 1)) = if k ≤ s.p then fl k (l.take i) ++ [s] else fl k (l.take i) := by
  obtain ⟨hi, rfl⟩ := List.getElem?_eq_some_iff.1 h
  unfold fl
  rw [List.take_succ_eq_append_getElem hi, List.filter_append]
  by_cases e : k ≤ l[i].p
  · rw [if_pos e]; simp [e]
  · rw [if_neg e]; simp [e]
theorem fl_len (l : List R) (k : Nat) : (fl k l).length ≤ l.length := List.length_filter_le _ _
theorem IsPg.chg0 {w w' : World} {g n : Nat} {v : Value} {l : List R} (I : IsPg w g n v l) (c : Chg [] w w') : IsPg w' g n v l :=
  ⟨c.blk I.b (by simp), own_chg I.o c (fun _ _ => by simp)⟩
theorem IsBy.alloc {w : World} {h : Nat} {v : Value} {L : List R} (I : IsBy w h v L) (o : Obj) : IsBy (w.alloc o) h v L := ⟨I.b.alloc o, I.o.alloc o⟩

structure AlInv (w0 : World) (h : Nat) (v : Value) (l L : List R) (w : World) : Prop where
  I : IsBy w h v L
  T : Top l L
  c : Chg [] w0 w
  n : ∀ j ∈ h :: fpv v, w0.heap.size ≤ j
def AlRel (w0 : World) (h k : Nat) (l : List R) (gk : Nat) (idx : Value) (w : World) : Prop :=
  ∃ i hv L, gk + i = l.length + 1 ∧ i ≤ l.length ∧ idx = .int .i64 (i : Nat) ∧ AlInv w0 h hv (fl k (l.take i)) L w

theorem AlInv.push {w0 w w1 : World} {h : Nat} {v : Value} {l L : List R} {s : R} {o : Obj} (A : AlInv w0 h v l L w) (hp : HpPost h v (l ++ [s]) (w.alloc o) (.returned (.tuple #[])) w1) : ∃ v1 L1, AlInv w0 h v1 (l ++ [s]) L1 w1 := by
  obtain ⟨_, v1, L1, T1, I1, S1⟩ := hp
  have S : Stp [] (h :: fpv v1) w0 w1 := Stp.trans ⟨A.c.alloc o, fun j hj => .inr (A.n j hj)⟩ S1
  exact ⟨v1, L1, I1, T1, S.c, fun j hj => (S.f j hj).resolve_left (by simp)⟩

theorem AlInv.pop {w0 w w1 : World} {h : Nat} {v : Value} {l L : List R} (A : AlInv w0 h v l L w) (c : Chg (h :: fpv v) w w1) : Chg [] w0 w1 :=
  (Stp.trans ⟨A.c, fun j hj => .inr (A.n j hj)⟩ (Stp.of_chg (fp := h :: fpv v) c (fun k hk => .inl hk)) : Stp [] (h :: fpv v) w0 w1).c
theorem best_of {w0 w : World} {h k : Nat} {v : Value} {l L : List R} {x : R} (A : AlInv w0 h v (fl k l) L w) (hx : L[0]? = some x) : Best l k x := by
  have h1 := (A.T.mem x).1 (List.mem_of_getElem? hx)
  have h2 := A.T.top x hx
  simp only [fl, List.mem_filter, decide_eq_true_eq] at h1 h2
  exact ⟨h1.1, h1.2, fun s hs hk => h2 s ⟨hs, hk⟩⟩
/-- What Alloc answers, and the runs after it. -/
def AllocSays (l : List R) (k : Int) (a c : Int) (l' : List R) : Prop :=
  (k < 1 ∧ a = 0 ∧ c = 1 ∧ l' = l) ∨ (1 ≤ k ∧ (∀ r ∈ l, (r.p : Int) < k) ∧ a = 0 ∧ c = 3 ∧ l' = l) ∨ (1 ≤ k ∧ ∃ r, Best l k.toNat r ∧ a = r.f ∧ c = 0 ∧ l' = cutR l r k.toNat)
def AllocPost (g n : Nat) (v : Value) (l : List R) (k : Int) (w : World) (e : Ending) (w' : World) : Prop :=
  ∃ a c l', AllocSays l k a c l' ∧ PgPost g n v (.tuple #[.int .i64 a, .int .i64 c]) l' w e w'
theorem index_call {W : World} {g n : Nat} {v : Value} {l a b : List R} {x : R} (I : IsPg W g n v l) (e : l = a ++ x :: b) (h : Okn n l) (hn : n ≤ 262144) :
    Calls Tryd.prog 51 #[v, .agg #[.int .i64 x.f, .int .i64 x.p]] W (IxPost a.length W) := by
  subst e
  have := h.len
  exact index_ok W v a b x I.o (by omega) h.1.notin.1
theorem del_call {W : World} {g n : Nat} {v : Value} {l a b : List R} {x : R} (I : IsPg W g n v l) (e : l = a ++ x :: b) (h : Okn n l) (hn : n ≤ 262144) (y z : Int) (hy : y = (a.length : Int)) (hz : z = (a.length : Int) + 1) :
    Calls Tryd.prog 52 #[v, .int .i64 y, .int .i64 z] W (DelPost v (a ++ b) W) := by
  subst e
  have := h.len
  exact delete_ok W v a b x I.o (by omega) y z hy hz
theorem del_store {w : World} {g n : Nat} {v : Value} {L : List R} (I : IsPg w g n v L) {l' : List R} {e : Ending} {w1 : World} (hp : DelPost v l' w e w1) :
    ∃ A1 N k1, e = .returned (.slice A1 N k1) ∧ Blk w1 g 71 #[.int .i64 n, v] ∧ IsPg (w1.setCell ⟨g, 1, none⟩ (.slice A1 N k1)) g n (.slice A1 N k1) l' ∧ Stp (g :: fpv v) (g :: fpv (.slice A1 N k1)) w (w1.setCell ⟨g, 1, none⟩ (.slice A1 N k1)) ∧ Chg (fpv v) w w1 := by
  obtain ⟨v', rfl, o1, c1, hv⟩ := hp
  obtain ⟨A1, k1, rfl⟩ := own_slice o1
  have h := store_pg I o1 c1 (.inl hv)
  exact ⟨A1, _, k1, rfl, h.1, h.2.1, h.2.2, c1⟩
theorem cut_store {w : World} {g n g' cap : Nat} {l a b : List R} {x : R} {k : Nat} (I : IsPg w g n (.slice (some ⟨g', 0, none⟩) l.length cap) l) (e : l = a ++ x :: b) (hk : k ≤ x.p) :
    IsPg ((w.drew.setCell ⟨g', a.length * 2, none⟩ (.int .i64 ((x.f : Int) + (k : Int)))).setCell ⟨g', a.length * 2 + 1, none⟩ (.int .i64 ((x.p : Int) - (k : Int)))) g n (.slice (some ⟨g', 0, none⟩) l.length cap) (a ++ ⟨x.f + k, x.p - k⟩ :: b) := by
  have hgg : g ≠ g' := fun e => I.ne (by simp [Value.ownBlock, e])
  have hla : a.length < l.length := by rw [e]; simp
  obtain ⟨g2, cap2, rest, hv, hb, hll, hc, hm, _⟩ := own_open I.o (by omega)
  injection hv with q1 q2 q3
  injection q1 with q1
  injection q1 with q1
  subst q1 q3
  have hs : l.set a.length ⟨x.f + k, x.p - k⟩ = a ++ ⟨x.f + k, x.p - k⟩ :: b := by rw [e, List.set_append_right _ _ (Nat.le_refl _)]; simp
  have h1 := blk_setR hb.drew a.length ⟨x.f + k, x.p - k⟩ hla
  have e1 : (((⟨x.f + k, x.p - k⟩ : R).f : Nat) : Int) = (x.f : Int) + (k : Int) := by simp
  have e2 : (((⟨x.f + k, x.p - k⟩ : R).p : Nat) : Int) = (x.p : Int) - (k : Int) := by simp only; omega
  rw [e1, e2, hs] at h1
  have hlen : (a ++ (⟨x.f + k, x.p - k⟩ : R) :: b).length = l.length := by rw [e]; simp
  refine ⟨(I.b.drew.far hgg _).far hgg _, ?_⟩
  rw [hlen]
  exact own_mk h1 (by rw [rc_len, hlen]; rw [rc_len] at hll; exact hll) hc hm (by rw [rc_len, hlen])

theorem IsPg.alloc {w : World} {g n : Nat} {v : Value} {l : List R} (I : IsPg w g n v l) (o : Obj) : IsPg (w.alloc o) g n v l := ⟨I.b.alloc o, I.o.alloc o⟩

theorem wrap64_small {x : Int} (h1 : -9223372036854775808 ≤ x) (h2 : x ≤ 9223372036854775807) : wrap64 x = x := by unfold wrap64; omega
theorem alloc_nil (w : World) (k : Int) :
    Calls Tryd.prog 29 #[.pointer none, .int .i64 k] w fun e w' => e = .returned (.tuple #[.int .i64 0, .int .i64 1]) ∧ w' = w := by
  go_enter Tryd.func29, Tryd.ntmps29
  go_wp2_with fail
  go_ret2
  exact ⟨rfl, rfl⟩
theorem alloc_bad (w : World) (g n : Nat) (v : Value) (l : List R) (I : IsPg w g n v l) (k : Int) (hk : k < 1) :
    Calls Tryd.prog 29 #[.pointer (some ⟨g, 0, none⟩), .int .i64 k] w (PgPost g n v (.tuple #[.int .i64 0, .int .i64 1]) l w) := by
  have H := Lib.hid I; clear I
  go_enter Tryd.func29, Tryd.ntmps29
  go_wp2_with fail
  go_ret2
  exact PgPost.same0 H.out

set_option maxHeartbeats 3200000 in
set_option maxRecDepth 100000 in
theorem alloc_some (w : World) (g n : Nat) (v : Value) (l : List R) (I : IsPg w g n v l) (h : Okn n l) (hn : n ≤ 262144) (k : Nat) (hk : 1 ≤ k) :
    Calls Tryd.prog 29 #[.pointer (some ⟨g, 0, none⟩), .int .i64 k] w (AllocPost g n v l k w) := by
  obtain ⟨A, c, rfl⟩ := own_slice I.o
  have c1 := I.b.cellv 1 rfl
  have h1 : ¬ (k : Int) < 1 := by omega
  have hlen := h.len
  have hgl := I.b.lt
  have H := Lib.hid (And.intro I h); clear I h
  go_enter Tryd.func29, Tryd.ntmps29
  go_wp2_with fail
  go_loopg [22] (l.length + 1) (fun gk idx wr => AlRel w w.heap.size k l gk idx wr)
  case atStart =>
    refine ⟨0, .slice none 0 0, [], by omega, by omega, rfl, ⟨Blk.new _ _ _, ⟨rfl, .inl ⟨rfl, rfl⟩⟩⟩, ⟨rfl, fun s => by simp [fl], fun s0 h0 => by simp at h0⟩, (Chg.refl _ _).alloc _, fun j hj => ?_⟩
    have : j = w.heap.size := by simpa [fpv, Value.ownBlock] using hj
    omega
  case round =>
    obtain ⟨i, hv, L, hgk, hin, rfl, AI⟩ := hrel
    by_cases e : i < l.length
    · obtain ⟨s, hs⟩ : ∃ s, l[i]? = some s := ⟨l[i], List.getElem?_eq_getElem e⟩
      have I := H.out.1.chg0 AI.c
      obtain ⟨g', cap, rest, hvv, hbb, hll, hc, hm, _⟩ := own_open I.o (by omega)
      injection hvv with q1 q2 q3
      subst q1 q3
      have i0 := hbb.cellv (i * 2) (by simpa using (rc_at hs rest).1)
      have i1 := hbb.cellv (i * 2 + 1) (by simpa using (rc_at hs rest).2)
      have hi' : (i : Int) < (l.length : Int) := by omega
      have hft := fl_take (k := k) hs
      have HA := Lib.hid (And.intro AI hft); clear AI hft I hbb hll hc hm hs
      by_cases hks : k ≤ s.p
      · have hk2 : (k : Int) ≤ (s.p : Int) := by omega
        go_wp2_with fail
        refine (hpush_ok _ _ hv (fl k (l.take i)) L s (HA.out.1.I.alloc _) HA.out.1.T (by have := fl_len (l.take i) k; rw [List.length_take] at this; omega)).mono ?_
        rintro e w1 hp
        obtain rfl := hp.1
        obtain ⟨v1, L1, A1⟩ := HA.out.1.push hp
        have HB := Lib.hid A1; clear A1 hp
        go_wp2_with fail
        go_roundg (l.length - i)
        case measure => omega
        case rel => exact ⟨i + 1, v1, L1, by omega, by omega, by go_num, by rw [HA.out.2, if_pos hks]; exact HB.out⟩
      · have hk2 : ¬ (k : Int) ≤ (s.p : Int) := by omega
        go_wp2_with fail
        go_roundg (l.length - i)
        case measure => omega
        case rel => exact ⟨i + 1, hv, L, by omega, by omega, by go_num, by rw [HA.out.2, if_neg hks]; exact ⟨HA.out.1.I.alloc _, HA.out.1.T, HA.out.1.c.alloc _, HA.out.1.n⟩⟩
    · obtain rfl : i = l.length := by omega
      rw [List.take_length] at AI
      clear hgk hin e
      obtain ⟨A', c', rfl⟩ := own_slice AI.I.o
      have x0 := AI.I.b.cellv 0 rfl
      have HL := Lib.hid (And.intro AI.T.len (fl_len l k))
      rcases Nat.eq_zero_or_pos L.length with hL0 | hLp
      · have e0 : L = [] := List.eq_nil_of_length_eq_zero hL0
        subst e0
        have HA := Lib.hid AI; clear AI
        go_wp2_with fail
        go_ret2
        refine ⟨0, 3, l, .inr (.inl ⟨by omega, fun r hr => ?_, rfl, rfl, rfl⟩), rfl, _, H.out.1.chg0 HA.out.c, ⟨HA.out.c.mono (fun k hk => by cases hk), fun _ h => .inl h⟩⟩
        rcases Int.lt_or_le (r.p : Int) k with q | q
        · exact q
        · have := (HA.out.T.mem r).2 (by simp [fl]; exact ⟨hr, by omega⟩)
          simp at this
      · obtain ⟨m, hm⟩ : ∃ m, L.length = m + 1 := ⟨L.length - 1, by omega⟩
        obtain ⟨x, hx⟩ : ∃ x, L[0]? = some x := ⟨L[0], List.getElem?_eq_getElem hLp⟩
        have hta := fun v W => run_assert_struct (P := Tryd.prog) (xT := 20) Tryd.underlying73 v W
        have hm2 : ¬ L.length = 0 := by omega
        have HA := Lib.hid (And.intro AI (And.intro hm hx)); clear AI hm hx
        go_wp2_with fail
        refine (hpop_ok wr _ _ L m x HA.out.1.I HA.out.2.1 HA.out.2.2 (by have := HA.out.2.1; have := HL.out; omega)).mono ?_
        rintro e w1 ⟨rfl, cp⟩
        have C1 := HA.out.1.pop cp
        have hX0 : w.heap.size ≤ w1.heap.size := C1.size
        have HB := best_of HA.out.1 HA.out.2.2
        obtain ⟨a, b, hab⟩ := List.append_of_mem HB.1
        have hI1 := (H.out.1.chg0 C1).alloc (.cells #[.int .i64 x.f, .int .i64 x.p] 73)
        have hX1 := Blk.new w1 73 #[Value.int .i64 x.f, Value.int .i64 x.p]
        have hC1 := C1.alloc (.cells #[.int .i64 x.f, .int .i64 x.p] 73)
        have HX := Lib.hid (And.intro hI1 (And.intro hX1 (And.intro hC1 (And.intro HB hab)))); clear hI1 hX1 hC1 HB hab C1 cp HA
        go_wp2_with fail
        generalize w1.alloc (.cells #[.int .i64 x.f, .int .i64 x.p] 73) = W at HX ⊢
        generalize w1.heap.size = X at HX hX0 ⊢
        have d1 := HX.out.1.b.cellv 1 rfl
        have x0 := HX.out.2.1.cellv 0 rfl
        have x1 := HX.out.2.1.cellv 1 rfl
        go_still_tail 5, (by kernel_rfl)
        change wpList _ _ _ _ _ W.drew
        go_wp2_with fail
        refine (index_call (HX.out.1.drewN 1) HX.out.2.2.2.2 H.out.2 hn).mono ?_
        rintro e w2 ⟨rfl, c2⟩
        have C2 : Chg [] W w2 := ((Chg.refl [] W).drew).trans c2
        have I2 := HX.out.1.chg0 C2
        have X2 := C2.blk HX.out.2.1 (by simp)
        have C3 := HX.out.2.2.1.trans C2
        have hab := HX.out.2.2.2.2
        have HB := HX.out.2.2.2.1
        clear d1 x0 x1
        have y0 := X2.cellv 0 rfl
        have y1 := X2.cellv 1 rfl
        have d1 := I2.b.cellv 1 rfl
        have fd := I2.b.frozen 1
        have HY := Lib.hid (And.intro I2 (And.intro C3 (And.intro HB (And.intro hab X2)))); clear I2 X2 C2 C3 HB hab c2 HX
        by_cases hxk : x.p = k
        · have hxk1 : ((x.p : Int) == (k : Int)) = true := by rw [beq_iff_eq]; omega
          have hxk2 : (x.p == k) = true := by rw [beq_iff_eq]; omega
          have hkk := Lib.hid hxk; clear hxk
          go_wp2_with fail
          refine (del_call HY.out.1 HY.out.2.2.2.1 H.out.2 hn _ _ rfl (wrap64_small (by omega) (by have h9 := congrArg List.length HY.out.2.2.2.1; simp only [List.length_append, List.length_cons] at h9; omega))).mono ?_
          rintro e w3 hp
          obtain ⟨A1, N, k1, rfl, B1, I3, S3, c3⟩ := del_store HY.out.1 hp
          have b1 := B1.cellv 1 rfl
          have b2 := B1.frozen 1
          have X3 := c3.blk HY.out.2.2.2.2 (fun hm => by have := own_lt H.out.1.o (mem_fpv.1 hm); omega)
          have z0 := X3.cellv 0 rfl
          have hXg : X ≠ g := by omega
          have HZ := Lib.hid (And.intro I3 S3); clear I3 S3 B1 X3 c3 hp y0 y1 d1 fd
          go_wp2_with fail
          go_ret2
          have hkk := hkk.out
          refine ⟨x.f, 0, cutR l x k, .inr (.inr ⟨by omega, x, by simpa using HY.out.2.2.1, rfl, rfl, by simp⟩), rfl, _, ?_, (Stp.of_chg (HY.out.2.1.mono (fun k hk => by cases hk)) (fun k hk => .inl hk)).trans HZ.out.2⟩
          have h1 := HZ.out.1
          have h2 := H.out.2.1
          rw [HY.out.2.2.2.1] at h2 ⊢
          rw [cutR_split h2, if_pos hkk]
          exact h1
        · have hxk1 : ((x.p : Int) == (k : Int)) = false := by rw [beq_eq_false_iff_ne]; omega
          have hxk2 : (x.p == k) = false := by rw [beq_eq_false_iff_ne]; omega
          have hbx := H.out.2.bd x HY.out.2.2.1.1
          have hkx := HY.out.2.2.1.2.1
          have hal : a.length < l.length := by rw [HY.out.2.2.2.1]; simp
          obtain ⟨g', cap, rest, hvv, hbb, hll, hc, hm, _⟩ := own_open HY.out.1.o (by omega)
          injection hvv with q1 q2 q3
          subst q1 q3
          have hsz : (rc l ++ rest).toArray.size = c * 2 := by simp only [List.size_toArray, List.length_append]; exact hll
          obtain ⟨u0, i0⟩ := Option.isSome_iff_exists.1 (hbb.some (a.length * 2) (by rw [hsz]; omega))
          obtain ⟨u1, i1⟩ := Option.isSome_iff_exists.1 (hbb.some (a.length * 2 + 1) (by rw [hsz]; omega))
          have f0 := hbb.frozen (a.length * 2)
          have f1 := hbb.frozen (a.length * 2 + 1)
          have hi' : (a.length : Int) < (l.length : Int) := by omega
          have e1 : IntKind.i64.wrap ((x.f : Int) + (k : Int)) = (x.f : Int) + (k : Int) := by rw [IntKind.wrap_i64]; omega
          have e2 : IntKind.i64.wrap ((x.p : Int) - (k : Int)) = (x.p : Int) - (k : Int) := by rw [IntKind.wrap_i64]; omega
          have hXg : X ≠ g' := by have := own_lt H.out.1.o (k := g') rfl; omega
          have hkk := Lib.hid hxk; clear hxk hbb hll hsz hc hm hkx hbx
          go_wp2_with fail
          go_still_tail 15, (by kernel_rfl)
          change wpList _ _ _ _ _ w2.drew
          have j0 : w2.drew.cell? ⟨g', a.length * 2, none⟩ = _ := i0
          have j1 : w2.drew.cell? ⟨g', a.length * 2 + 1, none⟩ = _ := i1
          have k0 : w2.drew.frozen? ⟨g', a.length * 2, none⟩ = _ := f0
          have k1 : w2.drew.frozen? ⟨g', a.length * 2 + 1, none⟩ = _ := f1
          have z0 : w2.drew.cell? ⟨X, 0, none⟩ = _ := y0
          go_wp2_with fail
          go_ret2
          have hkk := hkk.out
          refine ⟨x.f, 0, cutR l x k, .inr (.inr ⟨by omega, x, by simpa using HY.out.2.2.1, rfl, rfl, by simp⟩), rfl, _, ?_, (Stp.of_chg (HY.out.2.1.mono (fun k hk => by cases hk)) (fun k hk => .inl hk)).trans (Stp.of_chg (S := [g']) (((Chg.refl [g'] w2).drew.setCell (.inl (List.mem_cons_self ..)) _).setCell (.inl (List.mem_cons_self ..)) _) (fun k hk => .inl ?_))⟩
          · have h1 := cut_store HY.out.1 HY.out.2.2.2.1 (k := k) HY.out.2.2.1.2.1
            have h2 := H.out.2.1
            have h3 : cutR l x k = a ++ ⟨x.f + k, x.p - k⟩ :: b := by
              rw [HY.out.2.2.2.1] at h2 ⊢
              rw [cutR_split h2, if_neg hkk]
            rw [h3]
            exact h1
          · simp [fpv, Value.ownBlock] at hk ⊢; exact .inr hk

theorem alloc_ok (w : World) (g n : Nat) (v : Value) (l : List R) (I : IsPg w g n v l) (h : Okn n l) (hn : n ≤ 262144) (k : Int) :
    Calls Tryd.prog 29 #[.pointer (some ⟨g, 0, none⟩), .int .i64 k] w (AllocPost g n v l k w) := by
  by_cases hk : k < 1
  · exact (alloc_bad w g n v l I k hk).mono fun e w' hp => ⟨0, 1, l, .inl ⟨hk, rfl, rfl, rfl⟩, hp⟩
  · obtain ⟨K, rfl⟩ : ∃ K : Nat, k = K := ⟨k.toNat, by omega⟩
    exact alloc_some w g n v l I h hn K (by omega)
end Go.Proofs.YtkocikpoagfonaaDoor
