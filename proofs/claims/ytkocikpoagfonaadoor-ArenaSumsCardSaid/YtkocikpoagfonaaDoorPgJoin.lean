/- The walks of package page: join. -/
import Derived.Test.YtkocikpoagfonaaDoorPgGrow
import Derived.BigQuiet
namespace Go.Proofs.YtkocikpoagfonaaDoor
open Go.RowKit

theorem own_slice {w : World} {T size n : Nat} {v : Value} {xs : List Value} (h : w.ownsRow 0 T size v n xs) : ∃ A c, v = .slice A n c := by
  rcases h.2 with ⟨h1, h0⟩ | ⟨g, cap, cur, h1, _⟩
  · exact ⟨none, 0, by rw [h1, h0]⟩
  · exact ⟨_, _, h1⟩
/-- Pages lie in block g; the runs are l. -/
structure IsPg (w : World) (g n : Nat) (v : Value) (l : List R) : Prop where
  b : Blk w g 71 #[.int .i64 n, v]
  o : w.ownsRow 0 73 2 v l.length (rc l)
theorem IsPg.drewN {w : World} {g n : Nat} {v : Value} {l : List R} (I : IsPg w g n v l) (m : Nat) : IsPg (w.drewN m) g n v l := ⟨I.b, I.o⟩
theorem IsPg.ne {w : World} {g n : Nat} {v : Value} {l : List R} (I : IsPg w g n v l) : v.ownBlock ≠ some g := own_ne I.o I.b (by decide)

def PgPost (g n : Nat) (v : Value) (res : Value) (l : List R) (w : World) (e : Ending) (w' : World) : Prop :=
  e = .returned res ∧ ∃ v', IsPg w' g n v' l ∧ Stp (g :: fpv v) (g :: fpv v') w w'
theorem PgPost.same {w : World} {g n : Nat} {v : Value} {l : List R} {res : Value} (I : IsPg w g n v l) (m : Nat) : PgPost g n v res l w (.returned res) (w.drewN m) :=
  ⟨rfl, v, I.drewN m, ⟨(Chg.refl _ w).drewN m, fun _ h => .inl h⟩⟩
theorem PgPost.same0 {w : World} {g n : Nat} {v : Value} {l : List R} {res : Value} (I : IsPg w g n v l) : PgPost g n v res l w (.returned res) w :=
  ⟨rfl, v, I, Stp.refl _ _⟩

theorem rc_at {l : List R} {i : Nat} {r : R} (h : l[i]? = some r) (rest : List Value) : (rc l ++ rest)[i * 2]? = some (.int .i64 r.f) ∧ (rc l ++ rest)[i * 2 + 1]? = some (.int .i64 r.p) := by
  obtain ⟨hi, rfl⟩ := List.getElem?_eq_some_iff.1 h
  exact rc_get l i hi rest

theorem join_neg (w : World) (g n : Nat) (v : Value) (l : List R) (I : IsPg w g n v l) :
    Calls Tryd.prog 66 #[.pointer (some ⟨g, 0, none⟩), .int .i64 (-1)] w (PgPost g n v (.tuple #[]) l w) := by
  have H := Lib.hid I; clear I
  go_enter Tryd.func66, Tryd.ntmps66
  go_wp2
  go_quiet (fail)
  go_wp2
  go_end0
  exact PgPost.same H.out _

theorem join_end (w : World) (g n : Nat) (v : Value) (l : List R) (i : Nat) (I : IsPg w g n v l) (hi : i + 1 = l.length) (hl : l.length ≤ 1000000) :
    Calls Tryd.prog 66 #[.pointer (some ⟨g, 0, none⟩), .int .i64 i] w (PgPost g n v (.tuple #[]) l w) := by
  obtain ⟨g', cap, rest, rfl, hb, hll, hc, hm, _⟩ := own_open I.o (by omega)
  have c1 := I.b.cellv 1 rfl
  have H := Lib.hid I; clear I
  have h1 : ((i : Int) < 0) = False := by simp
  have h2 : decide ((i : Int) < 0) = false := by simp
  have h3 : IntKind.i64.wrap ((i : Int) + 1) = (i : Int) + 1 := by rw [IntKind.wrap_i64]; omega
  have h4 : decide ((l.length : Int) ≤ (i : Int) + 1) = true := by simp; omega
  have h5 : (l.length : Int) ≤ (i : Int) + 1 := by omega
  clear hb hll hc hm
  go_enter Tryd.func66, Tryd.ntmps66
  go_wp2
  go_quiet (fail)
  go_wp2
  go_end0
  exact PgPost.same H.out _

theorem join_apart (w : World) (g n : Nat) (v : Value) (l : List R) (i : Nat) (r s : R) (I : IsPg w g n v l) (hr : l[i]? = some r) (hs : l[i + 1]? = some s) (hl : l.length ≤ 1000000) (hb1 : r.f + r.p ≤ 1000000) (hne : r.f + r.p ≠ s.f) :
    Calls Tryd.prog 66 #[.pointer (some ⟨g, 0, none⟩), .int .i64 i] w (PgPost g n v (.tuple #[]) l w) := by
  have hil := (List.getElem?_eq_some_iff.1 hs).1
  obtain ⟨g', cap, rest, rfl, hb, hll, hc, hm, _⟩ := own_open I.o (by omega)
  have c1 := I.b.cellv 1 rfl
  have i0 := hb.cellv (i * 2) (by simpa using (rc_at hr rest).1)
  have i1 := hb.cellv (i * 2 + 1) (by simpa using (rc_at hr rest).2)
  have j0 := hb.cellv ((i + 1) * 2) (by simpa using (rc_at hs rest).1)
  have H := Lib.hid I; clear I
  have h2 : decide ((i : Int) < 0) = false := by simp
  have h3 : IntKind.i64.wrap ((i : Int) + 1) = (i : Int) + 1 := by rw [IntKind.wrap_i64]; omega
  have h4 : decide ((l.length : Int) ≤ (i : Int) + 1) = false := by simp; omega
  have h5 : ¬ (l.length : Int) ≤ (i : Int) + 1 := by omega
  have h6 : (i : Int) < (l.length : Int) := by omega
  have h7 : (0 : Int) ≤ (i : Int) + 1 := by omega
  have h8 : (i : Int) + 1 < (l.length : Int) := by omega
  have h9 : ((i : Int) + 1).toNat = i + 1 := by omega
  have h10 : IntKind.i64.wrap ((r.f : Int) + (r.p : Int)) = (r.f : Int) + (r.p : Int) := by rw [IntKind.wrap_i64]; omega
  have h11 : (((r.f : Int) + (r.p : Int)) == (s.f : Int)) = false := by rw [beq_eq_false_iff_ne]; omega
  have h12 : ((r.f + r.p) == s.f) = false := by rw [beq_eq_false_iff_ne]; omega
  clear hb hll hc hm
  go_enter Tryd.func66, Tryd.ntmps66
  go_wp2
  go_quiet (fail)
  go_wp2
  go_end0
  exact PgPost.same H.out _

theorem blk_setP {w : World} {g : Nat} {T : TypeId} {l : List R} {rest : List Value} (hb : Blk w g T (rc l ++ rest).toArray) (i : Nat) (r : R) (q : Nat) (hr : l[i]? = some r) :
    Blk (w.setCell ⟨g, i * 2 + 1, none⟩ (.int .i64 q)) g T (rc (l.set i ⟨r.f, q⟩) ++ rest).toArray :=
  hb.setv (i * 2 + 1) _ (by
    rw [← rc_set l i ⟨r.f, q⟩ rest (List.getElem?_eq_some_iff.1 hr).1]
    have e : (rc l ++ rest).set (i * 2) (.int .i64 r.f) = rc l ++ rest := by
      have h := (rc_at hr rest).1
      obtain ⟨h1, h2⟩ := List.getElem?_eq_some_iff.1 h
      rw [← h2]
      exact List.set_getElem_self h1
    rw [e]
    simp)

set_option maxRecDepth 100000 in
set_option maxHeartbeats 1600000 in
theorem join_touch (w : World) (g n : Nat) (v : Value) (a b : List R) (r s : R) (I : IsPg w g n v (a ++ r :: s :: b)) (hl : (a ++ r :: s :: b).length ≤ 1000000) (hb1 : s.f + s.p ≤ 1000000) (hne : r.f + r.p = s.f) :
    Calls Tryd.prog 66 #[.pointer (some ⟨g, 0, none⟩), .int .i64 a.length] w (PgPost g n v (.tuple #[]) (a ++ ⟨r.f, r.p + s.p⟩ :: b) w) := by
  have hne' := I.ne
  obtain ⟨L, hL⟩ : ∃ L, L = a ++ r :: s :: b := ⟨_, rfl⟩
  rw [← hL] at I hl
  have hr : L[a.length]? = some r := by rw [hL]; simp
  have hs : L[a.length + 1]? = some s := by rw [hL, List.getElem?_append_right (by omega)]; simp
  have hset : L.set a.length ⟨r.f, r.p + s.p⟩ = (a ++ [⟨r.f, r.p + s.p⟩]) ++ s :: b := by rw [hL, List.set_append_right _ _ (Nat.le_refl _)]; simp
  obtain ⟨i, hi⟩ : ∃ i, i = a.length := ⟨_, rfl⟩
  rw [← hi] at hr hs hset ⊢
  have hil := (List.getElem?_eq_some_iff.1 hs).1
  obtain ⟨g', cap, rest, rfl, hb, hll, hc, hm, _⟩ := own_open I.o (by omega)
  have hgg : g' ≠ g := fun e => hne' (by simp [Value.ownBlock, e])
  have c1 := I.b.cellv 1 rfl
  have i0 := hb.cellv (i * 2) (by simpa using (rc_at hr rest).1)
  have i1 := hb.cellv (i * 2 + 1) (by simpa using (rc_at hr rest).2)
  have j0 := hb.cellv ((i + 1) * 2) (by simpa using (rc_at hs rest).1)
  have j1 := hb.cellv ((i + 1) * 2 + 1) (by simpa using (rc_at hs rest).2)
  have fr := hb.frozen (i * 2 + 1)
  have hb2 := blk_setP hb i r (r.p + s.p) hr
  have hI2 : ∀ m, IsPg ((w.drewN m).setCell ⟨g', i * 2 + 1, none⟩ (.int .i64 ((r.p + s.p : Nat) : Int))) g n (.slice (some ⟨g', 0, none⟩) L.length cap) (L.set i ⟨r.f, r.p + s.p⟩) := fun m =>
    ⟨(I.b.drewN m).far (fun e => hgg e.symm) _, by
      have := own_mk (n := L.length) (hb2.drewN m) (by simpa [rc_len] using hll) hc hm (by simp [rc_len])
      rw [List.length_set]; exact this⟩
  rw [hset] at hI2
  have H := Lib.hid hI2; clear I hI2 hb2
  have h2 : decide ((i : Int) < 0) = false := by simp
  have h3 : IntKind.i64.wrap ((i : Int) + 1) = (i : Int) + 1 := by rw [IntKind.wrap_i64]; omega
  have h4 : decide ((L.length : Int) ≤ (i : Int) + 1) = false := by simp; omega
  have h5 : ¬ (L.length : Int) ≤ (i : Int) + 1 := by omega
  have h6 : (i : Int) < (L.length : Int) := by omega
  have h7 : (0 : Int) ≤ (i : Int) + 1 := by omega
  have h8 : (i : Int) + 1 < (L.length : Int) := by omega
  have h9 : ((i : Int) + 1).toNat = i + 1 := by omega
  have h10 : IntKind.i64.wrap ((r.f : Int) + (r.p : Int)) = (r.f : Int) + (r.p : Int) := by rw [IntKind.wrap_i64]; omega
  have h11 : (((r.f : Int) + (r.p : Int)) == (s.f : Int)) = true := by rw [beq_iff_eq]; omega
  have h12 : ((r.f + r.p) == s.f) = true := by rw [beq_iff_eq]; omega
  have h13 : IntKind.i64.wrap ((r.p : Int) + (s.p : Int)) = (r.p : Int) + (s.p : Int) := by rw [IntKind.wrap_i64]; omega
  have h14 : (i : Int) + 1 = ((a ++ [(⟨r.f, r.p + s.p⟩ : R)]).length : Int) := by rw [List.length_append, hi]; simp
  have hll2 : ((a ++ [(⟨r.f, r.p + s.p⟩ : R)]) ++ s :: b).length ≤ 1000000 := by rw [← hset, List.length_set]; exact hl
  have HL := Lib.hid (And.intro h14 (And.intro hll2 hset)); clear h14 hll2 hset hL hi
  clear hb hll hc hm
  go_enter Tryd.func66, Tryd.ntmps66
  go_wp2
  go_quiet (fail)
  go_wp2
  have d1 : (w.drewN nq).cell? ⟨g, 1, none⟩ = _ := c1
  have e1 : (w.drewN nq).cell? ⟨g', i * 2 + 1, none⟩ = _ := i1
  have e2 : (w.drewN nq).cell? ⟨g', (i + 1) * 2 + 1, none⟩ = _ := j1
  have e3 : (w.drewN nq).frozen? ⟨g', i * 2 + 1, none⟩ = _ := fr
  have H1 := H.out (nq + 1)
  change IsPg ((w.drewN nq).drew.setCell _ _) _ _ _ _ at H1
  have C1 : Chg [] w (w.drewN nq) := (Chg.refl _ w).drewN nq
  have H2 := Lib.hid (And.intro H1 C1)
  clear H H1 C1
  generalize w.drewN nq = W at d1 e1 e2 e3 H2 ⊢
  clear c1 i0 i1 j0 j1 fr
  go_still_tail 25, (by kernel_rfl)
  change wpList _ _ _ _ _ W.drew
  have d1' : W.drew.cell? ⟨g, 1, none⟩ = _ := d1
  have e3' : W.drew.frozen? ⟨g', i * 2 + 1, none⟩ = _ := e3
  have e1' : W.drew.cell? ⟨g', i * 2 + 1, none⟩ = _ := e1
  go_wp2_with fail
  refine (delete_ok _ _ _ _ s H2.out.1.o HL.out.2.1 _ _ HL.out.1 (by have := HL.out.1; omega)).mono ?_
  rintro e w1 ⟨v1, rfl, o1, ch1, hv1⟩
  obtain ⟨A1, k1, rfl⟩ := own_slice o1
  obtain ⟨N, hN⟩ : ∃ N, N = (a ++ [(⟨r.f, r.p + s.p⟩ : R)] ++ b).length := ⟨_, rfl⟩
  rw [← hN] at o1 hv1
  rw [← hN]
  have B1 : Blk w1 g 71 #[.int .i64 n, .slice (some ⟨g', 0, none⟩) L.length cap] := ch1.blk H2.out.1.b (by simp [fpv, Value.ownBlock]; exact fun e => hgg e.symm)
  have b1 := B1.cellv 1 rfl
  have b2 := B1.frozen 1
  have C3 : Chg (g :: fpv (.slice (some ⟨g', 0, none⟩) L.length cap)) w w1 :=
    ((H2.out.2.mono fun k hk => by cases hk).drew.setCell (p := ⟨g', i * 2 + 1, none⟩) (.inl (by simp [fpv, Value.ownBlock])) _).trans (ch1.mono fun k hk => .inl (List.mem_cons_of_mem _ hk))
  have HX := Lib.hid (And.intro B1 (And.intro o1 (And.intro C3 (And.intro hv1 hN)))); clear B1 o1 C3 hv1 H2 ch1 hN
  clear d1 e1 e2 e3 d1' e3' e1'
  go_wp2_with fail
  go_end0
  obtain ⟨B1, o1, C3, hv1, hN⟩ := HX.out
  refine ⟨rfl, _, ⟨B1.setv 1 _ rfl, ?_⟩, ⟨C3.setCell (.inl (List.mem_cons_self ..)) _, fun k hk => .inl ?_⟩⟩
  · have e : a ++ (⟨r.f, r.p + s.p⟩ : R) :: b = a ++ [⟨r.f, r.p + s.p⟩] ++ b := by simp
    rw [e, ← hN]
    exact own_chg o1 ((Chg.refl [g] _).setCell (.inl (List.mem_cons_self ..)) _) (fun k hk => by rw [hv1] at hk; simp [Value.ownBlock] at hk ⊢; omega)
  · simpa [fpv, hv1] using hk

/-- join of a run and the next one. -/
theorem join_ok (w : World) (g n : Nat) (v : Value) (a b : List R) (r : R) (I : IsPg w g n v (a ++ r :: b)) (hl : (a ++ r :: b).length ≤ 1000000) (hb : ∀ s ∈ a ++ r :: b, s.f + s.p ≤ 1000000) (x : Int) (hx : x = a.length) :
    Calls Tryd.prog 66 #[.pointer (some ⟨g, 0, none⟩), .int .i64 x] w (PgPost g n v (.tuple #[]) (joinR (a ++ r :: b) a.length) w) := by
  subst hx
  rw [joinR_at]
  cases b with
  | nil => exact join_end w g n v _ a.length I (by simp) hl
  | cons s b' =>
    by_cases he : r.f + r.p = s.f
    · simp only [if_pos he]
      exact join_touch w g n v a b' r s I hl (hb s (by simp)) he
    · simp only [if_neg he]
      exact join_apart w g n v _ a.length r s I (by simp) (by rw [List.getElem?_append_right (by omega)]; simp) hl (hb r (by simp)) he
end Go.Proofs.YtkocikpoagfonaaDoor
