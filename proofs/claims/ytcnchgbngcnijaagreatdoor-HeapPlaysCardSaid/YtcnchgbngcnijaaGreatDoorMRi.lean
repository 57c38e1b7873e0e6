/- The document's heap (treadmillref5): fresh; what stays through seek. -/
/- The document's heap (treadmillref5): seek. -/
import Derived.Test.YtcnchgbngcnijaaGreatDoorRh4
import Derived.Test.YtcnchgbngcnijaaGreatDoorHp9
namespace Go.Proofs.YtcnchgbngcnijaaGreatDoor
open Go.RowKit Go.Maps

def RhnPost (w : World) (h : RhH) (A : HpA) (N m k : Nat) (e : Ending) (w' : World) : Prop :=
  ∃ x c l', AllocSays A.a.l (pgK k : Nat) x c l' ∧
    ((c ≠ 0 ∧ e = .returned (.tuple #[.int .i64 0, .int .i64 c]) ∧ RhTo w w' h A A N m) ∨
     (c = 0 ∧ ∃ f id : Nat, x = f ∧ A.a.sp id = none ∧ (∀ j, j < id → A.a.sp j ≠ none) ∧ e = .returned (.tuple #[.int .i64 (id : Nat), .int .i64 0]) ∧ RhTo w w' h A { A with a := spanA A.a l' id k f } (N + 1) m))
theorem rh_span {w : World} {h : RhH} {A : HpA} {N m k : Nat} (Q : RhS w h A N m) (hN : N ≤ 100000) (hk : k < 16) : Calls Tryz.prog 50 #[.pointer (some ⟨h.ra.g, 0, none⟩), .int .i64 (k : Nat)] w (RhnPost w h A N m k) := by
  obtain ⟨ids, M⟩ := Q.M
  refine (raspan_ok w h.ra A.a ids M (Nat.le_trans (M.len_le Q.J.ok) hN) N hN Q.J.ok Q.n (k : Nat)).mono ?_
  rintro e w' (⟨hn, -⟩ | ⟨q, hq, -, x, c, l', hs, ⟨hc, rfl, M', st⟩ | ⟨rfl, f, id, r', ids', rfl, hid, hall, rfl, hg, hm, M', st⟩⟩)
  · exact absurd ⟨by omega, by omega⟩ hn
  · obtain rfl : k = q := by omega
    exact ⟨x, c, l', hs, .inl ⟨hc, rfl, Q.arena M' Q.J st rfl Q.mw rfl⟩⟩
  · obtain rfl : k = q := by omega
    have h1 : id < N + 1 := by
      rcases Nat.lt_or_ge id (N + 1) with h1 | h1
      · exact h1
      · exfalso
        obtain ⟨s, hs⟩ := Option.ne_none_iff_exists'.1 (hall N (by omega))
        have := Q.J.ok.top N s hs
        omega
    exact ⟨f, 0, l', hs, .inr ⟨rfl, f, id, rfl, hid, hall, rfl, Q.arena M' ((Q.J.more (Nat.le_succ N)).span hk hid h1 hs) st hg (by rw [hm]; exact Q.mw) rfl⟩⟩
/-- What fresh makes. -/
def FrR (k : Nat) (B : HpA) (id : Nat) (ok : Bool) (D' : HpA) : Prop :=
  (∃ (f : Nat) (l' : List R), AllocSays B.a.l (pgK k : Nat) (f : Nat) 0 l' ∧ B.a.sp id = none ∧ (∀ j, j < id → B.a.sp j ≠ none) ∧ ok = true ∧ D' = { B with a := spanA B.a l' id k f }) ∨
  ∃ (x c : Int) (l1 : List R) (ks : List Int) (D : HpA) (n : Nat), AllocSays B.a.l (pgK k : Nat) x c l1 ∧ c ≠ 0 ∧ Rise ks ∧ (∀ x, x ∈ ks ↔ (spI B.a x).isSome = true) ∧ DrR ks B D n ∧
    ((∃ (f : Nat) (l' : List R), AllocSays D.a.l (pgK k : Nat) (f : Nat) 0 l' ∧ D.a.sp id = none ∧ (∀ j, j < id → D.a.sp j ≠ none) ∧ ok = true ∧ D' = { D with a := spanA D.a l' id k f }) ∨
     (∃ (x' c' : Int) (l' : List R), AllocSays D.a.l (pgK k : Nat) x' c' l' ∧ c' ≠ 0 ∧ id = 0 ∧ ok = false ∧ D' = D))
def RhfPost (w : World) (h : RhH) (A : HpA) (N m k : Nat) (e : Ending) (w' : World) : Prop :=
  ∃ (id : Nat) (ok : Bool) (A' : HpA), FrR k A id ok A' ∧ e = .returned (.tuple #[.int .i64 (id : Nat), .bool ok]) ∧ RhTo w w' h A A' (N + 1) m
set_option maxHeartbeats 3200000 in
set_option maxRecDepth 100000 in
theorem rhfresh_ok (w : World) (h : RhH) (A : HpA) (N m : Nat) (Q : RhS w h A N m) (I : HpI A none) (hN : N + 1 ≤ 6000) (k : Nat) (hk : k < 16) : Calls Tryz.prog 165 #[.pointer (some ⟨h.g, 0, none⟩), .int .i64 (k : Nat)] w (RhfPost w h A N m k) := by
  have b0 := Q.b0
  have K := rh_span Q (by omega) hk
  have HQ := Lib.hid (And.intro Q I); clear Q I
  go_enter Tryz.func165, Tryz.ntmps165
  go_wp2_with fail
  refine K.mono ?_
  rintro e w1 ⟨x, c, l', hs, ⟨hc, rfl, T⟩ | ⟨rfl, f, id, rfl, hid, hall, rfl, T⟩⟩
  · clear K
    have hq : (c != 0) = true := by rw [bne_iff_ne]; exact hc
    obtain ⟨h1, E1, Q1, s1⟩ := T
    have K := rhdrop_ok w1 h1 A N m Q1 HQ.out.2 (by omega)
    rw [E1.g] at K
    have H1 := Lib.hid (And.intro hs (And.intro E1 (And.intro s1 hc))); clear hs E1 Q1 s1 b0 hc
    go_wp2_with fail
    refine K.mono ?_
    rintro e w2 ⟨ks, B, n, hr, hks, hD, rfl, IB, h2, E2, Q2, s2⟩
    clear K
    have E3 := E2.trans H1.out.2.1
    have b0 : w2.cell? ⟨h.g, 0, none⟩ = some (.pointer (some ⟨h.ra.g, 0, none⟩)) := by rw [← E3.g, ← E3.ra]; exact Q2.b0
    have K := rh_span Q2 (by omega) hk
    rw [E3.ra] at K
    have H2 := Lib.hid (And.intro hr (And.intro hks (And.intro hD (And.intro E3 (H1.out.2.2.1.trans s2))))); clear hr hks hD E3 E2 Q2 s2
    go_wp2_with fail
    refine K.mono ?_
    rintro e w3 ⟨x', c', l2, hs2, ⟨hc2, rfl, T⟩ | ⟨rfl, f, id, rfl, hid, hall, rfl, T⟩⟩
    · clear K
      have hq2 : (c' == 0) = false := by rw [beq_eq_false_iff_ne]; exact hc2
      have H3 := Lib.hid (And.intro hs2 (And.intro hc2 (RhTo.after H2.out.2.2.2.1 H2.out.2.2.2.2 T))); clear hs2 hc2 T
      go_wp2_with fail
      go_ret2
      exact ⟨0, false, B, .inr ⟨x, c, l', ks, B, n, H1.out.1, H1.out.2.2.2, H2.out.1, H2.out.2.1, H2.out.2.2.1, .inr ⟨x', c', l2, H3.out.1, H3.out.2.1, rfl, rfl, rfl⟩⟩, rfl, H3.out.2.2.more (Nat.le_succ N) (Nat.le_refl _)⟩
    · clear K
      have H3 := Lib.hid (And.intro hs2 (And.intro hid (And.intro hall (RhTo.after H2.out.2.2.2.1 H2.out.2.2.2.2 T)))); clear hs2 hid hall T
      go_wp2_with fail
      go_ret2
      exact ⟨id, true, _, .inr ⟨x, c, l', ks, B, n, H1.out.1, H1.out.2.2.2, H2.out.1, H2.out.2.1, H2.out.2.2.1, .inl ⟨f, l2, H3.out.1, H3.out.2.1, H3.out.2.2.1, rfl, rfl⟩⟩, rfl, H3.out.2.2.2⟩
  · clear K
    have H1 := Lib.hid (And.intro hs (And.intro hid (And.intro hall T))); clear hs hid hall T
    go_wp2_with fail
    go_ret2
    exact ⟨id, true, _, .inl ⟨f, l', H1.out.1, H1.out.2.1, H1.out.2.2.1, rfl, rfl⟩, rfl, H1.out.2.2.2⟩
end Go.Proofs.YtcnchgbngcnijaaGreatDoor
namespace Go.Proofs.YtcnchgbngcnijaaGreatDoor
open Go.RowKit Go.Maps

structure SkT (w0 : World) (h : RhH) (A0 : HpA) (w : World) (v : Value) (g : List Int) (B : HpA) (N m : Nat) : Prop where
  ex : ∃ h', RhE h' h ∧ RhS w h' B N m ∧ StP (RhF h A0) (RhF h' B) w0 w ∧ LsP w0 (RhF h' B) w v g
section
variable {w0 w w' : World} {h : RhH} {A0 B B' : HpA} {v v' : Value} {g g' : List Int} {N N' m m' : Nat}
theorem SkT.step {h' : RhH} (E : RhE h' h) (t : StP (RhF h A0) (RhF h' B) w0 w) (L : LsP w0 (RhF h' B) w v g) (T : RhTo w w' h' B B' N' m') : SkT w0 h A0 w' v g B' N' m' := by
  obtain ⟨h2, E2, Q2, s2⟩ := T
  exact ⟨h2, E2.trans E, Q2, t.trans s2, L.st s2⟩
theorem SkT.chg0 (K : SkT w0 h A0 w v g B N m) (c : Chg [] w w') : SkT w0 h A0 w' v g B N m := by
  obtain ⟨h', E, Q, t, L⟩ := K.ex
  exact ⟨h', E, Q.chg0 c, t.then0 c, L.chg0 c⟩
theorem SkT.app (K : SkT w0 h A0 w v g B N m) (O : OwnI 3 w' v' g') (s : Stp (fpv v) (fpv v') w w') : SkT w0 h A0 w' v' g' B N m := by
  obtain ⟨h', E, Q, t, L⟩ := K.ex
  exact ⟨h', E, Q.chg s.c (fun k hk hm => L.nf k hm hk), t.then_new s.c L.new, L.push (fun k hk => Q.lt hk) t.size O s⟩
theorem SkT.b0 (K : SkT w0 h A0 w v g B N m) : w.cell? ⟨h.g, 0, none⟩ = some (.pointer (some ⟨h.ra.g, 0, none⟩)) := by
  obtain ⟨h', E, Q, -, -⟩ := K.ex
  rw [← E.g, ← E.ra]; exact Q.b0
theorem SkT.b1 (K : SkT w0 h A0 w v g B N m) : w.cell? ⟨h.g, 1, none⟩ = some (.pointer (some ⟨h.gc, 0, none⟩)) := by
  obtain ⟨h', E, Q, -, -⟩ := K.ex
  rw [← E.g, ← E.gc]; exact Q.b1
theorem SkT.slice (K : SkT w0 h A0 w v g B N m) : ∃ A n c, v = .slice A n c := by
  obtain ⟨h', E, Q, -, L⟩ := K.ex
  exact L.o.slice'
theorem full_of {a : Ar} {id : Nat} {s : Sp} {bo : Bool} (hs : a.sp id = some s) (h : bo = true ↔ (spI a (id : Nat) = none ∨ ∃ s, spI a (id : Nat) = some s ∧ fullS s)) : bo = true ↔ fullS s := by
  have e : spI a (id : Nat) = some s := by unfold spI; rw [if_pos (by omega), Int.toNat_natCast]; exact hs
  rw [h, e]
  constructor
  · rintro (h1 | ⟨t, h1, h2⟩)
    · cases h1
    · injection h1 with h1; rw [h1]; exact h2
  · exact fun h1 => .inr ⟨s, rfl, h1⟩
theorem rh_full_yes (Q : RhS w h B N m) (hN : N ≤ 100000) {id : Nat} {s : Sp} (hs : B.a.sp id = some s) (hf : fullS s) : Calls Tryz.prog 62 #[.pointer (some ⟨h.ra.g, 0, none⟩), .int .i64 (id : Nat)] w fun e w' => e = .returned (.bool true) ∧ w' = w := by
  refine (rh_full Q hN (id : Nat)).mono ?_
  rintro e w' ⟨bo, rfl, hw, hb⟩
  have h1 := (full_of hs hb).2 hf
  subst h1
  exact ⟨rfl, hw⟩
theorem rh_full_no (Q : RhS w h B N m) (hN : N ≤ 100000) {id : Nat} {s : Sp} (hs : B.a.sp id = some s) (hf : ¬ fullS s) : Calls Tryz.prog 62 #[.pointer (some ⟨h.ra.g, 0, none⟩), .int .i64 (id : Nat)] w fun e w' => e = .returned (.bool false) ∧ w' = w := by
  refine (rh_full Q hN (id : Nat)).mono ?_
  rintro e w' ⟨bo, rfl, hw, hb⟩
  cases bo with
  | true => exact absurd ((full_of hs hb).1 rfl) hf
  | false => exact ⟨rfl, hw⟩
theorem SkT.full_yes (K : SkT w0 h A0 w v g B N m) (hN : N ≤ 100000) {id : Nat} {s : Sp} (hs : B.a.sp id = some s) (hf : fullS s) : Calls Tryz.prog 62 #[.pointer (some ⟨h.ra.g, 0, none⟩), .int .i64 (id : Nat)] w fun e w' => e = .returned (.bool true) ∧ w' = w := by
  obtain ⟨h', E, Q, -, -⟩ := K.ex
  rw [← E.ra]; exact rh_full_yes Q hN hs hf
theorem SkT.full_no (K : SkT w0 h A0 w v g B N m) (hN : N ≤ 100000) {id : Nat} {s : Sp} (hs : B.a.sp id = some s) (hf : ¬ fullS s) : Calls Tryz.prog 62 #[.pointer (some ⟨h.ra.g, 0, none⟩), .int .i64 (id : Nat)] w fun e w' => e = .returned (.bool false) ∧ w' = w := by
  obtain ⟨h', E, Q, -, -⟩ := K.ex
  rw [← E.ra]; exact rh_full_no Q hN hs hf
theorem SkT.sweep (K : SkT w0 h A0 w v g B N m) (hN : N ≤ 100000) {id : Nat} {s : Sp} (hs : B.a.sp id = some s) : Calls Tryz.prog 57 #[.pointer (some ⟨h.ra.g, 0, none⟩), .int .i64 (id : Nat)] w fun e w' => ∃ u, e = .returned (.tuple #[u, .int .i64 0]) ∧ OwnI 3 w' u (swI s) ∧ SkT w0 h A0 w' v g { B with a := sweepA B.a id s (sweptL s).length } N m := by
  obtain ⟨h', E, Q, t, L⟩ := K.ex
  rw [← E.ra]
  refine (rh_sweep Q hN hs).mono ?_
  rintro e w' ⟨u, he, O, -, Q2, s2, -⟩
  exact ⟨u, he, O, h', E, Q2, t.trans s2, L.st s2⟩
theorem SkT.put (K : SkT w0 h A0 w v g B N m) (hl : ∀ j, (B.r j).length ≤ 100000) {k : Nat} (hk : k < 16) (id : Nat) (full : Bool) : Calls Tryz.prog 138 #[.pointer (some ⟨h.gc, 0, none⟩), .int .i64 (k : Nat), .int .i64 (id : Nat), .bool full] w fun e w' => e = .returned (.tuple #[]) ∧ ∃ r1, DelTo B.r id r1 ∧ SkT w0 h A0 w' v g { B with r := updV r1 (k * 4 + sd full) (r1 (k * 4 + sd full) ++ [id]) } N m := by
  obtain ⟨h', E, Q, t, L⟩ := K.ex
  rw [← E.gc]
  refine (crput_ok w h'.gc h'.v B.r Q.C k id hk full hl).mono ?_
  rintro e w' ⟨he, r1, hd, T⟩
  exact ⟨he, r1, hd, SkT.step E t L (Q.central T)⟩
theorem SkT.take (K : SkT w0 h A0 w v g B N m) (hl : ∀ j, (B.r j).length ≤ 100000) {k : Nat} (hk : k < 16) : Calls Tryz.prog 163 #[.pointer (some ⟨h.gc, 0, none⟩), .int .i64 (k : Nat)] w fun e w' =>
    (B.r (k * 4) = [] ∧ B.r (k * 4 + 2) = [] ∧ e = .returned (.tuple #[.int .i64 0, .bool false, .bool false]) ∧ w' = w) ∨
    (∃ xs x, B.r (k * 4) = xs ++ [x] ∧ e = .returned (.tuple #[.int .i64 (x : Nat), .bool false, .bool true]) ∧ SkT w0 h A0 w' v g { B with r := updV B.r (k * 4) xs } N m) ∨
    ∃ xs x, B.r (k * 4) = [] ∧ B.r (k * 4 + 2) = xs ++ [x] ∧ e = .returned (.tuple #[.int .i64 (x : Nat), .bool true, .bool true]) ∧ SkT w0 h A0 w' v g { B with r := updV B.r (k * 4 + 2) xs } N m := by
  obtain ⟨h', E, Q, t, L⟩ := K.ex
  rw [← E.gc]
  refine (crtake_ok w h'.gc h'.v B.r Q.C k hk hl).mono ?_
  rintro e w' (⟨h0, h2, he, hw⟩ | ⟨xs, x, h0, he, T⟩ | ⟨xs, x, h0, h2, he, T⟩)
  · exact .inl ⟨h0, h2, he, hw⟩
  · exact .inr (.inl ⟨xs, x, h0, he, SkT.step E t L (Q.central T)⟩)
  · exact .inr (.inr ⟨xs, x, h0, h2, he, SkT.step E t L (Q.central T)⟩)
theorem SkT.takefull (K : SkT w0 h A0 w v g B N m) (hl : ∀ j, (B.r j).length ≤ 100000) {k : Nat} (hk : k < 16) : Calls Tryz.prog 164 #[.pointer (some ⟨h.gc, 0, none⟩), .int .i64 (k : Nat)] w fun e w' =>
    (B.r (k * 4 + 3) = [] ∧ e = .returned (.tuple #[.int .i64 0, .bool false]) ∧ w' = w) ∨
    ∃ xs x, B.r (k * 4 + 3) = xs ++ [x] ∧ e = .returned (.tuple #[.int .i64 (x : Nat), .bool true]) ∧ SkT w0 h A0 w' v g { B with r := updV B.r (k * 4 + 3) xs } N m := by
  obtain ⟨h', E, Q, t, L⟩ := K.ex
  rw [← E.gc]
  refine (crtakefull_ok w h'.gc h'.v B.r Q.C k hk hl).mono ?_
  rintro e w' (⟨h0, he, hw⟩ | ⟨xs, x, h0, he, T⟩)
  · exact .inl ⟨h0, he, hw⟩
  · exact .inr ⟨xs, x, h0, he, SkT.step E t L (Q.central T)⟩
end
/-- What is swept is told no more. -/
theorem swI_len (s : Sp) : (swI s).length = (sweptL s).length := by unfold swI intsN; simp
theorem sweep_cap {N : Nat} {a : Ar} (I : ArI N a) {id : Nat} {s : Sp} (hs : a.sp id = some s) : (swI s).length + (sweepA a id s (sweptL s).length).live ≤ a.live := by
  have h4 := I.swept_le hs
  have h5 := (kF (I.ok.pg id s hs).1).2.2.1
  have h6 : (sweptL s).length ≤ (sweptL s).length * szK s.k := Nat.le_mul_of_pos_right _ h5
  have h8 : (sweepA a id s (sweptL s).length).live = a.live - (sweptL s).length * szK s.k := rfl
  rw [swI_len]
  omega
theorem SkF.cap {k N : Nat} {A B : HpA} {g : List Int} (h : SkF k A g B) (I : ArI N A.a) : ArI N B.a ∧ g.length + B.a.live ≤ A.a.live := by
  induction h with
  | nil => exact ⟨I, by simp⟩
  | snoc h1 h2 h3 h4 ih =>
    obtain ⟨J, hc⟩ := ih
    have := sweep_cap J h3
    refine ⟨J.sweep h3, ?_⟩
    rw [List.length_append]
    show _ + (sweepA _ _ _ _).live ≤ _
    omega
theorem swI_wf {N : Nat} {a : Ar} (I : ArI N a) {id : Nat} {s : Sp} (hs : a.sp id = some s) : ∀ y ∈ swI s, WfI y := fun y hy => by
  unfold swI intsN at hy
  obtain ⟨z, hz, rfl⟩ := List.mem_map.1 hy
  obtain ⟨i, hi, rfl⟩ := List.mem_map.1 hz
  have hi2 : i < slK s.k := by
    unfold sweptL allN at hi
    exact List.mem_range.1 (List.mem_filter.1 (List.mem_filter.1 hi).1).1
  obtain ⟨g1, g2, g3, -⟩ := I.ok.pg id s hs
  have := Sp.addr_page g1 hi2
  have := I.ok.n
  unfold WfI; omega
theorem HpI.took {A : HpA} (I : HpI A none) {j x : Nat} {xs : List Nat} (h : A.r j = xs ++ [x]) : ∀ i, x ∉ updV A.r j xs i :=
  ((I.take (j := j) (x := x) (xs := xs) (by rw [h]; exact (List.perm_append_comm (l₁ := xs) (l₂ := [x])))).zz x rfl).2.1
theorem sweepA_sp {a : Ar} {id n : Nat} {s : Sp} : (sweepA a id s n).sp id = some (sweptS s) := by unfold sweepA updF; simp
section
variable {w0 w w' : World} {h : RhH} {A0 B : HpA} {v : Value} {g : List Int} {N N' m : Nat}
theorem SkT.o (K : SkT w0 h A0 w v g B N m) : OwnI 3 w v g := by
  obtain ⟨h', E, Q, -, L⟩ := K.ex
  exact L.o
theorem SkT.J (K : SkT w0 h A0 w v g B N m) : ArI N B.a := by
  obtain ⟨h', E, Q, -, L⟩ := K.ex
  exact Q.J
theorem SkT.more (K : SkT w0 h A0 w v g B N m) (hn : N ≤ N') : SkT w0 h A0 w v g B N' m := by
  obtain ⟨h', E, Q, t, L⟩ := K.ex
  exact ⟨h', E, Q.more hn (Nat.le_refl _), t, L⟩
theorem SkT.start (Q : RhS w h A0 N m) (c : Chg [] w w') : SkT w h A0 w' (.slice none 0 0) [] A0 N m :=
  ⟨h, RhE.refl h, Q.chg0 c, (StP.refl _ _).then0 c, LsP.nil _ _ _⟩
theorem SkT.fresh (K : SkT w0 h A0 w v g B N m) (I : HpI B none) (hN : N + 1 ≤ 6000) {k : Nat} (hk : k < 16) : Calls Tryz.prog 165 #[.pointer (some ⟨h.g, 0, none⟩), .int .i64 (k : Nat)] w fun e w' => ∃ (id : Nat) (ok : Bool) (B' : HpA), FrR k B id ok B' ∧ e = .returned (.tuple #[.int .i64 (id : Nat), .bool ok]) ∧ SkT w0 h A0 w' v g B' (N + 1) m := by
  obtain ⟨h', E, Q, t, L⟩ := K.ex
  rw [← E.g]
  refine (rhfresh_ok w h' B N m Q I hN k hk).mono ?_
  rintro e w' ⟨id, ok, B', hf, he, T⟩
  exact ⟨id, ok, B', hf, he, SkT.step E t L T⟩
end
def RhkPost (w : World) (h : RhH) (A : HpA) (N m k : Nat) (e : Ending) (w' : World) : Prop :=
  ∃ (id : Nat) (gone : List Int) (vg : Value) (ok : Bool) (A' : HpA), SeekR k A id gone ok A' ∧ e = .returned (.tuple #[.int .i64 (id : Nat), vg, .bool ok]) ∧ SkT w h A w' vg gone A' (N + 1) m
def Rs1Rel (w : World) (h : RhH) (A : HpA) (N m gk : Nat) (v : Value) (wr : World) : Prop := gk = 1 ∧ v = .slice none 0 0 ∧ SkT w h A wr v [] A N m
def Rs2Rel (w : World) (h : RhH) (A : HpA) (N m k gk : Nat) (v : Value) (wr : World) : Prop := ∃ B g, SkF k A g B ∧ gk = (B.r (k * 4 + 3)).length + 1 ∧ SkT w h A wr v g B N m
set_option maxHeartbeats 6400000 in
set_option maxRecDepth 100000 in
theorem rhseek_ok (w : World) (h : RhH) (A : HpA) (N m : Nat) (Q : RhS w h A N m) (I : HpI A none) (hN : N + 1 ≤ 6000) (k : Nat) (hk : k < 16) : Calls Tryz.prog 135 #[.pointer (some ⟨h.g, 0, none⟩), .int .i64 (k : Nat)] w (RhkPost w h A N m k) := by
  have hlive := Q.J.small (by omega : N ≤ 6000)
  have BA := I.B Q.J.ok (by omega : N ≤ 6000)
  have J0 := Q.J
  have HQ := Lib.hid (And.intro Q (And.intro I (And.intro BA (And.intro J0 hlive)))); clear Q I BA J0 hlive
  go_enter Tryz.func135, Tryz.ntmps135
  go_wp2_with fail
  go_loopg [7] 1 (fun gk v wr => Rs1Rel w h A N m gk v wr)
  case atStart => exact ⟨rfl, rfl, SkT.start HQ.out.1 (Chg.refl _ _)⟩
  case round =>
    obtain ⟨rfl, rfl, K⟩ := hrel
    have b1 := K.b1
    have KT := K.take (fun j => Nat.le_trans (HQ.out.2.2.1.l j) (by decide)) hk
    have HK := Lib.hid K; clear K
    go_wp2_with fail
    refine KT.mono ?_
    rintro e w1 (⟨h0, h2, rfl, hw⟩ | ⟨xs, x, h0, rfl, K1⟩ | ⟨xs, x, h0, h2, rfl, K1⟩)
    · subst hw
      clear KT
      have H1 := Lib.hid (And.intro h0 h2); clear h0 h2 b1
      go_wp2_with fail
      go_loopg [7] ((A.r (k * 4 + 3)).length + 1) (fun gk v wr => Rs2Rel w h A N m k gk v wr)
      case atStart => exact ⟨A, [], .nil A, rfl, HK.out⟩
      case round =>
        obtain ⟨B, g, hF, hgk, K⟩ := hrel
        have IB := hF.inv hk HQ.out.2.1
        have b1 := K.b1
        have BB := IB.B K.J.ok (by omega : N ≤ 6000)
        have KT := K.takefull (fun j => Nat.le_trans (BB.l j) (by decide)) hk
        obtain ⟨Av, nv, cv, rfl⟩ := K.slice
        have HK2 := Lib.hid (And.intro K (And.intro hF (And.intro IB BB))); clear K hF IB BB
        go_wp2_with fail
        refine KT.mono ?_
        rintro e w2 (⟨h3, rfl, hw⟩ | ⟨xs, x, h3, rfl, K2⟩)
        · have hw' := hw.symm; clear hw; subst hw'
          clear KT
          have KF := HK2.out.1.fresh HK2.out.2.2.1 hN hk
          have H3 := Lib.hid h3; clear h3
          go_wp2_with fail
          refine KF.mono ?_
          rintro e w3 ⟨id, ok, B', hf, rfl, K3⟩
          clear KF
          have H4 := Lib.hid (And.intro hf K3); clear hf K3
          go_wp2_with fail
          go_ret3
          refine ⟨id, g, _, ok, B', ?_, rfl, H4.out.2⟩
          rcases H4.out.1 with ⟨f, l', ha, hn, hall, rfl, rfl⟩ | ⟨x, c, l1, ks, D, n, ha, hc, hr, hks, hD, ⟨f, l', ha2, hn, hall, rfl, rfl⟩ | ⟨x', c', l', ha2, hc2, rfl, rfl, rfl⟩⟩
          · exact .fresh H1.out.1 H1.out.2 HK2.out.2.1 H3.out ha hn hall
          · exact .again H1.out.1 H1.out.2 HK2.out.2.1 H3.out ha hc hr hks hD ha2 hn hall
          · exact .no H1.out.1 H1.out.2 HK2.out.2.1 H3.out ha hc hr hks hD ha2 hc2
        · clear KT
          have hxr : x ∈ B.r (k * 4 + 3) := by rw [h3]; simp
          obtain ⟨-, s, hs, -⟩ := HK2.out.2.2.1.r _ x hxr
          have b0 := K2.b0
          have KS := K2.sweep (by omega : N ≤ 100000) hs
          have hno := HK2.out.2.2.1.took h3
          have H2 := Lib.hid (And.intro h3 (And.intro hs hno)); clear h3 hs hno hxr K2 b1
          go_wp2_with fail
          refine KS.mono ?_
          rintro e w3 ⟨u, rfl, O3, K3⟩
          clear KS
          obtain ⟨Au, nu, cu, rfl⟩ := O3.slice'
          have hcap := HK2.out.2.1.cap HQ.out.2.2.2.1
          have hcp2 := sweep_cap HK2.out.1.J H2.out.2.1
          have hll := HQ.out.2.2.2.2
          have SL := O3.sl (swI_wf HK2.out.1.J H2.out.2.1) (by unfold maxLen; omega)
          obtain ⟨nn, hnn⟩ : ∃ nn, g.length + (swI s).length = nn := ⟨_, rfl⟩
          have hnl : nn ≤ 1000000000000 := by omega
          have H3 := Lib.hid (And.intro hnn (And.intro SL (And.intro K3 hcap))); clear hnn SL K3 O3 hcap hcp2 hll b0
          go_wp2_with (at_builtin; refine wpList_cat_n nn H3.out.1 rfl _ _ rfl slty5 rfl H3.out.2.2.1.o rfl H3.out.2.1 hnl ?_; intro A4 c4 w4 O4 s4; have b0 := (H3.out.2.2.1.app O4 s4).b0)
          have K4 := H3.out.2.2.1.app O4 s4
          have hs4 : (sweepA B.a x s (sweptL s).length).sp x = some (sweptS s) := sweepA_sp
          by_cases hfu : fullS (sweptS s)
          · have KF := K4.full_yes (by omega : N ≤ 100000) hs4 hfu
            have KP := K4.put (k := k) (fun j => by
              have h9 := HK2.out.2.2.2.l j
              show (updV B.r (k * 4 + 3) xs j).length ≤ 100000
              unfold updV
              split
              · next e => rw [e, H2.out.1, List.length_append] at h9; omega
              · omega) hk x true
            have b1 := K4.b1
            have H4 := Lib.hid hfu
            clear K4 O4 s4 hs4 hfu
            go_wp2_with fail
            refine KF.mono ?_
            rintro e w5 ⟨rfl, hw⟩
            have hw' := hw.symm; clear hw; subst hw'
            clear KF
            go_wp2_with fail
            refine KP.mono ?_
            rintro e w5 ⟨rfl, r1, hd, K5⟩
            clear KP b0 b1
            have hr1 := hd.none_ H2.out.2.2
            subst hr1
            have H5 := Lib.hid K5; clear K5 hd
            go_wp2_with fail
            go_roundg (xs.length + 1)
            case measure => rw [hgk, H2.out.1, List.length_append]; simp
            case rel =>
              refine ⟨_, _, SkF.snoc HK2.out.2.1 H2.out.1 H2.out.2.1 H4.out, ?_, H5.out⟩
              show xs.length + 1 = (updV (updV B.r (k * 4 + 3) xs) (k * 4 + 1) _ (k * 4 + 3)).length + 1
              rw [updV_other _ _ (by omega), updV_same]
          · have KF := K4.full_no (by omega : N ≤ 100000) hs4 hfu
            have H4 := Lib.hid (And.intro hfu (K4.more (Nat.le_succ N)))
            clear K4 O4 s4 hs4 hfu
            go_wp2_with fail
            refine KF.mono ?_
            rintro e w5 ⟨rfl, hw⟩
            have hw' := hw.symm; clear hw; subst hw'
            clear KF
            go_wp2_with fail
            go_ret3
            exact ⟨x, _, _, true, _, .full H1.out.1 H1.out.2 HK2.out.2.1 H2.out.1 H2.out.2.1 H4.out.1, rfl, H4.out.2⟩
    · clear KT
      have hxr : x ∈ A.r (k * 4) := by rw [h0]; simp
      obtain ⟨-, s, hs, -, hfs⟩ := HQ.out.2.1.r _ x hxr
      have hnf : ¬ fullS s := fun hf => by have := hfs.2 hf; omega
      have b0 := K1.b0
      have KF := K1.full_no (by omega : N ≤ 100000) hs hnf
      have H1 := Lib.hid (And.intro h0 (K1.more (Nat.le_succ N))); clear h0 hs hxr hfs hnf K1 b1
      go_wp2_with fail
      refine KF.mono ?_
      rintro e w5 ⟨rfl, hw⟩
      have hw' := hw.symm; clear hw; subst hw'
      clear KF
      go_wp2_with fail
      go_ret3
      exact ⟨x, [], _, true, _, .swept H1.out.1, rfl, H1.out.2⟩
    · clear KT
      have hxr : x ∈ A.r (k * 4 + 2) := by rw [h2]; simp
      obtain ⟨-, s, hs, -, hfs⟩ := HQ.out.2.1.r _ x hxr
      have hnf : ¬ fullS s := fun hf => by have := hfs.2 hf; omega
      have hnf2 : ¬ fullS (sweptS s) := swept_not_full (fun i => HQ.out.2.2.2.1.mf x s i hs) hnf
      have b0 := K1.b0
      have KS := K1.sweep (by omega : N ≤ 100000) hs
      have H1 := Lib.hid (And.intro h0 (And.intro h2 (And.intro hs hnf2))); clear h0 h2 hs hxr hfs hnf hnf2 K1 b1
      go_wp2_with fail
      refine KS.mono ?_
      rintro e w3 ⟨u, rfl, O3, K3⟩
      clear KS
      obtain ⟨Au, nu, cu, rfl⟩ := O3.slice'
      have hcp2 := sweep_cap HQ.out.2.2.2.1 H1.out.2.2.1
      have hll := HQ.out.2.2.2.2
      have SL := O3.sl (swI_wf HQ.out.2.2.2.1 H1.out.2.2.1) (by unfold maxLen; omega)
      obtain ⟨nn, hnn⟩ : ∃ nn, ([] : List Int).length + (swI s).length = nn := ⟨_, rfl⟩
      have hnl : nn ≤ 1000000000000 := by rw [← hnn, List.length_nil]; omega
      have H3 := Lib.hid (And.intro hnn (And.intro SL K3)); clear hnn SL K3 O3 hcp2 hll b0
      go_wp2_with (at_builtin; refine wpList_cat_n nn H3.out.1 rfl _ _ rfl slty5 rfl H3.out.2.2.o rfl H3.out.2.1 hnl ?_; intro A4 c4 w4 O4 s4; have b0 := (H3.out.2.2.app O4 s4).b0)
      have K4 := H3.out.2.2.app O4 s4
      have hs4 : (sweepA A.a x s (sweptL s).length).sp x = some (sweptS s) := sweepA_sp
      have KF := K4.full_no (by omega : N ≤ 100000) hs4 H1.out.2.2.2
      have H4 := Lib.hid (K4.more (Nat.le_succ N))
      clear K4 O4 s4 hs4
      go_wp2_with fail
      refine KF.mono ?_
      rintro e w5 ⟨rfl, hw⟩
      have hw' := hw.symm; clear hw; subst hw'
      clear KF
      go_wp2_with fail
      go_ret3
      exact ⟨x, _, _, true, _, .unswept H1.out.1 H1.out.2.1 H1.out.2.2.1, rfl, by rw [List.nil_append] at H4; exact H4.out⟩
end Go.Proofs.YtcnchgbngcnijaaGreatDoor
