/- The document's heap (treadmillref5): Drop. -/
import Derived.Test.YtcnchgbngcnijaaGreatDoorRh3
import Derived.Test.YtcnchgbngcnijaaGreatDoorMHq
import Derived.Test.YtcnchgbngcnijaaGreatDoorMZ
import Derived.BigQuiet
namespace Go.Proofs.YtcnchgbngcnijaaGreatDoor
open Go.RowKit Go.Maps

theorem mem_waN' {r : Nat → List Nat} {x : Nat} : ∀ {n : Nat}, x ∈ waN r n ↔ ∃ k, k < n ∧ (x ∈ r (k * 4 + 2) ∨ x ∈ r (k * 4 + 3))
  | 0 => ⟨fun h => (by cases h), fun ⟨k, hk, _⟩ => (by omega)⟩
  | n + 1 => by
    rw [waN, List.mem_append, List.mem_append, mem_waN' (n := n)]
    constructor
    · rintro ((⟨k, hk, h⟩ | h) | h)
      · exact ⟨k, by omega, h⟩
      · exact ⟨n, by omega, .inl h⟩
      · exact ⟨n, by omega, .inr h⟩
    · rintro ⟨k, hk, h⟩
      by_cases e : k = n
      · subst e
        rcases h with h | h
        · exact .inl (.inr h)
        · exact .inr h
      · exact .inl (.inl ⟨k, by omega, h⟩)
/-- A swept span in common: of no P, and not unswept. -/
theorem HpI.in_yes {A : HpA} (I : HpI A none) {id : Nat} (h : ∃ k, k < 16 ∧ (id ∈ A.r (k * 4) ∨ id ∈ A.r (k * 4 + 1))) : ¬ ownedI A id ∧ id ∉ waN A.r 16 := by
  obtain ⟨k, hk, h⟩ := h
  refine ⟨fun ⟨p, q, hp, hq, ho⟩ => ?_, fun hw => ?_⟩
  · rcases h with h | h
    · exact I.ro p q id hp hq ho _ h
    · exact I.ro p q id hp hq ho _ h
  · obtain ⟨l, hl, hw⟩ := mem_waN'.1 hw
    rcases h with h | h <;> rcases hw with hw | hw <;> (have := I.dj _ _ _ h hw; omega)
theorem HpI.in_no {A : HpA} (I : HpI A none) {id : Nat} {s : Sp} (hs : A.a.sp id = some s) (h : ¬ ∃ k, k < 16 ∧ (id ∈ A.r (k * 4) ∨ id ∈ A.r (k * 4 + 1))) : ownedI A id ∨ id ∈ waN A.r 16 := by
  rcases I.all id s hs with h1 | ⟨j, hj⟩ | h1
  · cases h1
  · have h64 := (I.r j id hj).1
    have h4 : j = j / 4 * 4 + j % 4 := by omega
    have h5 : j % 4 = 0 ∨ j % 4 = 1 ∨ j % 4 = 2 ∨ j % 4 = 3 := by omega
    refine .inr (mem_waN'.2 ⟨j / 4, by omega, ?_⟩)
    rcases h5 with e | e | e | e <;> rw [e] at h4
    · exact absurd ⟨j / 4, by omega, .inl (by rw [← show j = j / 4 * 4 by omega]; exact hj)⟩ h
    · exact absurd ⟨j / 4, by omega, .inr (by rw [← h4]; exact hj)⟩ h
    · exact .inl (by rw [← h4]; exact hj)
    · exact .inr (by rw [← h4]; exact hj)
  · exact .inl h1
/-- A list laid behind an empty new one: a copy. -/
theorem wpList_copy_n {P : Program} {T E : TypeId} {w : World} {u : Value} {ys : List Int} {B : Nat} {ops : Array Oper} {rest : List Oper} {o : Oper} {a : Act} {Q : Exit → Act → World → Prop} (n : Nat) (hn : ys.length = n) (hgd : o.guard = none) (s x : Operand)
    (ho : o.op = .call { callee := .builtin .append, args := #[s, x], argTypes := #[T, T] }) (t : SlTy P T E) (hs : a.eval s = .slice (some ⟨w.heap.size, 0, none⟩) 0 0) (hx : a.eval x = u) (hu : SlI w B u ys) (hB : B ≤ w.heap.size) (hl : n ≤ 1000000)
    (hK : ∀ A' c' w', OwnI E w' (.slice A' n c') ys → Stp [] (fpv (.slice A' n c')) w w' → wpList P ops Q rest (a.put o.dst (.slice A' n c')) w') : wpList P ops Q (o :: rest) a (w.alloc (.cells #[] E)) := by
  refine wpList_cat_n n (by rw [List.length_nil]; omega) hgd s x ho t hs (OwnI.empty E w) hx (hu.chg ((Chg.refl [] w).alloc _) hB (by simp)) (by omega) fun A' c' w' O S => ?_
  rw [List.nil_append] at O
  have one : ∀ k ∈ fpv (.slice (some ⟨w.heap.size, 0, none⟩) 0 0), k = w.heap.size := fun k hk => by simpa [fpv, Value.ownBlock, eq_comm] using hk
  refine hK A' c' w' O ⟨((Chg.refl [] w).alloc (.cells #[] E)).new S.c (fun k hk => by rw [one k hk]; exact Nat.le_refl _), fun k hk => ?_⟩
  rcases S.f k hk with h1 | h1
  · exact .inr (by rw [one k h1]; exact Nat.le_refl _)
  · exact .inr (by have := ((Chg.refl [] w).alloc (.cells #[] E)).size; omega)
theorem rh_find {w : World} {h : RhH} {A : HpA} {N m id : Nat} {s : Sp} (Q : RhS w h A N m) (hN : N ≤ 100000) (hs : A.a.sp id = some s) :
    ∃ (kp : Nat) (ids : List Nat), RaM w h.ra A.a ids ∧ ids.length ≤ N ∧ ids[kp]? = some id ∧ ∀ W, Chg [] w W → Calls Tryz.prog 101 #[.pointer (some ⟨h.ra.g, 0, none⟩), .int .i64 (id : Nat)] W fun e w' => e = .returned (.int .i64 (kp : Nat)) ∧ w' = W := by
  obtain ⟨ids, M⟩ := Q.M
  obtain ⟨kp, hkp⟩ := M.pos hs
  have hle := M.len_le Q.J.ok
  refine ⟨kp, ids, M, hle, hkp, fun W c => (rafind_ok W h.ra A.a ids (M.chg0 c) (by omega) (id : Nat)).mono ?_⟩
  rintro e w' ⟨r, hr, rfl, hw⟩
  refine ⟨?_, hw⟩
  rcases hr with ⟨-, hno⟩ | ⟨k, id', rfl, hk, he⟩
  · exact absurd rfl (hno id (List.mem_of_getElem? hkp))
  · obtain rfl : id = id' := by omega
    have h1 : k = kp := by
      obtain ⟨hk1, e1⟩ := List.getElem?_eq_some_iff.1 hk
      obtain ⟨hk2, e2⟩ := List.getElem?_eq_some_iff.1 hkp
      have hr := List.pairwise_iff_getElem.1 M.rise
      rcases Nat.lt_trichotomy k kp with h3 | h3 | h3
      · have := hr k kp hk1 hk2 h3; omega
      · exact h3
      · have := hr kp k hk2 hk1 h3; omega
    rw [h1]
/-- The document drops a span without objects. -/
def RyPost (w : World) (h : RhH) (A : HpA) (N m id : Nat) (s : Sp) (e : Ending) (w' : World) : Prop :=
  e = .returned (.int .i64 0) ∧ ∃ l', FreeSays A.a.n A.a.l (s.first : Nat) (pgK s.k : Nat) 0 l' ∧ RhTo w w' h A { A with a := dropA A.a id s l' } N m
theorem rh_drop {w : World} {h : RhH} {A : HpA} {N m id : Nat} {s : Sp} (Q : RhS w h A N m) (hN : N ≤ 100000) (hs : A.a.sp id = some s) (h0 : cntF s.F (slK s.k) = 0) : Calls Tryz.prog 52 #[.pointer (some ⟨h.ra.g, 0, none⟩), .int .i64 (id : Nat)] w (RyPost w h A N m id s) := by
  obtain ⟨ids, M⟩ := Q.M
  refine (radrop_ok w h.ra A.a ids M (Nat.le_trans (M.len_le Q.J.ok) hN) N Q.J.ok Q.n (id : Nat)).mono ?_
  rintro e w' (⟨hn, -⟩ | ⟨id', s', hid, hs', ⟨h1, -⟩ | ⟨-, cc, l', h', ids', rfl, hf, hg, hm, M', st⟩⟩)
  · unfold spI at hn
    rw [if_pos (by omega), Int.toNat_natCast, hs] at hn; cases hn
  · obtain rfl : id = id' := by omega
    rw [hs] at hs'; injection hs' with hs'; subst hs'
    omega
  · obtain rfl : id = id' := by omega
    rw [hs] at hs'; injection hs' with hs'; subst hs'
    obtain ⟨rfl, J', -⟩ := Q.J.drop hs h0 hf
    exact ⟨rfl, l', hf, Q.arena M' J' st hg (by rw [hm]; exact Q.mw) rfl⟩
def RzPost (w : World) (h : RhH) (A : HpA) (N m id : Nat) (e : Ending) (w' : World) : Prop := (∃ bo, e = .returned (.bool bo)) ∧ ∃ r1, DelTo A.r id r1 ∧ RhTo w w' h A { A with r := r1 } N m
theorem rh_del {w : World} {h : RhH} {A : HpA} {N m : Nat} (Q : RhS w h A N m) (hl : ∀ j, (A.r j).length ≤ 100000) (id : Nat) : Calls Tryz.prog 139 #[.pointer (some ⟨h.gc, 0, none⟩), .int .i64 (id : Nat)] w (RzPost w h A N m id) := by
  refine (crdel_ok w h.gc h.v A.r Q.C id hl).mono ?_
  rintro e w' (⟨h1, he, c⟩ | ⟨j, hj, h1, h2, he, T⟩)
  · exact ⟨⟨_, he⟩, A.r, .inl ⟨rfl, h1⟩, Q.same c⟩
  · exact ⟨⟨_, he⟩, _, .inr ⟨j, hj, h1, h2, rfl⟩, Q.central T⟩
def RdiRel (w0 : World) (r : Nat → List Nat) (id gk : Nat) (v idx : Value) (w : World) : Prop :=
  ∃ c b, gk + c = 17 ∧ c ≤ 16 ∧ idx = .int .i64 (c : Nat) ∧ v = .bool b ∧ (b = true ↔ ∃ k, k < c ∧ (id ∈ r (k * 4) ∨ id ∈ r (k * 4 + 1))) ∧ Chg [] w0 w
def RhdPost (w : World) (h : RhH) (A : HpA) (N m : Nat) (e : Ending) (w' : World) : Prop :=
  ∃ ks B n, Rise ks ∧ (∀ x, x ∈ ks ↔ (spI A.a x).isSome = true) ∧ DrR ks A B n ∧ e = .returned (.int .i64 (n : Nat)) ∧ HpI B none ∧ RhTo w w' h A B N m
def RhdRel (w0 : World) (h : RhH) (A : HpA) (N m gk : Nat) (ks : List Int) (v : Value) (nv idx : Value) (w : World) : Prop :=
  ∃ i n B h', gk + i = ks.length + 1 ∧ i ≤ ks.length ∧ idx = .int .i64 (i : Nat) ∧ nv = .int .i64 (n : Nat) ∧ DrR (ks.take i) A B n ∧ RhE h' h ∧ RhS w h' B N m ∧ StP (RhF h A) (RhF h' B) w0 w ∧ LsP w0 (RhF h' B) w v ks
set_option maxHeartbeats 6400000 in
set_option maxRecDepth 100000 in
theorem rhdrop_ok (w : World) (h : RhH) (A : HpA) (N m : Nat) (Q : RhS w h A N m) (I : HpI A none) (hN : N ≤ 6000) : Calls Tryz.prog 90 #[.pointer (some ⟨h.g, 0, none⟩)] w (RhdPost w h A N m) := by
  obtain ⟨ids, M⟩ := Q.M
  have b0 := Q.b0
  have hgl := Q.b.lt
  have hgr := M.b.lt
  have c1 : w.cell? ⟨h.ra.g, 1, none⟩ = some h.ra.vi := M.b.cellv 1 rfl
  have hle := M.len_le Q.J.ok
  have hkl : (intsN ids).length ≤ 6000 := by unfold intsN; rw [List.length_map]; omega
  have hrise : Rise (intsN ids) := rise_ints M.rise
  have hks : ∀ x, x ∈ intsN ids ↔ (spI A.a x).isSome = true := fun x => by
    unfold spI
    constructor
    · intro hx
      unfold intsN at hx
      obtain ⟨id, hid, rfl⟩ := List.mem_map.1 hx
      rw [if_pos (by omega), Int.toNat_natCast]
      exact (M.mem id).1 hid
    · intro hx
      split at hx
      · next h0 =>
        have h1 := (M.mem x.toNat).2 hx
        have h2 := mem_intsN.2 h1
        rwa [Int.toNat_of_nonneg h0] at h2
      · cases hx
  have SL := M.i.sl (fun y hy => by
    unfold intsN at hy
    obtain ⟨id, hid, rfl⟩ := List.mem_map.1 hy
    obtain ⟨s, hs⟩ := Option.isSome_iff_exists.1 ((M.mem id).1 hid)
    have := Q.J.ok.top id s hs
    unfold WfI; omega) (by unfold maxLen; omega)
  obtain ⟨Ai, ci, hvi⟩ := M.i.slice
  obtain ⟨ks, hkse⟩ : ∃ ks, ks = intsN ids := ⟨_, rfl⟩
  rw [← hkse] at hkl hrise hks SL hvi
  obtain ⟨kn, hkn⟩ : ∃ kn, ks.length = kn := ⟨_, rfl⟩
  rw [hkn] at hkl hvi
  rw [hvi] at c1 SL
  have hwl : w.heap.size ≤ w.heap.size := Nat.le_refl _
  have HQ := Lib.hid (And.intro Q (And.intro I (And.intro hrise (And.intro hks (And.intro SL hkn))))); clear Q I M hrise hks SL hvi hkse hle hkn
  go_enter Tryz.func90, Tryz.ntmps90
  go_wp2_with (at_builtin; refine wpList_copy_n kn HQ.out.2.2.2.2.2 rfl _ _ rfl slty5 rfl rfl HQ.out.2.2.2.2.1 (Nat.le_refl _) (by omega) ?_; intro A4 c4 w4 O4 s4)
  have c4w : Chg [] w w4 := Chg.new (Chg.refl [] w) s4.c (by simp)
  have L4 : LsP w (RhF h A) w4 (.slice A4 kn c4) ks := ⟨O4, fun k hk hF => by
    rcases s4.f k hk with h1 | h1
    · simp at h1
    · have := HQ.out.1.lt hF; omega, fun k hk => by
    rcases s4.f k hk with h1 | h1
    · simp at h1
    · exact h1⟩
  have HL := Lib.hid (And.intro L4 c4w); clear L4 c4w O4 s4 b0 c1
  go_wp2_with fail
  go_loopg [3, 5] (kn + 1) (fun gk nv idx wr => RhdRel w h A N m gk ks (.slice A4 kn c4) nv idx wr)
  case atStart => exact ⟨0, 0, A, h, by have := HQ.out.2.2.2.2.2; omega, by omega, rfl, rfl, .nil A, RhE.refl _, HQ.out.1.chg0 HL.out.2, (StP.refl _ _).then0 HL.out.2, HL.out.1⟩
  case round =>
    obtain ⟨i, n, B, h1, hgk, hi, rfl, rfl, hD, E1, Q1, t1, L1⟩ := hrel
    have hn := hD.len
    rw [List.length_take] at hn
    rw [HQ.out.2.2.2.2.2] at hgk hi hn
    by_cases ei : i < kn
    · obtain ⟨y, hy⟩ : ∃ y, ks[i]? = some y := ⟨_, List.getElem?_eq_getElem (by rw [HQ.out.2.2.2.2.2]; exact ei)⟩
      have hym : y ∈ ks := List.mem_of_getElem? hy
      obtain ⟨id, s0, rfl, hs0⟩ : ∃ (id : Nat) (s : Sp), y = id ∧ A.a.sp id = some s := by
        have h1 := (HQ.out.2.2.2.1 y).1 hym
        unfold spI at h1
        split at h1
        · next h0 =>
          obtain ⟨s, hs⟩ := Option.isSome_iff_exists.1 h1
          exact ⟨y.toNat, s, by omega, hs⟩
        · cases h1
      have hnt : ((id : Nat) : Int) ∉ ks.take i := fun hm => by
        have h1 := rise_nodup HQ.out.2.2.1
        rw [← List.take_append_drop i ks] at h1
        rw [List.nodup_append] at h1
        have h2 : ((id : Nat) : Int) ∈ ks.drop i := by
          rw [List.mem_iff_getElem?]
          exact ⟨0, by rw [List.getElem?_drop]; exact hy⟩
        exact h1.2.2 _ hm _ h2 rfl
      have hs : B.a.sp id = some s0 := (hD.sp hnt).trans hs0
      obtain ⟨s, rfl⟩ : ∃ s, s = s0 := ⟨_, rfl⟩
      obtain ⟨g, hgA, cx, -⟩ := L1.o.cell hy
      subst hgA
      have hi' : (i : Int) < (kn : Int) := by omega
      have hi0 : (0 : Int) ≤ (i : Int) := by omega
      have J1 := hD.inv HQ.out.2.1
      have B1 := J1.B Q1.J.ok hN
      have b0 : wr.cell? ⟨h.g, 0, none⟩ = some (.pointer (some ⟨h.ra.g, 0, none⟩)) := by rw [← E1.g, ← E1.ra]; exact Q1.b0
      have b1 : wr.cell? ⟨h.g, 1, none⟩ = some (.pointer (some ⟨h.gc, 0, none⟩)) := by rw [← E1.g, ← E1.gc]; exact Q1.b1
      have hid2 : id ≤ 1000000 := by have := Q1.J.ok.top id s hs; omega
      have htk : ks.take (i + 1) = ks.take i ++ [((id : Nat) : Int)] := take_succ_get hy
      obtain ⟨kp, ids, M1, hil, hkp, KF⟩ := rh_find Q1 (by omega) hs
      rw [E1.ra] at KF
      have hg5 : g < wr.heap.size := lt_of_cell cx
      have hg6 : h.g < wr.heap.size := lt_of_cell b0
      have HK := Lib.hid KF
      have HX := Lib.hid (And.intro hD (And.intro E1 (And.intro Q1 (And.intro t1 (And.intro L1 (And.intro J1 (And.intro B1 (And.intro hs htk))))))))
      have HM := Lib.hid (And.intro M1 (And.intro hil (And.intro hkp hy))); clear hD E1 Q1 t1 L1 J1 B1 hs htk hs0 hym hy hnt M1 hil hkp KF
      go_wp2_with fail
      go_quiet ((go_at_call 101; exact Calls.quiet_of_same (HK.out _ ((Chg.refl [] wr).drewN _))))
      go_wp2_with fail
      obtain ⟨wk, hwk⟩ : ∃ wk, wk = wr := ⟨_, rfl⟩
      subst hwk
      go_loopg [7, 8] 17 (fun gk v idx wq => RdiRel wk B.r id gk v idx wq)
      case atStart => exact ⟨0, false, by omega, by omega, rfl, rfl, ⟨fun h => absurd h (by decide), fun ⟨k, hk, _⟩ => (by omega)⟩, (Chg.refl [] wk).drewN _⟩
      case round =>
        obtain ⟨c, b, hgc, hc, rfl, rfl, hb, cw⟩ := hrel
        by_cases ec : c < 16
        · have hc' : (c : Int) < 16 := by omega
          have hc0 : (0 : Int) ≤ (c : Int) := by omega
          have C2 := HX.out.2.2.1.C.chg0 cw
          have j0 : c * 4 < 64 := by omega
          have j1 : c * 4 + 1 < 64 := by omega
          have q0 := C2.cell j0
          have q1 := C2.cell j1
          rw [HX.out.2.1.gc] at q0 q1
          have R0 := C2.o _ j0
          have z0 : (intsN (B.r (c * 4))).length ≤ 1000000 := by unfold intsN; rw [List.length_map]; have := HX.out.2.2.2.2.2.2.1.l (c * 4); omega
          have R1 := C2.o _ j1
          have z1 : (intsN (B.r (c * 4 + 1))).length ≤ 1000000 := by unfold intsN; rw [List.length_map]; have := HX.out.2.2.2.2.2.2.1.l (c * 4 + 1); omega
          have K0 := fun (W : World) (D : Chg [] wr W) => has_ok W (h1.v (c * 4)) (intsN (B.r (c * 4))) (id : Nat) ((R0.chg0 D).rd z0)
          have K1 := fun (W : World) (D : Chg [] wr W) => has_ok W (h1.v (c * 4 + 1)) (intsN (B.r (c * 4 + 1))) (id : Nat) ((R1.chg0 D).rd z1)
          obtain ⟨A0, d0, e0, -⟩ := C2.row j0
          obtain ⟨A1, d1, e1, -⟩ := C2.row j1
          obtain ⟨n0, hn0⟩ : ∃ n0, n0 = (B.r (c * 4)).length := ⟨_, rfl⟩
          obtain ⟨n1, hn1⟩ : ∃ n1, n1 = (B.r (c * 4 + 1)).length := ⟨_, rfl⟩
          rw [e0, ← hn0] at q0 K0
          rw [e1, ← hn1] at q1 K1
          have p1 : wr.cell? ⟨h.g, 1, none⟩ = some (.pointer (some ⟨h.gc, 0, none⟩)) := cw.cellv hg6 (by simp) b1
          have px : wr.cell? ⟨g, i, none⟩ = some (.int .i64 (id : Nat)) := cw.cellv hg5 (by simp) cx
          have HB := Lib.hid (And.intro hb cw)
          have nx : ∀ b', (b' = true ↔ b = true ∨ id ∈ B.r (c * 4) ∨ id ∈ B.r (c * 4 + 1)) → (b' = true ↔ ∃ k, k < c + 1 ∧ (id ∈ B.r (k * 4) ∨ id ∈ B.r (k * 4 + 1))) := fun b' hb' => by
            rw [hb', hb]
            constructor
            · rintro (⟨k, hk, h⟩ | h)
              · exact ⟨k, by omega, h⟩
              · exact ⟨c, by omega, h⟩
            · rintro ⟨k, hk, h⟩
              by_cases e : k = c
              · subst e; exact .inr h
              · exact .inl ⟨k, by omega, h⟩
          have HN := Lib.hid nx
          have HH := Lib.hid (And.intro K0 K1)
          clear hb cw C2 K0 K1 e0 e1 hn0 hn1 nx R0 R1 z0 z1
          cases b with
          | true =>
            go_upto_region 11 with fail
            go_quiet (fail)
            go_wp2_with fail
            go_roundg (16 - c)
            case measure => omega
            case rel => exact ⟨c + 1, true, by omega, by omega, by go_num, rfl, HN.out true (by simp), HB.out.2.trans ((Chg.refl _ _).drewN _)⟩
          | false =>
            by_cases m0 : ((id : Nat) : Int) ∈ intsN (B.r (c * 4))
            · have k0 := HH.out.1
              rw [decide_eq_true m0] at k0
              have HK0 := Lib.hid k0
              have HM0 := Lib.hid (mem_intsN.1 m0)
              clear k0 m0
              go_upto_region 11 with fail
              go_quiet ((go_at_call 29; exact Calls.quiet_of_same (HK0.out _ ((Chg.refl [] wr).drewN _))))
              go_wp2_with fail
              go_roundg (16 - c)
              case measure => omega
              case rel => exact ⟨c + 1, true, by omega, by omega, by go_num, rfl, HN.out true (by simp [HM0.out]), HB.out.2.trans ((Chg.refl _ _).drewN _)⟩
            · have k0 := HH.out.1
              rw [decide_eq_false m0] at k0
              have HK0 := Lib.hid k0
              have HM0 := Lib.hid (fun h => m0 (mem_intsN.2 h) : ¬ id ∈ B.r (c * 4))
              clear k0 m0
              obtain ⟨b9, hb9⟩ : ∃ b9, b9 = decide (((id : Nat) : Int) ∈ intsN (B.r (c * 4 + 1))) := ⟨_, rfl⟩
              have k1 := HH.out.2
              rw [← hb9] at k1
              have HK1 := Lib.hid k1
              have HM1 := Lib.hid (show b9 = true ↔ id ∈ B.r (c * 4 + 1) by rw [hb9, decide_eq_true_iff]; exact mem_intsN)
              clear k1 hb9
              go_upto_region 11 with fail
              go_quiet (first | (go_at_call_of 29 (Value.slice A0 n0 d0); exact Calls.quiet_of_same (HK0.out _ ((Chg.refl [] wr).drewN _))) | (go_at_call_of 29 (Value.slice A1 n1 d1); exact Calls.quiet_of_same (HK1.out _ ((Chg.refl [] wr).drewN _))))
              go_wp2_with fail
              go_roundg (16 - c)
              case measure => omega
              case rel => exact ⟨c + 1, b9, by omega, by omega, by go_num, rfl, HN.out b9 ⟨fun hb => .inr (.inr (HM1.out.1 hb)), fun hf => by
                rcases hf with hf | hf | hf
                · simp at hf
                · exact absurd hf HM0.out
                · exact HM1.out.2 hf⟩, HB.out.2.trans ((Chg.refl _ _).drewN _)⟩
        · obtain rfl : c = 16 := by omega
          have M2 := HM.out.1.chg0 cw
          have Q2 := HX.out.2.2.1.chg0 cw
          have t2 := HX.out.2.2.2.1.then0 cw
          have L2 := HX.out.2.2.2.2.1.chg0 cw
          obtain ⟨gs, hvs, hcs⟩ := M2.scell HM.out.2.2.1
          obtain ⟨cs, hcse⟩ : ∃ cs, cs = vcap h1.ra.vs := ⟨_, rfl⟩
          obtain ⟨ln, hln⟩ : ∃ ln, ln = ids.length := ⟨_, rfl⟩
          have hkl : kp < ln := by rw [hln]; exact (List.getElem?_eq_some_iff.1 HM.out.2.2.1).1
          have hkl1 : (kp : Int) < (ln : Int) := by omega
          have hkl0 : (0 : Int) ≤ (kp : Int) := by omega
          have s2 : wr.cell? ⟨h1.ra.g, 2, none⟩ = some h1.ra.vs := M2.b.cellv 2 rfl
          rw [HX.out.2.1.ra] at s2
          rw [← hcse, ← hln] at hvs
          rw [hvs] at s2
          obtain ⟨ρ, hI⟩ := M2.S id s HX.out.2.2.2.2.2.2.2.1
          obtain ⟨bs, hbs⟩ : ∃ bs, bs = h1.ra.B id := ⟨_, rfl⟩
          have hcs2 : wr.cell? ⟨gs, kp, none⟩ = some (.pointer (some ⟨bs.g, 0, none⟩)) := by rw [hbs]; exact hcs
          rw [← hbs] at hI
          have KL := rslive_ok wr bs s ρ hI
          obtain ⟨ct, hct⟩ : ∃ ct, ct = cntF s.F (slK s.k) := ⟨_, rfl⟩
          rw [← hct] at KL
          have p0 : wr.cell? ⟨h.g, 0, none⟩ = some (.pointer (some ⟨h.ra.g, 0, none⟩)) := cw.cellv hg6 (by simp) b0
          have p1 : wr.cell? ⟨h.g, 1, none⟩ = some (.pointer (some ⟨h.gc, 0, none⟩)) := cw.cellv hg6 (by simp) b1
          have px : wr.cell? ⟨g, i, none⟩ = some (.int .i64 (id : Nat)) := cw.cellv hg5 (by simp) cx
          have HB := Lib.hid (And.intro hb (And.intro Q2 (And.intro t2 (And.intro L2 hct)))); clear hb cw ec M2 Q2 t2 L2 hI hbs hvs hcse hln hcs hct
          cases b with
          | false =>
            clear KL
            go_wp2_with fail
            go_roundg (kn - i)
            case measure => omega
            case rel =>
              refine ⟨i + 1, n, B, h1, by have := HQ.out.2.2.2.2.2; omega, by have := HQ.out.2.2.2.2.2; omega, by go_num, rfl, ?_, HX.out.2.1, HB.out.2.1, HB.out.2.2.1, HB.out.2.2.2.1⟩
              rw [HX.out.2.2.2.2.2.2.2.2]
              refine .skip HX.out.1 HX.out.2.2.2.2.2.2.2.1 ?_
              rcases HX.out.2.2.2.2.2.1.in_no HX.out.2.2.2.2.2.2.2.1 (fun hx => by
                have h9 := HB.out.1.2 hx
                simp at h9) with h8 | h8
              · exact .inl h8
              · exact .inr (.inl h8)
          | true =>
            have hin := HX.out.2.2.2.2.2.1.in_yes (HB.out.1.1 rfl)
            have HI := Lib.hid hin; clear hin
            by_cases h0 : ct = 0
            · subst h0
              go_wp2_with fail
              refine KL.mono ?_
              rintro e w2 ⟨rfl, hw2⟩
              have hw3 := hw2.symm; clear hw2; subst hw3
              clear KL
              have hl9 : ∀ j, (B.r j).length ≤ 100000 := fun j => by have := HX.out.2.2.2.2.2.2.1.l j; omega
              have HL9 := Lib.hid hl9; clear hl9
              have hg7 : h.g < wr.heap.size := lt_of_cell p1
              have hg8 : g < wr.heap.size := lt_of_cell px
              clear b0 b1 cx s2 hcs2
              have KD : ∀ W, Chg [] wr W → Calls Tryz.prog 139 #[.pointer (some ⟨h.gc, 0, none⟩), .int .i64 (id : Nat)] W (RzPost W h1 B N m id) := fun W D => by
                rw [← HX.out.2.1.gc]; exact rh_del (RhS.chg0 HB.out.2.1 D) HL9.out id
              have HD := Lib.hid KD; clear KD
              go_upto_region 13 with fail
              go_region_held3 (fun w' => w'.cell? ⟨h.g, 1, none⟩ = some (.pointer (some ⟨h.gc, 0, none⟩)) ∧ w'.cell? ⟨g, i, none⟩ = some (.int .i64 (id : Nat))) (go_keep)
                (first | (go_at_call 139; refine (HD.out _ (by repeat (first | assumption | exact Chg.refl [] wr | refine Chg.drew ?_))).mono ?_; rintro e w' ⟨⟨bo, rfl⟩, r1, hd, h2, E2, Q3, s3⟩; have t3 := StP.trans (StP.then0 HB.out.2.2.1 (by repeat (first | assumption | exact Chg.refl [] wr | refine Chg.drew ?_))) s3; have L3 := LsP.st (LsP.chg0 HB.out.2.2.2.1 (by repeat (first | assumption | exact Chg.refl [] wr | refine Chg.drew ?_))) s3; have y0 : w'.cell? ⟨h.g, 1, none⟩ = some (.pointer (some ⟨h.gc, 0, none⟩)) := (by rw [← HX.out.2.1.g, ← HX.out.2.1.gc, ← E2.g, ← E2.gc]; exact Q3.b1); have y1 : w'.cell? ⟨g, i, none⟩ = some (.int .i64 (id : Nat)) := (by obtain ⟨g', e', cx', -⟩ := L3.o.cell HM.out.2.2.2; injection e' with e'; injection e' with e'; rw [e']; exact cx')))
              have p0' : w'.cell? ⟨h.g, 0, none⟩ = some (.pointer (some ⟨h.ra.g, 0, none⟩)) := by rw [← HX.out.2.1.g, ← HX.out.2.1.ra, ← E2.g, ← E2.ra]; exact Q3.b0
              have px' := y1
              have HY := Lib.hid (And.intro hd (And.intro (E2.trans HX.out.2.1) (And.intro Q3 (And.intro t3 L3)))); clear hd E2 Q3 t3 L3 s3 y0 y1 p0 p1 px
              obtain ⟨w6, hw6⟩ : ∃ w6, w6 = w' := ⟨_, rfl⟩
              subst hw6
              have KD : ∀ W, Chg [] w6 W → Calls Tryz.prog 52 #[.pointer (some ⟨h.ra.g, 0, none⟩), .int .i64 (id : Nat)] W (RyPost W h2 { B with r := r1 } N m id s) := fun W D => by
                rw [← HY.out.2.1.ra]; exact rh_drop (RhS.chg0 HY.out.2.2.1 D) (Nat.le_trans hN (by decide)) HX.out.2.2.2.2.2.2.2.1 HB.out.2.2.2.2.symm
              have HE := Lib.hid KD; clear KD
              go_upto_region 14 with fail
              go_region_held3 (fun w' => w'.cell? ⟨h.g, 0, none⟩ = some (.pointer (some ⟨h.ra.g, 0, none⟩)) ∧ w'.cell? ⟨g, i, none⟩ = some (.int .i64 (id : Nat))) (go_keep)
                (first | (go_at_call 52; refine (HE.out _ (by repeat (first | assumption | exact Chg.refl [] w6 | refine Chg.drew ?_))).mono ?_; rintro e w' ⟨rfl, l', hf, h3, E3, Q4, s4⟩; have t4 := StP.trans (StP.then0 HY.out.2.2.2.1 (by repeat (first | assumption | exact Chg.refl [] w6 | refine Chg.drew ?_))) s4; have L4 := LsP.st (LsP.chg0 HY.out.2.2.2.2 (by repeat (first | assumption | exact Chg.refl [] w6 | refine Chg.drew ?_))) s4; have y0 : w'.cell? ⟨h.g, 0, none⟩ = some (.pointer (some ⟨h.ra.g, 0, none⟩)) := (by rw [← HY.out.2.1.g, ← HY.out.2.1.ra, ← E3.g, ← E3.ra]; exact Q4.b0); have y1 : w'.cell? ⟨g, i, none⟩ = some (.int .i64 (id : Nat)) := (by obtain ⟨g', e', cx', -⟩ := L4.o.cell HM.out.2.2.2; injection e' with e'; injection e' with e'; rw [e']; exact cx')))
              have HZ := Lib.hid (And.intro hf (And.intro (E3.trans HY.out.2.1) (And.intro Q4 (And.intro t4 L4)))); clear hf E3 Q4 t4 L4 s4 y0 y1 p0' px'
              go_wp2_with fail
              go_roundg (kn - i)
              case measure => omega
              case rel =>
                refine ⟨i + 1, n + 1, { B with a := dropA B.a id s l', r := r1 }, h3, by have := HQ.out.2.2.2.2.2; omega, by have := HQ.out.2.2.2.2.2; omega, by go_num, by go_num, ?_, HZ.out.2.1, HZ.out.2.2.1, HZ.out.2.2.2.1, HZ.out.2.2.2.2⟩
                rw [HX.out.2.2.2.2.2.2.2.2]
                exact .drop HX.out.1 HX.out.2.2.2.2.2.2.2.1 HI.out.1 HI.out.2 HB.out.2.2.2.2.symm HZ.out.1 HY.out.1
            · have h0' : ((ct : Int) == 0) = false := by rw [beq_eq_false_iff_ne]; omega
              go_wp2_with fail
              refine KL.mono ?_
              rintro e w2 ⟨rfl, hw2⟩
              subst hw2
              clear KL
              go_wp2_with fail
              go_roundg (kn - i)
              case measure => omega
              case rel =>
                refine ⟨i + 1, n, B, h1, by have := HQ.out.2.2.2.2.2; omega, by have := HQ.out.2.2.2.2.2; omega, by go_num, rfl, ?_, HX.out.2.1, HB.out.2.1, HB.out.2.2.1, HB.out.2.2.2.1⟩
                rw [HX.out.2.2.2.2.2.2.2.2]
                exact .skip HX.out.1 HX.out.2.2.2.2.2.2.2.1 (.inr (.inr (by rw [← HB.out.2.2.2.2]; omega)))
    · obtain rfl : i = kn := by omega
      have hi' : ¬ (i : Int) < (i : Int) := by omega
      rw [← HQ.out.2.2.2.2.2, List.take_length] at hD
      have HX := Lib.hid (And.intro hD (And.intro E1 (And.intro Q1 t1))); clear hD E1 Q1 t1 L1 ei
      go_wp2_with fail
      go_ret
      exact ⟨ks, B, n, HQ.out.2.2.1, HQ.out.2.2.2.1, HX.out.1, rfl, HX.out.1.inv HQ.out.2.1, h1, HX.out.2.1, HX.out.2.2.1, HX.out.2.2.2⟩
end Go.Proofs.YtcnchgbngcnijaaGreatDoor
