/- Package cache: seek. -/
import Derived.Test.YtcnchgbngcnijaaGreatDoorMHq
import Derived.Laws.ByValue
import Derived.WalkMore
namespace Go.Proofs.YtcnchgbngcnijaaGreatDoor
open Go.RowKit Go.Maps

def swI (s : Sp) : List Int := intsN ((sweptL s).map s.addr)
inductive SkF (k : Nat) : HpA → List Int → HpA → Prop
  | nil (A : HpA) : SkF k A [] A
  | snoc {A B : HpA} {g : List Int} {xs : List Nat} {x : Nat} {s : Sp} : SkF k A g B → B.r (k * 4 + 3) = xs ++ [x] → B.a.sp x = some s → fullS (sweptS s) → SkF k A (g ++ swI s) { B with a := sweepA B.a x s (sweptL s).length, r := updV (updV B.r (k * 4 + 3) xs) (k * 4 + 1) (updV B.r (k * 4 + 3) xs (k * 4 + 1) ++ [x]) }
inductive SeekR (k : Nat) (A : HpA) : Nat → List Int → Bool → HpA → Prop
  | swept {xs : List Nat} {x : Nat} : A.r (k * 4) = xs ++ [x] → SeekR k A x [] true { A with r := updV A.r (k * 4) xs }
  | unswept {xs : List Nat} {x : Nat} {s : Sp} : A.r (k * 4) = [] → A.r (k * 4 + 2) = xs ++ [x] → A.a.sp x = some s → SeekR k A x (swI s) true { A with a := sweepA A.a x s (sweptL s).length, r := updV A.r (k * 4 + 2) xs }
  | full {B : HpA} {g : List Int} {xs : List Nat} {x : Nat} {s : Sp} : A.r (k * 4) = [] → A.r (k * 4 + 2) = [] → SkF k A g B → B.r (k * 4 + 3) = xs ++ [x] → B.a.sp x = some s → ¬ fullS (sweptS s) → SeekR k A x (g ++ swI s) true { B with a := sweepA B.a x s (sweptL s).length, r := updV B.r (k * 4 + 3) xs }
  | fresh {B : HpA} {g : List Int} {f id : Nat} {l' : List R} : A.r (k * 4) = [] → A.r (k * 4 + 2) = [] → SkF k A g B → B.r (k * 4 + 3) = [] → AllocSays B.a.l (pgK k : Nat) (f : Nat) 0 l' → B.a.sp id = none → (∀ j, j < id → B.a.sp j ≠ none) → SeekR k A id g true { B with a := spanA B.a l' id k f }
  | again {B D : HpA} {g ks : List Int} {f id n : Nat} {l1 l' : List R} {x c : Int} : A.r (k * 4) = [] → A.r (k * 4 + 2) = [] → SkF k A g B → B.r (k * 4 + 3) = [] → AllocSays B.a.l (pgK k : Nat) x c l1 → c ≠ 0 → Rise ks → (∀ x, x ∈ ks ↔ (spI B.a x).isSome = true) → DrR ks B D n → AllocSays D.a.l (pgK k : Nat) (f : Nat) 0 l' → D.a.sp id = none → (∀ j, j < id → D.a.sp j ≠ none) → SeekR k A id g true { D with a := spanA D.a l' id k f }
  | no {B D : HpA} {g ks : List Int} {n : Nat} {l1 l' : List R} {x c x' c' : Int} : A.r (k * 4) = [] → A.r (k * 4 + 2) = [] → SkF k A g B → B.r (k * 4 + 3) = [] → AllocSays B.a.l (pgK k : Nat) x c l1 → c ≠ 0 → Rise ks → (∀ x, x ∈ ks ↔ (spI B.a x).isSome = true) → DrR ks B D n → AllocSays D.a.l (pgK k : Nat) x' c' l' → c' ≠ 0 → SeekR k A 0 g false D
def HsPost (W w : World) (H : HpH) (A : HpA) (N b k : Nat) (e : Ending) (w' : World) : Prop :=
  ∃ id gone vg ok A' N' b' H', SeekR k A id gone ok A' ∧ e = .returned (.tuple #[.int .i64 (id : Nat), vg, .bool ok]) ∧ N' ≤ N + 1 ∧ b' ≤ b + 6 ∧ HpE H' H ∧ HpS W w' H' A' N' b' ∧ StP (HpF H A) (HpF H' A') w w' ∧ LsP W (HpF H' A') w' vg gone ∧ (∀ k ∈ fpv vg, w.heap.size ≤ k) ∧ (ok = true → HpI A' (some id)) ∧ (ok = false → HpI A' none)
theorem swept_not_full {s : Sp} (mf : ∀ i, s.M i = true → s.F i = true) (h : ¬ fullS s) : ¬ fullS (sweptS s) := fun h2 => h fun x h3 h4 => by
  have h5 : s.M x = true := h2 x (Nat.zero_le _) h4
  exact mf x h5
theorem full_iff {a : Ar} {id : Nat} {s : Sp} {bo : Bool} (hs : a.sp id = some s) (h : bo = true ↔ ∀ s, spI a (id : Nat) = some s → fullS s) : bo = true ↔ fullS s := by
  have e : spI a (id : Nat) = some s := by unfold spI; rw [if_pos (by omega), Int.toNat_natCast]; exact hs
  rw [h, e]
  exact ⟨fun h => h s rfl, fun h t ht => by injection ht with ht; rw [← ht]; exact h⟩
/-- What stays through seek's loops. -/
structure SkK (W w0 w : World) (H0 : HpH) (A0 A : HpA) (N b g2 g5 : Nat) (gone : List Int) : Prop where
  K : ∃ H vg, SkS W w0 w H0 A0 H A N b g2 g5 vg gone
  I : HpI A none
def S1Rel (W w0 : World) (H0 : HpH) (A0 : HpA) (N b g2 g5 gk : Nat) (u8 u9 u10 : Value) (w : World) : Prop := gk = 2 ∧ SkK W w0 w H0 A0 A0 N b g2 g5 []
/-- At the head of the second loop: what TakeFull gave. -/
def S2Rel (W w0 : World) (H0 : HpH) (A0 : HpA) (N b g2 g5 k gk : Nat) (v11 v12 : Value) (w : World) : Prop :=
  ∃ B g, SkF k A0 g B ∧ gk = (B.r (k * 4 + 3)).length + 1 ∧ HpI B none ∧
    ((B.r (k * 4 + 3) = [] ∧ v11 = .int .i64 0 ∧ v12 = .bool false ∧ ∃ H vg, SkS W w0 w H0 A0 H B N b g2 g5 vg g) ∨
     ∃ xs x, B.r (k * 4 + 3) = xs ++ [x] ∧ v11 = .int .i64 (x : Nat) ∧ v12 = .bool true ∧ ∃ H vg, SkS W w0 w H0 A0 H { B with r := updV B.r (k * 4 + 3) xs } N b g2 g5 vg g)
theorem h3_len {r xs : List Nat} {x : Nat} (h : r = xs ++ [x]) : r.length = xs.length + 1 := by rw [h]; simp
theorem results_tcl {fn : Func} {t a v : Tmp} (h : fn.results = #[.tmp t, .cell a 33, .tmp v]) (tmps : Array Value) (w : World) (g : Nat) (A : Option Addr) (n c : Nat) (ha : tmps.getD a undef = .pointer (some ⟨g, 0, none⟩)) (hc : w.cell? ⟨g, 0, none⟩ = some (.slice A n c)) :
    (results fn tmps).run Tryz.prog w = .ok (.tuple #[tmps.getD t undef, .slice A n c, tmps.getD v undef]) w := by
  have ha' : tmps[a]?.getD undef = .pointer (some ⟨g, 0, none⟩) := by simpa using ha
  simp [results, h, go_sem]
  rw [ha']
  simp [hc, go_sem]
theorem SkS.start {W w : World} {H : HpH} {A : HpA} {N b : Nat} (Q : HpS W w H A N b) (hl : A.a.live ≤ 100000000) :
    SkS W w ((w.alloc (.cells #[.pointer (some ⟨H.gh, 0, none⟩)] 43)).alloc (.cells #[.slice none 0 0] 33)) H A H A N b w.heap.size (w.heap.size + 1) (.slice none 0 0) [] := by
  have c1 : Chg [] w (w.alloc (.cells #[.pointer (some ⟨H.gh, 0, none⟩)] 43)) := (Chg.refl [] w).alloc _
  have c2 := c1.alloc (.cells #[.slice none 0 0] 33)
  have b2 := ((Blk.new w 43 #[.pointer (some ⟨H.gh, 0, none⟩)])).alloc (.cells #[.slice none 0 0] 33)
  have b5 := Blk.new (w.alloc (.cells #[.pointer (some ⟨H.gh, 0, none⟩)] 43)) 33 #[.slice none 0 0]
  rw [World.size_alloc] at b5
  refine ⟨HpE.refl _, Q.chg0 c2, (StP.refl _ _).then0 c2, LsP.nil _ _ _, fun k hk => by simp [fpv, Value.ownBlock] at hk, b2, b5, Nat.le_refl _, Nat.le_succ _, fun hF => ?_, fun hF => ?_, fun hk => by simp [fpv, Value.ownBlock] at hk, fun hk => by simp [fpv, Value.ownBlock] at hk, Q.S.c.size, by simpa using hl⟩
  · have := Q.lt hF; omega
  · have := Q.lt hF; omega
set_option maxHeartbeats 6400000 in
set_option maxRecDepth 100000 in
theorem hseek_ok (W w : World) (H : HpH) (A : HpA) (N b : Nat) (Q : HpS W w H A N b) (I : HpI A none) (T0 : Tab W) (hN : N + 1 ≤ 6000) (hb : b + 6 ≤ 1000000) (k : Nat) (hk : k < 16) : Calls Tryz.prog 76 #[.pointer (some ⟨H.gh, 0, none⟩), .int .i64 (k : Nat)] w (HsPost W w H A N b k) := by
  have hl0 := Q.S.I.small (by omega)
  have K0 := Lib.hid (And.intro (SkS.start Q hl0) (And.intro I T0)); clear Q I T0
  have hmf : ∀ (fn : Fn) (first cap : Array Value) (w : World), (Instr.makeFunc fn first cap).run Tryz.prog w = .ok (.func fn first cap) w := fun _ _ _ _ => rfl
  have k0 : (0 : Int) ≤ (k : Int) := by omega
  have k1 : (k : Int) < 16 := by omega
  go_enter Tryz.func76, Tryz.ntmps76
  go_upto_region 1 with fail
  obtain ⟨w1, hw1⟩ : ∃ w1, w1 = ((w.alloc (.cells #[.pointer (some ⟨H.gh, 0, none⟩)] 43)).alloc (.cells #[.slice none 0 0] 33)) := ⟨_, rfl⟩
  obtain ⟨g2, hg2⟩ : ∃ g2, g2 = w.heap.size := ⟨_, rfl⟩
  obtain ⟨g5, hg5⟩ : ∃ g5, g5 = g2 + 1 := ⟨_, rfl⟩
  rw [← hw1, ← hg2, ← hg5] at K0 ⊢
  clear hw1 hg2 hg5
  go_step3
  go_wp2_with fail
  go_step3
  go_wp2_with fail
  go_loopg [8, 9, 10] 2 (fun gk u8 u9 u10 wr => S1Rel W w H A N b g2 g5 gk u8 u9 u10 wr)
  case atStart => exact ⟨rfl, ⟨⟨H, _, K0.out.1⟩, K0.out.2.1⟩⟩
  case round =>
    have T0 := Lib.hid K0.out.2.2
    clear K0
    obtain ⟨rfl, ⟨H1, vg, K⟩, I⟩ := hrel
    obtain ⟨Ag, ng, cg, rfl⟩ := K.L.o.slice'
    have c2 : wr.cell? ⟨g2, 0, none⟩ = some (.pointer (some ⟨H.gh, 0, none⟩)) := K.b2.cellv 0 rfl
    have c1 : wr.cell? ⟨H.gh, 1, none⟩ = some (.pointer (some ⟨H1.gc, 0, none⟩)) := by rw [← K.gh.gh]; exact K.Q.hb.cellv 1 rfl
    have HK := Lib.hid (And.intro K I); clear K I
    go_wp2_with fail
    refine (take_ok wr H1.gc H1.gl H1.v A.r HK.out.1.Q.C k hk (fun j => by have := HK.out.2.len HK.out.1.Q.S.I.ok j; omega)).mono ?_
    rintro e w2 (⟨hr, hr2, rfl, hw⟩ | ⟨xs, x, hr, rfl, v2, I2, s2⟩ | ⟨xs, x, hr, hr2, rfl, v2, I2, s2⟩)
    · subst hw
      have HR := Lib.hid (And.intro hr hr2); clear hr hr2
      go_wp2_with fail
      refine (takefull_ok w2 H1.gc H1.gl H1.v A.r HK.out.1.Q.C k hk (fun j => by have := HK.out.2.len HK.out.1.Q.S.I.ok j; omega)).mono ?_
      intro e w3 hL
      obtain ⟨v11, v12, rfl, hS⟩ : ∃ v11 v12, e = .returned (.tuple #[v11, v12]) ∧ S2Rel W w H A N b g2 g5 k ((A.r (k * 4 + 3)).length + 1) v11 v12 w3 := by
        rcases hL with ⟨h1, rfl, rfl⟩ | ⟨xs, x, h1, rfl, v3, I3, s3⟩
        · exact ⟨_, _, rfl, A, [], .nil A, rfl, HK.out.2, .inl ⟨h1, rfl, rfl, H1, _, HK.out.1⟩⟩
        · exact ⟨_, _, rfl, A, [], .nil A, rfl, HK.out.2, .inr ⟨xs, x, h1, rfl, rfl, { H1 with v := v3 }, _, HK.out.1.step (A' := { A with r := updV A.r (k * 4 + 3) xs }) ⟨rfl, rfl, rfl⟩ (HK.out.1.Q.central I3 s3) (st_central s3) (Nat.le_refl _)⟩⟩
      have HS := Lib.hid hS; clear hS hL c1 c2
      go_wp2_with fail
      go_loopg [11, 12] ((A.r (k * 4 + 3)).length + 1) (fun gk v11 v12 wr => S2Rel W w H A N b g2 g5 k gk v11 v12 wr)
      case atStart => exact HS.out
      case round =>
        clear HS HK
        obtain ⟨B, g, hF, hgk, IB, ⟨h3, rfl, rfl, H3, vg3, K3⟩ | ⟨xs, x, h3, rfl, rfl, H3, vg3, K3⟩⟩ := hrel
        · have HF := Lib.hid (And.intro hF (And.intro IB (And.intro h3 K3))); clear hF IB h3 K3
          have c2 : wr.cell? ⟨g2, 0, none⟩ = some (.pointer (some ⟨H.gh, 0, none⟩)) := HF.out.2.2.2.b2.cellv 0 rfl
          go_wp2_with fail
          have k2 := hfresh_ok W wr H3 B N b HF.out.2.2.2.Q (by omega) (by omega) k hk
          rw [HF.out.2.2.2.gh.gh] at k2
          refine k2.mono ?_
          clear k2
          rintro e w8 ⟨x, c, l', hs, ⟨hc, rfl, H8, g8, Q8, t8⟩ | ⟨rfl, f, id, hx, hn, hall, hid, rfl, H8, g8, Q8, t8⟩⟩
          · have K8 := HF.out.2.2.2.step g8 Q8 t8 (Nat.le_refl _)
            have c2 : w8.cell? ⟨g2, 0, none⟩ = some (.pointer (some ⟨H.gh, 0, none⟩)) := K8.b2.cellv 0 rfl
            have H8' := Lib.hid (And.intro K8 (And.intro hs hc)); clear K8 hs hc Q8 t8 g8
            go_wp2_with fail
            have k2 := hdrop_ok W w8 H8 B N b H8'.out.1.Q HF.out.2.1 (by omega) (by omega)
            rw [H8'.out.1.gh.gh] at k2
            refine k2.mono ?_
            clear k2
            rintro e w9 ⟨ks, D, n, hrise, hks, hD, rfl, ID, H9, g9, Q9, t9⟩
            have K9 := H8'.out.1.step g9 Q9 t9 (by rw [hD.own.2.2.2.2]; exact Nat.le_refl _)
            have c2 : w9.cell? ⟨g2, 0, none⟩ = some (.pointer (some ⟨H.gh, 0, none⟩)) := K9.b2.cellv 0 rfl
            have H9' := Lib.hid (And.intro K9 (And.intro hrise (And.intro hks (And.intro hD ID)))); clear K9 hrise hks hD ID Q9 t9 g9
            go_wp2_with fail
            have k2 := hfresh_ok W w9 H9 D N b H9'.out.1.Q (by omega) (by omega) k hk
            rw [H9'.out.1.gh.gh] at k2
            refine k2.mono ?_
            clear k2
            rintro e w10 ⟨x', c', l'', hs, ⟨hc, rfl, H10, g10, Q10, t10⟩ | ⟨rfl, f, id, hx, hn, hall, hid, rfl, H10, g10, Q10, t10⟩⟩
            · have K10 := H9'.out.1.step g10 Q10 t10 (Nat.le_refl _)
              have HC := Lib.hid (And.intro hs hc); clear hs hc Q10 t10 g10
              obtain ⟨Ag, ng, cg, rfl⟩ := K10.L.o.slice'
              have c5 : w10.cell? ⟨g5, 0, none⟩ = some (.slice Ag ng cg) := K10.b5.cellv 0 rfl
              have f5 : w10.frozen? ⟨g5, 0, none⟩ = false := K10.b5.frozen 0
              have HE := Lib.hid (And.intro K10 trivial); clear K10
              go_wp2_with fail
              go_region
              have K5 := HE.out.1.chg0 (Chg.refl [] _).drew
              have K6 := K5.list K5.L.o (Stp.refl _ _) K5.cap
              have c5 := K6.b5.cellv 0 rfl
              have H6 := Lib.hid K6; clear K5 K6
              go_wp2_with fail
              rw [Exit.noGoto_ret]
              refine bodyPost_ret (results_tcl rfl _ _ g5 Ag ng cg rfl c5) rfl ?_
              exact ⟨0, g, _, false, _, N, b, _, .no HR.out.1 HR.out.2 HF.out.1 HF.out.2.2.1 H8'.out.2.1 H8'.out.2.2 H9'.out.2.1 H9'.out.2.2.1 H9'.out.2.2.2.1 HC.out.1 HC.out.2, rfl, Nat.le_succ _, by omega, H6.out.gh, H6.out.Q, H6.out.t, H6.out.L, H6.out.ln, fun h => (by cases h), fun _ => H9'.out.2.2.2.2⟩
            · have K10 := H9'.out.1.step g10 Q10 t10 (Nat.le_refl _)
              have I10 : HpI { D with a := spanA D.a l'' id k f } (some id) := H9'.out.2.2.2.2.fresh hn rfl
              have HC := Lib.hid (And.intro (hx ▸ hs : AllocSays D.a.l (pgK k : Nat) (f : Nat) 0 l'') (And.intro hn (And.intro hall I10))); clear hs hn hall hid hx I10 Q10 t10 g10
              obtain ⟨Ag, ng, cg, rfl⟩ := K10.L.o.slice'
              have c5 : w10.cell? ⟨g5, 0, none⟩ = some (.slice Ag ng cg) := K10.b5.cellv 0 rfl
              have f5 : w10.frozen? ⟨g5, 0, none⟩ = false := K10.b5.frozen 0
              have HE := Lib.hid (And.intro K10 trivial); clear K10
              go_wp2_with fail
              go_region
              have K5 := HE.out.1.chg0 (Chg.refl [] _).drew
              have K6 := K5.list K5.L.o (Stp.refl _ _) K5.cap
              have c5 := K6.b5.cellv 0 rfl
              have H6 := Lib.hid K6; clear K5 K6
              go_wp2_with fail
              rw [Exit.noGoto_ret]
              refine bodyPost_ret (results_tcl rfl _ _ g5 Ag ng cg rfl c5) rfl ?_
              exact ⟨id, g, _, true, _, N + 1, b + 6, _, .again HR.out.1 HR.out.2 HF.out.1 HF.out.2.2.1 H8'.out.2.1 H8'.out.2.2 H9'.out.2.1 H9'.out.2.2.1 H9'.out.2.2.2.1 HC.out.1 HC.out.2.1 HC.out.2.2.1, rfl, Nat.le_refl _, Nat.le_refl _, H6.out.gh, H6.out.Q, H6.out.t, H6.out.L, H6.out.ln, fun _ => HC.out.2.2.2, fun h => by cases h⟩
          · have K8 := HF.out.2.2.2.step g8 Q8 t8 (Nat.le_refl _)
            have I8 : HpI { B with a := spanA B.a l' id k f } (some id) := HF.out.2.1.fresh hn rfl
            have HC := Lib.hid (And.intro (hx ▸ hs : AllocSays B.a.l (pgK k : Nat) (f : Nat) 0 l') (And.intro hn (And.intro hall I8))); clear hs hn hall hid hx I8 Q8 t8 g8
            obtain ⟨Ag, ng, cg, rfl⟩ := K8.L.o.slice'
            have c5 : w8.cell? ⟨g5, 0, none⟩ = some (.slice Ag ng cg) := K8.b5.cellv 0 rfl
            have f5 : w8.frozen? ⟨g5, 0, none⟩ = false := K8.b5.frozen 0
            have HE := Lib.hid (And.intro K8 trivial); clear K8
            go_wp2_with fail
            go_region
            have K5 := HE.out.1.chg0 (Chg.refl [] _).drew
            have K6 := K5.list K5.L.o (Stp.refl _ _) K5.cap
            have c5 := K6.b5.cellv 0 rfl
            have H6 := Lib.hid K6; clear K5 K6
            go_wp2_with fail
            rw [Exit.noGoto_ret]
            refine bodyPost_ret (results_tcl rfl _ _ g5 Ag ng cg rfl c5) rfl ?_
            exact ⟨id, g, _, true, _, N + 1, b + 6, _, .fresh HR.out.1 HR.out.2 HF.out.1 HF.out.2.2.1 HC.out.1 HC.out.2.1 HC.out.2.2.1, rfl, Nat.le_refl _, Nat.le_refl _, H6.out.gh, H6.out.Q, H6.out.t, H6.out.L, H6.out.ln, fun _ => HC.out.2.2.2, fun h => by cases h⟩
        · have Q3 := K3.Q
          have I1 : HpI { B with r := updV B.r (k * 4 + 3) xs } (some x) := IB.take (by rw [h3]; exact List.perm_append_comm)
          obtain ⟨-, s, hs, hsk, hsf⟩ := IB.r (k * 4 + 3) x (by rw [h3]; simp)
          have I3 := I1.sweep hs (sweptL s).length
          have hsk2 : s.k = k := by omega
          have HF := Lib.hid (And.intro hF (And.intro I3 (And.intro h3 (And.intro K3 (And.intro hs hsk2))))); clear hF I3 h3 K3 I1 hsf hsk hs hsk2 IB Q3
          go_wp2_with (go_at_call 122; refine (sksweep_ok W w wr H _ A _ N b g2 g5 _ g HF.out.2.2.2.1 T0.out (by omega) x s HF.out.2.2.2.2.1).mono ?_; rintro e w4 ⟨rfl, H4, vg4, K4⟩; have c2 : w4.cell? ⟨g2, 0, none⟩ = some (.pointer (some ⟨H.gh, 0, none⟩)) := K4.b2.cellv 0 rfl; have c0 : w4.cell? ⟨H.gh, 0, none⟩ = some (.pointer (some ⟨H4.ah.ga, 0, none⟩)) := by rw [← K4.gh.gh]; exact K4.Q.hb.cellv 0 rfl)
          obtain ⟨Ag, ng, cg, rfl⟩ := K4.L.o.slice'
          have H4' := Lib.hid K4; clear K4
          refine (s_full H4'.out.Q.S T0.out (x : Nat) (by have := H4'.out.Q.S.I.ok.top x (sweptS s) (updF_same _ _ _); unfold Wf64; omega)).mono ?_
          rintro e w5 ⟨bo, rfl, c3, hbo⟩
          have hbo2 := full_iff (a := sweepA B.a x s (sweptL s).length) (updF_same _ _ _) hbo
          have K3 := H4'.out.chg0 c3
          cases bo with
          | false =>
            have hnf : ¬ fullS (sweptS s) := fun h => by have := hbo2.2 h; cases this
            have c5 : w5.cell? ⟨g5, 0, none⟩ = some (.slice Ag ng cg) := K3.b5.cellv 0 rfl
            have f5 : w5.frozen? ⟨g5, 0, none⟩ = false := K3.b5.frozen 0
            have H3' := Lib.hid (And.intro K3 hnf); clear K3 hbo hbo2 c3 c0 hnf
            go_wp2_with fail
            go_region
            have K5 := H3'.out.1.chg0 (Chg.refl [] _).drew
            have K6 := K5.list K5.L.o (Stp.refl _ _) K5.cap
            have c5 := K6.b5.cellv 0 rfl
            have H6 := Lib.hid K6; clear K5 K6
            go_wp2_with fail
            rw [Exit.noGoto_ret]
            refine bodyPost_ret (results_tcl rfl _ _ g5 Ag ng cg rfl c5) rfl ?_
            exact ⟨x, g ++ swI s, _, true, _, N, b, _, .full HR.out.1 HR.out.2 HF.out.1 HF.out.2.2.1 HF.out.2.2.2.2.1 H3'.out.2, rfl, Nat.le_succ _, by omega, H6.out.gh, H6.out.Q, H6.out.t, H6.out.L, H6.out.ln, fun _ => HF.out.2.1, fun h => by cases h⟩
          | true =>
            have hf := hbo2.1 rfl
            have c2 : w5.cell? ⟨g2, 0, none⟩ = some (.pointer (some ⟨H.gh, 0, none⟩)) := K3.b2.cellv 0 rfl
            have c1 : w5.cell? ⟨H.gh, 1, none⟩ = some (.pointer (some ⟨H4.gc, 0, none⟩)) := by rw [← K3.gh.gh]; exact K3.Q.hb.cellv 1 rfl
            have H3' := Lib.hid (And.intro K3 hf); clear K3 hbo hbo2 c3 c0 hf
            go_wp2_with fail
            refine (cput_ok w5 H4.gc H4.gl H4.v (updV B.r (k * 4 + 3) xs) H3'.out.1.Q.C k hk x (by have := H3'.out.1.Q.S.I.ok.top x (sweptS s) (updF_same _ _ _); omega) true (fun j => by have := HF.out.2.1.len H3'.out.1.Q.S.I.ok j; show (updV B.r (k * 4 + 3) xs j).length ≤ 100000; exact Nat.le_trans this (by omega)) (fun j y hy => by have := HF.out.2.1.ids H3'.out.1.Q.S.I.ok hy; omega)).mono ?_
            rintro e w6 ⟨rfl, r6, hd, v6, I6, s6⟩
            obtain rfl := hd.none_ (HF.out.2.1.zz x rfl).2.1
            have K6 := H3'.out.1.step (H' := { H4 with v := v6 }) (A' := { B with a := sweepA B.a x s (sweptL s).length, r := updV (updV B.r (k * 4 + 3) xs) (k * 4 + sd true) (updV B.r (k * 4 + 3) xs (k * 4 + sd true) ++ [x]) }) ⟨rfl, rfl, rfl⟩ (H3'.out.1.Q.central I6 s6) (st_central s6) (Nat.le_refl _)
            have I7 := HF.out.2.1.put (k := k) (full := true) (s := sweptS s) (updF_same _ _ _) HF.out.2.2.2.2.2 hk ⟨fun _ => H3'.out.2, fun _ => rfl⟩
            have F7 : SkF k A (g ++ swI s) { B with a := sweepA B.a x s (sweptL s).length, r := updV (updV B.r (k * 4 + 3) xs) (k * 4 + 1) (updV B.r (k * 4 + 3) xs (k * 4 + 1) ++ [x]) } := .snoc HF.out.1 HF.out.2.2.1 HF.out.2.2.2.2.1 H3'.out.2
            have c2 : w6.cell? ⟨g2, 0, none⟩ = some (.pointer (some ⟨H.gh, 0, none⟩)) := K6.b2.cellv 0 rfl
            have c1 : w6.cell? ⟨H.gh, 1, none⟩ = some (.pointer (some ⟨H4.gc, 0, none⟩)) := by rw [← K6.gh.gh]; exact K6.Q.hb.cellv 1 rfl
            obtain ⟨B7, hB7⟩ : ∃ B7 : HpA, B7 = { B with a := sweepA B.a x s (sweptL s).length, r := updV (updV B.r (k * 4 + 3) xs) (k * 4 + 1) (updV B.r (k * 4 + 3) xs (k * 4 + 1) ++ [x]) } := ⟨_, rfl⟩
            have K7 : SkS W w w6 H A { H4 with v := v6 } B7 N b g2 g5 (.slice Ag ng cg) (g ++ swI s) := by rw [hB7]; exact K6
            have I8 : HpI B7 none := by rw [hB7]; exact I7
            rw [← hB7] at F7
            have hlen : (B7.r (k * 4 + 3)).length < gk - 1 := by
              rw [hB7, hgk, h3_len HF.out.2.2.1]
              show (updV (updV B.r (k * 4 + 3) xs) (k * 4 + 1) _ (k * 4 + 3)).length < _
              rw [updV_other _ _ (by omega), updV_same]
              omega
            have H7 := Lib.hid (And.intro K7 (And.intro I8 (And.intro F7 hlen))); clear K7 I8 F7 hlen K6 I7 I6 s6 hd hB7
            go_wp2_with fail
            refine (takefull_ok w6 H4.gc H4.gl v6 B7.r H7.out.1.Q.C k hk (fun j => by have := H7.out.2.1.len H7.out.1.Q.S.I.ok j; omega)).mono ?_
            intro e w7 hL
            obtain ⟨v11, v12, rfl, hS⟩ : ∃ v11 v12, e = .returned (.tuple #[v11, v12]) ∧ S2Rel W w H A N b g2 g5 k ((B7.r (k * 4 + 3)).length + 1) v11 v12 w7 := by
              rcases hL with ⟨h1, rfl, rfl⟩ | ⟨ys, y, h1, rfl, v3, I3, s3⟩
              · exact ⟨_, _, rfl, B7, _, H7.out.2.2.1, rfl, H7.out.2.1, .inl ⟨h1, rfl, rfl, _, _, H7.out.1⟩⟩
              · exact ⟨_, _, rfl, B7, _, H7.out.2.2.1, rfl, H7.out.2.1, .inr ⟨ys, y, h1, rfl, rfl, { H4 with v := v3 }, _, H7.out.1.step (A' := { B7 with r := updV B7.r (k * 4 + 3) ys }) ⟨rfl, rfl, rfl⟩ (H7.out.1.Q.central I3 s3) (st_central s3) (Nat.le_refl _)⟩⟩
            have HS := Lib.hid hS; clear hS hL c1 c2
            go_wp2_with fail
            go_roundg ((B7.r (k * 4 + 3)).length + 1)
            case measure => have := H7.out.2.2.2; omega
            case rel => exact HS.out
    · have Q1 := HK.out.1.Q.central I2 s2
      have K1 := HK.out.1.step (H' := { H1 with v := v2 }) (A' := { A with r := updV A.r (k * 4) xs }) ⟨rfl, rfl, rfl⟩ Q1 (st_central s2) (Nat.le_refl _)
      have I1 : HpI { A with r := updV A.r (k * 4) xs } (some x) := HK.out.2.take (by rw [hr]; exact List.perm_append_comm)
      obtain ⟨-, s, hs, hsk, hsf⟩ := HK.out.2.r (k * 4) x (by rw [hr]; simp)
      have hnf : ¬ fullS s := fun h => by have := hsf.2 h; omega
      have c2 : w2.cell? ⟨g2, 0, none⟩ = some (.pointer (some ⟨H.gh, 0, none⟩)) := K1.b2.cellv 0 rfl
      have c0 : w2.cell? ⟨H.gh, 0, none⟩ = some (.pointer (some ⟨H1.ah.ga, 0, none⟩)) := by rw [← K1.gh.gh]; exact K1.Q.hb.cellv 0 rfl
      have H1' := Lib.hid (And.intro K1 (And.intro I1 (And.intro hs (And.intro hnf hr)))); clear K1 I1 hs hnf hr Q1 I2 s2 hsf hsk c1
      go_wp2_with fail
      refine (s_full H1'.out.1.Q.S T0.out (x : Nat) (by have := H1'.out.1.Q.S.I.ok.top x s H1'.out.2.2.1; unfold Wf64; omega)).mono ?_
      rintro e w3 ⟨bo, rfl, c3, hbo⟩
      obtain rfl : bo = false := by
        cases bo with
        | false => rfl
        | true => exact absurd ((full_iff H1'.out.2.2.1 hbo).1 rfl) H1'.out.2.2.2.1
      have K3 := H1'.out.1.chg0 c3
      have c5 : w3.cell? ⟨g5, 0, none⟩ = some (.slice Ag ng cg) := K3.b5.cellv 0 rfl
      have f5 : w3.frozen? ⟨g5, 0, none⟩ = false := K3.b5.frozen 0
      have H3 := Lib.hid K3; clear K3 hbo c3 c0
      go_wp2_with fail
      go_region
      have K5 := H3.out.chg0 (Chg.refl [] _).drew
      have K6 := K5.list K5.L.o (Stp.refl _ _) K5.cap
      have c5 := K6.b5.cellv 0 rfl
      have H6 := Lib.hid K6; clear K5 K6
      go_wp2_with fail
      rw [Exit.noGoto_ret]
      refine bodyPost_ret (results_tcl rfl _ _ g5 Ag ng cg rfl c5) rfl ?_
      exact ⟨x, [], _, true, _, N, b, _, .swept H1'.out.2.2.2.2, rfl, Nat.le_succ _, by omega, H6.out.gh, H6.out.Q, H6.out.t, H6.out.L, H6.out.ln, fun _ => H1'.out.2.1, fun h => by cases h⟩
    · have hxm : x ∈ A.r (k * 4 + 2) := by rw [hr2]; simp
      have Q1 := HK.out.1.Q.central I2 s2
      have K1 := HK.out.1.step (H' := { H1 with v := v2 }) (A' := { A with r := updV A.r (k * 4 + 2) xs }) ⟨rfl, rfl, rfl⟩ Q1 (st_central s2) (Nat.le_refl _)
      have I1 : HpI { A with r := updV A.r (k * 4 + 2) xs } (some x) := HK.out.2.take (by rw [hr2]; exact List.perm_append_comm)
      obtain ⟨-, s, hs, hsk, hsf⟩ := HK.out.2.r (k * 4 + 2) x hxm
      have hnf : ¬ fullS (sweptS s) := swept_not_full (K1.Q.S.I.mf x s · hs) (fun h => by have := hsf.2 h; omega)
      have I3 := I1.sweep hs (sweptL s).length
      have H1' := Lib.hid (And.intro K1 (And.intro I3 (And.intro hs (And.intro hnf (And.intro hr hr2))))); clear K1 I1 I3 hs hnf hr hr2 Q1 I2 s2 hsf hsk c1 hxm
      go_wp2_with (go_at_call 122; refine (sksweep_ok W w w2 H _ A _ N b g2 g5 _ [] H1'.out.1 T0.out (by omega) x s H1'.out.2.2.1).mono ?_; rintro e w4 ⟨rfl, H4, vg4, K4⟩; have c2 : w4.cell? ⟨g2, 0, none⟩ = some (.pointer (some ⟨H.gh, 0, none⟩)) := K4.b2.cellv 0 rfl; have c0 : w4.cell? ⟨H.gh, 0, none⟩ = some (.pointer (some ⟨H4.ah.ga, 0, none⟩)) := by rw [← K4.gh.gh]; exact K4.Q.hb.cellv 0 rfl)
      obtain ⟨Ag, ng, cg, rfl⟩ := K4.L.o.slice'
      have H4' := Lib.hid K4; clear K4
      refine (s_full H4'.out.Q.S T0.out (x : Nat) (by have := H4'.out.Q.S.I.ok.top x (sweptS s) (updF_same _ _ _); unfold Wf64; omega)).mono ?_
      rintro e w3 ⟨bo, rfl, c3, hbo⟩
      obtain rfl : bo = false := by
        cases bo with
        | false => rfl
        | true => exact absurd ((full_iff (a := sweepA A.a x s (sweptL s).length) (updF_same _ _ _) hbo).1 rfl) H1'.out.2.2.2.1
      have K3 := H4'.out.chg0 c3
      have c5 : w3.cell? ⟨g5, 0, none⟩ = some (.slice Ag ng cg) := K3.b5.cellv 0 rfl
      have f5 : w3.frozen? ⟨g5, 0, none⟩ = false := K3.b5.frozen 0
      have H3 := Lib.hid K3; clear K3 hbo c3 c0
      go_wp2_with fail
      go_region
      have K5 := H3.out.chg0 (Chg.refl [] _).drew
      have K6 := K5.list K5.L.o (Stp.refl _ _) K5.cap
      have c5 := K6.b5.cellv 0 rfl
      have H6 := Lib.hid K6; clear K5 K6
      go_wp2_with fail
      rw [Exit.noGoto_ret]
      refine bodyPost_ret (results_tcl rfl _ _ g5 Ag ng cg rfl c5) rfl ?_
      exact ⟨x, swI s, _, true, _, N, b, _, .unswept H1'.out.2.2.2.2.1 H1'.out.2.2.2.2.2 H1'.out.2.2.1, rfl, Nat.le_succ _, by omega, H6.out.gh, H6.out.Q, H6.out.t, H6.out.L, H6.out.ln, fun _ => H1'.out.2.1, fun h => by cases h⟩
end Go.Proofs.YtcnchgbngcnijaaGreatDoor
