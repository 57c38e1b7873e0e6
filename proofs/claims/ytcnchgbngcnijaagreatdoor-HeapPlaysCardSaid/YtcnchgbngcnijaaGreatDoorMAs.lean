/- The walk of package arena: Span. -/
/- The walk of package arena: Span. -/
/- The arena: a span swept, an object gone, a span gone, an owner gone. Plain theorems on worlds. -/
/- The walk of package arena: Sweep. -/
/- The arena: its invariant is kept by each op. Plain theorems. -/
/- The arena's ops, as to a state that a law carries along. -/
/- The walk of package arena: Drop of a span that has objects. -/
import Derived.Test.YtcnchgbngcnijaaGreatDoorMAr
namespace Go.Proofs.YtcnchgbngcnijaaGreatDoor
open Go.RowKit

/-- The pages turned. -/
def pgH (h : ArH) (v : Value) : ArH := { h with v := v }
theorem ArM.pages {w w' : World} {h : ArH} {a : Ar} (M : ArM w h a) {v' : Value} {l' : List R} (P' : IsPg w' h.gp a.n v' l') (c : Chg (h.gp :: fpv h.v) w w') : ArM w' (pgH h v') { a with l := l' } := by
  have nb : ∀ {g : Nat} {t : TypeId} {cs : Array Value}, Blk w g t cs → 117 ≠ t → 119 ≠ t → g ∉ h.gp :: fpv h.v := fun hb n1 n2 hm => by
    rcases List.mem_cons.1 hm with e | e
    · exact M.P.b.ne_ hb n1 e.symm
    · exact own_far M.P.o hb n2 e
  have nm : ∀ {m n : Nat} {f : Int → Option Value}, VMap Tryz.prog 3 w m n f → m ∉ h.gp :: fpv h.v := fun {m} _ _ hv hm => by
    rcases List.mem_cons.1 hm with e | e
    · exact hv.ne_blk M.P.b e
    · rw [mem_fpv] at e
      rcases M.P.o.2 with ⟨e1, _⟩ | ⟨g', cap, cur, e1, _, hh, _⟩
      · rw [e1] at e; simp [Value.ownBlock] at e
      · rw [e1] at e
        have e2 : g' = m := by simpa [Value.ownBlock] using e
        exact hv.ne_blk (t := 119) hh e2.symm
  refine ⟨c.blk M.b (nb M.b (by decide) (by decide)), P', M.s.chg c (nm M.s), M.o.chg c (nm M.o), M.j.chg c (nm M.j), fun id s hs => (M.S id s hs).chg c (fun k hk hm => ?_), fun x xs hx => c.blk (M.O x xs hx) (nb (M.O x xs hx) (by decide) (by decide)), M.d1, M.d2, M.m1, M.m2, M.m3⟩
  rcases List.mem_cons.1 hm with e | e
  · exact (M.S id s hs).far M.P.b (by unfold SpT; decide) (by rw [← e]; exact hk)
  · have I := M.S id s hs
    simp only [SpB.l, List.mem_cons, List.not_mem_nil, or_false] at hk
    rcases hk with rfl | rfl | rfl | rfl | rfl
    · exact own_far M.P.o I.hb (by decide) e
    · exact own_far M.P.o I.hu.b (by decide) e
    · exact own_far M.P.o I.hu.d (by decide) e
    · exact own_far M.P.o I.hm.b (by decide) e
    · exact own_far M.P.o I.hm.d (by decide) e
/-- A new span. -/
def spanH (h : ArH) (id : Nat) (b : SpB) : ArH := { h with B := fun j => if j = id then b else h.B j, m := h.m + 1 }
theorem ArM.newspan {w w1 w2 : World} {h : ArH} {a : Ar} (M : ArM w h a) {id : Nat} {b : SpB} {s : Sp} (hn : a.sp id = none) (I : IsSp w1 b s) (c1 : Chg [] w w1) (hb : ∀ k ∈ b.l, w.heap.size ≤ k)
    (V : VMap Tryz.prog 3 w2 h.bs (h.m + 1) (putV (natV (spV h a)) (id : Nat) (.pointer (some ⟨b.g, 0, none⟩)))) (c2 : Chg [h.bs] w1 w2) : ArM w2 (spanH h id b) { a with sp := updF a.sp id (some s) } := by
  have M1 := M.chg0 c1
  have nb : ∀ {g : Nat} {t : TypeId} {cs : Array Value}, Blk w1 g t cs → g ∉ [h.bs] := fun hb hm => M1.s.ne_blk hb (by simpa using hm : _ = _).symm
  have get : ∀ i t, updF a.sp id (some s) i = some t → (i = id ∧ t = s) ∨ (i ≠ id ∧ a.sp i = some t) := fun i t ht => by
    by_cases e : i = id
    · left; subst e
      rw [updF_same] at ht
      injection ht with ht
      exact ⟨rfl, ht.symm⟩
    · right; rw [updF_other _ _ e] at ht; exact ⟨e, ht⟩
  have hB : (spanH h id b).B id = b := if_pos rfl
  have hB' : ∀ i, i ≠ id → (spanH h id b).B i = h.B i := fun i e => if_neg e
  refine ⟨c2.blk M1.b (nb M1.b), ⟨c2.blk M1.P.b (nb M1.P.b), own_chg M1.P.o c2 fun k hk hm => ?_⟩, V.ext fun y => ?_, (M1.o.chg c2 (by simp [spanH, M.m1, Ne.symm M.m1])).mono (Nat.le_succ _), (M1.j.chg c2 (by simp [spanH, M.m2, Ne.symm M.m2])).mono (Nat.le_succ _), fun i t ht => ?_, fun x xs hx => c2.blk (M1.O x xs hx) (nb (M1.O x xs hx)), fun i i' t t' ht ht' hne k hk hk' => ?_, M.d2, M.m1, M.m2, M.m3⟩
  · have e : k = h.bs := by simpa using hm
    have hk2 : h.v.ownBlock = some k := hk
    rcases M1.P.o.2 with ⟨e1, _⟩ | ⟨g', cap, cur, e1, _, hh, _⟩
    · rw [e1] at hk2; simp [Value.ownBlock] at hk2
    · rw [e1] at hk2
      have e2 : g' = k := by simpa [Value.ownBlock] using hk2
      exact M1.s.ne_blk (t := 119) hh (by rw [e2, e])
  · rw [natV_put]
    congr 1
    funext z
    unfold spV updF
    by_cases e : z = id
    · subst e; simp [spanH]
    · simp [e, spanH]
  · rcases get i t ht with ⟨rfl, rfl⟩ | ⟨e, h2⟩
    · rw [hB]; exact I.chg c2 (fun k hk hm => M1.s.far I (by have e : k = h.bs := (by simpa using hm); rw [← e]; exact hk))
    · rw [hB' i e]; exact (M1.S i t h2).chg c2 (fun k hk hm => M1.s.far (M1.S i t h2) (by have e : k = h.bs := (by simpa using hm); rw [← e]; exact hk))
  · rcases get i t ht with ⟨rfl, rfl⟩ | ⟨e, h2⟩
    · rcases get i' t' ht' with ⟨rfl, rfl⟩ | ⟨e', h2'⟩
      · exact hne rfl
      · rw [hB] at hk; rw [hB' i' e'] at hk'
        have := hb k hk
        have := (M.S i' t' h2').lt k hk'
        omega
    · rw [hB' i e] at hk
      rcases get i' t' ht' with ⟨rfl, rfl⟩ | ⟨e', h2'⟩
      · rw [hB] at hk'
        have := hb k hk'
        have := (M.S i t h2).lt k hk
        omega
      · rw [hB' i' e'] at hk'
        exact M.d1 i i' t t' h2 h2' hne k hk hk'
/-- A page's owner told. -/
def owH (h : ArH) : ArH := { h with m := h.m + 1 }
theorem ArM.owner {w w' : World} {h : ArH} {a : Ar} (M : ArM w h a) {p id : Nat} (V : VMap Tryz.prog 3 w' h.bo (h.m + 1) (putV (natV (owV a)) (p : Nat) (.int .i64 (id : Nat)))) (c : Chg [h.bo] w w') : ArM w' (owH h) { a with ow := updF a.ow p (some id) } := by
  have nb : ∀ {g : Nat} {t : TypeId} {cs : Array Value}, Blk w g t cs → g ∉ [h.bo] := fun hb hm => M.o.ne_blk hb (by simpa using hm : _ = _).symm
  refine ⟨c.blk M.b (nb M.b), ⟨c.blk M.P.b (nb M.P.b), own_chg M.P.o c fun k hk hm => ?_⟩, (M.s.chg c (by simp [M.m1])).mono (Nat.le_succ _), V.ext fun y => ?_, (M.j.chg c (by simp [Ne.symm M.m3])).mono (Nat.le_succ _), fun i t ht => (M.S i t ht).chg c (fun k hk hm => M.o.far (M.S i t ht) (by have e : k = h.bo := (by simpa using hm); rw [← e]; exact hk)), fun x xs hx => c.blk (M.O x xs hx) (nb (M.O x xs hx)), M.d1, M.d2, M.m1, M.m2, M.m3⟩
  · have e : k = h.bo := by simpa using hm
    have hk2 : h.v.ownBlock = some k := hk
    rcases M.P.o.2 with ⟨e1, _⟩ | ⟨g', cap, cur, e1, _, hh, _⟩
    · rw [e1] at hk2; simp [Value.ownBlock] at hk2
    · rw [e1] at hk2
      have e2 : g' = k := by simpa [Value.ownBlock] using hk2
      exact M.o.ne_blk (t := 119) hh (by rw [e2, e])
  · rw [natV_put]
    congr 1
    funext z
    unfold owV updF
    by_cases e : z = p
    · subst e; simp
    · simp [e]
theorem StA.pages {w w' : World} {h : ArH} {a : Ar} {v' : Value} {l' : List R} (c : Chg (h.gp :: fpv h.v) w w') (f : ∀ k ∈ fpv v', k ∈ h.gp :: fpv h.v ∨ w.heap.size ≤ k) : StA h a (pgH h v') { a with l := l' } w w' := by
  have inF : ∀ k, k ∈ h.gp :: fpv h.v → ArF h a k := fun k hk => by
    rcases List.mem_cons.1 hk with e | e
    · exact .inr (.inl e)
    · exact .inr (.inr (.inl e))
  refine StA.of_chg c (fun k hk => .inl (inF k hk)) fun k hk => ?_
  rcases hk with h1 | h1 | h1 | h1
  · exact .inl (.inl h1)
  · exact .inl (.inr (.inl h1))
  · exact (f k h1).imp (inF k) id
  · exact .inl (.inr (.inr (.inr h1)))
theorem StA.newspan {w w' : World} {h : ArH} {a : Ar} {id : Nat} {b : SpB} {s : Sp} (c : Chg [h.bs] w w') (hb : ∀ k ∈ b.l, w.heap.size ≤ k) : StA h a (spanH h id b) { a with sp := updF a.sp id (some s) } w w' := by
  refine StA.of_chg c (fun k hk => .inl (.inr (.inr (.inr (.inl (by simpa using hk)))))) fun k hk => ?_
  rcases hk with h1 | h1 | h1 | h1 | h1 | h1 | ⟨i, t, ht, h1⟩ | h1
  · exact .inl (.inl h1)
  · exact .inl (.inr (.inl h1))
  · exact .inl (.inr (.inr (.inl h1)))
  · exact .inl (.inr (.inr (.inr (.inl h1))))
  · exact .inl (.inr (.inr (.inr (.inr (.inl h1)))))
  · exact .inl (.inr (.inr (.inr (.inr (.inr (.inl h1))))))
  · by_cases e : i = id
    · right
      have e2 : (spanH h id b).B i = b := if_pos e
      rw [e2] at h1
      exact hb k h1
    · refine .inl (.inr (.inr (.inr (.inr (.inr (.inr (.inl ⟨i, t, ?_, ?_⟩)))))))
      · rw [← ht]; exact (updF_other _ _ e).symm
      · have e2 : (spanH h id b).B i = h.B i := if_neg e
        rw [← e2]; exact h1
  · exact .inl (.inr (.inr (.inr (.inr (.inr (.inr (.inr h1)))))))
theorem StA.owner {w w' : World} {h : ArH} {a : Ar} {f : Nat → Option Nat} (c : Chg [h.bo] w w') : StA h a (owH h) { a with ow := f } w w' :=
  StA.of_chg c (fun k hk => .inl (.inr (.inr (.inr (.inr (.inl (by simpa using hk))))))) fun _ hk => .inl hk
end Go.Proofs.YtcnchgbngcnijaaGreatDoor
namespace Go.Proofs.YtcnchgbngcnijaaGreatDoor
open Go.RowKit

def spanA (a : Ar) (l' : List R) (id q f : Nat) : Ar := { a with l := l', sp := updF a.sp id (some ⟨f, q, fun _ => false, fun _ => false, 0⟩), ow := fun p => if f ≤ p ∧ p < f + pgK q then some id else a.ow p }
def ApPost (h : ArH) (a : Ar) (k : Int) (w : World) (e : Ending) (w' : World) : Prop :=
  (¬ isK k ∧ e = .returned (.tuple #[.int .i64 0, .int .i64 1]) ∧ Chg [] w w') ∨
  ∃ q : Nat, k = q ∧ q < 16 ∧ ∃ x c l', AllocSays a.l (pgK q : Nat) x c l' ∧
    ((c ≠ 0 ∧ e = .returned (.tuple #[.int .i64 0, .int .i64 c]) ∧ ∃ h' : ArH, ArM w' h' { a with l := l' } ∧ StA h a h' { a with l := l' } w w' ∧ h'.m = h.m ∧ h'.N = h.N ∧ h'.ga = h.ga) ∨
     (c = 0 ∧ ∃ (f id : Nat) (h' : ArH), x = f ∧ a.sp id = none ∧ (∀ j, j < id → a.sp j ≠ none) ∧ e = .returned (.tuple #[.int .i64 (id : Nat), .int .i64 0]) ∧ ArM w' h' (spanA a l' id q f) ∧ StA h a h' (spanA a l' id q f) w w' ∧ h'.m ≤ h.m + 6 ∧ h'.N = h.N ∧ h'.ga = h.ga))
theorem pages_k (w : World) (q : Nat) (h : q < 16) : Calls Tryz.prog 93 #[.int .i64 q] w (NwPost (.int .i64 (pgK q)) w) := by
  have := pages_ok w q
  rwa [pgI_nat h] at this
def IdRel (w0 : World) (a : Ar) (N : Nat) (gk : Nat) (idx : Value) (w : World) : Prop := ∃ i, gk + i = N + 1 ∧ i ≤ N ∧ idx = .int .i64 (i : Nat) ∧ (∀ j, j < i → a.sp j ≠ none) ∧ w = w0
def owT (a : Ar) (f t id p : Nat) : Option Nat := if f ≤ p ∧ p < f + t then some id else a.ow p
theorem owT_zero (a : Ar) (f id : Nat) : owT a f 0 id = a.ow := by funext p; unfold owT; rw [if_neg (by omega)]
theorem owT_succ (a : Ar) (f t id : Nat) : updF (owT a f t id) (f + t) (some id) = owT a f (t + 1) id := by
  funext p
  unfold updF owT
  by_cases e : p = f + t
  · rw [if_pos e, if_pos (by omega)]
  · rw [if_neg e]
    by_cases h : f ≤ p ∧ p < f + t
    · rw [if_pos h, if_pos (by omega)]
    · rw [if_neg h, if_neg (by omega)]
def owHn (h : ArH) (t : Nat) : ArH := { h with m := h.m + t }
def OwRel (w0 : World) (h0 h4 : ArH) (a0 a4 : Ar) (f id P : Nat) (gk : Nat) (idx : Value) (w : World) : Prop :=
  ∃ t, gk + t = P + 1 ∧ t ≤ P ∧ idx = .int .i64 (t : Nat) ∧ ArM w (owHn h4 t) { a4 with ow := owT a4 f t id } ∧ StA h0 a0 (owHn h4 t) { a4 with ow := owT a4 f t id } w0 w
set_option maxHeartbeats 3200000 in
set_option maxRecDepth 100000 in
theorem aspan_ok (w : World) (h : ArH) (a : Ar) (M : ArM w h a) (ok : Okn a.n a.l) (hn : a.n ≤ 262144) (hm : h.m ≤ 1000000) (N : Nat) (hN : N ≤ 1000000) (top : ∀ id, N ≤ id → a.sp id = none) (k : Int) :
    Calls Tryz.prog 45 #[.pointer (some ⟨h.ga, 0, none⟩), .int .i64 k] w (ApPost h a k w) := by
  have HM := Lib.hid M; clear M
  go_enter Tryz.func45, Tryz.ntmps45
  go_wp2_with fail
  refine (size_ok w k).mono ?_
  rintro e w1 ⟨rfl, c1⟩
  by_cases hk : isK k
  · obtain ⟨q, rfl⟩ : ∃ q : Nat, k = q := ⟨k.toNat, by have := hk.1; omega⟩
    have hq : q < 16 := by have := hk.2; omega
    obtain ⟨_, _, h3, h4, h5, h6, _⟩ := kF hq
    rw [szI_nat hq]
    have hz : ((szK q : Int) == 0) = false := by rw [beq_eq_false_iff_ne]; omega
    have hz2 : (szK q == 0) = false := by rw [beq_eq_false_iff_ne]; omega
    have HC := Lib.hid (And.intro (HM.out.chg0 c1) c1); clear c1 hk
    go_upto_region 3 with fail
    clear hz hz2
    have k1 : Chg [] w1 w1.drew := (Chg.refl [] w1).drew
    have b0 : w1.cell? ⟨h.ga, 0, none⟩ = some (.pointer (some ⟨h.gp, 0, none⟩)) := HC.out.1.b.cellv 0 rfl
    have hga := HC.out.1.b.lt
    have hgp : h.ga ∉ h.gp :: fpv h.v := fun hm => by
      rcases List.mem_cons.1 hm with e | e
      · exact HC.out.1.P.b.ne_ HC.out.1.b (by decide) e.symm
      · exact own_far HC.out.1.P.o HC.out.1.b (by decide) e
    go_region_held3 (fun w' => w'.cell? ⟨h.ga, 0, none⟩ = some (.pointer (some ⟨h.gp, 0, none⟩))) (go_keep)
      (first
        | (go_at_call 93; refine (pages_k _ q hq).mono ?_; rintro e w' ⟨rfl, C⟩; have D := Chg.trans (S := []) (a := w1) (by repeat (first | assumption | exact Chg.refl [] w1 | refine Chg.drew ?_)) C; have z1 : w'.cell? ⟨h.ga, 0, none⟩ = some (.pointer (some ⟨h.gp, 0, none⟩)) := D.cellv hga (by simp) b0)
        | (go_at_call 92; refine (alloc_ok _ h.gp a.n h.v a.l (HC.out.1.P.chg0 (by assumption : Chg [] w1 _)) ok hn (pgK q : Nat)).mono ?_; rintro e w' ⟨x, c, l', hs, rfl, v', P', st⟩; have D2 := (Chg.mono (T := h.gp :: fpv h.v) (by assumption : Chg [] w1 _) (by simp)).trans st.c; have z2 : w'.cell? ⟨h.ga, 0, none⟩ = some (.pointer (some ⟨h.gp, 0, none⟩)) := D2.cellv hga hgp b0; have HA := Lib.hid (And.intro hs (And.intro P' (And.intro st D2))); clear hs P' st D2))
    have hs := HA.out.1
    have M2 := HC.out.1.pages HA.out.2.1 HA.out.2.2.2
    have st2 := (StA.same (h := h) (a := a) HC.out.2).trans (StA.pages (a := a) (l' := l') HA.out.2.2.2 (fun k hk => by
      rcases HA.out.2.2.1.f k (List.mem_cons_of_mem _ hk) with h1 | h1
      · exact .inl h1
      · exact .inr (Nat.le_trans (Chg.size (by assumption : Chg [] w1 _)) h1)))
    have H2 := Lib.hid (And.intro M2 (And.intro st2 hs)); clear M2 st2 hs HA
    by_cases hc : c = 0
    · subst hc
      obtain ⟨f, rfl⟩ : ∃ f : Nat, x = f := by
        rcases H2.out.2.2 with ⟨h1, _⟩ | ⟨_, _, _, h1, _⟩ | ⟨_, r, _, h1, _⟩
        · omega
        · omega
        · exact ⟨r.f, h1⟩
      obtain ⟨w2, rfl⟩ : ∃ W : World, W = w' := ⟨_, rfl⟩
      go_wp2_with fail
      go_loopg [8] (N + 1) (fun gk idx wr => IdRel w2 a N gk idx wr)
      case atStart => exact ⟨0, by omega, by omega, rfl, by intro j hj; omega, rfl⟩
      case round =>
        obtain ⟨i, hgk, hiN, rfl, hall, rfl⟩ := hrel
        have b1 : wr.cell? ⟨h.ga, 1, none⟩ = some (.map (some h.bs)) := H2.out.1.b.cellv 1 rfl
        have hl := H2.out.1.s.look tyS (x := (i : Int)) (by unfold Wf64; omega)
        rw [natV_nat] at hl
        cases hsp : a.sp i with
        | some s =>
          have e9 : (spV (pgH h v') { a with l := l' } i).getD (.pointer none) = .pointer (some ⟨(h.B i).g, 0, none⟩) := by unfold spV; rw [hsp]; rfl
          rw [e9] at hl
          have hl' : (Instr.lookup 76 (.map (some h.bs)) (.int .i64 (i : Nat)) false).run Tryz.prog wr = .ok (.pointer (some ⟨(h.B i).g, 0, none⟩)) wr := hl
          have hlt : i < N := by
            rcases Nat.lt_or_ge i N with h1 | h1
            · exact h1
            · rw [top i h1] at hsp; cases hsp
          have HX := Lib.hid (And.intro hall hsp); clear hall hsp hl e9
          go_wp2_with fail
          go_roundg (N - i)
          case measure => omega
          case rel => exact ⟨i + 1, by omega, by omega, by go_num, fun j hj => by
            by_cases e : j = i
            · rw [e, HX.out.2]; simp
            · exact HX.out.1 j (by omega), rfl⟩
        | none =>
          have e9 : (spV (pgH h v') { a with l := l' } i).getD (.pointer none) = .pointer none := by unfold spV; rw [hsp]; rfl
          rw [e9] at hl
          have hl' : (Instr.lookup 76 (.map (some h.bs)) (.int .i64 (i : Nat)) false).run Tryz.prog wr = .ok (.pointer none) wr := hl
          have HX := Lib.hid (And.intro hall hsp); clear hall hsp hl e9
          have hf : 1 ≤ f ∧ f ≤ 262144 ∧ f + pgK q ≤ a.n := by
            rcases H2.out.2.2 with ⟨_, h1, h2, _⟩ | ⟨_, _, _, h2, _⟩ | ⟨_, r, hr, h1, _⟩
            · omega
            · omega
            · have hb := ok.bd r hr.1
              have h2 := hr.2.1
              rw [Int.toNat_natCast] at h2
              omega
          have hf1 := hf.1
          have hf2 := hf.2.1
          have hgj : h.ga ≠ h.bs := fun e => H2.out.1.s.ne_blk H2.out.1.b e.symm
          go_upto_region 9 with fail
          go_cut [39] from 40 to 49 (fun _ wd => ∃ (b : SpB) (w3 : World), IsSp w3 b ⟨f, q, fun _ => false, fun _ => false, 0⟩ ∧ Chg [] wr w3 ∧ (∀ j ∈ b.l, wr.heap.size ≤ j) ∧ VMap Tryz.prog 3 wd h.bs (h.m + 1) (putV (natV (spV (pgH h v') { a with l := l' })) (i : Nat) (.pointer (some ⟨b.g, 0, none⟩))) ∧ Chg [h.bs] w3 wd)
          case first =>
            have k1 : Chg [] wr wr.drew := (Chg.refl [] wr).drew
            have hwf : Wf64 ((i : Nat) : Int) := by unfold Wf64; omega
            have hput : ∀ (W : World) (u : Value), OKM Tryz.prog 3 h.bs W → (Instr.mapUpdate 76 (.map (some h.bs)) (.int .i64 ((i : Nat) : Int)) u).run Tryz.prog W = .ok () (putW Tryz.prog 76 h.bs (i : Nat) u W) := fun W u hW => hW.run tyS hwf u
            have hok0 : OKM Tryz.prog 3 h.bs wr := H2.out.1.s.okm (by show h.m ≤ 1000002; omega)
            have HW := Lib.hid hwf
            clear hwf hl'
            have hga2 := H2.out.1.b.lt
            go_region_held3 (fun w' => w'.cell? ⟨h.ga, 1, none⟩ = some (.map (some h.bs)) ∧ OKM Tryz.prog 3 h.bs w')
              (first
                | exact ⟨b1, hok0⟩
                | ((refine ⟨(Chg.cellv (S := []) (a := wr) ?_ hga2 (by simp) b1), (hok0.chg ?_)⟩ <;> repeat (first | assumption | exact Chg.refl [] wr | refine Chg.drew ?_)); done)
                | exact keep_put (by repeat (first | assumption | exact Chg.refl [] wr | refine Chg.drew ?_)) H2.out.1.s tyS HW.out (by show h.m ≤ 1000001; omega) _ b1 hgj)
              (first
                | (go_at_call 94; refine (snew_ok _ f q hq hf1 hf2).mono ?_; rintro e w' ⟨b, rfl, I, C, hb⟩; have D := Chg.trans (S := []) (a := wr) (by repeat (first | assumption | exact Chg.refl [] wr | refine Chg.drew ?_)) C; have z1 : w'.cell? ⟨h.ga, 1, none⟩ = some (.map (some h.bs)) := D.cellv hga2 (by simp) b1; have z2 := hok0.chg D; have HS := Lib.hid (And.intro I (And.intro D hb)); clear I hb))
            have hz := putW_says (H2.out.1.s.chg (S := []) D (by simp)) tyS HW.out (.pointer (some ⟨b.g, 0, none⟩)) (by show h.m < maxLen; unfold maxLen; omega)
            have HZ := Lib.hid hz; clear hz
            go_wp2_with fail
            go_meet
            exact ⟨b, w', HS.out.1, HS.out.2.1, HS.out.2.2, HZ.out.2.1, HZ.out.2.2.1⟩
          case rest =>
            obtain ⟨b, w3, I3, c3, hb3, V4, c4⟩ := hcut
            obtain ⟨w4, rfl⟩ : ∃ W : World, W = wc := ⟨_, rfl⟩
            have M4 := H2.out.1.newspan (id := i) HX.out.2 I3 c3 hb3 V4 c4
            have st4 := H2.out.2.1.trans (StA.newspan (h := pgH h v') (a := { a with l := l' }) (id := i) (b := b) (s := ⟨f, q, fun _ => false, fun _ => false, 0⟩) ((c3.mono (by simp)).trans c4) hb3)
            have H4 := Lib.hid (And.intro M4 st4); clear M4 st4 I3 c3 hb3 V4 c4 b1 hl'
            go_wp2_with fail
            refine (pages_k w4 q hq).mono ?_
            rintro e w5 ⟨rfl, c5⟩
            have M5 := H4.out.1.chg0 c5
            have st5 := H4.out.2.trans (StA.same c5)
            obtain ⟨h4, hh4⟩ : ∃ h4, h4 = spanH (pgH h v') i b := ⟨_, rfl⟩
            obtain ⟨a4, ha4⟩ : ∃ a4 : Ar, a4 = { ({ a with l := l' } : Ar) with sp := updF a.sp i (some ⟨f, q, fun _ => false, fun _ => false, 0⟩) } := ⟨_, rfl⟩
            obtain ⟨P, hP⟩ : ∃ P, P = pgK q := ⟨_, rfl⟩
            rw [← hP] at h6 ⊢
            have hfn := hf.2.2
            rw [← hP] at hfn
            have M5' : ArM w5 h4 a4 := by rw [hh4, ha4]; exact M5
            have st5' : StA h a h4 a4 w w5 := by rw [hh4, ha4]; exact st5
            have H5 := Lib.hid (And.intro M5' (And.intro st5' (And.intro hh4 (And.intro ha4 hP)))); clear M5 st5 M5' st5' hh4 ha4 c5 hP hf h5
            have g1 : h4.ga = h.ga := by rw [H5.out.2.2.1]; rfl
            have g2 : h4.m = h.m + 1 := by rw [H5.out.2.2.1]; rfl
            have HG := Lib.hid (And.intro g1 g2); clear g1 g2
            go_wp2_with fail
            obtain ⟨w6, rfl⟩ : ∃ W : World, W = w5 := ⟨_, rfl⟩
            go_loopg [52] (P + 1) (fun gk idx wr => OwRel w h h4 a a4 f i P gk idx wr)
            case atStart => exact ⟨0, by omega, by omega, rfl, by rw [owT_zero]; exact H5.out.1, by rw [owT_zero]; exact H5.out.2.1⟩
            case round =>
              obtain ⟨t, hgk2, htP, rfl, M, st⟩ := hrel
              by_cases et : t < P
              · have ht' : (t : Int) < (P : Int) := by omega
                have b2 : wr.cell? ⟨h.ga, 2, none⟩ = some (.map (some h4.bo)) := by rw [← HG.out.1]; exact M.b.cellv 2 rfl
                have hb1 : (f : Int) + (t : Int) ≤ 300000 := by omega
                have hb2 : (0 : Int) ≤ (f : Int) + (t : Int) := by omega
                have hwf : Wf64 ((f + t : Nat) : Int) := by unfold Wf64; omega
                have hmm : (owHn h4 t).m < maxLen := by show h4.m + t < maxLen; have := HG.out.2; unfold maxLen; omega
                have HX2 := Lib.hid (And.intro M st); clear M st
                go_wp2_with (at_mapUpdate; refine wpList_vmap_put rfl _ _ _ rfl HX2.out.1.o tyO rfl (k := ((f + t : Nat) : Int)) rfl hwf rfl hmm ?_)
                intro w7 V7 C7 _
                have M7 := HX2.out.1.owner (p := f + t) (id := i) V7 C7
                have st7 := HX2.out.2.trans (StA.owner (h := owHn h4 t) (a := { a4 with ow := owT a4 f t i }) (f := updF (owT a4 f t i) (f + t) (some i)) C7)
                have e7 : ({ ({ a4 with ow := owT a4 f t i } : Ar) with ow := updF (owT a4 f t i) (f + t) (some i) } : Ar) = { a4 with ow := owT a4 f (t + 1) i } := by rw [owT_succ]
                have H7 := Lib.hid (And.intro M7 (And.intro st7 e7)); clear M7 st7 e7 V7 C7 hwf hmm
                go_wp2_with fail
                go_roundg (P - t)
                case measure => omega
                case rel => exact ⟨t + 1, by omega, by omega, by go_num, by rw [← H7.out.2.2]; exact H7.out.1, by rw [← H7.out.2.2]; exact H7.out.2.1⟩
              · have et2 : t = P := by omega
                subst et2
                have ht' : ¬ (t : Int) < (t : Int) := by omega
                have HX2 := Lib.hid (And.intro M st); clear M st
                go_wp2_with fail
                go_ret2
                have eA : ({ a4 with ow := owT a4 f t i } : Ar) = spanA a l' i q f := by
                  rw [H5.out.2.2.2.1, H5.out.2.2.2.2]; rfl
                refine .inr ⟨q, rfl, hq, f, 0, l', H2.out.2.2, .inr ⟨rfl, f, i, owHn h4 t, rfl, HX.out.2, HX.out.1, rfl, by rw [← eA]; exact HX2.out.1, by rw [← eA]; exact HX2.out.2, ?_, ?_, ?_⟩⟩
                · show h4.m + t ≤ h.m + 6
                  have := HG.out.2; omega
                · show h4.N = h.N
                  rw [H5.out.2.2.1]; rfl
                · exact HG.out.1
    · have hc1 : (c != 0) = true := by rw [bne_iff_ne]; exact hc
      have HQ := Lib.hid hc; clear hc
      go_wp2_with fail
      go_ret2
      exact .inr ⟨q, rfl, hq, x, c, l', H2.out.2.2, .inl ⟨HQ.out, rfl, _, H2.out.1, H2.out.2.1, rfl, rfl, rfl⟩⟩
  · rw [szI_no hk]
    have HC := Lib.hid (And.intro c1 hk); clear c1 hk
    go_wp2_with fail
    go_ret2
    exact .inl ⟨HC.out.2, rfl, HC.out.1⟩
end Go.Proofs.YtcnchgbngcnijaaGreatDoor
namespace Go.Proofs.YtcnchgbngcnijaaGreatDoor
open Go.RowKit

/-- A span whose blocks have changed places. -/
def turnH (h : ArH) (id : Nat) (b : SpB) : ArH := { h with B := fun j => if j = id then b else h.B j }
theorem ArM.turn {w w' : World} {h : ArH} {a : Ar} {id : Nat} {s s' : Sp} {b : SpB} (M : ArM w h a) (hs : a.sp id = some s) (I : IsSp w' b s') (c : Chg (h.B id).l w w') (hg : b.g = (h.B id).g) (hb : ∀ k ∈ b.l, k ∈ (h.B id).l) : ArM w' (turnH h id b) { a with sp := updF a.sp id (some s') } := by
  have J := M.S id s hs
  have hB : (turnH h id b).B id = b := if_pos rfl
  have hB' : ∀ i, i ≠ id → (turnH h id b).B i = h.B i := fun i e => if_neg e
  have get : ∀ i t, updF a.sp id (some s') i = some t → (i = id ∧ t = s') ∨ (i ≠ id ∧ a.sp i = some t) := fun i t ht => by
    by_cases e : i = id
    · left; subst e
      rw [updF_same] at ht
      injection ht with ht
      exact ⟨rfl, ht.symm⟩
    · right; rw [updF_other _ _ e] at ht; exact ⟨e, ht⟩
  have e : spV (turnH h id b) { a with sp := updF a.sp id (some s') } = spV h a := by
    funext x
    unfold spV updF
    by_cases e : x = id
    · subst e; simp [hs, hB, hg]
    · simp [e, hB' x e]
  refine ⟨c.blk M.b (J.far M.b (by unfold SpT; decide)), ⟨c.blk M.P.b (J.far M.P.b (by unfold SpT; decide)), own_chg M.P.o c fun k hk hm => ?_⟩, ?_, M.o.chg c (M.o.far J), M.j.chg c (M.j.far J), fun i t ht => ?_, fun x xs hx => c.blk (M.O x xs hx) (J.far (M.O x xs hx) (by unfold SpT; decide)), fun i i' t t' ht ht' hne k hk hk' => ?_, M.d2, M.m1, M.m2, M.m3⟩
  · simp only [SpB.l, List.mem_cons, List.not_mem_nil, or_false] at hm
    rcases hm with rfl | rfl | rfl | rfl | rfl
    · exact own_far M.P.o J.hb (by decide) (mem_fpv.2 hk)
    · exact own_far M.P.o J.hu.b (by decide) (mem_fpv.2 hk)
    · exact own_far M.P.o J.hu.d (by decide) (mem_fpv.2 hk)
    · exact own_far M.P.o J.hm.b (by decide) (mem_fpv.2 hk)
    · exact own_far M.P.o J.hm.d (by decide) (mem_fpv.2 hk)
  · rw [e]; exact M.s.chg c (M.s.far J)
  · rcases get i t ht with ⟨rfl, rfl⟩ | ⟨e, h2⟩
    · rw [hB]; exact I
    · rw [hB' i e]; exact (M.S i t h2).chg c (fun k hk hm => M.d1 i id t s h2 hs e k hk hm)
  · rcases get i t ht with ⟨rfl, rfl⟩ | ⟨e, h2⟩
    · rcases get i' t' ht' with ⟨rfl, rfl⟩ | ⟨e', h2'⟩
      · exact hne rfl
      · rw [hB] at hk; rw [hB' i' e'] at hk'
        exact M.d1 i i' s t' hs h2' hne k (hb k hk) hk'
    · rw [hB' i e] at hk
      rcases get i' t' ht' with ⟨rfl, rfl⟩ | ⟨e', h2'⟩
      · rw [hB] at hk'
        exact M.d1 i i' t s h2 hs hne k hk (hb k hk')
      · rw [hB' i' e'] at hk'
        exact M.d1 i i' t t' h2 h2' hne k hk hk'
theorem StA.turn {w w' : World} {h : ArH} {a : Ar} {id : Nat} {s s' : Sp} {b : SpB} (hs : a.sp id = some s) (c : Chg (h.B id).l w w') (hb : ∀ k ∈ b.l, k ∈ (h.B id).l) : StA h a (turnH h id b) { a with sp := updF a.sp id (some s') } w w' := by
  have inF : ∀ k ∈ (h.B id).l, ArF h a k := fun k hk => .inr (.inr (.inr (.inr (.inr (.inr (.inl ⟨id, s, hs, hk⟩))))))
  refine StA.of_chg c (fun k hk => .inl (inF k hk)) fun k hk => .inl ?_
  rcases hk with h1 | h1 | h1 | h1 | h1 | h1 | ⟨i, t, ht, h1⟩ | h1
  · exact .inl h1
  · exact .inr (.inl h1)
  · exact .inr (.inr (.inl h1))
  · exact .inr (.inr (.inr (.inl h1)))
  · exact .inr (.inr (.inr (.inr (.inl h1))))
  · exact .inr (.inr (.inr (.inr (.inr (.inl h1)))))
  · by_cases e : i = id
    · have e2 : (turnH h id b).B i = b := if_pos e
      rw [e2] at h1
      exact inF k (hb k h1)
    · refine .inr (.inr (.inr (.inr (.inr (.inr (.inl ⟨i, t, ?_, ?_⟩))))))
      · rw [← ht]; exact (updF_other _ _ e).symm
      · have e2 : (turnH h id b).B i = h.B i := if_neg e
        rw [← e2]; exact h1
  · exact .inr (.inr (.inr (.inr (.inr (.inr (.inr h1))))))
theorem updF_some {α : Type} {f : Nat → Option α} {i x : Nat} (h : (updF f i none x).isSome = true) : x ≠ i ∧ (f x).isSome = true := by
  by_cases e : x = i
  · rw [e, updF_same] at h; cases h
  · rw [updF_other _ _ e] at h; exact ⟨e, h⟩
theorem updF_get {α : Type} {f : Nat → Option α} {i x : Nat} {v : α} (h : updF f i none x = some v) : x ≠ i ∧ f x = some v := by
  by_cases e : x = i
  · rw [e, updF_same] at h; cases h
  · rw [updF_other _ _ e] at h; exact ⟨e, h⟩
/-- A block of a map is none of a row's. -/
theorem map_far {w : World} {P : Program} {K : TypeId} {m n g : Nat} {f : Int → Option Value} {t : TypeId} {cs : Array Value} (h : VMap P K w m n f) (hb : Blk w g t cs) : g ∉ [m] := fun hm => h.ne_blk hb (by simpa using hm : _ = _).symm
theorem map_own {w : World} {P : Program} {K T : TypeId} {m n size len : Nat} {f : Int → Option Value} {v : Value} {xs : List Value} (h : VMap P K w m n f) (o : w.ownsRow 0 T size v len xs) {k : Nat} (hk : v.ownBlock = some k) : k ∉ [m] := fun hm => by
  have e : k = m := by simpa using hm
  rcases o.2 with ⟨e1, _⟩ | ⟨g', cap, cur, e1, _, hh, _⟩
  · rw [e1] at hk; simp [Value.ownBlock] at hk
  · rw [e1] at hk
    have e2 : g' = k := by simpa [Value.ownBlock] using hk
    exact h.ne_blk (t := T) hh (by rw [e2, e])
theorem ArM.delob {w w' : World} {h : ArH} {a : Ar} (M : ArM w h a) {x : Nat} (V : VMap Tryz.prog 3 w' h.bj h.m (delV (natV (obV h a)) (x : Nat))) (c : Chg [h.bj] w w') : ArM w' h { a with ob := updF a.ob x none } := by
  refine ⟨c.blk M.b (map_far M.j M.b), ⟨c.blk M.P.b (map_far M.j M.P.b), own_chg M.P.o c fun k hk => map_own M.j M.P.o hk⟩, M.s.chg c (by simp [M.m2]), M.o.chg c (by simp [M.m3]), V.ext fun y => ?_, fun i t ht => (M.S i t ht).chg c (fun k hk hm => M.j.far (M.S i t ht) (by have e : k = h.bj := (by simpa using hm); rw [← e]; exact hk)), fun y ys hy => ?_, M.d1, fun y y' hy hy' => M.d2 y y' (updF_some hy).2 (updF_some hy').2, M.m1, M.m2, M.m3⟩
  · rw [natV_del]
    congr 1
    funext z
    unfold obV updF
    by_cases e : z = x
    · simp [e]
    · simp [e]
  · have h2 := (updF_get hy).2
    exact c.blk (M.O y ys h2) (map_far M.j (M.O y ys h2))
theorem StA.delob {w w' : World} {h : ArH} {a : Ar} {x : Nat} (c : Chg [h.bj] w w') : StA h a h { a with ob := updF a.ob x none } w w' := by
  refine StA.of_chg c (fun k hk => .inl (.inr (.inr (.inr (.inr (.inr (.inl (by simpa using hk)))))))) fun k hk => .inl ?_
  rcases hk with h1 | h1 | h1 | h1 | h1 | h1 | h1 | ⟨y, hy, h1⟩
  · exact .inl h1
  · exact .inr (.inl h1)
  · exact .inr (.inr (.inl h1))
  · exact .inr (.inr (.inr (.inl h1)))
  · exact .inr (.inr (.inr (.inr (.inl h1))))
  · exact .inr (.inr (.inr (.inr (.inr (.inl h1)))))
  · exact .inr (.inr (.inr (.inr (.inr (.inr (.inl h1))))))
  · exact .inr (.inr (.inr (.inr (.inr (.inr (.inr ⟨y, (updF_some hy).2, h1⟩))))))
theorem ArM.delown {w w' : World} {h : ArH} {a : Ar} (M : ArM w h a) {p : Nat} (V : VMap Tryz.prog 3 w' h.bo h.m (delV (natV (owV a)) (p : Nat))) (c : Chg [h.bo] w w') : ArM w' h { a with ow := updF a.ow p none } := by
  refine ⟨c.blk M.b (map_far M.o M.b), ⟨c.blk M.P.b (map_far M.o M.P.b), own_chg M.P.o c fun k hk => map_own M.o M.P.o hk⟩, M.s.chg c (by simp [M.m1]), V.ext fun y => ?_, M.j.chg c (by simp [Ne.symm M.m3]), fun i t ht => (M.S i t ht).chg c (fun k hk hm => M.o.far (M.S i t ht) (by have e : k = h.bo := (by simpa using hm); rw [← e]; exact hk)), fun y ys hy => c.blk (M.O y ys hy) (map_far M.o (M.O y ys hy)), M.d1, M.d2, M.m1, M.m2, M.m3⟩
  rw [natV_del]
  congr 1
  funext z
  unfold owV updF
  by_cases e : z = p
  · simp [e]
  · simp [e]
theorem ArM.delspan {w w' : World} {h : ArH} {a : Ar} (M : ArM w h a) {id : Nat} (V : VMap Tryz.prog 3 w' h.bs h.m (delV (natV (spV h a)) (id : Nat))) (c : Chg [h.bs] w w') : ArM w' h { a with sp := updF a.sp id none } := by
  refine ⟨c.blk M.b (map_far M.s M.b), ⟨c.blk M.P.b (map_far M.s M.P.b), own_chg M.P.o c fun k hk => map_own M.s M.P.o hk⟩, V.ext fun y => ?_, M.o.chg c (by simp [Ne.symm M.m1]), M.j.chg c (by simp [Ne.symm M.m2]), fun i t ht => ?_, fun y ys hy => c.blk (M.O y ys hy) (map_far M.s (M.O y ys hy)), fun i i' t t' ht ht' => M.d1 i i' t t' (updF_get ht).2 (updF_get ht').2, M.d2, M.m1, M.m2, M.m3⟩
  · rw [natV_del]
    congr 1
    funext z
    unfold spV updF
    by_cases e : z = id
    · simp [e]
    · simp [e]
  · have h2 := (updF_get ht).2
    exact (M.S i t h2).chg c (fun k hk hm => M.s.far (M.S i t h2) (by have e : k = h.bs := (by simpa using hm); rw [← e]; exact hk))
end Go.Proofs.YtcnchgbngcnijaaGreatDoor
namespace Go.Proofs.YtcnchgbngcnijaaGreatDoor
open Go.RowKit

theorem step_vmap_del {P : Program} {T K E : TypeId} {z : Value} {w : World} {b n : Nat} {f : Int → Option Value} {ops : Array Oper} {o : Oper} {a : Act} {K' : Act → World → Prop} {Q : Exit → Act → World → Prop} {E' : Prop} (hg : o.guard = none) (m x : Operand) (hop : o.op = Op.call { callee := .builtin .delete, args := #[m, x], argTypes := #[T, K] }) (h : VMap P K w b n f) (t : VTy P T K E z) (hm : a.eval m = .map (some b)) {k : Int} (hx : a.eval x = .int .i64 k) (hk : Wf64 k)
    (hK : ∀ w', VMap P K w' b n (delV f k) → Chg [b] w w' → w'.heap.size = w.heap.size → K' (a.put o.dst (.tuple #[])) w') : if Region.wanted o (yielded ops a.tmps) = true then Oper.wp P o a w K' Q else E' := by
  have hw : Region.wanted o (yielded ops a.tmps) = true := by simp [Region.wanted, hg]
  rw [if_pos hw]
  obtain ⟨w', hrun, r1, r2, r3⟩ := h.del t hk o.type
  unfold Oper.wp execOp
  simp only [hop, resolve, invoke, builtin, Sem.run_bind, Sem.run_pure, Result.andThen_ok, List.map_toArray, List.map_cons, List.map_nil, hm, hx, hrun]
  exact hK w' r1 r2 r3
def sweptL (s : Sp) : List Nat := (allN s.F (slK s.k)).filter fun i => !(s.M i)
def addrT (s : Sp) (i : Nat) : List Nat := ((sweptL s).take i).map s.addr
def obT (a : Ar) (s : Sp) (i x : Nat) : Option (List Int) := if x ∈ addrT s i then none else a.ob x
theorem obT_zero (a : Ar) (s : Sp) : obT a s 0 = a.ob := by funext x; unfold obT addrT; rw [if_neg (by simp)]
theorem addrT_succ {s : Sp} {i y : Nat} (h : (sweptL s)[i]? = some y) : addrT s (i + 1) = addrT s i ++ [s.addr y] := by unfold addrT; rw [List.take_add_one, h]; simp
theorem obT_succ {a : Ar} {s : Sp} {i y : Nat} (h : (sweptL s)[i]? = some y) : updF (obT a s i) (s.addr y) none = obT a s (i + 1) := by
  funext x
  unfold updF obT
  rw [addrT_succ h]
  by_cases e : x = s.addr y
  · rw [if_pos e, if_pos (by simp [e])]
  · rw [if_neg e]
    by_cases hx : x ∈ addrT s i
    · rw [if_pos hx, if_pos (by simp [hx])]
    · rw [if_neg hx, if_neg (by simp [hx, e])]
def sweptS (s : Sp) : Sp := ⟨s.first, s.k, s.M, fun _ => false, 0⟩
def sweptB (b : SpB) : SpB := ⟨b.g, b.m, b.ma, b.u, b.ua⟩
def sweepA (a : Ar) (id : Nat) (s : Sp) (i : Nat) : Ar := { a with sp := updF a.sp id (some (sweptS s)), ob := obT a s i, live := a.live - i * szK s.k }
theorem StA.more {S : List Nat} {h h' h'' : ArH} {a a' a'' : Ar} {w w' w'' : World} (s : StA h a h' a' w w') (c : Chg S w' w'') (hS : ∀ k ∈ S, ArF h' a' k ∨ w.heap.size ≤ k) (fr : ∀ k, ArF h'' a'' k → ArF h' a' k ∨ w.heap.size ≤ k) : StA h a h'' a'' w w'' :=
  ⟨c.os.trans s.os, c.tape.trans s.tape, c.output.trans s.output, Nat.le_trans s.size c.size, fun k hk hn => (c.block k (Nat.lt_of_lt_of_le hk s.size) (fun hm => by
    rcases hS k hm with h1 | h1
    · rcases s.fr k h1 with h2 | h2
      · exact hn h2
      · omega
    · omega)).trans (s.block k hk hn), fun k hk => by
    rcases fr k hk with h1 | h1
    · exact s.fr k h1
    · exact .inr h1⟩
theorem ArF.turn {h : ArH} {a : Ar} {id : Nat} {s s' : Sp} {b : SpB} {k : Nat} (hs : a.sp id = some s) (hb : ∀ k ∈ b.l, k ∈ (h.B id).l) (hk : ArF (turnH h id b) { a with sp := updF a.sp id (some s') } k) : ArF h a k := by
  rcases hk with h1 | h1 | h1 | h1 | h1 | h1 | ⟨i, t, ht, h1⟩ | h1
  · exact .inl h1
  · exact .inr (.inl h1)
  · exact .inr (.inr (.inl h1))
  · exact .inr (.inr (.inr (.inl h1)))
  · exact .inr (.inr (.inr (.inr (.inl h1))))
  · exact .inr (.inr (.inr (.inr (.inr (.inl h1)))))
  · by_cases e : i = id
    · have e2 : (turnH h id b).B i = b := if_pos e
      rw [e2] at h1
      exact .inr (.inr (.inr (.inr (.inr (.inr (.inl ⟨id, s, hs, hb k h1⟩))))))
    · refine .inr (.inr (.inr (.inr (.inr (.inr (.inl ⟨i, t, ?_, ?_⟩))))))
      · rw [← ht]; exact (updF_other _ _ e).symm
      · have e2 : (turnH h id b).B i = h.B i := if_neg e
        rw [← e2]; exact h1
  · exact .inr (.inr (.inr (.inr (.inr (.inr (.inr h1))))))
theorem obT_mono {a : Ar} {s : Sp} {i x : Nat} (h : (obT a s (i + 1) x).isSome = true) : (obT a s i x).isSome = true := by
  unfold obT at h ⊢
  by_cases e : x ∈ addrT s i
  · have : x ∈ addrT s (i + 1) := by
      unfold addrT at e ⊢
      rw [List.mem_map] at e ⊢
      obtain ⟨y, hy, e⟩ := e
      exact ⟨y, List.take_subset_take_left _ (Nat.le_succ i) hy, e⟩
    rw [if_pos this] at h; cases h
  · rw [if_neg e]
    by_cases e2 : x ∈ addrT s (i + 1)
    · rw [if_pos e2] at h; cases h
    · rwa [if_neg e2] at h
theorem ArF.sweep {h1 : ArH} {a : Ar} {id i k : Nat} {s : Sp} (hk : ArF h1 (sweepA a id s (i + 1)) k) : ArF h1 (sweepA a id s i) k := by
  rcases hk with h | h | h | h | h | h | h | ⟨x, hx, h⟩
  · exact .inl h
  · exact .inr (.inl h)
  · exact .inr (.inr (.inl h))
  · exact .inr (.inr (.inr (.inl h)))
  · exact .inr (.inr (.inr (.inr (.inl h))))
  · exact .inr (.inr (.inr (.inr (.inr (.inl h)))))
  · exact .inr (.inr (.inr (.inr (.inr (.inr (.inl h))))))
  · exact .inr (.inr (.inr (.inr (.inr (.inr (.inr ⟨x, obT_mono hx, h⟩))))))
def AwPost (h : ArH) (a : Ar) (id : Int) (w : World) (e : Ending) (w' : World) : Prop :=
  (spI a id = none ∧ e = .returned (.tuple #[.slice none 0 0, .int .i64 4]) ∧ Chg [] w w') ∨
  ∃ s v, 0 ≤ id ∧ a.sp id.toNat = some s ∧ e = .returned (.tuple #[v, .int .i64 0]) ∧ OwnI 3 w' v (intsN ((sweptL s).map s.addr)) ∧ (∀ k ∈ fpv v, w.heap.size ≤ k) ∧ (∀ k ∈ fpv v, ¬ ArF (turnH h id.toNat (sweptB (h.B id.toNat))) (sweepA a id.toNat s (sweptL s).length) k) ∧ ArM w' (turnH h id.toNat (sweptB (h.B id.toNat))) (sweepA a id.toNat s (sweptL s).length) ∧ StA h a (turnH h id.toNat (sweptB (h.B id.toNat))) (sweepA a id.toNat s (sweptL s).length) w w'
def AwRel (w0 : World) (h h1 : ArH) (a : Ar) (id : Nat) (s : Sp) (vl : Value) (gk : Nat) (v idx : Value) (w : World) : Prop :=
  ∃ i, gk + i = (sweptL s).length + 1 ∧ i ≤ (sweptL s).length ∧ idx = .int .i64 (i : Nat) ∧ OwnI 3 w v (intsN (addrT s i)) ∧ OwnI 3 w vl (intsN (sweptL s)) ∧ (∀ k ∈ fpv v, w0.heap.size ≤ k ∧ k ∉ fpv vl) ∧ (∀ k ∈ fpv v, ∀ k' , ArF h1 (sweepA a id s i) k' → k ≠ k') ∧ (∀ k ∈ fpv vl, ∀ k', ArF h1 (sweepA a id s i) k' → k ≠ k') ∧ ArM w h1 (sweepA a id s i) ∧ StA h a h1 (sweepA a id s i) w0 w
set_option maxHeartbeats 3200000 in
set_option maxRecDepth 100000 in
theorem asweep_ok (w : World) (h : ArH) (a : Ar) (M : ArM w h a) (T : Tab w) (id : Int) (hid : Wf64 id) (hlive : a.live ≤ 100000000) (hge : ∀ s, spI a id = some s → (sweptL s).length * szK s.k ≤ a.live) :
    Calls Tryz.prog 56 #[.pointer (some ⟨h.ga, 0, none⟩), .int .i64 id] w (AwPost h a id w) := by
  have b1 : w.cell? ⟨h.ga, 1, none⟩ = some (.map (some h.bs)) := M.b.cellv 1 rfl
  have hl := M.s.look tyS hid
  rw [spV_I] at hl
  cases ho : spI a id with
  | none =>
    rw [ho] at hl
    have hl' : (Instr.lookup 76 (.map (some h.bs)) (.int .i64 id) false).run Tryz.prog w = .ok (.pointer none) w := hl
    have HO := Lib.hid ho; clear ho hl M hge
    go_enter Tryz.func56, Tryz.ntmps56
    go_wp2_with fail
    go_ret2
    exact .inl ⟨HO.out, rfl, Chg.refl _ _⟩
  | some s =>
    rw [ho] at hl
    have hl' : (Instr.lookup 76 (.map (some h.bs)) (.int .i64 id) false).run Tryz.prog w = .ok (.pointer (some ⟨(h.B id.toNat).g, 0, none⟩)) w := hl
    have hid0 : 0 ≤ id := by
      unfold spI at ho
      by_cases h0 : 0 ≤ id
      · exact h0
      · rw [if_neg h0] at ho; cases ho
    have hs : a.sp id.toNat = some s := by unfold spI at ho; rwa [if_pos hid0] at ho
    have hlv := hge s ho
    obtain ⟨j, rfl⟩ : ∃ j : Nat, id = j := ⟨id.toNat, by omega⟩
    rw [Int.toNat_natCast] at hl' hs
    have I := M.S _ s hs
    have HO := Lib.hid (And.intro ho (And.intro M (And.intro hs (And.intro I T)))); clear ho hl M hs I T hge
    go_enter Tryz.func56, Tryz.ntmps56
    go_wp2_with fail
    refine (ssweep_ok w (h.B j) s HO.out.2.2.2.1 HO.out.2.2.2.2).mono ?_
    rintro e w1 ⟨vl, rfl, Ol, I1, C1, F1⟩
    have M1 := ArM.turn (b := sweptB (h.B j)) (s' := sweptS s) HO.out.2.1 HO.out.2.2.1 I1 C1 rfl (by intro k hk; simp only [sweptB, SpB.l, List.mem_cons, List.not_mem_nil, or_false] at hk ⊢; rcases hk with h | h | h | h | h <;> simp [h])
    have st1 := StA.turn (h := h) (a := a) (id := j) (s := s) (s' := sweptS s) (b := sweptB (h.B j)) HO.out.2.2.1 C1 (by intro k hk; simp only [sweptB, SpB.l, List.mem_cons, List.not_mem_nil, or_false] at hk ⊢; rcases hk with h | h | h | h | h <;> simp [h])
    have e0 : ({ a with sp := updF a.sp j (some (sweptS s)) } : Ar) = sweepA a j s 0 := by unfold sweepA; rw [obT_zero, Nat.zero_mul, Nat.sub_zero]
    rw [e0] at M1 st1
    obtain ⟨h1, hh1⟩ : ∃ h1, h1 = turnH h j (sweptB (h.B j)) := ⟨_, rfl⟩
    rw [← hh1] at M1 st1
    have ga1 : h1.ga = h.ga := by rw [hh1]; rfl
    have bj1 : h1.bj = h.bj := by rw [hh1]; rfl
    have hBj : (turnH h j (sweptB (h.B j))).B j = sweptB (h.B j) := if_pos rfl
    have Bg : (h1.B j).g = (h.B j).g := by rw [hh1, hBj]; rfl
    have Ol' : OwnI 3 w1 vl (intsN (sweptL s)) := Ol
    obtain ⟨Al, cl, rfl⟩ := Ol'.slice
    have hli : (intsN (sweptL s)).length = (sweptL s).length := by unfold intsN; rw [List.length_map]
    rw [hli] at Ol' F1 ⊢
    have HH := Lib.hid (And.intro hh1 (And.intro ga1 (And.intro bj1 Bg))); clear hh1 ga1 bj1 Bg hBj
    have hnF : ∀ k ∈ fpv (.slice Al (sweptL s).length cl), ∀ k', ArF h1 (sweepA a j s 0) k' → k ≠ k' := fun k hk k' hk' e => by
      have f1 := F1 k hk
      rw [HH.out.1, ← e0] at hk'
      have := HO.out.2.1.lt k' (ArF.turn HO.out.2.2.1 (by intro k hk; simp only [sweptB, SpB.l, List.mem_cons, List.not_mem_nil, or_false] at hk ⊢; rcases hk with h | h | h | h | h <;> simp [h]) hk')
      omega
    have HL := Lib.hid (And.intro M1 (And.intro st1 (And.intro Ol' (And.intro F1 hnF)))); clear M1 st1 Ol' F1 hnF hli Ol I1 C1 e0
    go_wp2_with fail
    have hall : ∀ i y, (sweptL s)[i]? = some y → y < slK s.k := fun i y hy => by
      have := List.mem_of_getElem? hy
      unfold sweptL at this
      rw [List.mem_filter] at this
      have h1 := this.1
      unfold allN at h1
      rw [List.mem_filter, List.mem_range] at h1
      exact h1.1
    have hlen : (sweptL s).length ≤ 64 := by
      have h1 : (sweptL s).length ≤ (allN s.F (slK s.k)).length := List.length_filter_le _ _
      rw [allN_len] at h1
      have := cntF_le s.F (slK s.k)
      have := (kF HO.out.2.2.2.1.hk).2.2.2.2.2.2.2.2
      omega
    have hsz := (kF HO.out.2.2.2.1.hk).2.2.2.1
    have hkk := HO.out.2.2.2.1.hk
    have HA := Lib.hid hall; clear hall
    obtain ⟨w0, rfl⟩ : ∃ w0 : World, w0 = w1 := ⟨_, rfl⟩
    go_loopg [7, 30] ((sweptL s).length + 1) (fun gk v idx wr => AwRel w h h1 a j s (.slice Al (sweptL s).length cl) gk v idx wr)
    case atStart => exact ⟨0, by omega, by omega, rfl, OwnI.nil _ _, HL.out.2.2.1, by simp [fpv, Value.ownBlock], by simp [fpv, Value.ownBlock], HL.out.2.2.2.2, HL.out.1, HL.out.2.1⟩
    case round =>
      obtain ⟨i, hgk, hin, rfl, O, OL, Fv, nv, nl, M, st⟩ := hrel
      by_cases e : i < (sweptL s).length
      · obtain ⟨y, hy⟩ : ∃ y, (sweptL s)[i]? = some y := ⟨_, List.getElem?_eq_getElem e⟩
        have hyi : (intsN (sweptL s))[i]? = some (y : Int) := by unfold intsN; rw [List.getElem?_map, hy]; rfl
        have hi' : (i : Int) < ((sweptL s).length : Int) := by omega
        obtain ⟨g0, rfl, q0, -, -⟩ := OL.cell hyi
        have hys := HA.out i y hy
        have hsp : (sweepA a j s i).sp j = some (sweptS s) := updF_same _ _ _
        have I := M.S j _ hsp
        have hol : (intsN (addrT s i)).length ≤ 64 := by
          unfold intsN addrT; rw [List.length_map, List.length_map, List.length_take]; omega
        obtain ⟨Ao, co, rfl⟩ := O.slice
        have HX := Lib.hid (And.intro O (And.intro OL (And.intro Fv (And.intro nv (And.intro nl (And.intro M (And.intro st (And.intro I hy))))))))
        clear O OL Fv nv nl M st I hy hyi hsp
        go_wp2_with fail
        have hS := saddr_ok wr (h1.B j) (sweptS s) HX.out.2.2.2.2.2.2.2.1 y hys
        rw [HH.out.2.2.2] at hS
        refine hS.mono ?_
        rintro e w2 ⟨rfl, c2⟩
        clear hS
        have O2 := HX.out.1.chg0 c2
        have hll : (intsN (addrT s i)).length + 1 ≤ 1000000000000 := by omega
        have H2 := Lib.hid (And.intro c2 O2); clear c2 O2
        go_wp2_with (at_builtin; refine wpList_push_int rfl _ _ rfl slZ rfl H2.out.2 rfl hll ?_)
        intro A' c' w5 O5 S5
        have lt2 : ∀ k, ArF h1 (sweepA a j s i) k → k < w2.heap.size := fun k hk => (HX.out.2.2.2.2.2.1.chg0 H2.out.1).lt k hk
        have M5 : ArM w5 h1 (sweepA a j s i) := (HX.out.2.2.2.2.2.1.chg0 H2.out.1).chg S5.c (fun k hk hm => HX.out.2.2.2.1 k hm k hk rfl)
        have n5 : ∀ k ∈ fpv (.slice A' ((intsN (addrT s i)).length + 1) c'), ∀ k', ArF h1 (sweepA a j s i) k' → k ≠ k' := fun k hk k' hk' => by
          rcases S5.f k hk with h2 | h2
          · exact HX.out.2.2.2.1 k h2 k' hk'
          · have := lt2 k' hk'; omega
        have f5 : ∀ k ∈ fpv (.slice A' ((intsN (addrT s i)).length + 1) c'), w.heap.size ≤ k ∧ k ∉ fpv (.slice (some ⟨g0, 0, none⟩) (sweptL s).length cl) := fun k hk => by
          rcases S5.f k hk with h2 | h2
          · exact HX.out.2.2.1 k h2
          · refine ⟨?_, fun hm => ?_⟩
            · have h3 := HX.out.2.2.2.2.2.2.1.size
              have h4 := H2.out.1.size
              omega
            · have h3 := (HX.out.2.1.chg0 H2.out.1).lt hm
              omega
        have st5 : StA h a h1 (sweepA a j s i) w w5 := (HX.out.2.2.2.2.2.2.1.more (S := []) H2.out.1 (by simp) (fun k hk => .inl hk)).more S5.c (fun k hk => .inr (HX.out.2.2.1 k hk).1) (fun k hk => .inl hk)
        have OL5 := (HX.out.2.1.chg0 H2.out.1).chg S5.c (fun k hk hm => (HX.out.2.2.1 k hm).2 hk)
        have H5 := Lib.hid (And.intro M5 (And.intro n5 (And.intro f5 (And.intro st5 (And.intro OL5 O5)))))
        clear M5 n5 f5 st5 OL5 O5 S5 lt2
        go_upto_region 11 with fail
        go_cut [40] from 41 to 46 (fun _ wd => VMap Tryz.prog 3 wd h1.bj h1.m (delV (natV (obV h1 (sweepA a j s i))) (s.addr y : Nat)) ∧ Chg [h1.bj] w5 wd)
        case first =>
          have b3 : w5.cell? ⟨h.ga, 3, none⟩ = some (.map (some h.bj)) := by
            have := H5.out.1.b.cellv 3 rfl
            rw [HH.out.2.1, HH.out.2.2.1] at this
            exact this
          have I5 := H5.out.1.S j _ (updF_same _ _ _)
          have J5 := H5.out.1.j
          rw [HH.out.2.2.1] at J5
          have hwf : Wf64 ((s.addr y : Nat) : Int) := by
            have h1 := HO.out.2.2.2.1.f2
            have h2 := sl_sz hkk hys
            have h3 := (kF hkk).2.2.2.2.2.1
            rw [Nat.add_mul] at h2
            unfold Wf64 Sp.addr
            omega
          have hga := H5.out.1.b.lt
          rw [HH.out.2.1] at hga
          have HQ := Lib.hid (And.intro I5 (And.intro J5 hwf)); clear I5 J5 hwf
          have k1 : Chg [] w5 w5.drew := (Chg.refl [] w5).drew
          go_region_law
            (first
              | (rw [if_pos (by rfl)]; go_simp; go_at_call 97; have hS := saddr_ok _ (h1.B j) (sweptS s) (HQ.out.1.chg0 k1) y hys; rw [HH.out.2.2.2] at hS; refine hS.mono ?_; clear hS; rintro e w' ⟨rfl, C⟩; dsimp only; have D := Chg.trans (S := []) (a := w5) k1 C; have z1 : w'.cell? ⟨h.ga, 3, none⟩ = some (.map (some h.bj)) := D.cellv hga (by simp) b3)
              | (refine step_vmap_del (by rfl) _ _ (by rfl) (HQ.out.2.1.chg D (by simp)) tyJ (by rfl) (by rfl) HQ.out.2.2 ?_; intro wz V C3 hsz3))
          all_goals (have HZ := Lib.hid (And.intro V ((D.mono (T := [h.bj]) (by simp)).trans C3)); clear V)
          all_goals go_wp2_with fail
          all_goals (go_meet; rw [HH.out.2.2.1]; exact HZ.out)
        case rest =>
          obtain ⟨V6, C6⟩ := hcut
          obtain ⟨w6, rfl⟩ : ∃ W : World, W = wc := ⟨_, rfl⟩
          have M6 := H5.out.1.delob V6 C6
          have st6 := H5.out.2.2.2.1.trans (StA.delob (x := s.addr y) C6)
          have ob6 : updF (sweepA a j s i).ob (s.addr y) none = obT a s (i + 1) := obT_succ HX.out.2.2.2.2.2.2.2.2
          rw [ob6] at M6 st6
          have hbj6 : ArF h1 (sweepA a j s i) h1.bj := .inr (.inr (.inr (.inr (.inr (.inl rfl)))))
          have O6 := H5.out.2.2.2.2.2.chg C6 (fun k hk hm => H5.out.2.1 k hk h1.bj hbj6 (by simpa using hm))
          have OL6 := H5.out.2.2.2.2.1.chg C6 (fun k hk hm => HX.out.2.2.2.2.1 k hk h1.bj hbj6 (by simpa using hm))
          have I6 := M6.S j _ (updF_same _ _ _)
          have H6 := Lib.hid (And.intro M6 (And.intro st6 (And.intro O6 (And.intro OL6 I6))))
          clear M6 st6 ob6 hbj6 O6 OL6 I6 V6 C6
          go_upto_region 12 with fail
          have B6 := H6.out.1.b
          rw [HH.out.2.1] at B6
          have hga := B6.lt
          have k1 : Chg [] w6 w6.drew := (Chg.refl [] w6).drew
          have k0 : Chg [] w6 w6 := Chg.refl [] w6
          have HB6 := Lib.hid B6
          have b4 : w6.drew.cell? ⟨h.ga, 4, none⟩ = some (.int .i64 ((a.live - i * szK s.k : Nat) : Int)) := B6.drew.cellv 4 rfl
          have f4 := B6.drew.frozen 4
          clear B6
          have hmul : i * szK s.k + szK s.k ≤ (sweptL s).length * szK s.k := by
            rw [← Nat.succ_mul]; exact Nat.mul_le_mul_right _ e
          have hmul2 : (i + 1) * szK s.k = i * szK s.k + szK s.k := Nat.succ_mul _ _
          obtain ⟨L, hL⟩ : ∃ L, L = a.live - i * szK s.k := ⟨_, rfl⟩
          have hL2 : a.live - (i + 1) * szK s.k = L - szK s.k := by omega
          have hL3 : szK s.k ≤ L := by omega
          have hL4 : L ≤ 100000000 := by omega
          rw [← hL] at b4
          have HL6 := Lib.hid (And.intro hL hL2); clear hL hL2 hmul hmul2
          go_region_law
            (first
              | (rw [if_pos (by rfl)]; go_simp; go_at_call 95; have hS := sclass_ok w6.drew (h1.B j) (sweptS s) (H6.out.2.2.2.2.chg0 k1); rw [HH.out.2.2.2] at hS; refine hS.mono ?_; clear hS; rintro e w' ⟨rfl, rfl⟩; dsimp only)
              | (rw [if_pos (by rfl)]; go_simp; go_at_call 91; refine (size_k _ s.k hkk).mono ?_; rintro e w' ⟨rfl, C⟩; dsimp only; have D := Chg.trans (S := []) (a := w6) (by assumption) C; have z1 : w'.cell? ⟨h.ga, 4, none⟩ = some (.int .i64 (L : Nat)) := D.cellv hga (by simp) (HB6.out.cellv 4 (by rw [HL6.out.1]; rfl)); have z2 : w'.frozen? ⟨h.ga, 4, none⟩ = false := (D.blk HB6.out (by simp)).frozen 4))
          all_goals (have hb := (D.blk HB6.out (by simp)).setv 4 (.int .i64 ((a.live - (i + 1) * szK s.k : Nat) : Int)) rfl)
          all_goals (have HZ := Lib.hid (And.intro hb ((D.mono (T := [h.ga]) (by simp)).setCell (p := ⟨h.ga, 4, none⟩) (.inl (by simp)) (.int .i64 ((a.live - (i + 1) * szK s.k : Nat) : Int)))); clear hb)
          all_goals rw [show IntKind.i64.wrap ((L : Int) - (szK s.k : Int)) = ((a.live - (i + 1) * szK s.k : Nat) : Int) by rw [IntWalk.i64_in _ (by omega), HL6.out.2]; omega]
          all_goals (generalize World.setCell _ _ _ = w8 at HZ ⊢)
          all_goals (
            have B8 := HZ.out.1
            have C8 := HZ.out.2
            rw [← HH.out.2.1] at B8 C8
            have M8 := H6.out.1.turnLive B8 C8
            have st8 : StA h a h1 (sweepA a j s (i + 1)) w w8 := H6.out.2.1.more C8 (fun k hk => .inl (.inl (by simpa using hk))) (fun k hk => .inl hk)
            have hga8 : ∀ {u}, ArF h1 u h1.ga := .inl rfl
            have O8 := H6.out.2.2.1.chg C8 (fun k hk hm => H5.out.2.1 k hk h1.ga hga8 (by simpa using hm))
            have OL8 := H6.out.2.2.2.1.chg C8 (fun k hk hm => HX.out.2.2.2.2.1 k hk h1.ga hga8 (by simpa using hm))
            have H8 := Lib.hid (And.intro M8 (And.intro st8 (And.intro O8 OL8)))
            clear B8 C8 M8 st8 hga8 O8 OL8)
          all_goals go_wp2_with fail
          all_goals go_roundg ((sweptL s).length - i)
          all_goals (first | omega | skip)
          all_goals (
            refine ⟨i + 1, by omega, by omega, rfl, ?_, H8.out.2.2.2, fun k hk => H5.out.2.2.1 k hk, fun k hk k' hk' => H5.out.2.1 k hk k' (ArF.sweep hk'), fun k hk k' hk' => HX.out.2.2.2.2.1 k hk k' (ArF.sweep hk'), H8.out.1, H8.out.2.1⟩
            have := H8.out.2.2.1
            rw [addrT_succ HX.out.2.2.2.2.2.2.2.2]
            unfold intsN at this ⊢
            rw [List.map_append]
            exact this)
      · have e2 : i = (sweptL s).length := by omega
        subst e2
        have hi' : ¬ ((sweptL s).length : Int) < ((sweptL s).length : Int) := by omega
        have HX := Lib.hid (And.intro O (And.intro Fv (And.intro M (And.intro st nv))))
        clear O OL Fv nv nl M st e hgk hin
        go_wp2_with fail
        go_ret2
        have hj : ((j : Nat) : Int).toNat = j := Int.toNat_natCast j
        refine .inr ⟨s, _, by omega, by rw [hj]; exact HO.out.2.2.1, rfl, ?_, fun k hk => (HX.out.2.1 k hk).1, ?_, ?_, ?_⟩
        · have := HX.out.1
          unfold addrT at this
          rw [List.take_length] at this
          exact this
        · rw [hj, ← HH.out.1]; exact fun k hk hF => HX.out.2.2.2.2 k hk k hF rfl
        · rw [hj, ← HH.out.1]; exact HX.out.2.2.1
        · rw [hj, ← HH.out.1]; exact HX.out.2.2.2.1
end Go.Proofs.YtcnchgbngcnijaaGreatDoor
namespace Go.Proofs.YtcnchgbngcnijaaGreatDoor
open Go.RowKit

def spW (o : Option Sp) : Nat := match o with | none => 0 | some s => cntF s.F (slK s.k) * szK s.k
def livN (f : Nat → Option Sp) : Nat → Nat
  | 0 => 0
  | n + 1 => livN f n + spW (f n)
theorem livN_ext {f g : Nat → Option Sp} : ∀ {n : Nat}, (∀ j, j < n → f j = g j) → livN f n = livN g n
  | 0, _ => rfl
  | n + 1, h => by rw [livN, livN, livN_ext (fun j hj => h j (by omega)), h n (by omega)]
theorem livN_upd {f : Nat → Option Sp} {id : Nat} {v : Option Sp} : ∀ {n : Nat}, id < n → livN (updF f id v) n + spW (f id) = livN f n + spW v
  | 0, h => by omega
  | n + 1, h => by
    rw [livN, livN]
    by_cases e : n = id
    · subst e
      rw [updF_same, livN_ext (g := f) (fun j hj => updF_other _ _ (by omega))]; omega
    · rw [updF_other _ _ e]
      have := livN_upd (f := f) (v := v) (n := n) (id := id) (by omega)
      omega
theorem livN_more {f : Nat → Option Sp} {N : Nat} (h : ∀ j, N ≤ j → f j = none) : ∀ {M : Nat}, N ≤ M → livN f M = livN f N
  | 0, hm => by have : N = 0 := by omega
                rw [this]
  | M + 1, hm => by
    by_cases e : N = M + 1
    · rw [e]
    · rw [livN, livN_more h (M := M) (by omega), h M (by omega)]; rfl
theorem livN_one {f : Nat → Option Sp} {N id : Nat} {s : Sp} (h : f id = some s) : ∀ {M : Nat}, id < M → spW (some s) ≤ livN f M
  | 0, hm => by omega
  | M + 1, hm => by
    rw [livN]
    by_cases e : id = M
    · rw [← e, h]; omega
    · have := livN_one (N := N) h (M := M) (by omega); omega
structure ArI (N : Nat) (a : Ar) : Prop where
  ok : ArOk N a
  mf : ∀ id s i, a.sp id = some s → s.M i = true → s.F i = true
  fz : ∀ id s i, a.sp id = some s → slK s.k ≤ i → s.F i = false
  lv : a.live = livN a.sp N
theorem Sp.addr_page {s : Sp} {i : Nat} (hk : s.k < 16) (hi : i < slK s.k) : s.first ≤ s.addr i / 64 ∧ s.addr i / 64 < s.first + pgK s.k := by
  have h5 := sl_sz hk hi
  have h6 := (kF hk).2.2.1
  rw [Nat.add_mul] at h5
  unfold Sp.addr
  omega
theorem Sp.addr_inj {s : Sp} {i j : Nat} (hk : s.k < 16) (h : s.addr i = s.addr j) : i = j := by
  have h6 := (kF hk).2.2.1
  unfold Sp.addr at h
  exact Nat.eq_of_mul_eq_mul_right (by omega : 0 < szK s.k) (by omega)
theorem ArOk.other {N : Nat} {a : Ar} (ok : ArOk N a) {id id' i i' : Nat} {s t : Sp} (hs : a.sp id = some s) (ht : a.sp id' = some t) (hi : i < slK s.k) (hi' : i' < slK t.k) (h : s.addr i = t.addr i') : id = id' := by
  have p1 := Sp.addr_page (ok.pg id s hs).1 hi
  have p2 := Sp.addr_page (ok.pg id' t ht).1 hi'
  have o1 := ok.ow id s _ hs p1.1 p1.2
  have o2 := ok.ow id' t _ ht p2.1 p2.2
  rw [h, o2] at o1
  injection o1 with o1
  exact o1.symm
/-- Which addresses are objects', as to one span. -/
theorem ArOk.obs {N : Nat} {a : Ar} (ok : ArOk N a) {id : Nat} {s : Sp} (hs : a.sp id = some s) (x : Nat) :
    (a.ob x).isSome = true ↔ (∃ i, i < slK s.k ∧ s.F i = true ∧ x = s.addr i) ∨ ∃ id' t i, id' ≠ id ∧ a.sp id' = some t ∧ i < slK t.k ∧ t.F i = true ∧ x = t.addr i := by
  rw [ok.ob]
  constructor
  · rintro ⟨id', t, i, h1, h2, h3, h4⟩
    by_cases e : id' = id
    · subst e
      rw [hs] at h1; injection h1 with h1; subst h1
      exact .inl ⟨i, h2, h3, h4⟩
    · exact .inr ⟨id', t, i, e, h1, h2, h3, h4⟩
  · rintro (⟨i, h2, h3, h4⟩ | ⟨id', t, i, -, h⟩)
    · exact ⟨id, s, i, hs, h2, h3, h4⟩
    · exact ⟨id', t, i, h⟩
/-- One span turned in place, and the objects with it. -/
theorem ArOk.turned {N : Nat} {a : Ar} (ok : ArOk N a) {id : Nat} {s s' : Sp} (hs : a.sp id = some s) (hf : s'.first = s.first) (hk : s'.k = s.k) {ob' : Nat → Option (List Int)} {live' : Nat}
    (hob : ∀ x, (ob' x).isSome = true ↔ (∃ i, i < slK s.k ∧ s'.F i = true ∧ x = s.addr i) ∨ ∃ id' t i, id' ≠ id ∧ a.sp id' = some t ∧ i < slK t.k ∧ t.F i = true ∧ x = t.addr i)
    (hlen : ∀ x xs, ob' x = some xs → 1 ≤ xs.length ∧ xs.length ≤ 256) : ArOk N { a with sp := updF a.sp id (some s'), ob := ob', live := live' } := by
  have get : ∀ {i t}, updF a.sp id (some s') i = some t → (i = id ∧ t = s') ∨ (i ≠ id ∧ a.sp i = some t) := fun {i t} ht => by
    by_cases e : i = id
    · left; subst e
      rw [updF_same] at ht
      injection ht with ht
      exact ⟨rfl, ht.symm⟩
    · right; rw [updF_other _ _ e] at ht; exact ⟨e, ht⟩
  have ha : ∀ i, s'.addr i = s.addr i := fun i => by unfold Sp.addr; rw [hf, hk]
  refine ⟨ok.ok, ok.n, fun i t ht => ?_, fun i t p ht => ?_, fun i t ht => ?_, fun x => ?_, hlen⟩
  · rcases get ht with ⟨rfl, rfl⟩ | ⟨_, h⟩
    · exact ok.top _ s hs
    · exact ok.top _ _ h
  · rcases get ht with ⟨rfl, rfl⟩ | ⟨_, h⟩
    · rw [hf, hk]; exact ok.ow _ s p hs
    · exact ok.ow _ _ p h
  · rcases get ht with ⟨rfl, rfl⟩ | ⟨_, h⟩
    · rw [hf, hk]; exact ok.pg _ s hs
    · exact ok.pg _ _ h
  · show (ob' x).isSome = true ↔ _
    rw [hob]
    constructor
    · rintro (⟨i, h1, h2, h3⟩ | ⟨id', t, i, h0, h1, h2⟩)
      · exact ⟨id, s', i, updF_same _ _ _, by rw [hk]; exact h1, h2, by rw [ha]; exact h3⟩
      · exact ⟨id', t, i, by rw [← h1]; exact updF_other _ _ h0, h2⟩
    · rintro ⟨id', t, i, h1, h2, h3, h4⟩
      rcases get h1 with ⟨rfl, rfl⟩ | ⟨e, h⟩
      · exact .inl ⟨i, by rw [← hk]; exact h2, h3, by rw [← ha]; exact h4⟩
      · exact .inr ⟨id', t, i, e, h, h2, h3, h4⟩
theorem ArI.turned {N : Nat} {a : Ar} (I : ArI N a) {id : Nat} {s s' : Sp} (hs : a.sp id = some s) {ob' : Nat → Option (List Int)} {live' : Nat} (ok : ArOk N { a with sp := updF a.sp id (some s'), ob := ob', live := live' })
    (hmf : ∀ i, s'.M i = true → s'.F i = true) (hfz : ∀ i, slK s'.k ≤ i → s'.F i = false) (hl : live' + spW (some s) = a.live + spW (some s')) : ArI N { a with sp := updF a.sp id (some s'), ob := ob', live := live' } := by
  refine ⟨ok, fun i t j ht => ?_, fun i t j ht => ?_, ?_⟩
  · by_cases e : i = id
    · subst e
      have h2 : some s' = some t := by rw [← ht]; exact (updF_same _ _ _).symm
      injection h2 with h2
      rw [← h2]; exact hmf j
    · exact I.mf i t j (by rw [← ht]; exact (updF_other _ _ e).symm)
  · by_cases e : i = id
    · subst e
      have h2 : some s' = some t := by rw [← ht]; exact (updF_same _ _ _).symm
      injection h2 with h2
      rw [← h2]; exact hfz j
    · exact I.fz i t j (by rw [← ht]; exact (updF_other _ _ e).symm)
  · show live' = livN (updF a.sp id (some s')) N
    have h1 := livN_upd (f := a.sp) (v := some s') (I.ok.top id s hs)
    have h2 := I.lv
    rw [hs] at h1
    omega
theorem newA_I (N n : Nat) (h1 : 1 ≤ n) (h2 : n ≤ 262144) : ArI N (newA n) := by
  refine ⟨newA_ok N n h1 h2, fun _ _ _ h => by simp [newA] at h, fun _ _ _ h => by simp [newA] at h, ?_⟩
  have : livN (newA n).sp N = livN (newA n).sp 0 := livN_more (fun j _ => rfl) (Nat.zero_le _)
  rw [this]; rfl
/-! Alloc -/
theorem ArI.alloc {N : Nat} {a : Ar} (I : ArI N a) {id y n : Nat} {s : Sp} {black : Bool} (hs : a.sp id = some s) (hy : y < slK s.k) (hF : s.F y = false) (h1 : 1 ≤ n) (hn : n ≤ szK s.k) : ArI N (allocA a id s y n black) := by
  have hk := (I.ok.pg id s hs).1
  have h256 := (kF hk).2.2.2.1
  refine I.turned (s' := allocS s y black) hs (I.ok.turned (s' := allocS s y black) hs rfl rfl (fun x => ?_) (fun x xs hx => ?_)) (fun i hm => ?_) (fun i hi => ?_) ?_
  · have h2 := I.ok.obs hs x
    unfold updF
    by_cases e : x = s.addr y
    · rw [if_pos e]
      exact ⟨fun _ => .inl ⟨y, hy, by simp [allocS, setF], e⟩, fun _ => rfl⟩
    · rw [if_neg e, h2]
      constructor
      · rintro (⟨i, h3, h4, h5⟩ | h)
        · exact .inl ⟨i, h3, by show setF s.F y i = true; unfold setF; split <;> simp [h4], h5⟩
        · exact .inr h
      · rintro (⟨i, h3, h4, h5⟩ | h)
        · refine .inl ⟨i, h3, ?_, h5⟩
          have h6 : setF s.F y i = true := h4
          unfold setF at h6
          by_cases e2 : i = y
          · rw [e2] at h5; exact absurd h5 e
          · rwa [if_neg e2] at h6
        · exact .inr h
  · by_cases e : x = s.addr y
    · subst e
      rw [updF_same] at hx
      injection hx with hx
      rw [← hx, List.length_replicate]; omega
    · rw [updF_other _ _ e] at hx; exact I.ok.len x xs hx
  · have hm2 : (if black then setF s.M y else s.M) i = true := hm
    show setF s.F y i = true
    unfold setF
    by_cases e : i = y
    · rw [if_pos e]
    · rw [if_neg e]
      refine I.mf id s i hs ?_
      cases black
      · exact hm2
      · have h6 : setF s.M y i = true := hm2
        unfold setF at h6
        rwa [if_neg e] at h6
  · show setF s.F y i = false
    have hi2 : slK s.k ≤ i := hi
    unfold setF
    rw [if_neg (by omega)]
    exact I.fz id s i hs hi2
  · show a.live + szK s.k + cntF s.F (slK s.k) * szK s.k = a.live + cntF (setF s.F y) (slK s.k) * szK s.k
    have h3 := cntF_flip (F := s.F) hy
    rw [flip_set hF, hF] at h3
    simp only [Bool.false_eq_true, if_false] at h3
    rw [show cntF (setF s.F y) (slK s.k) = cntF s.F (slK s.k) + 1 by omega, Nat.add_mul]
    omega
/-! Store -/
/-! Mark -/
theorem ArI.mark {N : Nat} {a : Ar} (I : ArI N a) {id i : Nat} {s : Sp} (hs : a.sp id = some s) (hF : s.F i = true) : ArI N { a with sp := updF a.sp id (some (markS s i)) } := by
  refine I.turned (s' := markS s i) (ob' := a.ob) (live' := a.live) hs (I.ok.turned (s' := markS s i) hs rfl rfl (fun x => I.ok.obs hs x) I.ok.len) (fun j hm => ?_) (fun j hj => I.fz id s j hs hj) rfl
  have hm2 : setF s.M i j = true := hm
  show s.F j = true
  unfold setF at hm2
  by_cases e : j = i
  · rw [e]; exact hF
  · rw [if_neg e] at hm2; exact I.mf id s j hs hm2
/-! Sweep -/
theorem swept_mem {s : Sp} {i : Nat} : i ∈ sweptL s ↔ i < slK s.k ∧ s.F i = true ∧ s.M i = false := by
  unfold sweptL allN
  rw [List.mem_filter, List.mem_filter, List.mem_range]
  cases s.M i <;> simp
theorem addrT_all {s : Sp} {x : Nat} : x ∈ addrT s (sweptL s).length ↔ ∃ i, i < slK s.k ∧ s.F i = true ∧ s.M i = false ∧ x = s.addr i := by
  unfold addrT
  rw [List.take_length, List.mem_map]
  constructor
  · rintro ⟨i, h, e⟩
    obtain ⟨h1, h2, h3⟩ := swept_mem.1 h
    exact ⟨i, h1, h2, h3, e.symm⟩
  · rintro ⟨i, h1, h2, h3, e⟩
    exact ⟨i, swept_mem.2 ⟨h1, h2, h3⟩, e.symm⟩
theorem filt_len (p : Nat → Bool) : ∀ l : List Nat, (l.filter fun i => !(p i)).length + (l.filter p).length = l.length
  | [] => rfl
  | x :: l => by
    have ih := filt_len p l
    cases h : p x <;> simp [List.filter_cons, h] <;> omega
theorem swept_len {s : Sp} (hm : ∀ i, s.M i = true → s.F i = true) : (sweptL s).length + cntF s.M (slK s.k) = cntF s.F (slK s.k) := by
  rw [← allN_len s.F, ← allN_len s.M]
  have h1 := filt_len s.M (allN s.F (slK s.k))
  have h2 : (allN s.F (slK s.k)).filter s.M = allN s.M (slK s.k) := by
    unfold allN
    rw [List.filter_filter]
    refine List.filter_congr fun i _ => ?_
    cases h : s.M i
    · rfl
    · rw [hm i h]; rfl
  rw [h2] at h1
  unfold sweptL
  omega
theorem ArI.swept_le {N : Nat} {a : Ar} (I : ArI N a) {id : Nat} {s : Sp} (hs : a.sp id = some s) : (sweptL s).length * szK s.k ≤ a.live := by
  have h1 := livN_one (N := N) hs (I.ok.top id s hs)
  have h2 := swept_len (fun i => I.mf id s i hs)
  have h3 : (sweptL s).length * szK s.k ≤ cntF s.F (slK s.k) * szK s.k := Nat.mul_le_mul_right _ (by omega)
  have h4 := I.lv
  have h5 : spW (some s) = cntF s.F (slK s.k) * szK s.k := rfl
  omega
theorem ArI.sweep {N : Nat} {a : Ar} (I : ArI N a) {id : Nat} {s : Sp} (hs : a.sp id = some s) : ArI N (sweepA a id s (sweptL s).length) := by
  have hk := (I.ok.pg id s hs).1
  refine I.turned (s' := sweptS s) hs (I.ok.turned (s' := sweptS s) hs rfl rfl (fun x => ?_) (fun x xs hx => ?_)) (fun i hm => by cases hm) (fun i hi => ?_) ?_
  · have h2 := I.ok.obs hs x
    have h3 := addrT_all (s := s) (x := x)
    unfold obT
    by_cases e : x ∈ addrT s (sweptL s).length
    · rw [if_pos e]
      obtain ⟨i, g1, g2, g3, g4⟩ := h3.1 e
      constructor
      · intro h; cases h
      · rintro (⟨j, k1, k2, k3⟩ | ⟨id', t, j, k0, k1, k2, k3, k4⟩)
        · have k5 : s.M j = true := k2
          rw [g4] at k3
          rw [← Sp.addr_inj hk k3, g3] at k5; cases k5
        · rw [g4] at k4
          exact absurd (I.ok.other hs k1 g1 k2 k4).symm k0
    · rw [if_neg e, h2]
      constructor
      · rintro (⟨j, k1, k2, k3⟩ | h)
        · refine .inl ⟨j, k1, ?_, k3⟩
          show s.M j = true
          cases hM : s.M j
          · exact absurd (h3.2 ⟨j, k1, k2, hM, k3⟩) e
          · rfl
        · exact .inr h
      · rintro (⟨j, k1, k2, k3⟩ | h)
        · exact .inl ⟨j, k1, I.mf id s j hs k2, k3⟩
        · exact .inr h
  · unfold obT at hx
    by_cases e : x ∈ addrT s (sweptL s).length
    · rw [if_pos e] at hx; cases hx
    · rw [if_neg e] at hx; exact I.ok.len x xs hx
  · show s.M i = false
    have hi2 : slK s.k ≤ i := hi
    cases hM : s.M i
    · rfl
    · have h1 := I.mf id s i hs hM
      rw [I.fz id s i hs hi2] at h1; cases h1
  · show a.live - (sweptL s).length * szK s.k + cntF s.F (slK s.k) * szK s.k = a.live + cntF s.M (slK s.k) * szK s.k
    have h1 := I.swept_le hs
    have h2 := swept_len (fun i => I.mf id s i hs)
    rw [← h2, Nat.add_mul]
    omega
/-! Span -/
theorem ArI.more {N N' : Nat} {a : Ar} (I : ArI N a) (h : N ≤ N') : ArI N' a := by
  have ok := I.ok
  refine ⟨⟨ok.ok, ok.n, fun i s hs => Nat.lt_of_lt_of_le (ok.top i s hs) h, ok.ow, ok.pg, ok.ob, ok.len⟩, I.mf, I.fz, ?_⟩
  rw [livN_more (fun j hj => ?_) h]
  · exact I.lv
  · cases e : a.sp j with
    | none => rfl
    | some s => have := ok.top j s e; omega
theorem says_fits {k : Nat} {l l' : List R} {f : Nat} (hk : 1 ≤ k) (hs : AllocSays l (k : Nat) (f : Nat) 0 l') : ∃ r, Best l k r ∧ r.f = f ∧ l' = cutR l r k := by
  rcases hs with ⟨h, _⟩ | ⟨_, _, _, h, _⟩ | ⟨_, r, hb, h1, _, h2⟩
  · omega
  · cases h
  · exact ⟨r, by rw [Int.toNat_natCast] at hb; exact hb, by omega, by rw [Int.toNat_natCast] at h2; exact h2⟩
theorem ArI.span {N : Nat} {a : Ar} (I : ArI N a) {id q f : Nat} {l' : List R} (hq : q < 16) (hid : a.sp id = none) (hN : id < N) (hs : AllocSays a.l (pgK q : Nat) (f : Nat) 0 l') : ArI N (spanA a l' id q f) := by
  have ok := I.ok
  have hpg := (kF hq).2.2.2.2.1
  obtain ⟨r, ⟨hr, hkr, -⟩, hf, hl⟩ := says_fits hpg hs
  have bd := ok.ok.1.bd r hr
  have hn := ok.ok.2
  have hfr := fun x => cutR_fr ok.ok hr hkr x
  have get : ∀ {i t}, updF a.sp id (some ⟨f, q, fun _ => false, fun _ => false, 0⟩) i = some t → (i = id ∧ t = ⟨f, q, fun _ => false, fun _ => false, 0⟩) ∨ (i ≠ id ∧ a.sp i = some t) := fun {i t} ht => by
    by_cases e : i = id
    · left; subst e
      rw [updF_same] at ht
      injection ht with ht
      exact ⟨rfl, ht.symm⟩
    · right; rw [updF_other _ _ e] at ht; exact ⟨e, ht⟩
  have hin : ∀ p, f ≤ p → p < f + pgK q → Fr a.l p := fun p h1 h2 => ⟨r, hr, by omega, by omega⟩
  refine ⟨⟨by show Okn a.n l'; rw [hl]; exact cutR_ok ok.ok hr hkr, ok.n, fun i t ht => ?_, fun i t p ht h1 h2 => ?_, fun i t ht => ?_, fun x => ?_, ok.len⟩, fun i t j ht hm => ?_, fun i t j ht hj => ?_, ?_⟩
  · rcases get ht with ⟨rfl, -⟩ | ⟨_, h⟩
    · exact hN
    · exact ok.top _ _ h
  · show (if f ≤ p ∧ p < f + pgK q then some id else a.ow p) = some i
    rcases get ht with ⟨rfl, rfl⟩ | ⟨_, h⟩
    · rw [if_pos ⟨h1, h2⟩]
    · rw [if_neg (fun hp => (ok.pg i t h).2.2.2 p h1 h2 (hin p hp.1 hp.2))]
      exact ok.ow i t p h h1 h2
  · rcases get ht with ⟨rfl, rfl⟩ | ⟨_, h⟩
    · refine ⟨hq, by show 1 ≤ f; omega, by show f + pgK q ≤ a.n; omega, fun p h1 h2 => ?_⟩
      show ¬ Fr l' p
      rw [hl, hfr]
      rintro ⟨_, h3⟩
      exact h3 ⟨by rw [hf]; exact h1, by rw [hf]; exact h2⟩
    · obtain ⟨h1, h2, h3, h4⟩ := ok.pg i t h
      refine ⟨h1, h2, h3, fun p g1 g2 => ?_⟩
      show ¬ Fr l' p
      rw [hl, hfr]
      exact fun g => h4 p g1 g2 g.1
  · show (a.ob x).isSome = true ↔ _
    rw [ok.ob]
    constructor
    · rintro ⟨id', t, i, h1, h2⟩
      exact ⟨id', t, i, by rw [← h1]; exact updF_other _ _ (fun e => by rw [e, hid] at h1; cases h1), h2⟩
    · rintro ⟨id', t, i, h1, h2, h3, h4⟩
      rcases get h1 with ⟨rfl, rfl⟩ | ⟨_, h⟩
      · cases h3
      · exact ⟨id', t, i, h, h2, h3, h4⟩
  · rcases get ht with ⟨rfl, rfl⟩ | ⟨_, h⟩
    · cases hm
    · exact I.mf i t j h hm
  · rcases get ht with ⟨rfl, rfl⟩ | ⟨_, h⟩
    · rfl
    · exact I.fz i t j h hj
  · show a.live = livN (updF a.sp id (some ⟨f, q, fun _ => false, fun _ => false, 0⟩)) N
    have h1 := livN_upd (f := a.sp) (v := some ⟨f, q, fun _ => false, fun _ => false, 0⟩) hN
    rw [hid] at h1
    have h2 : spW (some ⟨f, q, fun _ => false, fun _ => false, 0⟩) = 0 := by
      show cntF (fun _ => false) (slK q) * szK q = 0
      have : cntF (fun _ => false) (slK q) = 0 := by
        generalize slK q = m
        induction m with
        | zero => rfl
        | succ m ih => rw [cntF, ih]; rfl
      rw [this, Nat.zero_mul]
    have h3 : spW none = 0 := rfl
    have h4 := I.lv
    omega
end Go.Proofs.YtcnchgbngcnijaaGreatDoor
namespace Go.Proofs.YtcnchgbngcnijaaGreatDoor
open Go.RowKit

theorem turnH_self (h : ArH) (id : Nat) : turnH h id (h.B id) = h := by
  have : (fun j => if j = id then h.B id else h.B j) = h.B := by
    funext j
    by_cases e : j = id
    · rw [if_pos e, e]
    · rw [if_neg e]
  unfold turnH
  rw [this]
theorem ArM.nn {w : World} {h : ArH} {a : Ar} (M : ArM w h a) (N : Nat) : ArM w { h with N := N } a := ⟨M.b, M.P, M.s, M.o, M.j, M.S, M.O, M.d1, M.d2, M.m1, M.m2, M.m3⟩
theorem livN_le {f : Nat → Option Sp} (h : ∀ i s, f i = some s → s.k < 16) : ∀ n, livN f n ≤ n * 16384
  | 0 => Nat.le_refl _
  | n + 1 => by
    have ih := livN_le h n
    rw [livN]
    have : spW (f n) ≤ 16384 := by
      cases e : f n with
      | none => exact Nat.zero_le _
      | some s =>
        have hk := h n s e
        have h1 := cntF_le s.F (slK s.k)
        have h2 := (kF hk).2.2.2.2.2.2.2.2
        have h3 := (kF hk).2.2.2.1
        show cntF s.F (slK s.k) * szK s.k ≤ 64 * 256
        exact Nat.mul_le_mul (by omega) h3
    omega
theorem ArI.small {N : Nat} {a : Ar} (I : ArI N a) (hN : N ≤ 6000) : a.live ≤ 100000000 := by
  have := livN_le (fun i s h => (I.ok.pg i s h).1) N
  have := I.lv
  omega
/-- The state: where all lies, far from what was there ahead. -/
structure ArS (w0 w : World) (g : Nat) (h : ArH) (a : Ar) (N b : Nat) : Prop where
  M : ArM w h a
  I : ArI N a
  far : ∀ k, ArF h a k → w0.heap.size ≤ k
  c : Chg [] w0 w
  ga : h.ga = g
  m : h.m ≤ b
section
variable {w0 w w' : World} {g N b : Nat} {h h' : ArH} {a a' : Ar}
theorem ArS.chg0 (S : ArS w0 w g h a N b) (c : Chg [] w w') : ArS w0 w' g h a N b := ⟨S.M.chg0 c, S.I, S.far, S.c.trans c, S.ga, S.m⟩
theorem ArS.step (S : ArS w0 w g h a N b) {N' b' : Nat} (M : ArM w' h' a') (st : StA h a h' a' w w') (I : ArI N' a') (ga : h'.ga = h.ga) (m : h'.m ≤ b') : ArS w0 w' g h' a' N' b' :=
  ⟨M, I, fun k hk => by
    rcases st.fr k hk with h1 | h1
    · exact S.far k h1
    · exact Nat.le_trans S.c.size h1, ⟨st.os.trans S.c.os, st.tape.trans S.c.tape, st.output.trans S.c.output, Nat.le_trans S.c.size st.size, fun k hk _ => (st.block k (Nat.lt_of_lt_of_le hk S.c.size) (fun hm => by have := S.far k hm; omega)).trans (S.c.block k hk (by simp))⟩, ga.trans S.ga, m⟩
/-- What the call owns of its own beside the arena stays. -/
theorem StA.chg (st : StA h a h' a' w w') : ∃ S : List Nat, Chg S w w' ∧ ∀ k ∈ S, ArF h a k := by
  classical
  refine ⟨(List.range w.heap.size).filter (fun k => decide (ArF h a k)), ⟨st.os, st.tape, st.output, st.size, fun k hk hn => st.block k hk (fun hf => hn ?_)⟩, fun k hk => ?_⟩
  · rw [List.mem_filter, List.mem_range]
    exact ⟨hk, decide_eq_true hf⟩
  · rw [List.mem_filter] at hk
    exact of_decide_eq_true hk.2
end
def SpPost (w0 w : World) (g : Nat) (h : ArH) (a : Ar) (N b : Nat) (q : Nat) (e : Ending) (w' : World) : Prop :=
  ∃ x c l', AllocSays a.l (pgK q : Nat) x c l' ∧
    ((c ≠ 0 ∧ e = .returned (.tuple #[.int .i64 0, .int .i64 c]) ∧ ∃ h', ArS w0 w' g h' a N b ∧ StA h a h' a w w') ∨
     (c = 0 ∧ ∃ (f id : Nat) (h' : ArH), x = f ∧ a.sp id = none ∧ (∀ j, j < id → a.sp j ≠ none) ∧ id ≤ N ∧ e = .returned (.tuple #[.int .i64 (id : Nat), .int .i64 0]) ∧ ArS w0 w' g h' (spanA a l' id q f) (N + 1) (b + 6) ∧ StA h a h' (spanA a l' id q f) w w'))
def AlPost' (w0 w : World) (g : Nat) (h : ArH) (a : Ar) (N b : Nat) (id n : Int) (black : Bool) (e : Ending) (w' : World) : Prop :=
  (∃ c : Int, e = .returned (.tuple #[.int .i64 0, .int .i64 c]) ∧ ArS w0 w' g h a N b ∧ Chg [] w w' ∧ ((spI a id = none ∧ c = 4) ∨ ∃ s, spI a id = some s ∧ (((n < 1 ∨ (szK s.k : Int) < n) ∧ c = 1) ∨ (1 ≤ n ∧ n ≤ szK s.k ∧ (∀ x, s.fr ≤ x → x < slK s.k → s.F x = true) ∧ c = 3)))) ∨
  ∃ s y h', 0 ≤ id ∧ a.sp id.toNat = some s ∧ 1 ≤ n ∧ n ≤ szK s.k ∧ s.fr ≤ y ∧ y < slK s.k ∧ s.F y = false ∧ (∀ x, s.fr ≤ x → x < y → s.F x = true) ∧ e = .returned (.tuple #[.int .i64 (s.addr y : Nat), .int .i64 0]) ∧ ArS w0 w' g h' (allocA a id.toNat s y n.toNat black) N (b + 1) ∧ StA h a h' (allocA a id.toNat s y n.toNat black) w w'
section
variable {w0 w : World} {g N b : Nat} {h : ArH} {a : Ar} (S : ArS w0 w g h a N b)
include S
theorem s_span (hb : b ≤ 1000000) (hN : N ≤ 1000000) (q : Nat) (hq : q < 16) : Calls Tryz.prog 45 #[.pointer (some ⟨g, 0, none⟩), .int .i64 (q : Nat)] w (SpPost w0 w g h a N b q) := by
  have hm := S.m
  have ok := S.I.ok
  have h1 := aspan_ok w h a S.M ok.ok ok.n (by omega) N hN (fun id hid => by
    cases e : a.sp id with
    | none => rfl
    | some s => have := ok.top id s e; omega) q
  rw [S.ga] at h1
  refine h1.mono ?_
  rintro e w' (⟨hk, -, -⟩ | ⟨q', hqq, hq', x, c, l', hs, ⟨hc, he, h', M, st, hm', -, hga⟩ | ⟨hc, f, id, h', hx, hn, hall, he, M, st, hm', -, hga⟩⟩)
  · exact absurd ⟨by omega, by omega⟩ hk
  · obtain rfl : q = q' := by omega
    have el : l' = a.l := by
      rcases hs with ⟨_, _, _, h2⟩ | ⟨_, _, _, _, h2⟩ | ⟨_, _, _, _, h2, _⟩
      · exact h2
      · exact h2
      · exact absurd h2 hc
    have ea : ({ a with l := l' } : Ar) = a := by rw [el]
    rw [ea] at M st
    exact ⟨x, c, l', hs, .inl ⟨hc, he, h', S.step M st S.I hga (by omega), st⟩⟩
  · obtain rfl : q = q' := by omega
    subst hx hc
    have hid : id ≤ N := by
      rcases Nat.lt_or_ge N id with h2 | h2
      · have h3 := hall N h2
        cases e : a.sp N with
        | none => exact absurd e h3
        | some s => have := ok.top N s e; omega
      · exact h2
    exact ⟨f, 0, l', hs, .inr ⟨rfl, f, id, h', rfl, hn, hall, hid, he, S.step M st ((S.I.more (Nat.le_succ N)).span hq hn (by omega) hs) hga (by omega), st⟩⟩
theorem s_alloc (T0 : Tab w0) (hb : b ≤ 1000000) (hN : N ≤ 6000) (id n : Int) (hid : Wf64 id) (black : Bool) : Calls Tryz.prog 46 #[.pointer (some ⟨g, 0, none⟩), .int .i64 id, .int .i64 n, .bool black] w (AlPost' w0 w g h a N b id n black) := by
  have hm := S.m
  have h1 := aalloc_ok w h a S.M (T0.chg S.c (by simp)) (by omega) (S.I.small hN) id n hid black
  rw [S.ga] at h1
  refine h1.mono ?_
  rintro e w' (⟨c, he, c1, hc⟩ | ⟨s, y, h', h0, hs, hn1, hn2, hy1, hy2, hF, hall, he, -, hga, hm', M, st⟩)
  · exact .inl ⟨c, he, S.chg0 c1, c1, hc⟩
  · exact .inr ⟨s, y, h', h0, hs, hn1, hn2, hy1, hy2, hF, hall, he, S.step M st (S.I.alloc hs hy2 hF (by omega) (by omega)) hga (by omega), st⟩
theorem s_live : Calls Tryz.prog 18 #[.pointer (some ⟨g, 0, none⟩)] w (QuPost (.int .i64 (a.live : Nat)) w) := by
  have h1 := alive_ok w h a S.M
  rwa [S.ga] at h1
theorem s_left (hl : a.l.length ≤ 1000000) (hs : sumR a.l ≤ 1000000) : Calls Tryz.prog 20 #[.pointer (some ⟨g, 0, none⟩)] w (NwPost (.int .i64 (sumR a.l : Nat)) w) := by
  have h1 := aleft_ok w h a S.M hl hs
  rwa [S.ga] at h1
theorem s_sweep (T0 : Tab w0) (hN : N ≤ 6000) {id : Nat} {s : Sp} (hs : a.sp id = some s) : Calls Tryz.prog 56 #[.pointer (some ⟨g, 0, none⟩), .int .i64 (id : Nat)] w fun e w' => ∃ v h', e = .returned (.tuple #[v, .int .i64 0]) ∧ OwnI 3 w' v (intsN ((sweptL s).map s.addr)) ∧ (∀ k ∈ fpv v, w.heap.size ≤ k) ∧ (∀ k ∈ fpv v, ¬ ArF h' (sweepA a id s (sweptL s).length) k) ∧ ArS w0 w' g h' (sweepA a id s (sweptL s).length) N b ∧ StA h a h' (sweepA a id s (sweptL s).length) w w' := by
  have hlt := S.I.ok.top id s hs
  have e0 : spI a (id : Nat) = some s := by unfold spI; rw [if_pos (by omega), Int.toNat_natCast]; exact hs
  have h1 := asweep_ok w h a S.M (T0.chg S.c (by simp)) (id : Nat) (by unfold Wf64; omega) (S.I.small hN) (fun t ht => by
    rw [e0] at ht; injection ht with ht; subst ht
    exact S.I.swept_le hs)
  rw [S.ga] at h1
  refine h1.mono ?_
  rintro e w' (⟨ho, -⟩ | ⟨t, v, -, ht, he, O, f, nf, M, st⟩)
  · rw [e0] at ho; cases ho
  · rw [Int.toNat_natCast] at ht nf M st
    rw [hs] at ht; injection ht with ht; subst ht
    exact ⟨v, _, he, O, f, nf, S.step M st (S.I.sweep hs) rfl S.m, st⟩
end
end Go.Proofs.YtcnchgbngcnijaaGreatDoor
namespace Go.Proofs.YtcnchgbngcnijaaGreatDoor
open Go.RowKit

section
variable {w0 w : World} {g N b : Nat} {h : ArH} {a : Ar} (S : ArS w0 w g h a N b)
include S
set_option maxHeartbeats 1600000 in
set_option maxRecDepth 100000 in
theorem s_drop_no {id : Nat} {s : Sp} (hs : a.sp id = some s) (hN : N ≤ 1000000) (hl : 0 < cntF s.F (slK s.k)) : Calls Tryz.prog 51 #[.pointer (some ⟨g, 0, none⟩), .int .i64 (id : Nat)] w (NwPost (.int .i64 5) w) := by
  obtain rfl : h.ga = g := S.ga
  have hlt := S.I.ok.top id s hs
  have b1 : w.cell? ⟨h.ga, 1, none⟩ = some (.map (some h.bs)) := S.M.b.cellv 1 rfl
  have hlo := S.M.s.look tyS (x := (id : Int)) (by unfold Wf64; omega)
  rw [natV_nat] at hlo
  have e9 : (spV h a id).getD (.pointer none) = .pointer (some ⟨(h.B id).g, 0, none⟩) := by unfold spV; rw [hs]; rfl
  rw [e9] at hlo
  have hl' : (Instr.lookup 76 (.map (some h.bs)) (.int .i64 (id : Nat)) false).run Tryz.prog w = .ok (.pointer (some ⟨(h.B id).g, 0, none⟩)) w := hlo
  have I := S.M.S id s hs
  have HI := Lib.hid I
  obtain ⟨n, hn⟩ : ∃ n, n = cntF s.F (slK s.k) := ⟨_, rfl⟩
  rw [← hn] at hl
  have hl2 : (0 : Int) < (n : Int) := by omega
  have HN := Lib.hid hn
  clear hlo e9 S hs I hn
  go_enter Tryz.func51, Tryz.ntmps51
  go_wp2_with fail
  refine (slive_ok w (h.B id) s HI.out).mono ?_
  rintro e w1 ⟨rfl, rfl⟩
  rw [← HN.out]
  go_wp2_with fail
  go_ret
  exact ⟨rfl, Chg.refl _ _⟩
end
end Go.Proofs.YtcnchgbngcnijaaGreatDoor
