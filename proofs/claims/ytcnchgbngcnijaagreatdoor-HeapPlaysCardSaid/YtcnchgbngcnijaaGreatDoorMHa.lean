/- Package cache: what Alloc does where a new span is to be had, or the P's own has room. Plain. -/
/- told of layer 9: plain parts. -/
/- told of layer 9. -/
import Derived.Test.YtcnchgbngcnijaaGreatDoorHpN
import Derived.Test.YtcnchgbngcnijaaGreatDoorMSer
namespace Go.Proofs.YtcnchgbngcnijaaGreatDoor
open Go.RowKit Go.Maps

section
variable {k : Nat} {A B : HpA} {g : List Int}
theorem SkF.none_ (h : SkF k A g B) (h3 : A.r (k * 4 + 3) = []) : g = [] ∧ B = A := by
  induction h with
  | nil => exact ⟨rfl, rfl⟩
  | snoc h h1 h2 h4 ih =>
    obtain ⟨-, e⟩ := ih
    rw [e, h3] at h1
    exact absurd h1.symm (by simp)
/-- No span of the class stands in a row: a new one. -/
theorem SeekR.new {id : Nat} {ok : Bool} (h : SeekR k A id g ok B) (h0 : A.r (k * 4) = []) (h2 : A.r (k * 4 + 2) = []) (h3 : A.r (k * 4 + 3) = []) {f p N : Nat} (hl : A.a.l = [⟨f, p⟩]) (hk : k < 16) (hp : pgK k < p) (hN : ∀ j, j < N → A.a.sp j ≠ none) (hn : A.a.sp N = none) :
    ok = true ∧ id = N ∧ g = [] ∧ B = { A with a := spanA A.a [⟨f + pgK k, p - pgK k⟩] N k f } := by
  have key : ∀ {C : HpA} {x c : Int} {l' : List R}, C = A → AllocSays C.a.l (pgK k : Nat) x c l' → x = (f : Nat) ∧ c = 0 ∧ l' = [⟨f + pgK k, p - pgK k⟩] := fun {C x c l'} e hs => by
    rw [e, hl] at hs
    exact says_one (kF hk).2.2.2.2.1 hp hs
  have kid : ∀ {j : Nat}, A.a.sp j = none → (∀ i, i < j → A.a.sp i ≠ none) → j = N := fun {j} h4 h5 => by
    rcases Nat.lt_trichotomy j N with h6 | h6 | h6
    · exact absurd h4 (hN j h6)
    · exact h6
    · exact absurd hn (h5 N h6)
  cases h with
  | swept h => rw [h0] at h; exact absurd h.symm (by simp)
  | unswept h4 h5 => rw [h2] at h5; exact absurd h5.symm (by simp)
  | full h4 h5 h6 h7 =>
    obtain ⟨-, e⟩ := h6.none_ h3
    rw [e, h3] at h7; exact absurd h7.symm (by simp)
  | fresh h4 h5 h6 h7 h8 h9 h10 =>
    obtain ⟨e1, e⟩ := h6.none_ h3
    subst e
    obtain ⟨h11, -, h12⟩ := key rfl h8
    have h13 := kid h9 h10
    subst h13
    have h14 : _ = f := Int.ofNat.inj h11
    subst h14
    subst h12
    exact ⟨rfl, rfl, e1, rfl⟩
  | again h4 h5 h6 h7 h8 h9 =>
    obtain ⟨e1, e⟩ := h6.none_ h3
    exact absurd (key e h8).2.1 h9
  | no h4 h5 h6 h7 h8 h9 =>
    obtain ⟨e1, e⟩ := h6.none_ h3
    exact absurd (key e h8).2.1 h9
end
section
variable {p q n x : Nat} {black : Bool} {A A' : HpA} {g : List Int} {c : Int}
/-- The P's own span has room. -/
theorem AlcR.own (h : AlcR p q n black A x g c A') {id : Nat} {s : Sp} (ho : A.own p q = id) (hs : A.a.sp id = some s) (hf : ¬ fullS s) : ∃ y, PlcS s y ∧ x = s.addr y ∧ g = [] ∧ c = 0 ∧ A' = { A with a := allocA A.a id s y n black } := by
  have nopre : ∀ {B}, ¬ PreR p q A B := fun {B} hb => by
    rcases hb with ⟨h1, -⟩ | ⟨id', t, h1, ht, hft, -⟩
    · omega
    · have : id' = id := by omega
      subst this
      rw [hs] at ht; injection ht with ht; subst ht
      exact hf hft
  cases h with
  | has h1 h2 h3 h4 =>
    rename_i id' y t
    have : id' = id := by omega
    subst this
    rw [hs] at h2; injection h2 with h2; subst h2
    exact ⟨y, h4, rfl, rfl, rfl, rfl⟩
  | got h1 => exact absurd h1 nopre
  | no h1 => exact absurd h1 nopre
/-- It is full, or there is none: the span put away. -/
theorem AlcR.seek (h : AlcR p q n black A x g c A') (hf : ∀ (id : Nat) s, A.own p q = id → A.a.sp id = some s → fullS s) : ∃ A1, PreR p q A A1 ∧ ((∃ A2 id s y, SeekR q A1 id g true A2 ∧ A2.a.sp id = some s ∧ s.k = q ∧ PlcS s y ∧ x = s.addr y ∧ c = 0 ∧ A' = { A2 with a := allocA A2.a id s y n black, own := updV A2.own p (updV (A2.own p) q (id : Nat)) }) ∨ (x = 0 ∧ c = 3 ∧ SeekR q A1 0 g false A')) := by
  cases h with
  | has h1 h2 h3 h4 => exact absurd (hf _ _ h1 h2) h3
  | got h1 h2 h3 h4 h5 => exact ⟨_, h1, .inl ⟨_, _, _, _, h2, h3, h4, h5, rfl, rfl, rfl⟩⟩
  | no h1 h2 => exact ⟨_, h1, .inr ⟨rfl, rfl, h2⟩⟩
/-- Neither own nor in rows: a new span. -/
theorem AlcR.new (h : AlcR p q n black A x g c A') (hf : ∀ (id : Nat) s, A.own p q = id → A.a.sp id = some s → fullS s) (h0 : A.r (q * 4) = []) (h2 : A.r (q * 4 + 2) = []) (h3 : A.r (q * 4 + 3) = []) {f pp N : Nat} (hl : A.a.l = [⟨f, pp⟩]) (hq : q < 16) (hp : pgK q < pp) (hN : ∀ j, j < N → A.a.sp j ≠ none) (hn : A.a.sp N = none) :
    ∃ A1, PreR p q A A1 ∧ x = f * 64 ∧ g = [] ∧ c = 0 ∧ A' = { A1 with a := allocA (spanA A.a [⟨f + pgK q, pp - pgK q⟩] N q f) N (spn f q) 0 n black, own := updV A1.own p (updV (A1.own p) q (N : Nat)) } := by
  obtain ⟨A1, hpre, h1⟩ := h.seek hf
  have ha : A1.a = A.a := by
    rcases hpre with ⟨-, rfl⟩ | ⟨_, _, -, -, -, rfl⟩ <;> rfl
  have hr : ∀ j, j ≠ q * 4 + 1 → A1.r j = A.r j := fun j hj => by
    rcases hpre with ⟨-, rfl⟩ | ⟨_, _, -, -, -, rfl⟩
    · rfl
    · exact updV_other _ _ hj
  have key : ∀ {id : Nat} {ok : Bool} {B : HpA}, SeekR q A1 id g ok B → ok = true ∧ id = N ∧ g = [] ∧ B = { A1 with a := spanA A1.a [⟨f + pgK q, pp - pgK q⟩] N q f } := fun hs =>
    hs.new (by rw [hr _ (by omega)]; exact h0) (by rw [hr _ (by omega)]; exact h2) (by rw [hr _ (by omega)]; exact h3) (by rw [ha]; exact hl) hq hp (by rw [ha]; exact hN) (by rw [ha]; exact hn)
  rcases h1 with ⟨A2, id, s, y, hs, hsp, -, hy, rfl, rfl, rfl⟩ | ⟨-, -, hs⟩
  · obtain ⟨-, rfl, hg, rfl⟩ := key hs
    have e : s = spn f q := by
      have h5 : updF A1.a.sp id (some (spn f q)) id = some s := hsp
      rw [updF_same] at h5; injection h5 with h5; exact h5.symm
    subst e
    have hy0 : y = 0 := by
      rcases Nat.eq_zero_or_pos y with h6 | h6
      · exact h6
      · have := hy.2.2.2 0 (Nat.le_refl _) h6
        cases this
    subst hy0
    exact ⟨A1, hpre, spn_addr f q, hg, rfl, by rw [ha]⟩
  · have := (key hs).1
    cases this
end
end Go.Proofs.YtcnchgbngcnijaaGreatDoor
namespace Go.Proofs.YtcnchgbngcnijaaGreatDoor
open Go.RowKit Go.Maps

theorem of_one {q : Nat} (h : OfSays 1 q) : q = 0 := by
  rcases Nat.eq_zero_or_pos q with h1 | h1
  · exact h1
  · have := h.2.2 0 h1
    exact absurd this (by decide)
theorem PreR.none_ {p q : Nat} {A A1 : HpA} (h : PreR p q A A1) (ho : A.own p q = -1) : A1 = A := by
  rcases h with ⟨-, h⟩ | ⟨id, s, h, -⟩
  · exact h
  · omega
def tS1 : Sp := allocS (spn 1 0) 0 false
def tS2 : Sp := allocS tS1 1 false
def tA1 : HpA := { hp0 4 2 with a := allocA (spanA (hp0 4 2).a [⟨1 + pgK 0, 3 - pgK 0⟩] 0 0 1) 0 (spn 1 0) 0 1 false, own := updV (hp0 4 2).own 0 (updV ((hp0 4 2).own 0) 0 ((0 : Nat) : Int)) }
def tA2 : HpA := { tA1 with a := allocA tA1.a 0 tS1 1 1 false }
def tA3 : HpA := { tA2 with a := allocA (spanA tA2.a [⟨2 + pgK 0, 2 - pgK 0⟩] 1 0 2) 1 (spn 2 0) 0 1 true, own := updV tA2.own 1 (updV (tA2.own 1) 0 ((1 : Nat) : Int)) }
theorem td_one {q x : Nat} {g : List Int} {c : Int} {A' : HpA} (hq : q = 0) (h : AlcR 0 q 1 false (hp0 4 2) x g c A') : x = 64 ∧ g = [] ∧ c = 0 ∧ A' = tA1 := by
  subst hq
  obtain ⟨A1, hp, rfl, rfl, rfl, rfl⟩ := h.new (f := 1) (pp := 3) (N := 0) (fun id s ho => by have ho' : (-1 : Int) = (id : Nat) := ho; omega) rfl rfl rfl rfl (by decide) (by decide) (fun j hj => by omega) rfl
  have := hp.none_ rfl
  subst this
  exact ⟨rfl, rfl, rfl, rfl⟩
theorem tS1_nf : ¬ fullS tS1 := fun h => absurd (h 1 (by decide) (by decide)) (by decide)
theorem tS2_nf : ¬ fullS tS2 := fun h => absurd (h 2 (by decide) (by decide)) (by decide)
theorem td_two {q x : Nat} {g : List Int} {c : Int} {A' : HpA} (hq : q = 0) (h : AlcR 0 q 1 false tA1 x g c A') : x = 65 ∧ g = [] ∧ c = 0 ∧ A' = tA2 := by
  subst hq
  obtain ⟨y, hy, rfl, rfl, rfl, rfl⟩ := h.own (id := 0) (s := tS1) rfl rfl tS1_nf
  have h1 : y = 1 := by
    rcases Nat.lt_trichotomy y 1 with h1 | h1 | h1
    · have e : y = 0 := by omega
      subst e
      exact absurd hy.2.2.1 (by decide)
    · exact h1
    · exact absurd (hy.2.2.2 1 (by decide) h1) (by decide)
  subst h1
  exact ⟨rfl, rfl, rfl, rfl⟩
theorem td_three {q x : Nat} {g : List Int} {c : Int} {A' : HpA} (hq : q = 0) (h : AlcR 1 q 1 true tA2 x g c A') : x = 128 ∧ g = [] ∧ c = 0 ∧ A' = tA3 := by
  subst hq
  obtain ⟨A1, hp, rfl, rfl, rfl, rfl⟩ := h.new (f := 2) (pp := 2) (N := 1) (fun id s ho => by have ho' : (-1 : Int) = (id : Nat) := ho; omega) rfl rfl rfl rfl (by decide) (by decide) (fun j hj => by
    have : j = 0 := by omega
    subst this
    rw [show tA2.a.sp 0 = some tS2 from rfl]
    simp) rfl
  have := hp.none_ rfl
  subst this
  exact ⟨rfl, rfl, rfl, rfl⟩
theorem FlR.only {a : Ar} {f : Nat → Int} {id : Nat} (h0 : f 0 = ((id : Nat) : Int)) : ∀ {n : Nat} {r r' : Nat → List Nat}, (∀ k, 1 ≤ k → k ≤ n → f k = -1) → FlR a f (n + 1) r r' → PutTo a r 0 id r'
  | 0, r, r', _, ⟨r1, h1, h2⟩ => by
    have e : r1 = r := h1
    subst e
    rcases h2 with ⟨h3, -⟩ | ⟨id', h3, h4⟩
    · have h3' : f 0 = -1 := h3
      omega
    · have h3' : f 0 = ((id' : Nat) : Int) := h3
      have : id' = id := by omega
      subst this; exact h4
  | n + 1, r, r', hk, ⟨r1, h1, h2⟩ => by
    have h5 := FlR.only h0 (fun k h3 h4 => hk k h3 (by omega)) h1
    rcases h2 with ⟨-, rfl⟩ | ⟨id', h3, -⟩
    · exact h5
    · have := hk (n + 1) (by omega) (Nat.le_refl _); omega
theorem PutTo.is {a : Ar} {r r' : Nat → List Nat} {k id : Nat} {s : Sp} (h : PutTo a r k id r') (hn : ∀ j, id ∉ r j) (hs : a.sp id = some s) : ∃ full : Bool, (full = true ↔ fullS s) ∧ r' = updV r (k * 4 + sd full) (r (k * 4 + sd full) ++ [id]) := by
  obtain ⟨r1, full, hd, hf, rfl⟩ := h
  have := hd.none_ hn
  subst this
  exact ⟨full, full_iff hs hf, rfl⟩
theorem PutTo.nf {a : Ar} {r r' : Nat → List Nat} {k id : Nat} {s : Sp} (h : PutTo a r k id r') (hn : ∀ j, id ∉ r j) (hs : a.sp id = some s) (hf : ¬ fullS s) : r' = updV r (k * 4) (r (k * 4) ++ [id]) := by
  obtain ⟨full, h1, rfl⟩ := h.is hn hs
  cases full with
  | false => rfl
  | true => exact absurd (h1.1 rfl) hf
theorem td_own0 (k : Nat) (hk : 1 ≤ k) : tA3.own 0 k = -1 := by
  show (if k = 0 then ((0 : Nat) : Int) else -1) = -1
  rw [if_neg (by omega)]
theorem td_own1 (k : Nat) (hk : 1 ≤ k) : tA3.own 1 k = -1 := by
  show (if k = 0 then ((1 : Nat) : Int) else -1) = -1
  rw [if_neg (by omega)]
theorem td_rows {r' : Nat → List Nat} (h : FaR tA3.a tA3.own 2 tA3.r r') : r' = updV (fun _ => []) 0 [0, 1] := by
  obtain ⟨r2, ⟨r1, h1, h2⟩, h3⟩ := h
  have e1 : r1 = fun _ => [] := h1
  subst e1
  have h4 := (FlR.only (f := tA3.own 0) (id := 0) rfl (n := 15) (fun k hk _ => td_own0 k hk) h2).nf (fun j hj => by have hj' : 0 ∈ ([] : List Nat) := hj; cases hj') (s := tS2) rfl tS2_nf
  subst h4
  have hnf : ¬ fullS (allocS (spn 2 0) 0 true) := fun h => absurd (h 1 (by decide) (by decide)) (by decide)
  have h5 := (FlR.only (f := tA3.own 1) (id := 1) rfl (n := 15) (fun k hk _ => td_own1 k hk) h3).nf (fun j hj => by
      unfold updV at hj
      split at hj
      · simp at hj
      · cases hj) (s := allocS (spn 2 0) 0 true) rfl hnf
  rw [h5]
  funext j
  unfold updV
  by_cases e : j = 0
  · subst e; rfl
  · rw [if_neg e, if_neg e, if_neg e]
theorem td_bg (j : Nat) : bgR (updV (fun _ => ([] : List Nat)) 0 [0, 1]) 32 j = if j = 2 then [0, 1] else [] := by
  have h := bgR_at (r := updV (fun _ => ([] : List Nat)) 0 [0, 1]) (fun j hj => by unfold updV; rw [if_neg (by omega)]) (fun j hj => by unfold updV; rw [if_neg (by omega)]) j
  rw [h]
  unfold updV
  by_cases e : j = 2
  · subst e; rfl
  · rw [if_neg e]
    split
    · rfl
    · rw [if_neg (by omega)]
theorem td_sw : sweptL tS2 = [0, 1] := by decide +kernel
theorem td_gone : intsN ((sweptL tS2).map tS2.addr) = [64, 65] := by rw [td_sw]; rfl
theorem unsN_one {r : Nat → List Nat} (h : ∀ k, 1 ≤ k → r (k * 4 + 2) = [] ∧ r (k * 4 + 3) = []) : ∀ n, unsN r (n + 1) = (r 2).length + (r 3).length
  | 0 => by simp [unsN]
  | n + 1 => by
    rw [unsN, unsN_one h n, (h (n + 1) (by omega)).1, (h (n + 1) (by omega)).2]; simp
theorem td_uns {a : Ar} {r' : Nat → List Nat} {s : Sp} (h : PutTo a (updV (fun j => if j = 2 then [0, 1] else []) 2 [1]) 0 0 r') (hs : a.sp 0 = some s) : unsN r' 16 = 1 := by
  obtain ⟨full, -, rfl⟩ := h.is (fun j hj => by
    unfold updV at hj
    split at hj
    · simp at hj
    · next e =>
      have hj' : 0 ∈ if j = 2 then [0, 1] else ([] : List Nat) := hj
      rw [if_neg e] at hj'; cases hj') hs
  have h1 := sd_le full
  rw [unsN_one (fun k hk => by
    rw [updV_other _ _ (by omega), updV_other _ _ (by omega), updV_other _ _ (by omega), updV_other _ _ (by omega)]
    exact ⟨if_neg (by omega), if_neg (by omega)⟩) 15]
  have h2 : ∀ L : List Nat, updV (updV (fun j => if j = 2 then [0, 1] else []) 2 [1]) (0 * 4 + sd full) L 2 = [1] := fun L => by
    rw [updV_other _ _ (by omega : 2 ≠ 0 * 4 + sd full)]; rfl
  have h3 : ∀ L : List Nat, updV (updV (fun j => if j = 2 then [0, 1] else []) 2 [1]) (0 * 4 + sd full) L 3 = [] := fun L => by
    rw [updV_other _ _ (by omega : 3 ≠ 0 * 4 + sd full)]; rfl
  rw [h2, h3]
  rfl
end Go.Proofs.YtcnchgbngcnijaaGreatDoor
namespace Go.Proofs.YtcnchgbngcnijaaGreatDoor
open Go.RowKit Go.Maps

set_option maxHeartbeats 1600000 in
set_option maxRecDepth 100000 in
theorem hnew_no (w : World) : Calls Tryz.prog 23 #[.int .i64 256, .int .i64 0] w (NwPost (.tuple #[.pointer none, .int .i64 1]) w) := by
  go_enter Tryz.func23, Tryz.ntmps23
  go_wp2_with fail
  refine (s_new w 4 256 (by decide) (by decide) (by decide)).mono ?_
  rintro e w1 ⟨ga, h, rfl, S⟩
  have HS := Lib.hid S.c; clear S
  go_wp2_with fail
  go_ret2
  exact ⟨rfl, HS.out⟩
set_option maxHeartbeats 3200000 in
set_option maxRecDepth 100000 in
theorem told9_ok (w : World) (T0 : Tab w) : Calls Tryz.prog 22 #[] w (NwPost (.bool true) w) := by
  have HT := Lib.hid T0; clear T0
  go_enter Tryz.func22, Tryz.ntmps22
  go_wp2_with fail
  refine (hnew_ok w 4 2 256 (by decide) (by decide) (by decide) (by decide) (by decide)).mono ?_
  rintro e w1 ⟨H, rfl, Q⟩
  have HQ := Lib.hid Q; clear Q
  go_wp2_with fail
  refine (hnew_no w1).mono ?_
  rintro e w2 ⟨rfl, c⟩
  have H2 := Lib.hid (HQ.out.chg0 c); clear c
  go_wp2_with fail
  refine (halloc_ok w w2 H (hp0 4 2) 0 0 H2.out (hp0_inv 4 2 (by decide)) HT.out (by decide) (by decide) 0 1 (by decide) (by decide) (by decide) false).mono ?_
  rintro e w3 ⟨q, x, gone, cc, vg, A3, N3, b3, H3, hof, hal, rfl, hN3, hb3, hE, Q3, -, -, -, I3⟩
  obtain ⟨rfl, rfl, rfl, rfl⟩ := td_one (of_one hof) hal
  have H3' := Lib.hid (And.intro Q3 I3); clear Q3 I3 hal hof
  have hg3 := hE.gh
  go_wp2_with fail
  have k := halloc_ok w w3 H3 tA1 N3 b3 H3'.out.1 H3'.out.2 HT.out (by omega) (by omega) 0 1 (by decide) (by decide) (by decide) false
  rw [hg3] at k
  refine k.mono ?_
  clear k
  rintro e w4 ⟨q, x, gone, cc, vg4, A4, N4, b4, H4, hof, hal, rfl, hN4, hb4, hE4, Q4, -, -, -, I4⟩
  obtain ⟨rfl, rfl, rfl, rfl⟩ := td_two (of_one hof) hal
  have H4' := Lib.hid (And.intro Q4 I4); clear Q4 I4 hal hof
  have hg4 := hE4.gh.trans hg3
  go_wp2_with fail
  have k := halloc_ok w w4 H4 tA2 N4 b4 H4'.out.1 H4'.out.2 HT.out (by omega) (by omega) 1 1 (by decide) (by decide) (by decide) true
  rw [hg4] at k
  refine k.mono ?_
  clear k
  rintro e w5 ⟨q, x, gone, cc, vg5, A5, N5, b5, H5, hof, hal, rfl, hN5, hb5, hE5, Q5, -, -, -, I5⟩
  obtain ⟨rfl, rfl, rfl, rfl⟩ := td_three (of_one hof) hal
  have H5' := Lib.hid (And.intro Q5 I5); clear Q5 I5 hal hof
  have hg5 := hE5.gh.trans hg4
  go_wp2_with fail
  have k := hbegin_ok w w5 H5 tA3 N5 b5 H5'.out.1 H5'.out.2 HT.out (by omega)
  rw [hg5] at k
  refine k.mono ?_
  clear k
  rintro e w6 (⟨hu, -⟩ | ⟨-, rfl, r1, hF, I6, H6, hE6, Q6, -⟩)
  · have : unsN tA3.r 16 = 0 := rfl
    omega
  have e1 := td_rows hF
  subst e1
  have e2 : bgR (updV (fun _ => ([] : List Nat)) 0 [0, 1]) 32 = fun j => if j = 2 then [0, 1] else [] := funext td_bg
  rw [e2] at I6 Q6
  have H6' := Lib.hid (And.intro Q6 I6); clear Q6 I6 hF e2
  have hg6 := hE6.gh.trans hg5
  go_wp2_with fail
  have k := hsweep_ok w w6 H6 { tA3 with r := fun j => if j = 2 then [0, 1] else [], own := faO tA3.own tA3.P } N5 b5 H6'.out.1 HT.out (H6'.out.2.B H6'.out.1.S.I.ok (by omega)) (by omega) (fun j _ x hx => by obtain ⟨-, s, hs, -⟩ := H6'.out.2.r j x hx; exact ⟨s, hs⟩)
  rw [hg6] at k
  refine k.mono ?_
  clear k
  rintro e w7 (⟨hno, -⟩ | ⟨k, f, x, xs, s, u, h7, v7, r7, hk, hf, hr, hs, hput, rfl, Q7, -, L7, -⟩)
  · have h1 := (hno 0 (by decide)).1
    cases h1
  have hj : k * 4 + 2 + f = 2 := by
    by_cases h1 : k * 4 + 2 + f = 2
    · exact h1
    · have hr' : (if k * 4 + 2 + f = 2 then [0, 1] else ([] : List Nat)) = x :: xs := hr
      rw [if_neg h1] at hr'; cases hr'
  have hk0 : k = 0 := by omega
  have hf0 : f = 0 := by omega
  subst hk0
  subst hf0
  have hr' : ([0, 1] : List Nat) = x :: xs := hr
  injection hr' with hx0 hxs
  subst hx0
  subst hxs
  have hs' : some tS2 = some s := hs
  injection hs' with hs'
  subst hs'
  have hun : unsN r7 16 = 1 := td_uns (s := sweptS tS2) hput rfl
  have I7 := H6'.out.2.swept (j := 2) (s := tS2) rfl hs (by decide) hput
  have hB7 := (I7.B Q7.S.I.ok (by omega)).l
  have hgone := td_gone
  rw [hgone] at L7
  obtain ⟨Au, nu, cu, rfl⟩ := L7.o.slice'
  have H7' := Lib.hid (And.intro Q7 (And.intro L7 (And.intro hun hB7))); clear I7 hB7 Q7 L7 hput hgone hs hr
  obtain ⟨W8, hW8⟩ : ∃ W8 : World, W8 = w7.alloc (.cells #[.int .i64 64, .int .i64 65] 3) := ⟨_, rfl⟩
  have c8 : Chg [] w7 W8 := by rw [hW8]; exact (Chg.refl _ _).alloc _
  have B8 : Blk W8 w7.heap.size 3 (([64, 65] : List Int).map (Value.int .i64)).toArray := by rw [hW8]; exact Blk.new _ _ _
  have H8 := Lib.hid (And.intro c8 (And.intro B8 hW8)); clear c8 B8 hW8
  go_wp2_with fail
  rw [← H8.out.2.2]
  refine (ints_ok W8 _ _ [64, 65] [64, 65] (H7'.out.2.1.o.chg0 H8.out.1).rd (RdI.blk (xs := [64, 65]) H8.out.2.1 (by simp))).mono ?_
  rintro e w9 hB
  obtain ⟨rfl, c9⟩ := hB.chg
  rw [decide_eq_true (Eq.refl ([64, 65] : List Int))]
  have H9 := Lib.hid ((H7'.out.1.chg0 H8.out.1).chg0 c9); clear hB c9
  go_wp2_with fail
  have k := hunswept_ok H9.out (fun j => Nat.le_trans (H7'.out.2.2.2 j) (by decide))
  rw [hg6] at k
  refine k.mono ?_
  clear k
  rintro e w10 ⟨rfl, c10⟩
  rw [H7'.out.2.2.1]
  have H10 := Lib.hid (H9.out.chg0 c10); clear c10
  go_wp2_with fail
  have k := harena_ok H10.out
  rw [hg6] at k
  refine k.mono ?_
  clear k
  rintro e w11 ⟨rfl, rfl⟩
  go_wp2_with fail
  go_ret
  exact ⟨rfl, H10.out.S.c⟩
end Go.Proofs.YtcnchgbngcnijaaGreatDoor
