/- The walks of package page: Free, the other arms; all joined. -/
import Derived.Test.YtkocikpoagfonaaDoorPgFree
namespace Go.Proofs.YtkocikpoagfonaaDoor
open Go.RowKit

set_option maxHeartbeats 3200000 in
set_option maxRecDepth 100000 in
theorem free_empty (w : World) (g n : Nat) (v : Value) (I : IsPg w g n v []) (first k : Nat) (hn : n ≤ 1000000) (hk : 1 ≤ k) (hf : 1 ≤ first) (hnk : first + k ≤ n) (a b : List R) (hLab : ([] : List R) = a ++ b) (hMa : 0 = a.length) (hpl : a.length = plc (a ++ b) first) :
    Calls Tryd.prog 41 #[.pointer (some ⟨g, 0, none⟩), .int .i64 first, .int .i64 k] w (PgPost g n v (.int .i64 0) (backR [] first k) w) := by
  have c0 := I.b.cellv 0 rfl
  obtain ⟨A, c, rfl⟩ := own_slice I.o
  have c1 := I.b.cellv 1 rfl
  have hl : ([] : List R).length ≤ 999999 := by simp
  have hb : ∀ s ∈ ([] : List R), s.f + s.p ≤ 1000000 := by simp
  have h1 : ¬ (k : Int) < 1 := by omega
  have h2 : ¬ (first : Int) < 1 := by omega
  have h3 : ¬ (n : Int) - 1 < (first : Int) := by omega
  have h4 : IntKind.i64.wrap ((n : Int) - 1) = (n : Int) - 1 := by rw [IntKind.wrap_i64]; omega
  have h5 : ¬ (n : Int) - (first : Int) < (k : Int) := by omega
  have h6 : IntKind.i64.wrap ((n : Int) - (first : Int)) = (n : Int) - (first : Int) := by rw [IntKind.wrap_i64]; omega
  have H := Lib.hid (And.intro I (And.intro trivial (And.intro trivial (And.intro hb (And.intro hLab (And.intro hMa hpl)))))); clear I hb hLab hMa hpl
  have hq1 : decide ((0 : Int) < 0) = false := by simp
  go_enter Tryd.func41, Tryd.ntmps41
  go_wp2_with fail
  go_loopg [7] 1 (fun gk v wr => FrRel w 0 gk v wr)
  case atStart => exact ⟨0, by omega, by omega, rfl, rfl⟩
  case round =>
    obtain ⟨i, hgk, hin, rfl, rfl⟩ := hrel
    obtain rfl : i = 0 := by omega
    clear hgk hin
    go_wp2_with fail
    go_quiet (fail)
    go_wp2_with fail
    refine (ins_call H.out.1 H.out.2.2.2.2.1 first k hl nq _ (by have := H.out.2.2.2.2.2.1; omega)).mono ?_
    rintro e w1 hp
    obtain ⟨A1, N, k1, rfl, B1, I2, S2⟩ := ins_store H.out.1 hp
    have b1 := B1.cellv 1 rfl
    have b2 := B1.frozen 1
    have HI := Lib.hid (And.intro I2 S2); clear B1 I2 S2 hp
    go_wp2_with fail
    refine (join_ok _ g n _ a b ⟨first, k⟩ HI.out.1 (front_len H.out.2.2.2.2.1 hl).1 (front_bd H.out.2.2.2.2.1 H.out.2.2.2.1 (by omega)).1 _ (by have := H.out.2.2.2.2.2.1; omega)).mono ?_
    rintro e w2 ⟨rfl, v2, I3, S3⟩
    rw [front_eq] at I3
    have HJ := Lib.hid (And.intro I3 S3); clear I3 S3
    go_wp2_with fail
    refine (join_neg _ g n _ _ HJ.out.1).mono ?_
    rintro e w3 ⟨rfl, v3, I4, S4⟩
    have HK := Lib.hid (And.intro I4 S4); clear I4 S4
    go_wp2_with fail
    go_ret
    refine ⟨rfl, v3, ?_, (HI.out.2.trans HJ.out.2).trans HK.out.2⟩
    have ha : a = [] := List.eq_nil_of_length_eq_zero H.out.2.2.2.2.2.1.symm
    rw [H.out.2.2.2.2.1, backR_split H.out.2.2.2.2.2.2, if_pos ha]
    have := HK.out.1
    rw [ha] at this
    exact this

/-- What Free finds where something is free already. -/
structure FrNo (L : List R) (M first k : Nat) : Prop where
  lt : ∀ i, i < M → ∃ s, L[i]? = some s ∧ s.f < first
  E : M = L.length ∨ ∃ c, L[M]? = some c ∧ first ≤ c.f
  S : (∃ m q, M = m + 1 ∧ L[m]? = some q ∧ first < q.f + q.p) ∨ ((M = 0 ∨ ∃ m q, M = m + 1 ∧ L[m]? = some q ∧ q.f + q.p ≤ first) ∧ ∃ c, L[M]? = some c ∧ first ≤ c.f ∧ c.f < first + k)

set_option maxHeartbeats 3200000 in
set_option maxRecDepth 100000 in
theorem free_state (w : World) (g n : Nat) (v : Value) (L : List R) (I : IsPg w g n v L) (M first k : Nat) (hl : L.length ≤ 999999) (hb : ∀ s ∈ L, s.f + s.p ≤ 1000000) (hn : n ≤ 1000000) (hk : 1 ≤ k) (hf : 1 ≤ first) (hnk : first + k ≤ n) (F : FrNo L M first k) (hL : 0 < L.length) :
    Calls Tryd.prog 41 #[.pointer (some ⟨g, 0, none⟩), .int .i64 first, .int .i64 k] w (PgPost g n v (.int .i64 5) L w) := by
  have c0 := I.b.cellv 0 rfl
  obtain ⟨g', cap, rest, rfl, hbb, hll, hc, hm, _⟩ := own_open I.o hL
  have c1 := I.b.cellv 1 rfl
  have h1 : ¬ (k : Int) < 1 := by omega
  have h2 : ¬ (first : Int) < 1 := by omega
  have h3 : ¬ (n : Int) - 1 < (first : Int) := by omega
  have h4 : IntKind.i64.wrap ((n : Int) - 1) = (n : Int) - 1 := by rw [IntKind.wrap_i64]; omega
  have h5 : ¬ (n : Int) - (first : Int) < (k : Int) := by omega
  have h6 : IntKind.i64.wrap ((n : Int) - (first : Int)) = (n : Int) - (first : Int) := by rw [IntKind.wrap_i64]; omega
  have H := Lib.hid (And.intro I (And.intro F (And.intro hbb hb))); clear I F hbb hll hc hb
  go_enter Tryd.func41, Tryd.ntmps41
  go_wp2_with fail
  go_loopg [7] (M + 1) (fun gk v wr => FrRel w M gk v wr)
  case atStart => exact ⟨0, by omega, by omega, rfl, rfl⟩
  case round =>
    obtain ⟨i, hgk, hin, rfl, rfl⟩ := hrel
    by_cases e : i < M
    · obtain ⟨s, hs, hsf⟩ := H.out.2.1.lt i e
      have hiL := (List.getElem?_eq_some_iff.1 hs).1
      have i0 := H.out.2.2.1.cellv (i * 2) (by simpa using (rc_at hs rest).1)
      have hi' : (i : Int) < (L.length : Int) := by omega
      have hi2 : (s.f : Int) < (first : Int) := by omega
      clear hs
      go_wp2_with fail
      go_roundg (M - i)
      case measure => omega
      case rel => exact ⟨i + 1, by omega, by omega, by go_num, rfl⟩
    · obtain rfl : i = M := by omega
      clear hgk hin e
      have HS := H.out.2.1.S
      have HE := H.out.2.1.E
      have hbd := H.out.2.2.2
      rcases HS with ⟨m, q, rfl, hq, hqe⟩ | ⟨rfl | ⟨m, q, rfl, hq, hqe⟩, c, hcc, hc1, hce⟩
      · have hmL := (List.getElem?_eq_some_iff.1 hq).1
        have hqb := hbd q (List.mem_of_getElem? hq)
        have i0 := H.out.2.2.1.cellv (m * 2) (by simpa using (rc_at hq rest).1)
        have i1 := H.out.2.2.1.cellv (m * 2 + 1) (by simpa using (rc_at hq rest).2)
        have hi' : (m : Int) < (L.length : Int) := by omega
        have hi3 : decide ((0 : Int) < (m : Int) + 1) = true := decide_eq_true (by omega)
        have hi4 : decide ((first : Int) < (q.f : Int) + (q.p : Int)) = true := decide_eq_true (by omega)
        have hi4' : decide (first < q.f + q.p) = true := decide_eq_true (by omega)
        have hi5 : IntKind.i64.wrap ((q.f : Int) + (q.p : Int)) = (q.f : Int) + (q.p : Int) := by rw [IntKind.wrap_i64]; omega
        have hi6 : IntKind.i64.wrap (m : Int) = (m : Int) := by rw [IntKind.wrap_i64]; omega
        clear hq hqe hbd hqb
        rcases HE with hE | ⟨c, hcc, hc1⟩
        · have hi2 : ¬ ((m : Int) + 1 < (L.length : Int)) := by omega
          have hi2' : ¬ (m + 1 < L.length) := by omega
          clear hE
          go_wp2_with fail
          go_quiet (fail)
          go_wp2_with fail
          go_ret
          exact PgPost.same H.out.1 _
        · have hcL := (List.getElem?_eq_some_iff.1 hcc).1
          have j0 := H.out.2.2.1.cellv ((m + 1) * 2) (by simpa using (rc_at hcc rest).1)
          have hj' : (m : Int) + 1 < (L.length : Int) := by omega
          have hj1 : (0 : Int) ≤ (m : Int) + 1 := by omega
          have hj2 : ((m : Int) + 1).toNat = m + 1 := by omega
          have hi2 : ¬ (c.f : Int) < (first : Int) := by omega
          have hi2' : ¬ c.f < first := by omega
          clear hcc
          go_wp2_with fail
          go_quiet (fail)
          go_wp2_with fail
          go_ret
          exact PgPost.same H.out.1 _
      · have hcL := (List.getElem?_eq_some_iff.1 hcc).1
        have i0 := H.out.2.2.1.cellv (0 * 2) (by simpa using (rc_at hcc rest).1)
        have hi' : (0 : Int) < (L.length : Int) := by omega
        have hi2 : ¬ (c.f : Int) < (first : Int) := by omega
        have hi2' : ¬ c.f < first := by omega
        have hi3 : decide ((0 : Int) < (L.length : Int)) = true := decide_eq_true (by omega)
        have hi3' : decide (0 < L.length) = true := decide_eq_true (by omega)
        have hi4 : decide ((c.f : Int) < (first : Int) + (k : Int)) = true := decide_eq_true (by omega)
        have hi4' : decide (c.f < first + k) = true := decide_eq_true (by omega)
        have hi5 : IntKind.i64.wrap ((first : Int) + (k : Int)) = (first : Int) + (k : Int) := by rw [IntKind.wrap_i64]; omega
        clear hcc hce HE hbd
        go_wp2_with fail
        go_quiet (fail)
        go_wp2_with fail
        go_ret
        exact PgPost.same H.out.1 _
      · have hmL := (List.getElem?_eq_some_iff.1 hq).1
        have hcL := (List.getElem?_eq_some_iff.1 hcc).1
        have i0 := H.out.2.2.1.cellv (m * 2) (by simpa using (rc_at hq rest).1)
        have i1 := H.out.2.2.1.cellv (m * 2 + 1) (by simpa using (rc_at hq rest).2)
        have j0 := H.out.2.2.1.cellv ((m + 1) * 2) (by simpa using (rc_at hcc rest).1)
        have hi' : (m : Int) < (L.length : Int) := by omega
        have hj' : (m : Int) + 1 < (L.length : Int) := by omega
        have hj1 : (0 : Int) ≤ (m : Int) + 1 := by omega
        have hj2 : ((m : Int) + 1).toNat = m + 1 := by omega
        have hi2 : ¬ (c.f : Int) < (first : Int) := by omega
        have hi2' : ¬ c.f < first := by omega
        have hi3 : decide ((0 : Int) < (m : Int) + 1) = true := decide_eq_true (by omega)
        have hi4 : decide ((first : Int) < (q.f : Int) + (q.p : Int)) = false := by simp; omega
        have hi4' : decide (first < q.f + q.p) = false := by simp; omega
        have hi5 : IntKind.i64.wrap ((q.f : Int) + (q.p : Int)) = (q.f : Int) + (q.p : Int) := by rw [IntKind.wrap_i64]; omega
        have hi6 : IntKind.i64.wrap (m : Int) = (m : Int) := by rw [IntKind.wrap_i64]; omega
        have hi7 : decide ((m : Int) + 1 < (L.length : Int)) = true := by simp; omega
        have hi7' : decide (m + 1 < L.length) = true := by simp; omega
        have hi8 : decide ((c.f : Int) < (first : Int) + (k : Int)) = true := decide_eq_true (by omega)
        have hi8' : decide (c.f < first + k) = true := decide_eq_true (by omega)
        have hi9 : IntKind.i64.wrap ((first : Int) + (k : Int)) = (first : Int) + (k : Int) := by rw [IntKind.wrap_i64]; omega
        clear hq hqe hcc hce HE hbd
        go_wp2_with fail
        go_quiet (fail)
        go_wp2_with fail
        go_ret
        exact PgPost.same H.out.1 _

theorem OkF.len : ∀ {l : List R} {lo : Nat}, OkF lo l → l.length + lo ≤ nxt1 lo l
  | [], lo, _ => by simp [nxt1]
  | r :: t, lo, h => by
    have h1 := OkF.len h.2.2
    have h2 := h.1
    have h3 := h.2.1
    show t.length + 1 + lo ≤ nxt1 (r.f + r.p + 1) t
    omega
theorem Okn.len {n : Nat} {l : List R} (h : Okn n l) : l.length ≤ n := by
  have h1 := h.1.len
  have h2 := h.2
  omega
theorem Okn.bd {n : Nat} {l : List R} (h : Okn n l) : ∀ r ∈ l, 1 ≤ r.f ∧ 1 ≤ r.p ∧ r.f + r.p ≤ n := fun r hr => by
  have h1 := h.1.bd r hr
  have h2 := h.2
  omega

/-- What Free answers, and the runs after it. -/
def FreeSays (n : Nat) (l : List R) (first k : Int) (c : Int) (l' : List R) : Prop :=
  ((k < 1 ∨ first < 1 ∨ (n : Int) - 1 < first ∨ (n : Int) - first < k) ∧ c = 1 ∧ l' = l) ∨
  (¬ (k < 1 ∨ first < 1 ∨ (n : Int) - 1 < first ∨ (n : Int) - first < k) ∧ ((someR l first.toNat k.toNat ∧ c = 5 ∧ l' = l) ∨ (¬ someR l first.toNat k.toNat ∧ c = 0 ∧ l' = backR l first.toNat k.toNat)))
def FreePost (g n : Nat) (v : Value) (l : List R) (first k : Int) (w : World) (e : Ending) (w' : World) : Prop :=
  ∃ c l', FreeSays n l first k c l' ∧ PgPost g n v (.int .i64 c) l' w e w'

theorem at_last {a b : List R} {m : Nat} (h : a.length = m + 1) : ∃ q, (a ++ b)[m]? = some q ∧ q ∈ a := by
  have hm : m < a.length := by omega
  exact ⟨a[m], by rw [List.getElem?_append_left hm]; simp, List.getElem_mem hm⟩
theorem at_head {a b : List R} : (a ++ b)[a.length]? = b.head? := by
  rw [List.getElem?_append_right (Nat.le_refl _), Nat.sub_self, List.head?_eq_getElem?]

theorem free_ok (w : World) (g n : Nat) (v : Value) (l : List R) (I : IsPg w g n v l) (h : Okn n l) (hn : n ≤ 262144) (first k : Int) :
    Calls Tryd.prog 41 #[.pointer (some ⟨g, 0, none⟩), .int .i64 first, .int .i64 k] w (FreePost g n v l first k w) := by
  by_cases h1 : k < 1
  · exact (free_bad1 w g n v l I first k h1).mono fun e w' hp => ⟨1, l, .inl ⟨.inl h1, rfl, rfl⟩, hp⟩
  by_cases h2 : first < 1
  · exact (free_bad2 w g n v l I first k h1 h2).mono fun e w' hp => ⟨1, l, .inl ⟨.inr (.inl h2), rfl, rfl⟩, hp⟩
  by_cases h3 : (n : Int) - 1 < first
  · exact (free_bad3 w g n v l I first k (by omega) h1 h2 h3).mono fun e w' hp => ⟨1, l, .inl ⟨.inr (.inr (.inl h3)), rfl, rfl⟩, hp⟩
  by_cases h4 : (n : Int) - first < k
  · exact (free_bad4 w g n v l I first k (by omega) h1 h2 h3 h4).mono fun e w' hp => ⟨1, l, .inl ⟨.inr (.inr (.inr h4)), rfl, rfl⟩, hp⟩
  have hng : ¬ (k < 1 ∨ first < 1 ∨ (n : Int) - 1 < first ∨ (n : Int) - first < k) := by omega
  obtain ⟨f, rfl⟩ : ∃ f : Nat, first = f := ⟨first.toNat, by omega⟩
  obtain ⟨K, rfl⟩ : ∃ K : Nat, k = K := ⟨k.toNat, by omega⟩
  have hbd := h.bd
  have hlen := h.len
  obtain ⟨a, b, hab, hla, ha, hb⟩ := plc_split l f
  have hlt : ∀ i, i < a.length → ∃ s, l[i]? = some s ∧ s.f < f := fun i hi => ⟨a[i], by rw [hab, List.getElem?_append_left hi]; simp, ha _ (List.getElem_mem hi)⟩
  have hE : a.length = l.length ∨ ∃ c, l[a.length]? = some c ∧ f ≤ c.f := by
    rw [hab]
    cases b with
    | nil => left; simp
    | cons c t => right; exact ⟨c, by simp, hb c rfl⟩
  have hbs : ∀ s ∈ l, s.f + s.p ≤ 1000000 := fun s hs => by have := (hbd s hs).2.2; omega
  by_cases hs : someR l f K
  · have F : FrNo l a.length f K := ⟨hlt, hE, by
      rw [hla]
      by_cases hX : ∃ r, 0 < plc l f ∧ l[plc l f - 1]? = some r ∧ f < r.f + r.p
      · obtain ⟨r, q1, q2, q3⟩ := hX
        exact .inl ⟨plc l f - 1, r, by omega, q2, q3⟩
      · rcases hs with hs | ⟨c, q1, q2⟩
        · exact absurd hs hX
        · refine .inr ⟨?_, c, q1, ?_, q2⟩
          · rcases Nat.eq_zero_or_pos (plc l f) with q3 | q3
            · exact .inl q3
            · right
              obtain ⟨q, q4, _⟩ := at_last (b := b) (m := plc l f - 1) (by omega : a.length = plc l f - 1 + 1)
              rw [← hab] at q4
              refine ⟨plc l f - 1, q, by omega, q4, ?_⟩
              rcases Nat.lt_or_ge f (q.f + q.p) with q5 | q5
              · exact absurd ⟨q, q3, q4, q5⟩ hX
              · exact q5
          · rw [← hla, hab, at_head] at q1
            exact hb c q1⟩
    have hL : 0 < l.length := by
      rcases hs with ⟨r, _, q, _⟩ | ⟨r, q, _⟩ <;> have := (List.getElem?_eq_some_iff.1 q).1 <;> omega
    exact (free_state w g n v l I a.length f K (by omega) hbs (by omega) (by omega) (by omega) (by omega) F hL).mono fun e w' hp => ⟨5, l, .inr ⟨hng, .inl ⟨by simpa using hs, rfl, rfl⟩⟩, hp⟩
  · have hmono : ∀ e w', PgPost g n v (.int .i64 0) (backR l f K) w e w' → FreePost g n v l f K w e w' := fun e w' hp => ⟨0, backR l f K, .inr ⟨hng, .inr ⟨by simpa using hs, rfl, by simp⟩⟩, hp⟩
    rcases Nat.eq_zero_or_pos l.length with hL | hL
    · have e : l = [] := List.eq_nil_of_length_eq_zero hL
      subst e
      have h0 : a.length = 0 := by have := congrArg List.length hab; simp at this; omega
      exact (free_empty w g n v I f K (by omega) (by omega) (by omega) (by omega) a b hab h0.symm (by rw [← hab]; exact hla)).mono hmono
    · have F : FrOk l a.length f K := ⟨hlt, by
          rcases Nat.eq_zero_or_pos a.length with q3 | q3
          · exact .inl q3
          · right
            obtain ⟨q, q4, _⟩ := at_last (b := b) (m := a.length - 1) (by omega : a.length = a.length - 1 + 1)
            rw [← hab] at q4
            refine ⟨a.length - 1, q, by omega, q4, ?_⟩
            rcases Nat.lt_or_ge f (q.f + q.p) with q5 | q5
            · exact absurd (Or.inl ⟨q, by omega, by rw [← hla]; exact q4, q5⟩) hs
            · exact q5, by
          rcases hE with q | ⟨c, q1, q2⟩
          · exact .inl q
          · right
            refine ⟨c, q1, ?_⟩
            rcases Nat.lt_or_ge c.f (f + K) with q5 | q5
            · exact absurd (Or.inr ⟨c, by rw [← hla]; exact q1, q5⟩) hs
            · exact q5⟩
      exact (free_some w g n v l I a.length f K (by omega) hbs (by omega) (by omega) (by omega) (by omega) F hL a b hab rfl (by rw [← hab]; exact hla)).mono hmono
end Go.Proofs.YtkocikpoagfonaaDoor
