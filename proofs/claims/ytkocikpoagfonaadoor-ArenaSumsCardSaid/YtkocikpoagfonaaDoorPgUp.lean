/- container/heap over bySize: up, Push, down, Pop. -/
import Derived.Test.YtkocikpoagfonaaDoorPgHeap
namespace Go.Proofs.YtkocikpoagfonaaDoor
open Go.RowKit

def leR (a b : R) : Prop := a.p < b.p ∨ (a.p = b.p ∧ a.f ≤ b.f)
theorem lessR_iff {a b : R} : lessR a b = true ↔ a.p < b.p ∨ (a.p = b.p ∧ a.f < b.f) := by simp [lessR]
theorem leR_of_less {a b : R} (h : lessR a b = true) : leR a b := by
  rw [lessR_iff] at h; unfold leR; omega
theorem leR_of_not {a b : R} (h : lessR b a = false) : leR a b := by
  have h2 : ¬ (b.p < a.p ∨ (b.p = a.p ∧ b.f < a.f)) := by rw [← lessR_iff, h]; simp
  unfold leR; omega
theorem leR_trans {a b c : R} (h1 : leR a b) (h2 : leR b c) : leR a c := by unfold leR at *; omega
theorem leR_refl (a : R) : leR a a := by unfold leR; omega

/-- x is on its way up in L, which holds l besides. -/
structure UpI (l : List R) (x : R) (L : List R) (j : Nat) : Prop where
  len : L.length = l.length + 1
  lt : j < L.length
  at_ : L[j]? = some x
  ins : ∀ p s, p ≠ j → L[p]? = some s → s ∈ l
  has : ∀ s ∈ l, ∃ p, p ≠ j ∧ L[p]? = some s
  up : 0 < j → ∀ s0, L[0]? = some s0 → ∀ s ∈ l, leR s0 s
  top : j = 0 → ∀ s ∈ l, leR x s
/-- What a heap owes: the first is the least. -/
structure Top (l : List R) (L : List R) : Prop where
  len : L.length = l.length
  mem : ∀ s, s ∈ L ↔ s ∈ l
  top : ∀ s0, L[0]? = some s0 → ∀ s ∈ l, leR s0 s

theorem UpI.done {l L : List R} {x : R} {j : Nat} (h : UpI l x L j) (ht : ∀ s0, L[0]? = some s0 → ∀ s ∈ l ++ [x], leR s0 s) : Top (l ++ [x]) L where
  len := by simp [h.len]
  mem := fun s => by
    constructor
    · intro hs
      obtain ⟨p, hp, rfl⟩ := List.mem_iff_getElem.1 hs
      by_cases e : p = j
      · subst e; have := h.at_; rw [List.getElem?_eq_getElem hp] at this; simp at this; simp [this]
      · exact List.mem_append_left _ (h.ins p _ e (List.getElem?_eq_getElem hp))
    · intro hs
      rcases List.mem_append.1 hs with hs | hs
      · obtain ⟨p, _, hp⟩ := h.has s hs; exact List.mem_of_getElem? hp
      · simp at hs; subst hs; exact List.mem_of_getElem? h.at_
  top := ht
theorem UpI.top0 {l L : List R} {x : R} (h : UpI l x L 0) : Top (l ++ [x]) L := h.done fun s0 h0 s hs => by
  have e : s0 = x := by have := h.at_; rw [h0] at this; simpa using this
  subst e
  rcases List.mem_append.1 hs with hs | hs
  · exact h.top rfl s hs
  · simp at hs; subst hs; exact leR_refl _
theorem UpI.stop {l L : List R} {x y : R} {i j : Nat} (h : UpI l x L j) (hij : i < j) (hi : L[i]? = some y) (hn : lessR x y = false) : Top (l ++ [x]) L := h.done fun s0 h0 s hs => by
  have hy := h.ins i y (by omega) hi
  have h1 := h.up (by omega) s0 h0
  rcases List.mem_append.1 hs with hs | hs
  · exact h1 s hs
  · simp at hs; subst hs; exact leR_trans (h1 y hy) (leR_of_not hn)
theorem UpI.swap {l L : List R} {x y : R} {i j : Nat} (h : UpI l x L j) (hij : i < j) (hi : L[i]? = some y) (hl : lessR x y = true) : UpI l x (swapR L j i x y) i := by
  have hil : i < L.length := (List.getElem?_eq_some_iff.1 hi).1
  have g : ∀ p, (swapR L j i x y)[p]? = if p = i then some x else if p = j then some y else L[p]? := fun p => by
    unfold swapR
    rw [List.getElem?_set]
    by_cases e : i = p
    · subst e; simp [hil]
    · rw [if_neg e, List.getElem?_set]
      by_cases e2 : j = p
      · subst e2; simp [h.lt, show ¬ j = i by omega]
      · simp [e2, show ¬ p = i by omega, show ¬ p = j by omega]
  constructor
  · simp [swapR, h.len]
  · simpa [swapR] using hil
  · rw [g]; simp
  · intro p s hp hs
    rw [g, if_neg hp] at hs
    split at hs
    · simp at hs; subst hs; exact h.ins i y (by omega) hi
    · next e => exact h.ins p s e hs
  · intro s hs
    obtain ⟨p, hp, hps⟩ := h.has s hs
    by_cases e : p = i
    · subst e; exact ⟨j, by omega, by rw [g, if_neg (by omega), if_pos rfl, ← hi, hps]⟩
    · exact ⟨p, e, by rw [g, if_neg e, if_neg hp, hps]⟩
  · intro h0 s0 hs0 s hs
    rw [g, if_neg (by omega), if_neg (by omega)] at hs0
    exact h.up (by omega) s0 hs0 s hs
  · intro h0 s hs
    subst h0
    exact leR_trans (leR_of_less hl) (h.up (by omega) y hi s hs)

def UpRel (w0 : World) (h : Nat) (v : Value) (l : List R) (x : R) (gk : Nat) (v1 : Value) (w : World) : Prop :=
  ∃ (j : Nat) (L : List R), gk = j + 1 ∧ v1 = .int .i64 j ∧ UpI l x L j ∧ IsBy w h v L ∧ Chg (fpv v) w0 w
def UpPost (w0 : World) (h : Nat) (v : Value) (l : List R) (e : Ending) (w : World) : Prop :=
  e = .returned (.tuple #[]) ∧ ∃ L, Top l L ∧ IsBy w h v L ∧ Chg (fpv v) w0 w

theorem IsBy.step {w w' : World} {h : Nat} {v : Value} {L L' : List R} (I : IsBy w h v L) (hc : Chg (fpv v) w w') (ho : w'.ownsRow 0 73 2 v L'.length (rc L')) : IsBy w' h v L' :=
  ⟨hc.blk I.b (fun hm => own_ne I.o I.b (by decide) (mem_fpv.1 hm)), ho⟩
theorem IsBy.drewN {w : World} {h : Nat} {v : Value} {L : List R} (I : IsBy w h v L) (n : Nat) : IsBy (w.drewN n) h v L := ⟨I.b.drewN n, own_drewN I.o n⟩

set_option maxHeartbeats 1600000 in
theorem up_ok (w : World) (h : Nat) (v : Value) (l : List R) (x : R) (L : List R) (j : Nat) (I : IsBy w h v L) (U : UpI l x L j) (hl : l.length ≤ 1000000) :
    Calls Tryd.prog 71 #[.iface 78 (.pointer (some ⟨h, 0, none⟩)), .int .i64 j] w (UpPost w h v (l ++ [x])) := by
  have H := Lib.hid (And.intro I U); clear I U
  go_enter Tryd.func71, Tryd.ntmps71
  go_wp2_with fail
  go_loopg [1] (j + 1) (fun gk v1 wr => UpRel w h v l x gk v1 wr)
  case atStart => exact ⟨j, L, rfl, rfl, H.out.2, H.out.1, Chg.refl _ _⟩
  case round =>
    clear H
    obtain ⟨j, L, rfl, rfl, U, I, hc⟩ := hrel
    rcases j with _ | k
    · have H := Lib.hid (And.intro U (And.intro I hc)); clear U I hc
      go_wp2_with fail
      go_end0
      exact ⟨rfl, L, H.out.1.top0, H.out.2.1, H.out.2.2⟩
    · have hlt := U.lt
      have hlen := U.len
      have hi : k / 2 < L.length := by omega
      have hyi : L[k / 2]? = some L[k / 2] := List.getElem?_eq_getElem hi
      have hxj : L[k + 1] = x := by have := U.at_; rw [List.getElem?_eq_getElem hlt] at this; simpa using this
      have c0 := I.b.cellv 0 rfl
      have hm1 := fun fuel => m_less fuel ⟨h, 0, none⟩ wr v c0
      have HO := less_ok wr v L (k + 1) (k / 2) I.o hlt hi (lessR x L[k / 2]) (by rw [hxj])
      generalize L[k / 2] = y at HO hyi
      have HS : lessR x y = true → ∀ w', IsBy w' h v L → Calls Tryd.prog 121 #[v, .int .i64 (k / 2 : Nat), .int .i64 (k + 1 : Nat)] w' fun e w'' => e = .returned (.tuple #[]) ∧ w''.ownsRow 0 73 2 v L.length (rc (swapR L (k / 2) (k + 1) y x)) ∧ Chg (fpv v) w' w'' := fun _ w' I' => by
        have := swap_ok w' v L (k / 2) (k + 1) I'.o hi hlt (by omega)
        rwa [hxj, show L[k / 2] = y by have := hyi; rw [List.getElem?_eq_getElem hi] at this; simpa using this] at this
      have H := Lib.hid (And.intro U (And.intro I (And.intro hc (And.intro HO (And.intro HS hyi))))); clear U I hc HO HS hyi hxj
      cases hq : lessR x y with
      | true =>
        have HQ := Lib.hid hq
        have HO := Lib.hid (hq ▸ H.out.2.2.2.1); clear hq
        go_wp2_with fail
        rw [show (k : Int) + 1 = ((k + 1 : Nat) : Int) by omega, show (k : Int) / 2 = ((k / 2 : Nat) : Int) by omega]
        refine HO.out.mono ?_
        rintro e w2 ⟨rfl, m, rfl⟩
        have hm2 := fun fuel => m_swap fuel ⟨h, 0, none⟩ (wr.drewN m) v c0
        go_wp2_with fail
        refine (H.out.2.2.2.2.1 HQ.out _ (H.out.2.1.drewN m)).mono ?_
        rintro e w3 ⟨rfl, ho, hc3⟩
        have H3 := Lib.hid (And.intro ho hc3); clear ho hc3
        go_wp2_with fail
        go_roundg (k / 2 + 1)
        case measure => omega
        case rel =>
          have U2 := H.out.1.swap (by omega) H.out.2.2.2.2.2 HQ.out
          refine ⟨k / 2, swapR L (k + 1) (k / 2) x y, rfl, rfl, U2, ?_, (H.out.2.2.1.drewN m).trans H3.out.2⟩
          have e : swapR L (k / 2) (k + 1) y x = swapR L (k + 1) (k / 2) x y := by
            unfold swapR; exact List.set_comm _ _ (by omega)
          refine (H.out.2.1.drewN m).step H3.out.2 ?_
          have ho := H3.out.1
          rw [e] at ho
          rwa [show (swapR L (k + 1) (k / 2) x y).length = L.length by simp [swapR]]
      | false =>
        have HQ := Lib.hid hq
        have HO := Lib.hid (hq ▸ H.out.2.2.2.1); clear hq
        go_wp2_with fail
        rw [show (k : Int) + 1 = ((k + 1 : Nat) : Int) by omega, show (k : Int) / 2 = ((k / 2 : Nat) : Int) by omega]
        refine HO.out.mono ?_
        rintro e w2 ⟨rfl, m, rfl⟩
        go_wp2_with fail
        go_end0
        exact ⟨rfl, L, H.out.1.stop (by omega) H.out.2.2.2.2.2 HQ.out, H.out.2.1.drewN m, H.out.2.2.1.drewN m⟩

def HpPost (h : Nat) (v : Value) (l : List R) (w : World) (e : Ending) (w' : World) : Prop :=
  e = .returned (.tuple #[]) ∧ ∃ v' L, Top l L ∧ IsBy w' h v' L ∧ Stp (h :: fpv v) (h :: fpv v') w w'

theorem up_start {l L : List R} {x : R} (h : Top l L) : UpI l x (L ++ [x]) l.length where
  len := by simp [h.len]
  lt := by simp [h.len]
  at_ := by rw [← h.len]; simp
  ins := fun p s hp hs => by
    have hlt := (List.getElem?_eq_some_iff.1 hs).1
    simp [h.len] at hlt
    rw [List.getElem?_append_left (by rw [h.len]; omega)] at hs
    exact (h.mem s).1 (List.mem_of_getElem? hs)
  has := fun s hs => by
    obtain ⟨p, hp, rfl⟩ := List.mem_iff_getElem.1 ((h.mem s).2 hs)
    exact ⟨p, by rw [h.len] at hp; omega, by rw [List.getElem?_append_left hp]; exact List.getElem?_eq_getElem hp⟩
  up := fun h0 s0 hs0 => by
    rw [List.getElem?_append_left (by rw [h.len]; exact h0)] at hs0
    exact h.top s0 hs0
  top := fun h0 s hs => by
    have := List.length_pos_of_mem hs
    omega

set_option maxHeartbeats 1600000 in
theorem hpush_ok (w : World) (h : Nat) (v : Value) (l L : List R) (r : R) (I : IsBy w h v L) (T : Top l L) (hl : l.length ≤ 1000000) :
    Calls Tryd.prog 49 #[.iface 78 (.pointer (some ⟨h, 0, none⟩)), .iface 73 (.agg #[.int .i64 r.f, .int .i64 r.p])] w (HpPost h v (l ++ [r]) w) := by
  have HP := Lib.hid (push_ok w h v L r I (by rw [T.len]; exact hl)); clear I
  have hmp := m_push
  go_enter Tryd.func49, Tryd.ntmps49
  go_wp2_with fail
  refine HP.out.mono ?_
  rintro e w1 ⟨rfl, v1, I1, s1⟩
  have c1 := I1.b.cellv 0 rfl
  have hml := fun fuel => m_len fuel ⟨h, 0, none⟩ w1 v1 c1
  obtain ⟨A, c, rfl⟩ : ∃ A c, v1 = .slice A (L ++ [r]).length c := by
    obtain ⟨g, cap, _, e, _⟩ := own_open I1.o (by simp)
    exact ⟨_, _, e⟩
  have H := Lib.hid (And.intro I1 s1); clear I1 s1
  have hl1 : ((L.length : Nat) : Int) ≤ 1000000 := by rw [T.len]; omega
  go_wp2_with fail
  refine (len_ok _ _ _ _).mono ?_
  rintro e w2 ⟨rfl, rfl⟩
  go_wp2_with fail
  have HU := Lib.hid (up_ok w1 h _ l r (L ++ [r]) l.length H.out.1 (up_start T) hl)
  rw [← T.len] at HU
  refine HU.out.mono ?_
  rintro e w2 ⟨rfl, L2, T2, I2, hc2⟩
  have H2 := Lib.hid (And.intro T2 (And.intro I2 hc2)); clear T2 I2 hc2
  go_wp2_with fail
  go_end0
  exact ⟨rfl, _, L2, H2.out.1, H2.out.2.1, H.out.2.trans (Stp.of_chg H2.out.2.2 (fun k hk => .inl (List.mem_cons_of_mem _ hk)))⟩

/-! Pop. -/
set_option maxHeartbeats 1600000 in
theorem swap_same (w : World) (v : Value) (l : List R) (i : Nat) (o : w.ownsRow 0 73 2 v l.length (rc l)) (hi : i < l.length) :
    Calls Tryd.prog 121 #[v, .int .i64 i, .int .i64 i] w fun e w' => e = .returned (.tuple #[]) ∧ w'.ownsRow 0 73 2 v l.length (rc l) ∧ Chg (fpv v) w w' := by
  obtain ⟨g, cap, rest, rfl, hb, hl, hc, hm, _⟩ := own_open o (by omega)
  have i0 := hb.cellv (i * 2) (by simpa using (rc_get l i hi rest).1)
  have i1 := hb.cellv (i * 2 + 1) (by simpa using (rc_get l i hi rest).2)
  have fi0 := hb.frozen (i * 2)
  have fi1 := hb.frozen (i * 2 + 1)
  have hi' : (i : Int) < (l.length : Int) := by omega
  have n2 : ¬ i * 2 = i * 2 + 1 := by omega
  have n3 : ¬ i * 2 + 1 = i * 2 := by omega
  generalize ha : l[i] = a at *
  have hk1 := blk_setR hb i a hi
  have hk2 := blk_setR hk1 i a (by simpa using hi)
  have es : (l.set i a).set i a = l := by subst ha; simp
  rw [es] at hk2
  have H := Lib.hid (And.intro hk2 (And.intro hl (And.intro hc hm))); clear hb hl hc hm o ha hi hk1 hk2 es
  go_enter Tryd.func121, Tryd.ntmps121
  go_wp2
  go_region
  go_end0
  obtain ⟨hk2, hl, hc, hm⟩ := H.out
  exact ⟨rfl, own_mk hk2.drew hl hc hm (rc_len l), ((((((Chg.refl _ _).setCell (.inl (by simp [fpv, Value.ownBlock])) _).setCell (.inl (by simp [fpv, Value.ownBlock])) _).setCell (.inl (by simp [fpv, Value.ownBlock])) _).setCell (.inl (by simp [fpv, Value.ownBlock])) _)).drew⟩

def PopPost (h : Nat) (v : Value) (x : R) (w : World) (e : Ending) (w' : World) : Prop :=
  e = .returned (.iface 73 (.agg #[.int .i64 x.f, .int .i64 x.p])) ∧ Chg (h :: fpv v) w w'

set_option maxHeartbeats 1600000 in
theorem pop_ok (w : World) (h : Nat) (v : Value) (l : List R) (n : Nat) (x : R) (I : IsBy w h v l) (hl : l.length = n + 1) (hx : l[n]? = some x) (hm : n ≤ 1000000) :
    Calls Tryd.prog 122 #[.pointer (some ⟨h, 0, none⟩)] w (PopPost h v x w) := by
  obtain ⟨g, cap, rest, rfl, hb, hll, hc, _, _⟩ := own_open I.o (by omega)
  have hn : n < l.length := by omega
  have hxn : l[n] = x := by rw [List.getElem?_eq_getElem hn] at hx; simpa using hx
  have i0 := hb.cellv (n * 2) (by simpa using (rc_get l n hn rest).1)
  have i1 := hb.cellv (n * 2 + 1) (by simpa using (rc_get l n hn rest).2)
  rw [hxn] at i0 i1
  have c0 := I.b.cellv 0 rfl
  have f0 := I.b.frozen 0
  have hlt := I.b.lt
  have hgl := hb.lt
  rw [hl] at c0 hc
  have hc' : n + 1 ≤ cap := hc
  clear I hb hll hx hxn hn rest hc
  rw [hl]
  go_enter Tryd.func122, Tryd.ntmps122
  go_wp2
  go_ret
  exact ⟨rfl, ((Chg.refl _ _).setCell (.inl (by simp)) _).alloc _⟩

def DownRel (w0 : World) (h n m : Nat) (v : Value) (y : Option R) (gk : Nat) (v7 : Value) (w : World) : Prop :=
  ∃ (i : Nat) (L : List R), gk + i = n + 1 ∧ i ≤ n ∧ v7 = .int .i64 i ∧ L.length = m ∧ L[n]? = y ∧ IsBy w h v L ∧ Chg (fpv v) w0 w
def DownPost (w0 : World) (h n m : Nat) (v : Value) (y : Option R) (e : Ending) (w : World) : Prop :=
  ∃ q L, e = .returned (.bool q) ∧ L.length = m ∧ L[n]? = y ∧ IsBy w h v L ∧ Chg (fpv v) w0 w
theorem swapR_len (L : List R) (i j : Nat) (a b : R) : (swapR L i j a b).length = L.length := by simp [swapR]
theorem swapR_far (L : List R) (i j n : Nat) (a b : R) (h1 : i ≠ n) (h2 : j ≠ n) : (swapR L i j a b)[n]? = L[n]? := by
  unfold swapR; rw [List.getElem?_set_ne h2, List.getElem?_set_ne h1]

theorem less_int (w : World) (v : Value) (l : List R) (i j : Nat) (x y : Int) (ex : x = i) (ey : y = j) (o : w.ownsRow 0 73 2 v l.length (rc l)) (hi : i < l.length) (hj : j < l.length) :
    ∃ q : Bool, Calls Tryd.prog 120 #[v, .int .i64 x, .int .i64 y] w fun e w' => e = .returned (.bool q) ∧ ∃ m, w' = w.drewN m := by
  subst ex ey
  exact ⟨_, less_ok w v l i j o hi hj _ rfl⟩
def SwapPost (w : World) (v : Value) (l : List R) (i j : Nat) (e : Ending) (w' : World) : Prop :=
  e = .returned (.tuple #[]) ∧ ∃ L : List R, L.length = l.length ∧ (∀ n, i ≠ n → j ≠ n → L[n]? = l[n]?) ∧ w'.ownsRow 0 73 2 v L.length (rc L) ∧ Chg (fpv v) w w'
theorem swap_int (w : World) (v : Value) (l : List R) (i j : Nat) (x y : Int) (ex : x = i) (ey : y = j) (o : w.ownsRow 0 73 2 v l.length (rc l)) (hi : i < l.length) (hj : j < l.length) (hij : i ≠ j) :
    Calls Tryd.prog 121 #[v, .int .i64 x, .int .i64 y] w (SwapPost w v l i j) := by
  subst ex ey
  exact (swap_ok w v l i j o hi hj hij).mono fun e w' ⟨he, ho, hc⟩ => ⟨he, _, swapR_len _ _ _ _ _, fun n h1 h2 => swapR_far _ _ _ _ _ _ h1 h2, by rw [swapR_len]; exact ho, hc⟩

set_option maxHeartbeats 4000000 in
theorem down_ok (w : World) (h : Nat) (v : Value) (L : List R) (n : Nat) (I : IsBy w h v L) (hn : n < L.length) (hl : L.length ≤ 1000001) :
    Calls Tryd.prog 72 #[.iface 78 (.pointer (some ⟨h, 0, none⟩)), .int .i64 0, .int .i64 n] w (DownPost w h n L.length v L[n]?) := by
  have H := Lib.hid I; clear I
  obtain ⟨m, hm⟩ : ∃ m, m = L.length := ⟨_, rfl⟩
  obtain ⟨y, hy⟩ : ∃ y, y = L[n]? := ⟨_, rfl⟩
  rw [← hm, ← hy]
  rw [← hm] at hn hl
  have HM := Lib.hid (And.intro hm hy); clear hm hy
  go_enter Tryd.func72, Tryd.ntmps72
  go_wp2_with fail
  go_loopg [7] (n + 1) (fun gk v7 wr => DownRel w h n m v y gk v7 wr)
  case atStart => exact ⟨0, L, by omega, by omega, rfl, HM.out.1.symm, HM.out.2.symm, H.out, Chg.refl _ _⟩
  case round =>
    clear H HM
    obtain ⟨i, L, hgk, hin, rfl, hL, hy, I, hc⟩ := hrel
    by_cases h1 : 2 * i + 1 < n
    · have c0 := I.b.cellv 0 rfl
      have hn1 : ¬ ((n : Int) ≤ 2 * (i : Int) + 1) := by omega
      by_cases h2 : 2 * i + 1 + 1 < n
      · have hm1 := fun fuel => m_less fuel ⟨h, 0, none⟩ wr v c0
        obtain ⟨q1, HO⟩ := less_int wr v L (2 * i + 2) (2 * i + 1) (2 * (i : Int) + 1 + 1) (2 * (i : Int) + 1) (by omega) (by omega) I.o (by omega) (by omega)
        have H := Lib.hid (And.intro I (And.intro hc (And.intro hy (And.intro HO hL)))); clear I hc hy HO hL
        have h2' : 2 * (i : Int) + 1 + 1 < (n : Int) := by omega
        go_wp2_with fail
        refine H.out.2.2.2.1.mono ?_
        rintro e w2 ⟨rfl, k1, hk1⟩
        have IW := Lib.hid (show IsBy w2 h v L from hk1 ▸ H.out.1.drewN k1)
        have HC := Lib.hid (show Chg (fpv v) w w2 from hk1 ▸ H.out.2.1.drewN k1)
        clear hk1
        cases q1 with
        | true =>
          have c2 := IW.out.b.cellv 0 rfl
          have hm2 := fun fuel => m_less fuel ⟨h, 0, none⟩ w2 v c2
          obtain ⟨q2, HO2⟩ := less_int w2 v L (2 * i + 2) i (2 * (i : Int) + 1 + 1) i (by omega) rfl IW.out.o (by have := H.out.2.2.2.2; omega) (by have := H.out.2.2.2.2; omega)
          replace HO2 := Lib.hid HO2
          go_wp2_with fail
          refine HO2.out.mono ?_
          rintro e w3 ⟨rfl, k2, hk2⟩
          have I3 : IsBy w3 h v L := hk2 ▸ IW.out.drewN k2
          have HC3 := Lib.hid (show Chg (fpv v) w w3 from hk2 ▸ HC.out.drewN k2)
          clear hk2
          have c3 := I3.b.cellv 0 rfl
          have HS := swap_int w3 v L i (2 * i + 2) i (2 * (i : Int) + 1 + 1) rfl (by omega) I3.o (by have := H.out.2.2.2.2; omega) (by have := H.out.2.2.2.2; omega) (by omega)
          have hm3 := fun fuel => m_swap fuel ⟨h, 0, none⟩ w3 v c3
          have HI3 := Lib.hid I3; clear I3
          replace HS := Lib.hid HS
          cases q2 with
          | true =>
            go_wp2_with fail
            refine HS.out.mono ?_
            rintro e w4 ⟨rfl, L4, hl4, hy4, ho, hc4⟩
            have H4 := Lib.hid (And.intro hl4 (And.intro hy4 (And.intro ho hc4))); clear hl4 hy4 ho hc4
            go_wp2_with fail
            go_roundg (n + 1 - (2 * i + 2))
            case measure => omega
            case rel => exact ⟨2 * i + 2, L4, by omega, by omega, by go_num, H4.out.1.trans H.out.2.2.2.2, (H4.out.2.1 n (by omega) (by omega)).trans H.out.2.2.1, HI3.out.step H4.out.2.2.2 H4.out.2.2.1, HC3.out.trans H4.out.2.2.2⟩
          | false =>
            go_wp2_with fail
            go_ret
            exact ⟨_, L, rfl, H.out.2.2.2.2, H.out.2.2.1, HI3.out, HC3.out⟩
        | false =>
          have c2 := IW.out.b.cellv 0 rfl
          have hm2 := fun fuel => m_less fuel ⟨h, 0, none⟩ w2 v c2
          obtain ⟨q2, HO2⟩ := less_int w2 v L (2 * i + 1) i (2 * (i : Int) + 1) i (by omega) rfl IW.out.o (by have := H.out.2.2.2.2; omega) (by have := H.out.2.2.2.2; omega)
          replace HO2 := Lib.hid HO2
          go_wp2_with fail
          refine HO2.out.mono ?_
          rintro e w3 ⟨rfl, k2, hk2⟩
          have I3 : IsBy w3 h v L := hk2 ▸ IW.out.drewN k2
          have HC3 := Lib.hid (show Chg (fpv v) w w3 from hk2 ▸ HC.out.drewN k2)
          clear hk2
          have c3 := I3.b.cellv 0 rfl
          have HS := swap_int w3 v L i (2 * i + 1) i (2 * (i : Int) + 1) rfl (by omega) I3.o (by have := H.out.2.2.2.2; omega) (by have := H.out.2.2.2.2; omega) (by omega)
          have hm3 := fun fuel => m_swap fuel ⟨h, 0, none⟩ w3 v c3
          have HI3 := Lib.hid I3; clear I3
          replace HS := Lib.hid HS
          cases q2 with
          | true =>
            go_wp2_with fail
            refine HS.out.mono ?_
            rintro e w4 ⟨rfl, L4, hl4, hy4, ho, hc4⟩
            have H4 := Lib.hid (And.intro hl4 (And.intro hy4 (And.intro ho hc4))); clear hl4 hy4 ho hc4
            go_wp2_with fail
            go_roundg (n + 1 - (2 * i + 1))
            case measure => omega
            case rel => exact ⟨2 * i + 1, L4, by omega, by omega, by go_num, H4.out.1.trans H.out.2.2.2.2, (H4.out.2.1 n (by omega) (by omega)).trans H.out.2.2.1, HI3.out.step H4.out.2.2.2 H4.out.2.2.1, HC3.out.trans H4.out.2.2.2⟩
          | false =>
            go_wp2_with fail
            go_ret
            exact ⟨_, L, rfl, H.out.2.2.2.2, H.out.2.2.1, HI3.out, HC3.out⟩
      · have h2' : ¬ 2 * (i : Int) + 1 + 1 < (n : Int) := by omega
        have H := Lib.hid (And.intro I (And.intro hc (And.intro hy (And.intro True.intro hL)))); clear I hc hy hL
        have IW := Lib.hid H.out.1
        have HC := Lib.hid H.out.2.1
        have c2 := IW.out.b.cellv 0 rfl
        have hm2 := fun fuel => m_less fuel ⟨h, 0, none⟩ wr v c2
        obtain ⟨q2, HO2⟩ := less_int wr v L (2 * i + 1) i (2 * (i : Int) + 1) i (by omega) rfl IW.out.o (by have := H.out.2.2.2.2; omega) (by have := H.out.2.2.2.2; omega)
        replace HO2 := Lib.hid HO2
        go_wp2_with fail
        refine HO2.out.mono ?_
        rintro e w3 ⟨rfl, k2, hk2⟩
        have I3 : IsBy w3 h v L := hk2 ▸ IW.out.drewN k2
        have HC3 := Lib.hid (show Chg (fpv v) w w3 from hk2 ▸ HC.out.drewN k2)
        clear hk2
        have c3 := I3.b.cellv 0 rfl
        have HS := swap_int w3 v L i (2 * i + 1) i (2 * (i : Int) + 1) rfl (by omega) I3.o (by have := H.out.2.2.2.2; omega) (by have := H.out.2.2.2.2; omega) (by omega)
        have hm3 := fun fuel => m_swap fuel ⟨h, 0, none⟩ w3 v c3
        have HI3 := Lib.hid I3; clear I3
        replace HS := Lib.hid HS
        cases q2 with
        | true =>
          go_wp2_with fail
          refine HS.out.mono ?_
          rintro e w4 ⟨rfl, L4, hl4, hy4, ho, hc4⟩
          have H4 := Lib.hid (And.intro hl4 (And.intro hy4 (And.intro ho hc4))); clear hl4 hy4 ho hc4
          go_wp2_with fail
          go_roundg (n + 1 - (2 * i + 1))
          case measure => omega
          case rel => exact ⟨2 * i + 1, L4, by omega, by omega, by go_num, H4.out.1.trans H.out.2.2.2.2, (H4.out.2.1 n (by omega) (by omega)).trans H.out.2.2.1, HI3.out.step H4.out.2.2.2 H4.out.2.2.1, HC3.out.trans H4.out.2.2.2⟩
        | false =>
          go_wp2_with fail
          go_ret
          exact ⟨_, L, rfl, H.out.2.2.2.2, H.out.2.2.1, HI3.out, HC3.out⟩
    · have hn1 : (n : Int) ≤ 2 * (i : Int) + 1 := by omega
      have H := Lib.hid (And.intro I (And.intro hc (And.intro hL hy))); clear I hc hL hy
      go_wp2_with fail
      go_ret
      exact ⟨_, L, rfl, H.out.2.2.1, H.out.2.2.2, H.out.1, H.out.2.1⟩
end Go.Proofs.YtkocikpoagfonaaDoor
