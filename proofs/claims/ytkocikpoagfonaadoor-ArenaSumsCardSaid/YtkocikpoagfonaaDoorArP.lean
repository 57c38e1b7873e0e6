/- The arena: its invariant is kept by each op. Plain theorems. -/
import Derived.Test.YtkocikpoagfonaaDoorAr9
namespace Go.Proofs.YtkocikpoagfonaaDoor
open Go.RowKit

def spW (o : Option Sp) : Nat := match o with | none => 0 | some s => cntF s.F (slK s.k) * szK s.k
def livN (f : Nat → Option Sp) : Nat → Nat
  | 0 => 0
  | n + 1 => livN f n + spW (f n)
theorem livN_ext {f g : Nat → Option Sp} : ∀ {n : Nat}, (∀ j, j < n → f j = g j) → livN f n = livN g n
  | 0, _ => rfl
  | n + 1, h => by rw [livN, livN, livN_ext (fun j hj => h j (by omega)), h n (by omega)]
theorem livN_upd {f : Nat → Option Sp} {id : Nat} {v : Option Sp} : ∀ {n : Nat}, id < n → livN (updF f id v) n + spW (f id) = livN f n + spW v
  | 0, h => by omega
  | n + 1, h => by
    rw [livN, livN]
    by_cases e : n = id
    · subst e
      rw [updF_same, livN_ext (g := f) (fun j hj => updF_other _ _ (by omega))]; omega
    · rw [updF_other _ _ e]
      have := livN_upd (f := f) (v := v) (n := n) (id := id) (by omega)
      omega
theorem livN_more {f : Nat → Option Sp} {N : Nat} (h : ∀ j, N ≤ j → f j = none) : ∀ {M : Nat}, N ≤ M → livN f M = livN f N
  | 0, hm => by have : N = 0 := by omega
                rw [this]
  | M + 1, hm => by
    by_cases e : N = M + 1
    · rw [e]
    · rw [livN, livN_more h (M := M) (by omega), h M (by omega)]; rfl
theorem livN_one {f : Nat → Option Sp} {N id : Nat} {s : Sp} (h : f id = some s) : ∀ {M : Nat}, id < M → spW (some s) ≤ livN f M
  | 0, hm => by omega
  | M + 1, hm => by
    rw [livN]
    by_cases e : id = M
    · rw [← e, h]; omega
    · have := livN_one (N := N) h (M := M) (by omega); omega
structure ArI (N : Nat) (a : Ar) : Prop where
  ok : ArOk N a
  mf : ∀ id s i, a.sp id = some s → s.M i = true → s.F i = true
  fz : ∀ id s i, a.sp id = some s → slK s.k ≤ i → s.F i = false
  lv : a.live = livN a.sp N
theorem Sp.addr_page {s : Sp} {i : Nat} (hk : s.k < 16) (hi : i < slK s.k) : s.first ≤ s.addr i / 64 ∧ s.addr i / 64 < s.first + pgK s.k := by
  have h5 := sl_sz hk hi
  have h6 := (kF hk).2.2.1
  rw [Nat.add_mul] at h5
  unfold Sp.addr
  omega
theorem Sp.addr_inj {s : Sp} {i j : Nat} (hk : s.k < 16) (h : s.addr i = s.addr j) : i = j := by
  have h6 := (kF hk).2.2.1
  unfold Sp.addr at h
  exact Nat.eq_of_mul_eq_mul_right (by omega : 0 < szK s.k) (by omega)
theorem ArOk.other {N : Nat} {a : Ar} (ok : ArOk N a) {id id' i i' : Nat} {s t : Sp} (hs : a.sp id = some s) (ht : a.sp id' = some t) (hi : i < slK s.k) (hi' : i' < slK t.k) (h : s.addr i = t.addr i') : id = id' := by
  have p1 := Sp.addr_page (ok.pg id s hs).1 hi
  have p2 := Sp.addr_page (ok.pg id' t ht).1 hi'
  have o1 := ok.ow id s _ hs p1.1 p1.2
  have o2 := ok.ow id' t _ ht p2.1 p2.2
  rw [h, o2] at o1
  injection o1 with o1
  exact o1.symm
/-- Which addresses are objects', as to one span. -/
theorem ArOk.obs {N : Nat} {a : Ar} (ok : ArOk N a) {id : Nat} {s : Sp} (hs : a.sp id = some s) (x : Nat) :
    (a.ob x).isSome = true ↔ (∃ i, i < slK s.k ∧ s.F i = true ∧ x = s.addr i) ∨ ∃ id' t i, id' ≠ id ∧ a.sp id' = some t ∧ i < slK t.k ∧ t.F i = true ∧ x = t.addr i := by
  rw [ok.ob]
  constructor
  · rintro ⟨id', t, i, h1, h2, h3, h4⟩
    by_cases e : id' = id
    · subst e
      rw [hs] at h1; injection h1 with h1; subst h1
      exact .inl ⟨i, h2, h3, h4⟩
    · exact .inr ⟨id', t, i, e, h1, h2, h3, h4⟩
  · rintro (⟨i, h2, h3, h4⟩ | ⟨id', t, i, -, h⟩)
    · exact ⟨id, s, i, hs, h2, h3, h4⟩
    · exact ⟨id', t, i, h⟩
/-- One span turned in place, and the objects with it. -/
theorem ArOk.turned {N : Nat} {a : Ar} (ok : ArOk N a) {id : Nat} {s s' : Sp} (hs : a.sp id = some s) (hf : s'.first = s.first) (hk : s'.k = s.k) {ob' : Nat → Option (List Int)} {live' : Nat}
    (hob : ∀ x, (ob' x).isSome = true ↔ (∃ i, i < slK s.k ∧ s'.F i = true ∧ x = s.addr i) ∨ ∃ id' t i, id' ≠ id ∧ a.sp id' = some t ∧ i < slK t.k ∧ t.F i = true ∧ x = t.addr i)
    (hlen : ∀ x xs, ob' x = some xs → 1 ≤ xs.length ∧ xs.length ≤ 256) : ArOk N { a with sp := updF a.sp id (some s'), ob := ob', live := live' } := by
  have get : ∀ {i t}, updF a.sp id (some s') i = some t → (i = id ∧ t = s') ∨ (i ≠ id ∧ a.sp i = some t) := fun {i t} ht => by
    by_cases e : i = id
    · left; subst e
      rw [updF_same] at ht
      injection ht with ht
      exact ⟨rfl, ht.symm⟩
    · right; rw [updF_other _ _ e] at ht; exact ⟨e, ht⟩
  have ha : ∀ i, s'.addr i = s.addr i := fun i => by unfold Sp.addr; rw [hf, hk]
  refine ⟨ok.ok, ok.n, fun i t ht => ?_, fun i t p ht => ?_, fun i t ht => ?_, fun x => ?_, hlen⟩
  · rcases get ht with ⟨rfl, rfl⟩ | ⟨_, h⟩
    · exact ok.top _ s hs
    · exact ok.top _ _ h
  · rcases get ht with ⟨rfl, rfl⟩ | ⟨_, h⟩
    · rw [hf, hk]; exact ok.ow _ s p hs
    · exact ok.ow _ _ p h
  · rcases get ht with ⟨rfl, rfl⟩ | ⟨_, h⟩
    · rw [hf, hk]; exact ok.pg _ s hs
    · exact ok.pg _ _ h
  · show (ob' x).isSome = true ↔ _
    rw [hob]
    constructor
    · rintro (⟨i, h1, h2, h3⟩ | ⟨id', t, i, h0, h1, h2⟩)
      · exact ⟨id, s', i, updF_same _ _ _, by rw [hk]; exact h1, h2, by rw [ha]; exact h3⟩
      · exact ⟨id', t, i, by rw [← h1]; exact updF_other _ _ h0, h2⟩
    · rintro ⟨id', t, i, h1, h2, h3, h4⟩
      rcases get h1 with ⟨rfl, rfl⟩ | ⟨e, h⟩
      · exact .inl ⟨i, by rw [← hk]; exact h2, h3, by rw [← ha]; exact h4⟩
      · exact .inr ⟨id', t, i, e, h, h2, h3, h4⟩
theorem ArI.turned {N : Nat} {a : Ar} (I : ArI N a) {id : Nat} {s s' : Sp} (hs : a.sp id = some s) {ob' : Nat → Option (List Int)} {live' : Nat} (ok : ArOk N { a with sp := updF a.sp id (some s'), ob := ob', live := live' })
    (hmf : ∀ i, s'.M i = true → s'.F i = true) (hfz : ∀ i, slK s'.k ≤ i → s'.F i = false) (hl : live' + spW (some s) = a.live + spW (some s')) : ArI N { a with sp := updF a.sp id (some s'), ob := ob', live := live' } := by
  refine ⟨ok, fun i t j ht => ?_, fun i t j ht => ?_, ?_⟩
  · by_cases e : i = id
    · subst e
      have h2 : some s' = some t := by rw [← ht]; exact (updF_same _ _ _).symm
      injection h2 with h2
      rw [← h2]; exact hmf j
    · exact I.mf i t j (by rw [← ht]; exact (updF_other _ _ e).symm)
  · by_cases e : i = id
    · subst e
      have h2 : some s' = some t := by rw [← ht]; exact (updF_same _ _ _).symm
      injection h2 with h2
      rw [← h2]; exact hfz j
    · exact I.fz i t j (by rw [← ht]; exact (updF_other _ _ e).symm)
  · show live' = livN (updF a.sp id (some s')) N
    have h1 := livN_upd (f := a.sp) (v := some s') (I.ok.top id s hs)
    have h2 := I.lv
    rw [hs] at h1
    omega
theorem newA_I (N n : Nat) (h1 : 1 ≤ n) (h2 : n ≤ 262144) : ArI N (newA n) := by
  refine ⟨newA_ok N n h1 h2, fun _ _ _ h => by simp [newA] at h, fun _ _ _ h => by simp [newA] at h, ?_⟩
  have : livN (newA n).sp N = livN (newA n).sp 0 := livN_more (fun j _ => rfl) (Nat.zero_le _)
  rw [this]; rfl
/-! Alloc -/
theorem ArI.alloc {N : Nat} {a : Ar} (I : ArI N a) {id y n : Nat} {s : Sp} {black : Bool} (hs : a.sp id = some s) (hy : y < slK s.k) (hF : s.F y = false) (h1 : 1 ≤ n) (hn : n ≤ szK s.k) : ArI N (allocA a id s y n black) := by
  have hk := (I.ok.pg id s hs).1
  have h256 := (kF hk).2.2.2.1
  refine I.turned (s' := allocS s y black) hs (I.ok.turned (s' := allocS s y black) hs rfl rfl (fun x => ?_) (fun x xs hx => ?_)) (fun i hm => ?_) (fun i hi => ?_) ?_
  · have h2 := I.ok.obs hs x
    unfold updF
    by_cases e : x = s.addr y
    · rw [if_pos e]
      exact ⟨fun _ => .inl ⟨y, hy, by simp [allocS, setF], e⟩, fun _ => rfl⟩
    · rw [if_neg e, h2]
      constructor
      · rintro (⟨i, h3, h4, h5⟩ | h)
        · exact .inl ⟨i, h3, by show setF s.F y i = true; unfold setF; split <;> simp [h4], h5⟩
        · exact .inr h
      · rintro (⟨i, h3, h4, h5⟩ | h)
        · refine .inl ⟨i, h3, ?_, h5⟩
          have h6 : setF s.F y i = true := h4
          unfold setF at h6
          by_cases e2 : i = y
          · rw [e2] at h5; exact absurd h5 e
          · rwa [if_neg e2] at h6
        · exact .inr h
  · by_cases e : x = s.addr y
    · subst e
      rw [updF_same] at hx
      injection hx with hx
      rw [← hx, List.length_replicate]; omega
    · rw [updF_other _ _ e] at hx; exact I.ok.len x xs hx
  · have hm2 : (if black then setF s.M y else s.M) i = true := hm
    show setF s.F y i = true
    unfold setF
    by_cases e : i = y
    · rw [if_pos e]
    · rw [if_neg e]
      refine I.mf id s i hs ?_
      cases black
      · exact hm2
      · have h6 : setF s.M y i = true := hm2
        unfold setF at h6
        rwa [if_neg e] at h6
  · show setF s.F y i = false
    have hi2 : slK s.k ≤ i := hi
    unfold setF
    rw [if_neg (by omega)]
    exact I.fz id s i hs hi2
  · show a.live + szK s.k + cntF s.F (slK s.k) * szK s.k = a.live + cntF (setF s.F y) (slK s.k) * szK s.k
    have h3 := cntF_flip (F := s.F) hy
    rw [flip_set hF, hF] at h3
    simp only [Bool.false_eq_true, if_false] at h3
    rw [show cntF (setF s.F y) (slK s.k) = cntF s.F (slK s.k) + 1 by omega, Nat.add_mul]
    omega
/-! Store -/
theorem ArI.put {N : Nat} {a : Ar} (I : ArI N a) (x i v : Int) : ArI N (putA a x i v) := by
  unfold putA
  split
  · next hc =>
    obtain ⟨xs, q, hx0, hx, -, -, -, -⟩ := slot_some (h := ⟨0, 0, .bool false, 0, 0, 0, fun _ => ⟨0, 0, 0, 0, 0⟩, fun _ => 0, 0, 0⟩) (a := a) hc
    have hsome : ∀ y, (updF a.ob x.toNat ((a.ob x.toNat).map fun xs => xs.set i.toNat v) y).isSome = (a.ob y).isSome := fun y => by
      by_cases e : y = x.toNat
      · rw [e, updF_same, hx]; rfl
      · rw [updF_other _ _ e]
    refine ⟨⟨I.ok.ok, I.ok.n, I.ok.top, I.ok.ow, I.ok.pg, fun y => by show (updF _ _ _ y).isSome = true ↔ _; rw [hsome]; exact I.ok.ob y, fun y ys hy => ?_⟩, I.mf, I.fz, I.lv⟩
    have hy2 : updF a.ob x.toNat ((a.ob x.toNat).map fun xs => xs.set i.toNat v) y = some ys := hy
    by_cases e : y = x.toNat
    · rw [e, updF_same, hx] at hy2
      simp only [Option.map_some, Option.some.injEq] at hy2
      rw [← hy2, List.length_set]
      exact I.ok.len _ _ hx
    · rw [updF_other _ _ e] at hy2
      exact I.ok.len _ _ hy2
  · exact I
/-! Mark -/
theorem ArI.mark {N : Nat} {a : Ar} (I : ArI N a) {id i : Nat} {s : Sp} (hs : a.sp id = some s) (hF : s.F i = true) : ArI N { a with sp := updF a.sp id (some (markS s i)) } := by
  refine I.turned (s' := markS s i) (ob' := a.ob) (live' := a.live) hs (I.ok.turned (s' := markS s i) hs rfl rfl (fun x => I.ok.obs hs x) I.ok.len) (fun j hm => ?_) (fun j hj => I.fz id s j hs hj) rfl
  have hm2 : setF s.M i j = true := hm
  show s.F j = true
  unfold setF at hm2
  by_cases e : j = i
  · rw [e]; exact hF
  · rw [if_neg e] at hm2; exact I.mf id s j hs hm2
/-! Sweep -/
theorem swept_mem {s : Sp} {i : Nat} : i ∈ sweptL s ↔ i < slK s.k ∧ s.F i = true ∧ s.M i = false := by
  unfold sweptL allN
  rw [List.mem_filter, List.mem_filter, List.mem_range]
  cases s.M i <;> simp
theorem addrT_all {s : Sp} {x : Nat} : x ∈ addrT s (sweptL s).length ↔ ∃ i, i < slK s.k ∧ s.F i = true ∧ s.M i = false ∧ x = s.addr i := by
  unfold addrT
  rw [List.take_length, List.mem_map]
  constructor
  · rintro ⟨i, h, e⟩
    obtain ⟨h1, h2, h3⟩ := swept_mem.1 h
    exact ⟨i, h1, h2, h3, e.symm⟩
  · rintro ⟨i, h1, h2, h3, e⟩
    exact ⟨i, swept_mem.2 ⟨h1, h2, h3⟩, e.symm⟩
theorem filt_len (p : Nat → Bool) : ∀ l : List Nat, (l.filter fun i => !(p i)).length + (l.filter p).length = l.length
  | [] => rfl
  | x :: l => by
    have ih := filt_len p l
    cases h : p x <;> simp [List.filter_cons, h] <;> omega
theorem swept_len {s : Sp} (hm : ∀ i, s.M i = true → s.F i = true) : (sweptL s).length + cntF s.M (slK s.k) = cntF s.F (slK s.k) := by
  rw [← allN_len s.F, ← allN_len s.M]
  have h1 := filt_len s.M (allN s.F (slK s.k))
  have h2 : (allN s.F (slK s.k)).filter s.M = allN s.M (slK s.k) := by
    unfold allN
    rw [List.filter_filter]
    refine List.filter_congr fun i _ => ?_
    cases h : s.M i
    · rfl
    · rw [hm i h]; rfl
  rw [h2] at h1
  unfold sweptL
  omega
theorem ArI.swept_le {N : Nat} {a : Ar} (I : ArI N a) {id : Nat} {s : Sp} (hs : a.sp id = some s) : (sweptL s).length * szK s.k ≤ a.live := by
  have h1 := livN_one (N := N) hs (I.ok.top id s hs)
  have h2 := swept_len (fun i => I.mf id s i hs)
  have h3 : (sweptL s).length * szK s.k ≤ cntF s.F (slK s.k) * szK s.k := Nat.mul_le_mul_right _ (by omega)
  have h4 := I.lv
  have h5 : spW (some s) = cntF s.F (slK s.k) * szK s.k := rfl
  omega
theorem ArI.sweep {N : Nat} {a : Ar} (I : ArI N a) {id : Nat} {s : Sp} (hs : a.sp id = some s) : ArI N (sweepA a id s (sweptL s).length) := by
  have hk := (I.ok.pg id s hs).1
  refine I.turned (s' := sweptS s) hs (I.ok.turned (s' := sweptS s) hs rfl rfl (fun x => ?_) (fun x xs hx => ?_)) (fun i hm => by cases hm) (fun i hi => ?_) ?_
  · have h2 := I.ok.obs hs x
    have h3 := addrT_all (s := s) (x := x)
    unfold obT
    by_cases e : x ∈ addrT s (sweptL s).length
    · rw [if_pos e]
      obtain ⟨i, g1, g2, g3, g4⟩ := h3.1 e
      constructor
      · intro h; cases h
      · rintro (⟨j, k1, k2, k3⟩ | ⟨id', t, j, k0, k1, k2, k3, k4⟩)
        · have k5 : s.M j = true := k2
          rw [g4] at k3
          rw [← Sp.addr_inj hk k3, g3] at k5; cases k5
        · rw [g4] at k4
          exact absurd (I.ok.other hs k1 g1 k2 k4).symm k0
    · rw [if_neg e, h2]
      constructor
      · rintro (⟨j, k1, k2, k3⟩ | h)
        · refine .inl ⟨j, k1, ?_, k3⟩
          show s.M j = true
          cases hM : s.M j
          · exact absurd (h3.2 ⟨j, k1, k2, hM, k3⟩) e
          · rfl
        · exact .inr h
      · rintro (⟨j, k1, k2, k3⟩ | h)
        · exact .inl ⟨j, k1, I.mf id s j hs k2, k3⟩
        · exact .inr h
  · unfold obT at hx
    by_cases e : x ∈ addrT s (sweptL s).length
    · rw [if_pos e] at hx; cases hx
    · rw [if_neg e] at hx; exact I.ok.len x xs hx
  · show s.M i = false
    have hi2 : slK s.k ≤ i := hi
    cases hM : s.M i
    · rfl
    · have h1 := I.mf id s i hs hM
      rw [I.fz id s i hs hi2] at h1; cases h1
  · show a.live - (sweptL s).length * szK s.k + cntF s.F (slK s.k) * szK s.k = a.live + cntF s.M (slK s.k) * szK s.k
    have h1 := I.swept_le hs
    have h2 := swept_len (fun i => I.mf id s i hs)
    rw [← h2, Nat.add_mul]
    omega
/-! Span -/
theorem ArI.more {N N' : Nat} {a : Ar} (I : ArI N a) (h : N ≤ N') : ArI N' a := by
  have ok := I.ok
  refine ⟨⟨ok.ok, ok.n, fun i s hs => Nat.lt_of_lt_of_le (ok.top i s hs) h, ok.ow, ok.pg, ok.ob, ok.len⟩, I.mf, I.fz, ?_⟩
  rw [livN_more (fun j hj => ?_) h]
  · exact I.lv
  · cases e : a.sp j with
    | none => rfl
    | some s => have := ok.top j s e; omega
theorem says_fits {k : Nat} {l l' : List R} {f : Nat} (hk : 1 ≤ k) (hs : AllocSays l (k : Nat) (f : Nat) 0 l') : ∃ r, Best l k r ∧ r.f = f ∧ l' = cutR l r k := by
  rcases hs with ⟨h, _⟩ | ⟨_, _, _, h, _⟩ | ⟨_, r, hb, h1, _, h2⟩
  · omega
  · cases h
  · exact ⟨r, by rw [Int.toNat_natCast] at hb; exact hb, by omega, by rw [Int.toNat_natCast] at h2; exact h2⟩
theorem ArI.span {N : Nat} {a : Ar} (I : ArI N a) {id q f : Nat} {l' : List R} (hq : q < 16) (hid : a.sp id = none) (hN : id < N) (hs : AllocSays a.l (pgK q : Nat) (f : Nat) 0 l') : ArI N (spanA a l' id q f) := by
  have ok := I.ok
  have hpg := (kF hq).2.2.2.2.1
  obtain ⟨r, ⟨hr, hkr, -⟩, hf, hl⟩ := says_fits hpg hs
  have bd := ok.ok.1.bd r hr
  have hn := ok.ok.2
  have hfr := fun x => cutR_fr ok.ok hr hkr x
  have get : ∀ {i t}, updF a.sp id (some ⟨f, q, fun _ => false, fun _ => false, 0⟩) i = some t → (i = id ∧ t = ⟨f, q, fun _ => false, fun _ => false, 0⟩) ∨ (i ≠ id ∧ a.sp i = some t) := fun {i t} ht => by
    by_cases e : i = id
    · left; subst e
      rw [updF_same] at ht
      injection ht with ht
      exact ⟨rfl, ht.symm⟩
    · right; rw [updF_other _ _ e] at ht; exact ⟨e, ht⟩
  have hin : ∀ p, f ≤ p → p < f + pgK q → Fr a.l p := fun p h1 h2 => ⟨r, hr, by omega, by omega⟩
  refine ⟨⟨by show Okn a.n l'; rw [hl]; exact cutR_ok ok.ok hr hkr, ok.n, fun i t ht => ?_, fun i t p ht h1 h2 => ?_, fun i t ht => ?_, fun x => ?_, ok.len⟩, fun i t j ht hm => ?_, fun i t j ht hj => ?_, ?_⟩
  · rcases get ht with ⟨rfl, -⟩ | ⟨_, h⟩
    · exact hN
    · exact ok.top _ _ h
  · show (if f ≤ p ∧ p < f + pgK q then some id else a.ow p) = some i
    rcases get ht with ⟨rfl, rfl⟩ | ⟨_, h⟩
    · rw [if_pos ⟨h1, h2⟩]
    · rw [if_neg (fun hp => (ok.pg i t h).2.2.2 p h1 h2 (hin p hp.1 hp.2))]
      exact ok.ow i t p h h1 h2
  · rcases get ht with ⟨rfl, rfl⟩ | ⟨_, h⟩
    · refine ⟨hq, by show 1 ≤ f; omega, by show f + pgK q ≤ a.n; omega, fun p h1 h2 => ?_⟩
      show ¬ Fr l' p
      rw [hl, hfr]
      rintro ⟨_, h3⟩
      exact h3 ⟨by rw [hf]; exact h1, by rw [hf]; exact h2⟩
    · obtain ⟨h1, h2, h3, h4⟩ := ok.pg i t h
      refine ⟨h1, h2, h3, fun p g1 g2 => ?_⟩
      show ¬ Fr l' p
      rw [hl, hfr]
      exact fun g => h4 p g1 g2 g.1
  · show (a.ob x).isSome = true ↔ _
    rw [ok.ob]
    constructor
    · rintro ⟨id', t, i, h1, h2⟩
      exact ⟨id', t, i, by rw [← h1]; exact updF_other _ _ (fun e => by rw [e, hid] at h1; cases h1), h2⟩
    · rintro ⟨id', t, i, h1, h2, h3, h4⟩
      rcases get h1 with ⟨rfl, rfl⟩ | ⟨_, h⟩
      · cases h3
      · exact ⟨id', t, i, h, h2, h3, h4⟩
  · rcases get ht with ⟨rfl, rfl⟩ | ⟨_, h⟩
    · cases hm
    · exact I.mf i t j h hm
  · rcases get ht with ⟨rfl, rfl⟩ | ⟨_, h⟩
    · rfl
    · exact I.fz i t j h hj
  · show a.live = livN (updF a.sp id (some ⟨f, q, fun _ => false, fun _ => false, 0⟩)) N
    have h1 := livN_upd (f := a.sp) (v := some ⟨f, q, fun _ => false, fun _ => false, 0⟩) hN
    rw [hid] at h1
    have h2 : spW (some ⟨f, q, fun _ => false, fun _ => false, 0⟩) = 0 := by
      show cntF (fun _ => false) (slK q) * szK q = 0
      have : cntF (fun _ => false) (slK q) = 0 := by
        generalize slK q = m
        induction m with
        | zero => rfl
        | succ m ih => rw [cntF, ih]; rfl
      rw [this, Nat.zero_mul]
    have h3 : spW none = 0 := rfl
    have h4 := I.lv
    omega
end Go.Proofs.YtkocikpoagfonaaDoor
