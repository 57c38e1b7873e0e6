/- A view as it lies in memory, and as it reads. Plain theorems on worlds; no program in sight. -/
/- Package arena: Slots; an object as it is seen. -/
/- The keys of a map that is owned; lists that rise. Plain theorems. -/
/- The walk of package arena: Objects. -/
/- The walk of package arena: Spans. -/
import Derived.Test.YtcpljjacamibeaaGreatDoorNpJ
import Derived.Test.YtcpljjacamibeaaGreatDoorMZ
import Derived.Test.YtcpljjacamibeaaGreatDoorMArJ
import Derived.Test.YtcpljjacamibeaaGreatDoorMj6J
import Derived.Test.YtcpljjacamibeaaGreatDoorMClJ
import Derived.Lib.SlKeysI
import Derived.Maps.Range
import Derived.Test.YtcpljjacamibeaaGreatDoorShelf
namespace Go.Proofs.YtcpljjacamibeaaGreatDoor
set_option maxHeartbeats 16000000
set_option maxRecDepth 100000
open Go.RowKit
structure Ob where
  addr : Int
  slots : List Int
  marked : Bool
  deriving DecidableEq
structure Gr where
  state : Int
  p : Int
  stack : List Int
  deriving DecidableEq
structure Vw where
  phase : Int
  cycle : Int
  clock : Int
  globals : List Int
  gs : List Gr
  objects : List Ob
  grey : Int
  notes : Int
  roots : Int
  deriving DecidableEq
structure ObsAt (w : World) (B : Nat) (A : Option Addr) (os : List Ob) : Prop where
  at_ : ∀ i o, os[i]? = some o → ∃ b off s, A = some ⟨b, off, none⟩ ∧ b < B ∧ w.cell? ⟨b, off + i * 3, none⟩ = some (.int .i64 o.addr) ∧ w.cell? ⟨b, off + i * 3 + 1, none⟩ = some s ∧ w.cell? ⟨b, off + i * 3 + 2, none⟩ = some (.bool o.marked) ∧ SlI w B s o.slots ∧ WfI o.addr
structure GrsAt (w : World) (B : Nat) (A : Option Addr) (gs : List Gr) : Prop where
  at_ : ∀ i g, gs[i]? = some g → ∃ b off s, A = some ⟨b, off, none⟩ ∧ b < B ∧ w.cell? ⟨b, off + i * 3, none⟩ = some (.int .i64 g.state) ∧ w.cell? ⟨b, off + i * 3 + 1, none⟩ = some (.int .i64 g.p) ∧ w.cell? ⟨b, off + i * 3 + 2, none⟩ = some s ∧ SlI w B s g.stack ∧ WfI g.state ∧ WfI g.p
structure VwAt (w : World) (B : Nat) (v : Value) (V : Vw) : Prop where
  ex : ∃ g A1 c1 A2 c2, v = .agg #[.int .i64 V.phase, .int .i64 V.cycle, .int .i64 V.clock, g, .slice A1 V.gs.length c1, .slice A2 V.objects.length c2, .int .i64 V.grey, .int .i64 V.notes, .int .i64 V.roots] ∧
    SlI w B g V.globals ∧ GrsAt w B A1 V.gs ∧ ObsAt w B A2 V.objects ∧ V.gs.length ≤ maxLen ∧ V.objects.length ≤ maxLen
  wf : WfI V.phase ∧ WfI V.cycle ∧ WfI V.clock ∧ WfI V.grey ∧ WfI V.notes ∧ WfI V.roots
section
variable {w w' : World} {B : Nat} {S : List Nat}
theorem ObsAt.chg {A : Option Addr} {os : List Ob} (h : ObsAt w B A os) (c : Chg S w w') (hB : B ≤ w.heap.size) (hS : ∀ k ∈ S, B ≤ k) : ObsAt w' B A os := ⟨fun i o ho => by
  obtain ⟨b, off, s, e, hb, h1, h2, h3, h4, h5⟩ := h.at_ i o ho
  have hn : b ∉ S := fun hm => by have := hS b hm; omega
  exact ⟨b, off, s, e, hb, c.cellv (by omega) hn h1, c.cellv (by omega) hn h2, c.cellv (by omega) hn h3, h4.chg c hB hS, h5⟩⟩
theorem GrsAt.chg {A : Option Addr} {gs : List Gr} (h : GrsAt w B A gs) (c : Chg S w w') (hB : B ≤ w.heap.size) (hS : ∀ k ∈ S, B ≤ k) : GrsAt w' B A gs := ⟨fun i o ho => by
  obtain ⟨b, off, s, e, hb, h1, h2, h3, h4, h5⟩ := h.at_ i o ho
  have hn : b ∉ S := fun hm => by have := hS b hm; omega
  exact ⟨b, off, s, e, hb, c.cellv (by omega) hn h1, c.cellv (by omega) hn h2, c.cellv (by omega) hn h3, h4.chg c hB hS, h5⟩⟩
theorem VwAt.chg {v : Value} {V : Vw} (h : VwAt w B v V) (c : Chg S w w') (hB : B ≤ w.heap.size) (hS : ∀ k ∈ S, B ≤ k) : VwAt w' B v V := by
  obtain ⟨g, A1, c1, A2, c2, e, h1, h2, h3, h4, h5⟩ := h.ex
  exact ⟨⟨g, A1, c1, A2, c2, e, h1.chg c hB hS, h2.chg c hB hS, h3.chg c hB hS, h4, h5⟩, h.wf⟩
theorem ObsAt.mono {A : Option Addr} {os : List Ob} (h : ObsAt w B A os) {B' : Nat} (hB : B ≤ B') : ObsAt w B' A os := ⟨fun i o ho => by
  obtain ⟨b, off, s, e, hb, h1, h2, h3, h4, h5⟩ := h.at_ i o ho
  exact ⟨b, off, s, e, by omega, h1, h2, h3, h4.mono hB, h5⟩⟩
theorem GrsAt.mono {A : Option Addr} {gs : List Gr} (h : GrsAt w B A gs) {B' : Nat} (hB : B ≤ B') : GrsAt w B' A gs := ⟨fun i o ho => by
  obtain ⟨b, off, s, e, hb, h1, h2, h3, h4, h5⟩ := h.at_ i o ho
  exact ⟨b, off, s, e, by omega, h1, h2, h3, h4.mono hB, h5⟩⟩
theorem VwAt.mono {v : Value} {V : Vw} (h : VwAt w B v V) {B' : Nat} (hB : B ≤ B') : VwAt w B' v V := by
  obtain ⟨g, A1, c1, A2, c2, e, h1, h2, h3, h4, h5⟩ := h.ex
  exact ⟨⟨g, A1, c1, A2, c2, e, h1.mono hB, h2.mono hB, h3.mono hB, h4, h5⟩, h.wf⟩
end
/-! What views say: plain. -/
def addOnce (l : List Int) (x : Int) : List Int := if x = 0 ∨ x ∈ l then l else l ++ [x]
def Vw.said (V : Vw) : List Int := V.globals ++ (V.gs.filter fun g => g.state != 5).flatMap (·.stack)
def Vw.rootsL (V : Vw) : List Int := V.said.foldl addOnce []
def Vw.at_ (V : Vw) (a : Int) : Option Nat := V.objects.findIdx? fun o => o.addr == a
theorem mem_addOnce {l : List Int} {x y : Int} : y ∈ addOnce l x ↔ y ∈ l ∨ (y = x ∧ x ≠ 0) := by
  unfold addOnce
  split
  · next h =>
    constructor
    · exact .inl
    · rintro (h1 | ⟨rfl, h1⟩)
      · exact h1
      · rcases h with h | h
        · exact absurd h h1
        · exact h
  · next h =>
    rw [List.mem_append, List.mem_singleton]
    constructor
    · rintro (h1 | rfl)
      · exact .inl h1
      · exact .inr ⟨rfl, fun e => h (.inl e)⟩
    · rintro (h1 | ⟨rfl, _⟩)
      · exact .inl h1
      · exact .inr rfl
theorem mem_foldOnce : ∀ (xs l : List Int) (y : Int), y ∈ xs.foldl addOnce l ↔ y ∈ l ∨ (y ∈ xs ∧ y ≠ 0)
  | [], l, y => by simp
  | x :: xs, l, y => by
    rw [List.foldl_cons, mem_foldOnce xs, mem_addOnce, List.mem_cons]
    constructor
    · rintro ((h | ⟨rfl, h⟩) | ⟨h, h2⟩)
      · exact .inl h
      · exact .inr ⟨.inl rfl, h⟩
      · exact .inr ⟨.inr h, h2⟩
    · rintro (h | ⟨rfl | h, h2⟩)
      · exact .inl (.inl h)
      · exact .inl (.inr ⟨rfl, h2⟩)
      · exact .inr ⟨h, h2⟩
theorem mem_rootsL {V : Vw} {y : Int} : y ∈ V.rootsL ↔ y ∈ V.said ∧ y ≠ 0 := by unfold Vw.rootsL; rw [mem_foldOnce]; simp
inductive Rch (V : Vw) : Int → Prop
  | root {x : Int} : x ∈ V.said → x ≠ 0 → Rch V x
  | step {a x : Int} {k : Nat} {o : Ob} : Rch V a → V.at_ a = some k → V.objects[k]? = some o → x ∈ o.slots → x ≠ 0 → Rch V x
def Rising (l : List Int) : Prop := l.Pairwise (· < ·)
structure IsRch (V : Vw) (l : List Int) : Prop where
  s : Rising l
  m : ∀ x, x ∈ l ↔ Rch V x ∧ (V.at_ x).isSome = true
structure IsLost (V : Vw) (l : List Int) : Prop where
  s : Rising l
  m : ∀ x, x ∈ l ↔ Rch V x ∧ (V.at_ x).isSome = false
theorem rising_uniq : ∀ {l l' : List Int}, Rising l → Rising l' → (∀ x, x ∈ l ↔ x ∈ l') → l = l'
  | [], [], _, _, _ => rfl
  | [], y :: t, _, _, h => absurd ((h y).2 (List.mem_cons_self ..)) (by simp)
  | y :: t, [], _, _, h => absurd ((h y).1 (List.mem_cons_self ..)) (by simp)
  | x :: s, y :: t, h1, h2, h => by
    have a1 := List.pairwise_cons.1 h1
    have a2 := List.pairwise_cons.1 h2
    have e : x = y := by
      rcases List.mem_cons.1 ((h x).1 (List.mem_cons_self ..)) with e | e
      · exact e
      · rcases List.mem_cons.1 ((h y).2 (List.mem_cons_self ..)) with e' | e'
        · exact e'.symm
        · have := a1.1 y e'; have := a2.1 x e; omega
    subst e
    congr 1
    refine rising_uniq a1.2 a2.2 fun z => ?_
    have hz := h z
    rw [List.mem_cons, List.mem_cons] at hz
    constructor
    · intro q
      rcases hz.1 (.inr q) with e | e
      · subst e; have := a1.1 z q; omega
      · exact e
    · intro q
      rcases hz.2 (.inr q) with e | e
      · subst e; have := a2.1 z q; omega
      · exact e
def Vw.names (V : Vw) : List Int := V.said ++ V.objects.flatMap (·.slots)
theorem Rch.named {V : Vw} {x : Int} (h : Rch V x) : x ∈ V.names := by
  unfold Vw.names
  rw [List.mem_append]
  cases h with
  | root h _ => exact .inl h
  | step _ _ ho hx _ => exact .inr (List.mem_flatMap.2 ⟨_, List.mem_of_getElem? ho, hx⟩)
theorem nodup_leV : ∀ {l m : List Int}, l.Nodup → (∀ x ∈ l, x ∈ m) → l.length ≤ m.length
  | [], _, _, _ => Nat.zero_le _
  | x :: l, m, h, hs => by
    have h1 := List.nodup_cons.1 h
    have hx := hs x (List.mem_cons_self ..)
    have := nodup_leV (l := l) (m := m.erase x) h1.2 (fun y hy => (List.mem_erase_of_ne (by rintro rfl; exact h1.1 hy)).2 (hs y (List.mem_cons_of_mem _ hy)))
    rw [List.length_erase_of_mem hx] at this
    have := List.length_pos_of_mem hx
    simp only [List.length_cons]; omega
open Go.RowKit Go.Maps
theorem SlI.blkV {w : World} {g n c : Nat} {T : TypeId} {xs : List Int} (h : Blk w g T (xs.map (Value.int .i64)).toArray) (hn : n = xs.length) (hl : xs.length ≤ maxLen) (hw : ∀ x ∈ xs, WfI x) : SlI w w.heap.size (.slice (some ⟨g, 0, none⟩) n c) xs := by
  subst hn
  exact ⟨⟨_, _, rfl⟩, hl, fun A n c e i x hx => by
    injection e with e1 e2 e3
    exact ⟨g, 0, e1.symm, h.lt, by rw [Nat.zero_add]; exact h.cellv i (by simp [hx])⟩, hw⟩
open Classical in
noncomputable def mkI (a : Ar) (x : Int) : Bool := decide (∃ id i s, a.sp id = some s ∧ i < slK s.k ∧ s.F i = true ∧ x = (s.addr i : Nat) ∧ s.M i = true)
noncomputable def obA (a : Ar) (x : Int) : Ob := ⟨x, (obI a x).getD [], mkI a x⟩
section
variable {w0 w : World} {g N b : Nat} {h : ArH} {a : Ar} (S : ArS w0 w g h a N b)
include S
theorem s_slots (x : Int) (xs : List Int) (hx : Wf64 x) (ho : obI a x = some xs) (hw : ∀ y ∈ xs, WfI y) (hl : xs.length ≤ 1000) : Calls Tryz.prog 46 #[.pointer (some ⟨g, 0, none⟩), .int .i64 x] w (NlPost xs w) := by
  have hga := S.ga
  subst hga
  have M := S.M
  have b3 : w.cell? ⟨h.ga, 3, none⟩ = some (.map (some h.bj)) := M.b.cellv 3 rfl
  have hlk := M.j.look tyJ hx
  rw [obV_I, ho] at hlk
  have hl' : (Instr.lookup 182 (.map (some h.bj)) (.int .i64 x) false).run Tryz.prog w = .ok (.slice (some ⟨h.C x.toNat, 0, none⟩) xs.length xs.length) w := hlk
  have h0 : 0 ≤ x ∧ a.ob x.toNat = some xs := by
    unfold obI at ho
    by_cases h0 : 0 ≤ x
    · rw [if_pos h0] at ho; exact ⟨h0, ho⟩
    · rw [if_neg h0] at ho; cases ho
  have B := M.O _ _ h0.2
  have hS := SlI.blkV (c := xs.length) B rfl (by unfold maxLen; omega) hw
  have HS := Lib.hid (And.intro hS hl); clear hS hl B h0 hlk ho M S hw hx
  go_enter Tryz.func46, Tryz.ntmps46
  go_wp2_with (at_builtin; refine wpList_cat_sl rfl _ _ rfl slty (v := .slice none 0 0) rfl (OwnI.nil _ _) rfl HS.out.1 (by have := HS.out.2; simp; omega) ?_; intro A' c' w9 O9 S9; have S9 : Stp (fpv (.slice none 0 0)) (fpv (.slice A' (0 + xs.length) c')) w w9 := S9; have O9 : OwnI 3 w9 (.slice A' (0 + xs.length) c') ([] ++ xs) := O9; rw [Nat.zero_add] at O9 S9; have HO := Lib.hid (And.intro O9 S9); clear O9 S9)
  go_ret
  exact ⟨.slice A' xs.length c', rfl, HO.out.1, ⟨HO.out.2.c.os, HO.out.2.c.tape, HO.out.2.c.output, HO.out.2.c.size, fun k hk _ => HO.out.2.c.block k hk (by simp [fpv, Value.ownBlock])⟩, fun k hk => by
    rcases HO.out.2.f k hk with h | h
    · simp [fpv, Value.ownBlock] at h
    · exact h⟩
theorem s_mark_any (hN : N ≤ 1000000) (x : Int) (xs : List Int) (ho : obI a x = some xs) : Calls Tryz.prog 47 #[.pointer (some ⟨g, 0, none⟩), .int .i64 x] w (NwPost (.bool (mkI a x)) w) := by
  have h0 : 0 ≤ x ∧ a.ob x.toNat = some xs := by
    unfold obI at ho
    by_cases h0 : 0 ≤ x
    · rw [if_pos h0] at ho; exact ⟨h0, ho⟩
    · rw [if_neg h0] at ho; cases ho
  obtain ⟨id, s, i, hs, hi, hF, hx⟩ := (S.I.ok.ob x.toNat).1 (by rw [h0.2]; rfl)
  have ex : x = (s.addr i : Nat) := by omega
  have em : mkI a x = s.M i := by
    classical
    unfold mkI
    cases hm : s.M i with
    | true => exact decide_eq_true (p := ∃ id i s, a.sp id = some s ∧ i < slK s.k ∧ s.F i = true ∧ x = (s.addr i : Nat) ∧ s.M i = true) ⟨id, i, s, hs, hi, hF, ex, hm⟩
    | false =>
      refine decide_eq_false ?_
      rintro ⟨id', i', s', hs', hi', hF', hx', hm'⟩
      have hx2 : s.addr i = s'.addr i' := by omega
      have e1 := S.I.ok.other hs hs' hi hi' hx2
      subst e1
      rw [hs] at hs'; injection hs' with hs'; subst hs'
      have e2 := Sp.addr_inj (S.I.ok.pg id s hs).1 hx2
      subst e2
      rw [hm] at hm'; cases hm'
  rw [em, ex]
  exact s_marked S hN hs hi hF
end
theorem VMap.keys {P : Program} {K : TypeId} {w : World} {b n : Nat} {f : Int → Option Value} (h : VMap P K w b n f) (hK : P.underlying K = some (.int .i64)) :
    ∃ D : DataW Value, w.ownsMap P K heldE b n D ∧ Maps.size D ≤ n ∧ ∀ ss : List Int, ss.Perm (intKeys D) → ss.Nodup ∧ ∀ x, x ∈ ss ↔ (f x).isSome = true := by
  obtain ⟨D, ho, hm, hf⟩ := h.ex
  refine ⟨D, ho, ho.size_le, fun ss hs => ?_⟩
  obtain ⟨es, hD, hpw, _⟩ := ho.entries (int_keyed hK)
  obtain ⟨es', hD', hko⟩ := ho.keysOf
  obtain rfl : es = es' := by rw [hD] at hD'; simpa using hD'
  subst hD
  have hk : ∀ p ∈ es, ∃ x, p.1 = .int .i64 x := fun p hp => by
    obtain ⟨v, hv⟩ := hko p hp
    obtain ⟨x, _, hx, _⟩ := Maps.keyOf_i64 hK hv
    exact ⟨x, hx⟩
  refine ⟨hs.nodup_iff.2 ?_, fun x => ?_⟩
  · show (es.map fun p => Go.intOf p.1).Nodup
    refine List.pairwise_map.2 (hpw.imp_of_mem fun {p q} hp' hq' hne e => hne ?_)
    obtain ⟨a, ha⟩ := hk p hp'
    obtain ⟨b, hb⟩ := hk q hq'
    rw [ha, hb] at e ⊢
    exact congrArg _ e
  · rw [hs.mem_iff, ← (hf x).1, has_eq, List.any_eq_true]
    show x ∈ es.map (fun p => Go.intOf p.1) ↔ _
    rw [List.mem_map]
    constructor
    · rintro ⟨p, hp', rfl⟩
      obtain ⟨a, ha⟩ := hk p hp'
      exact ⟨p, hp', by rw [ha]; simp [Lit.sameKey, Go.intOf]⟩
    · rintro ⟨p, hp', hs'⟩
      obtain ⟨a, ha⟩ := hk p hp'
      rw [ha] at hs'
      exact ⟨p, hp', by rw [ha]; simpa [Lit.sameKey, Go.intOf] using hs'⟩
open Go.RowKit Go.Maps Go.Sort Go.Shelf
theorem obj_sorts (m : Nat) : AnyZI.SortsIn Tryz.prog Tryz.laysSorted_ren Fence.wide m :=
  ⟨fun blk off cap ss W hH hblk hsz => callsIn_wide.2 (Tryz.slices_Sort_int blk off cap ss W hH hblk hsz), fun p cap W => callsIn_wide.2 (Tryz.slices_Sort_int_none p cap W)⟩
theorem keys_ok (mb : Option Nat) (w : World) : Calls Tryz.prog 96 #[.map mb] w fun e w' => e = .returned (.func (.func 159) #[] #[.pointer (some ⟨w.heap.size, 0, none⟩)]) ∧ w' = w.alloc (.cells #[.map mb] 182) :=
  (callsIn_wide (n := 5)).1 (AnyZI.keys_in Tryz.laysKeys Fence.wide 5 trivial rfl mb w)
def KsPost (f : Int → Bool) (w : World) (e : Ending) (w' : World) : Prop := ∃ v ks, e = .returned v ∧ OwnI 3 w' v ks ∧ Chg [] w w' ∧ (∀ k ∈ fpv v, w.heap.size ≤ k) ∧ Rise ks ∧ ∀ x, x ∈ ks ↔ f x = true
theorem sortedkeys_ok (w : World) (b n : Nat) (f : Int → Option Value) (V : VMap Tryz.prog 3 w b n f) (hn : n ≤ 2000000) :
    Calls Tryz.prog 95 #[.func (.func 159) #[] #[.pointer (some ⟨w.heap.size, 0, none⟩)]] (w.alloc (.cells #[.map (some b)] 182)) (KsPost (fun x => (f x).isSome) (w.alloc (.cells #[.map (some b)] 182))) := by
  obtain ⟨D0, hown, hsz, hks⟩ := V.keys Tryz.underlying3
  have hbl := hown.lt
  have hseq : SeqGives Fence.wide 2 Tryz.prog 159 #[.pointer (some ⟨w.heap.size, 0, none⟩)] encZ (fun ss => ss.Perm (intKeys D0)) (Maps.size D0) (w.alloc (.cells #[.map (some b)] 182)) :=
    AnyZI.keys_gives (ρ := Tryz.laysKeys_ren) { Tryz.laysKeys with } Fence.wide _ trivial rfl (by omega) w.heap.size b n D0 _ (by simp) (by simp) (by
      obtain ⟨es, clock, hb, Ft, hs, hD⟩ := hown
      exact ⟨es, clock, (Below.heap_alloc _ _ b hbl).trans hb, Ft, hs, hD⟩)
  have cS := AnyZI.sorted_in Tryz.laysSorted Fence.wide 5 trivial trivial trivial trivial rfl (by omega) (obj_sorts _) (enters_of Tryz.func149 (by kernel_rfl) rfl) 159 #[.pointer (some ⟨w.heap.size, 0, none⟩)] trivial (enters_of Tryz.func159 (by kernel_rfl) rfl) _ _ (by unfold maxLen; omega) (by omega) _ hseq
  refine ((callsIn_wide (n := 5)).1 cS).mono ?_
  rintro e w' ⟨v, ss, rfl, hS, ho, -, hb⟩
  obtain ⟨hnd, hmem⟩ := hks ss hS
  refine ⟨v, _, rfl, ⟨⟨?_, ?_⟩⟩, Chg.of_below hb, fun k hk => (ho.lt k (mem_fpv.1 hk)).1, rise_sorted hnd, fun x => by rw [List.mem_mergeSort]; exact hmem x⟩
  · rw [List.length_mergeSort]; exact ho.1
  · rw [List.length_mergeSort]
    exact ho.2.imp id fun ⟨g, cap, cur, h1, _, h3⟩ => ⟨g, cap, cur, h1, Nat.zero_le _, h3⟩
section
variable {w0 w : World} {g N b : Nat} {h : ArH} {a : Ar} (S : ArS w0 w g h a N b)
include S
theorem s_objects (hb : b ≤ 1000000) : Calls Tryz.prog 45 #[.pointer (some ⟨g, 0, none⟩)] w (KsPost (fun x => (obI a x).isSome) w) := by
  obtain rfl : h.ga = g := S.ga
  have hm := S.m
  have b1 : w.cell? ⟨h.ga, 3, none⟩ = some (.map (some h.bj)) := S.M.b.cellv 3 rfl
  have hK := sortedkeys_ok w h.bj h.m _ S.M.j (by omega)
  have e : ∀ x, (natV (obV h a) x).isSome = (obI a x).isSome := fun x => by rw [obV_I]; cases obI a x <;> rfl
  have HK := Lib.hid (And.intro hK e); clear hK e S
  go_enter Tryz.func45, Tryz.ntmps45
  go_wp2_with fail
  refine (keys_ok _ _).mono ?_
  rintro e w1 ⟨rfl, rfl⟩
  go_wp2_with fail
  refine HK.out.1.mono ?_
  rintro e w2 ⟨v, ks, rfl, O, c, f, r, m⟩
  have HO := Lib.hid (And.intro O (And.intro c (And.intro f (And.intro r m)))); clear O c f r m
  obtain ⟨A, cc, rfl⟩ := HO.out.1.slice
  go_wp2_with fail
  go_ret
  refine ⟨_, ks, rfl, HO.out.1, ((Chg.refl [] w).alloc _).trans HO.out.2.1, fun k hk => ?_, HO.out.2.2.2.1, fun x => by rw [HO.out.2.2.2.2 x, HK.out.2 x]⟩
  have := HO.out.2.2.1 k hk
  simp at this
  omega
end
section
variable {w0 w : World} {g N b : Nat} {h : ArH} {a : Ar} (S : ArS w0 w g h a N b)
include S
end
end Go.Proofs.YtcpljjacamibeaaGreatDoor
