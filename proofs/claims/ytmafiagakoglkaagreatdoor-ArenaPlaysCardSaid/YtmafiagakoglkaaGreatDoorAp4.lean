/- ArenaPlays: each op, done to the code's arena and then to the document's: they tell the same, and both are one arena again. -/
import Derived.Test.YtmafiagakoglkaaGreatDoorAp1
import Derived.Test.YtmafiagakoglkaaGreatDoorRm
import Derived.Test.YtmafiagakoglkaaGreatDoorRp
import Derived.Test.YtmafiagakoglkaaGreatDoorRq
import Derived.Test.YtmafiagakoglkaaGreatDoorMOb
namespace Go.Proofs.YtmafiagakoglkaaGreatDoor
open Go.RowKit Go.Maps

theorem at_uniq {N : Nat} {a : Ar} (ok : ArOk N a) {id id' i i' : Nat} {s s' : Sp} (hs : a.sp id = some s) (hi : i < slK s.k) (hs' : a.sp id' = some s') (hi' : i' < slK s'.k) (e : s.addr i = s'.addr i') : id = id' ∧ s = s' ∧ i = i' := by
  have h1 := ok.other hs hs' hi hi' e
  subst h1
  rw [hs] at hs'
  cases hs'
  exact ⟨rfl, rfl, Sp.addr_inj (ok.pg _ s hs).1 e⟩
/-- Behind both. -/
def NxPost (W : World) (g rg n N b m : Nat) (v : Value) (e : Ending) (w3 : World) : Prop :=
  e = .returned v ∧ ∃ h' hr' a' ids' N' b' m', N' ≤ N + 1 ∧ b' ≤ b + 6 ∧ m' ≤ m + 256 ∧ a'.n = n ∧ ApT W g rg h' hr' a' ids' N' b' m' w3
/-- Behind the code's: what it tells is a v of the form V, and the document's f tells the same. -/
def OpPost (W : World) (g rg : Nat) (h : ArH) (a : Ar) (N b m : Nat) (V : Value → Prop) (f : FuncId) (args : Array Value) (w : World) (e : Ending) (w1 : World) : Prop :=
  ∃ v, V v ∧ e = .returned v ∧ (∀ bx t cs, Blk w bx t cs → ¬ ArF h a bx → Blk w1 bx t cs) ∧ ∀ w2, Chg [] w1 w2 → Calls Tryz.prog f args w2 (NxPost W g rg a.n N b m v)
def IsPair (v : Value) : Prop := ∃ p c : Int, v = .tuple #[.int .i64 p, .int .i64 c]
def IsInt (v : Value) : Prop := ∃ c : Int, v = .int .i64 c
def IsBool (v : Value) : Prop := ∃ c : Bool, v = .bool c
theorem StA.box {h h' : ArH} {a a' : Ar} {w w' : World} (st : StA h a h' a' w w') {bx : Nat} {t : TypeId} {cs : Array Value} (B : Blk w bx t cs) (hn : ¬ ArF h a bx) : Blk w' bx t cs := (st.block bx B.lt hn).trans B
theorem Chg.box {w w' : World} (c : Chg [] w w') {bx : Nat} {t : TypeId} {cs : Array Value} (B : Blk w bx t cs) : Blk w' bx t cs := c.blk B (by simp)
section
variable {W w : World} {g rg N b m : Nat} {h : ArH} {hr : RaH} {a : Ar} {ids : List Nat} (T : ApT W g rg h hr a ids N b m w)
include T
theorem ApT.len : ids.length ≤ N := T.M.len_le T.S.I.ok
theorem ApT.nx0 {w3 : World} (c : Chg [] w w3) (v : Value) : NxPost W g rg a.n N b m v (.returned v) w3 := ⟨rfl, h, hr, a, ids, N, b, m, by omega, by omega, by omega, rfl, T.chg0 c⟩
theorem ApT.nx {w1 w2 w3 : World} {h1 : ArH} {hr' : RaH} {a' : Ar} {ids' : List Nat} {N' b' m' : Nat} (S1 : ArS W w1 g h1 a' N' b') (st : StA h a h1 a' w w1) (c2 : Chg [] w1 w2) (M2 : RaM w3 hr' a' ids') (sr : StR hr a hr' a' w2 w3) (hg : hr'.g = hr.g) (hm : hr'.mw ≤ m') (hN : N' ≤ N + 1) (hb : b' ≤ b + 6) (hm' : m' ≤ m + 256) (hn : a'.n = a.n) (v : Value) :
    NxPost W g rg a.n N b m v (.returned v) w3 :=
  ⟨rfl, h1, hr', a', ids', N', b', m', hN, hb, hm', hn, T.both (S1.chg0 c2) (st.trans (StA.same c2)) M2 sr hg hm⟩
theorem ap_span (hb : b ≤ 1000000) (hN : N ≤ 100000) (han : a.n ≤ 200) (k : Int) : Calls Tryz.prog 75 #[.pointer (some ⟨g, 0, none⟩), .int .i64 k] w
    (OpPost W g rg h a N b m IsPair 79 #[.pointer (some ⟨rg, 0, none⟩), .int .i64 k] w) := by
  have hl := T.len
  refine (g_span T.S hb (by omega) k).mono ?_
  rintro e w1 (⟨hk, rfl, c1⟩ | ⟨q, rfl, hq, x, c, l', hs, hc⟩)
  · refine ⟨_, ⟨_, _, rfl⟩, rfl, fun bx t cs B _ => c1.box B, fun w2 c2 => ?_⟩
    have h1 := raspan_ok w2 hr a ids (T.M.chg0 (c1.trans c2)) (by omega) N hN T.S.I.ok han k
    rw [T.rg] at h1
    refine h1.mono ?_
    rintro e w3 (⟨_, rfl, c3⟩ | ⟨q, rfl, hq, -⟩)
    · exact T.nx0 ((c1.trans c2).trans c3) _
    · exact absurd ⟨by omega, by omega⟩ hk
  · have nk : isK ((q : Nat) : Int) := ⟨by omega, by omega⟩
    rcases hc with ⟨hc, rfl, h', S', st⟩ | ⟨rfl, f, id, h', rfl, hn, hall, hid, rfl, S', st⟩
    · refine ⟨_, ⟨_, _, rfl⟩, rfl, fun bx t cs B hf => st.box B hf, fun w2 c2 => ?_⟩
      have h1 := raspan_ok w2 hr a ids ((T.mid st).chg0 c2) (by omega) N hN T.S.I.ok han (q : Nat)
      rw [T.rg] at h1
      refine h1.mono ?_
      rintro e w3 (⟨hk, -⟩ | ⟨q', hqq, _, x', c', l'', hs', h2⟩)
      · exact absurd nk hk
      · obtain rfl : q = q' := by omega
        obtain ⟨rfl, rfl, rfl⟩ := hs.uniq hs'
        rcases h2 with ⟨_, rfl, M3, sr⟩ | ⟨h0, -⟩
        · exact T.nx S' st c2 M3 sr rfl T.mw (by omega) (by omega) (by omega) rfl _
        · exact absurd h0 hc
    · refine ⟨_, ⟨_, _, rfl⟩, rfl, fun bx t cs B hf => st.box B hf, fun w2 c2 => ?_⟩
      have h1 := raspan_ok w2 hr a ids ((T.mid st).chg0 c2) (by omega) N hN T.S.I.ok han (q : Nat)
      rw [T.rg] at h1
      refine h1.mono ?_
      rintro e w3 (⟨hk, -⟩ | ⟨q', hqq, _, x', c', l'', hs', h2⟩)
      · exact absurd nk hk
      · obtain rfl : q = q' := by omega
        obtain ⟨rfl, rfl, rfl⟩ := hs.uniq hs'
        rcases h2 with ⟨h0, -⟩ | ⟨_, f', id', hr', ids', hff, hn', hall', rfl, hg, hmw, M3, sr⟩
        · exact absurd rfl h0
        · obtain rfl : f = f' := by omega
          have e2 : id = id' := by
            rcases Nat.lt_trichotomy id id' with h3 | h3 | h3
            · exact absurd hn (hall' id h3)
            · exact h3
            · exact absurd hn' (hall id' h3)
          subst e2
          have hmw2 : hr'.mw ≤ m := by rw [hmw]; exact T.mw
          exact T.nx S' st c2 M3 sr hg hmw2 (by omega) (by omega) (by omega) rfl _
theorem ap_drop (hN : N ≤ 100000) (han : a.n ≤ 200) (x : Int) (hx : Wf64 x) : Calls Tryz.prog 58 #[.pointer (some ⟨g, 0, none⟩), .int .i64 x] w
    (OpPost W g rg h a N b m IsInt 80 #[.pointer (some ⟨rg, 0, none⟩), .int .i64 x] w) := by
  have hl := T.len
  have ref : ∀ w2, RaM w2 hr a ids → Calls Tryz.prog 80 #[.pointer (some ⟨rg, 0, none⟩), .int .i64 x] w2 (RdpPost hr a ids x w2) := fun w2 M2 => by
    have h1 := radrop_ok w2 hr a ids M2 (by omega) N T.S.I.ok han x
    rwa [T.rg] at h1
  refine (g_drop T.S (by omega) x hx).mono ?_
  rintro e w1 (⟨hs, rfl, c1⟩ | ⟨j, s, rfl, hs, ⟨h0, rfl, c1⟩ | ⟨h0, h', l', rfl, hf, S', st⟩⟩)
  · refine ⟨_, ⟨_, rfl⟩, rfl, fun bx t cs B _ => c1.box B, fun w2 c2 => (ref w2 (T.M.chg0 (c1.trans c2))).mono ?_⟩
    rintro e w3 (⟨_, rfl, c3⟩ | ⟨id, s, rfl, hs', -⟩)
    · exact T.nx0 ((c1.trans c2).trans c3) _
    · unfold spI at hs; rw [if_pos (by omega), Int.toNat_natCast, hs'] at hs; cases hs
  · refine ⟨_, ⟨_, rfl⟩, rfl, fun bx t cs B _ => c1.box B, fun w2 c2 => (ref w2 (T.M.chg0 (c1.trans c2))).mono ?_⟩
    rintro e w3 (⟨hn, -⟩ | ⟨id, s', he, hs', h2⟩)
    · unfold spI at hn; rw [if_pos (by omega), Int.toNat_natCast, hs] at hn; cases hn
    · obtain rfl : j = id := by omega
      rw [hs] at hs'; cases hs'
      rcases h2 with ⟨_, rfl, c3⟩ | ⟨h3, -⟩
      · exact T.nx0 ((c1.trans c2).trans c3) _
      · omega
  · refine ⟨_, ⟨_, rfl⟩, rfl, fun bx t cs B hf => st.box B hf, fun w2 c2 => (ref w2 ((T.mid st).chg0 c2)).mono ?_⟩
    rintro e w3 (⟨hn, -⟩ | ⟨id, s', he, hs', h2⟩)
    · unfold spI at hn; rw [if_pos (by omega), Int.toNat_natCast, hs] at hn; cases hn
    · obtain rfl : j = id := by omega
      rw [hs] at hs'; cases hs'
      rcases h2 with ⟨h3, -⟩ | ⟨_, cc, l'', hr', ids', rfl, hf', hg, hmw, M3, sr⟩
      · omega
      · obtain ⟨-, rfl⟩ := hf.uniq hf'
        have hmw2 : hr'.mw ≤ m := by rw [hmw]; exact T.mw
        exact T.nx S' st c2 M3 sr hg hmw2 (by omega) (by omega) (by omega) rfl _
theorem ap_alloc (T0 : Tab W) (hb : b ≤ 1000000) (hm : m ≤ 1000000) (hN : N ≤ 6000) (x n : Int) (hx : Wf64 x) (black : Bool) : Calls Tryz.prog 48 #[.pointer (some ⟨g, 0, none⟩), .int .i64 x, .int .i64 n, .bool black] w
    (OpPost W g rg h a N b m IsPair 81 #[.pointer (some ⟨rg, 0, none⟩), .int .i64 x, .int .i64 n, .bool black] w) := by
  have hl := T.len
  have hmw := T.mw
  have ref : ∀ w2, RaM w2 hr a ids → Calls Tryz.prog 81 #[.pointer (some ⟨rg, 0, none⟩), .int .i64 x, .int .i64 n, .bool black] w2 (RalPost hr a ids x n black w2) := fun w2 M2 => by
    have h1 := raalloc_ok w2 hr a ids M2 (by omega) (by omega) N T.S.I x n black
    rwa [T.rg] at h1
  refine (s_alloc T.S T0 hb hN x n hx black).mono ?_
  rintro e w1 (⟨c, rfl, S', c1, hc⟩ | ⟨s, y, h', h0, hs, h1, h2, h3, h4, h5, h6, rfl, S', st⟩)
  · refine ⟨_, ⟨_, _, rfl⟩, rfl, fun bx t cs B _ => c1.box B, fun w2 c2 => (ref w2 (T.M.chg0 (c1.trans c2))).mono ?_⟩
    rintro e w3 (⟨c', rfl, M3, sr, hc'⟩ | ⟨s, y, m', h0, hs, h1, h2, h3, h4, h5, -⟩)
    · have e2 : c = c' := by
        rcases hc with ⟨hn, rfl⟩ | ⟨s, hs, hc⟩
        · rcases hc' with ⟨_, rfl⟩ | ⟨s, hs, _⟩
          · rfl
          · rw [hn] at hs; cases hs
        · rcases hc' with ⟨hn, _⟩ | ⟨s', hs', hc'⟩
          · rw [hn] at hs; cases hs
          · rw [hs] at hs'; cases hs'
            rcases hc with ⟨q1, rfl⟩ | ⟨q1, q2, q3, rfl⟩
            · rcases hc' with ⟨_, rfl⟩ | ⟨r1, r2, _⟩
              · rfl
              · omega
            · rcases hc' with ⟨r1, _⟩ | ⟨_, _, _, rfl⟩
              · omega
              · rfl
      subst e2
      exact T.nx T.S (StA.same (Chg.refl _ _)) (c1.trans c2) M3 sr rfl hmw (by omega) (by omega) (by omega) rfl _
    · exfalso
      have hs2 : spI a x = some s := by unfold spI; rw [if_pos h0]; exact hs
      rcases hc with ⟨hn, _⟩ | ⟨s', hs', hc⟩
      · rw [hs2] at hn; cases hn
      · rw [hs2] at hs'; cases hs'
        rcases hc with ⟨q1, _⟩ | ⟨_, _, q3, _⟩
        · omega
        · have := q3 y h3 h4
          rw [h5] at this; cases this
  · refine ⟨_, ⟨_, _, rfl⟩, rfl, fun bx t cs B hf => st.box B hf, fun w2 c2 => (ref w2 ((T.mid st).chg0 c2)).mono ?_⟩
    rintro e w3 (⟨c', rfl, M3, sr, hc'⟩ | ⟨s', y', m', h0', hs', h1', h2', h3', h4', h5', h6', rfl, hm', M3, sr⟩)
    · exfalso
      have hs2 : spI a x = some s := by unfold spI; rw [if_pos h0]; exact hs
      rcases hc' with ⟨hn, _⟩ | ⟨s', hs', hc⟩
      · rw [hs2] at hn; cases hn
      · rw [hs2] at hs'; cases hs'
        rcases hc with ⟨q1, _⟩ | ⟨_, _, q3, _⟩
        · omega
        · have := q3 y h3 h4
          rw [h5] at this; cases this
    · rw [hs] at hs'; cases hs'
      have e2 : y = y' := by
        rcases Nat.lt_trichotomy y y' with q | q | q
        · have := h6' y h3 q; rw [h5] at this; cases this
        · exact q
        · have := h6 y' h3' q; rw [h5'] at this; cases this
      subst e2
      exact T.nx S' st c2 M3 sr rfl (m' := m') (Nat.le_refl _) (by omega) (by omega) (by omega) rfl _
theorem ap_store (hm : m ≤ 1000000) (hN : N ≤ 100000) (x i v : Int) (hx : Wf64 x) : Calls Tryz.prog 76 #[.pointer (some ⟨g, 0, none⟩), .int .i64 x, .int .i64 i, .int .i64 v] w
    (OpPost W g rg h a N b m IsInt 82 #[.pointer (some ⟨rg, 0, none⟩), .int .i64 x, .int .i64 i, .int .i64 v] w) := by
  have hl := T.len
  have hmw := T.mw
  refine (s_store T.S x i v hx).mono ?_
  rintro e w1 ⟨rfl, S', st⟩
  refine ⟨_, ⟨_, rfl⟩, rfl, fun bx t cs B hf => st.box B hf, fun w2 c2 => ?_⟩
  have h1 := rastore_ok w2 hr a ids ((T.mid st).chg0 c2) (by omega) (by omega) N T.S.I.ok x i v
  rw [T.rg] at h1
  refine h1.mono ?_
  rintro e w3 ⟨rfl, m', hm', M3, c3⟩
  have hsp : ∀ id s', (putA a x i v).sp id = some s' → ∃ s, a.sp id = some s := fun id s' hs => ⟨s', by rw [← putA_sp x i v]; exact hs⟩
  have hn : (putA a x i v).n = a.n := by unfold putA; split <;> rfl
  refine T.nx S' st c2 M3 (StR.of_chg c3 (fun k hk => .inl ?_) (fun k hk => .inl (RaF.sp hsp hk))) rfl (m' := m') (Nat.le_refl _) (by omega) (by omega) (by omega) hn _
  have e : k = hr.bw := by simpa using hk
  exact .inr (.inr (.inr (.inr (.inr (.inr (.inl e))))))
theorem ap_mark (hN : N ≤ 100000) (x : Int) (hx : Wf64 x) : Calls Tryz.prog 14 #[.pointer (some ⟨g, 0, none⟩), .int .i64 x] w
    (OpPost W g rg h a N b m IsBool 70 #[.pointer (some ⟨rg, 0, none⟩), .int .i64 x] w) := by
  have hl := T.len
  have ref : ∀ w2, RaM w2 hr a ids → Calls Tryz.prog 70 #[.pointer (some ⟨rg, 0, none⟩), .int .i64 x] w2 (RmkPost hr a ids x w2) := fun w2 M2 => by
    have h1 := ramark_ok w2 hr a ids M2 (by omega) N T.S.I.ok x
    rwa [T.rg] at h1
  have seen : ∀ {id i : Nat} {s : Sp}, a.sp id = some s → i < slK s.k → s.F i = true → x = ((s.addr i : Nat) : Int) → (obI a x).isSome = true := fun hs hi hF e => by
    rw [e]; unfold obI; rw [if_pos (by omega), Int.toNat_natCast]; exact (T.S.I.ok.ob _).2 ⟨_, _, _, hs, hi, hF, rfl⟩
  refine (g_mark T.S (by omega) x hx).mono ?_
  rintro e w1 (⟨ho, rfl, c1⟩ | ⟨id, i, s, hs, hi, hF, he, rfl, S', st⟩)
  · refine ⟨_, ⟨_, rfl⟩, rfl, fun bx t cs B _ => c1.box B, fun w2 c2 => (ref w2 (T.M.chg0 (c1.trans c2))).mono ?_⟩
    rintro e w3 (⟨_, rfl, c3⟩ | ⟨id, i, s, hsome, -⟩)
    · exact T.nx0 ((c1.trans c2).trans c3) _
    · rw [ho] at hsome; cases hsome
  · refine ⟨_, ⟨_, rfl⟩, rfl, fun bx t cs B hf => st.box B hf, fun w2 c2 => (ref w2 ((T.mid st).chg0 c2)).mono ?_⟩
    rintro e w3 (⟨ho, -⟩ | ⟨id', i', s', -, hs', hi', hF', he', rfl, M3, c3⟩)
    · have := seen hs hi hF he; rw [ho] at this; cases this
    · obtain ⟨rfl, rfl, rfl⟩ := at_uniq T.S.I.ok hs hi hs' hi' (by omega)
      have hsp : ∀ j t, updF a.sp id (some (markS s i)) j = some t → ∃ s, a.sp j = some s := fun j t ht => by
        by_cases e : j = id
        · subst e; exact ⟨s, hs⟩
        · rw [updF_other _ _ e] at ht; exact ⟨t, ht⟩
      exact T.nx S' st c2 M3 (StR.of_chg c3 (fun k hk => .inl (.inr (.inr (.inr (.inr (.inr (.inr (.inr ⟨id, s, hs, .inl hk⟩)))))))) (fun k hk => .inl (RaF.sp (m := hr.mw) hsp hk))) rfl T.mw (by omega) (by omega) (by omega) rfl _
end
end Go.Proofs.YtmafiagakoglkaaGreatDoor
