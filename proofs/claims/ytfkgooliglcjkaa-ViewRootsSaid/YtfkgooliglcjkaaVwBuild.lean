/- A view that is being built: its block, its globals, its objects. Plain theorems on worlds. -/
import Derived.Test.YtfkgooliglcjkaaVwChainLaw
import Derived.Test.YtfkgooliglcjkaaOwnO
namespace Go.Proofs.Ytfkgooliglcjkaa
open Go.RowKit

theorem mod_n (x : Int) (m : Nat) (hm : 1 ≤ m) (hm2 : m ≤ 1000000) : ∃ n : Nat, n < m ∧ wrap64 ((IntKind.u64.wrap x).tmod m) = n := by
  have h0 : 0 ≤ IntKind.u64.wrap x := by rw [IntKind.wrap_u64]; omega
  rw [Int.tmod_eq_emod_of_nonneg h0]
  have h1 := Int.emod_nonneg (IntKind.u64.wrap x) (b := (m : Int)) (by omega)
  have h2 := Int.emod_lt_of_pos (IntKind.u64.wrap x) (b := (m : Int)) (by omega)
  obtain ⟨n, hn⟩ : ∃ n : Nat, (n : Int) = (IntKind.u64.wrap x) % (m : Int) := ⟨((IntKind.u64.wrap x) % (m : Int)).toNat, by omega⟩
  exact ⟨n, by omega, by unfold wrap64; omega⟩
def bdCells (vg vo : Value) : Array Value := #[.int .i64 0, .int .i64 0, .int .i64 0, vg, .slice none 0 0, vo, .int .i64 0, .int .i64 0, .int .i64 0]
structure BdI (w0 : World) (B : Nat) (gv : Nat) (vg vo : Value) (G : List Int) (os : List Ob) (w : World) : Prop where
  b : Blk w gv 26 (bdCells vg vo)
  g : OwnI 3 w vg G
  o : OwnO w B vo os
  c : Chg [] w0 w
  fg : ∀ k ∈ fpv vg, w0.heap.size ≤ k
  fo : ∀ k ∈ fpv vo, w0.heap.size ≤ k
  fv : w0.heap.size ≤ gv
theorem OwnO.ne_blk {w : World} {B : Nat} {v : Value} {os : List Ob} (h : OwnO w B v os) {g : Nat} {t : TypeId} {cs : Array Value} (hb : Blk w g t cs) (hn : t ≠ 30) : g ∉ fpv v := by
  obtain ⟨ss, _, ho, _⟩ := h.ex
  exact fun hm => own_ne ho hb hn.symm (mem_fpv.1 hm)
theorem OwnI.apartO {w : World} {B : Nat} {v u : Value} {xs : List Int} {os : List Ob} (h : OwnI 3 w v xs) (ho : OwnO w B u os) : ∀ k ∈ fpv v, k ∉ fpv u := fun k hk => by
  rcases h.o.2 with ⟨rfl, _⟩ | ⟨g, cap, cur, rfl, _, hg, _⟩
  · simp [fpv, Value.ownBlock] at hk
  · have e : k = g := by simpa [fpv, Value.ownBlock, eq_comm] using hk
    subst e
    exact ho.ne_blk (cs := cur) hg (by decide)
section
variable {w0 w w' : World} {B gv : Nat} {vg vo v' : Value} {G : List Int} {os : List Ob}
theorem BdI.chg (h : BdI w0 B gv vg vo G os w) (c : Chg [] w w') : BdI w0 B gv vg vo G os w' :=
  ⟨c.blk h.b (by simp), h.g.chg0 c, h.o.chg0 c, h.c.trans c, h.fg, h.fo, h.fv⟩
/-- A new list of objects, stored. -/
theorem BdI.putO {os' : List Ob} (h : BdI w0 B gv vg vo G os w) (O : OwnO w' B v' os') (S : Stp (fpv vo) (fpv v') w w') : BdI w0 B gv vg v' G os' (w'.setCell ⟨gv, 5, none⟩ v') := by
  have hb := S.c.blk h.b (h.o.ne_blk h.b (by decide))
  have C : Chg [gv] w' (w'.setCell ⟨gv, 5, none⟩ v') := (Chg.refl [gv] w').setCell (.inl (by simp)) v'
  have G2 := h.g.chg S.c (h.g.apartO h.o)
  refine ⟨hb.setv 5 v' rfl, G2.chg C (fun k hk hm => ?_), O.chgT C hb (by decide) (by decide), (h.c.new S.c h.fo).new C (by intro k hk; have := only1 hk; subst this; exact h.fv), h.fg, fun k hk => ?_, h.fv⟩
  · have := only1 hm
    subst this
    exact G2.ne_blk hb (by decide) hk
  · rcases S.f k hk with h1 | h1
    · exact h.fo k h1
    · exact Nat.le_trans h.c.size h1
/-- New globals, stored. -/
theorem BdI.putG {G' : List Int} (h : BdI w0 B gv vg vo G os w) (O : OwnI 3 w' v' G') (S : Stp (fpv vg) (fpv v') w w') (hlow : ∀ k ∈ fpv vg, k < B) : BdI w0 B gv v' vo G' os (w'.setCell ⟨gv, 3, none⟩ v') := by
  have hb := S.c.blk h.b (h.g.ne_blk h.b (by decide))
  have C : Chg [gv] w' (w'.setCell ⟨gv, 3, none⟩ v') := (Chg.refl [gv] w').setCell (.inl (by simp)) v'
  have hO : OwnO w' B vo os := by
    rcases h.g.o.2 with ⟨e, _⟩ | ⟨g, cap, cur, e, _, hg, _⟩
    · exact h.o.chg0 (by have := S.c; rw [e] at this; exact this)
    · have e2 : ∀ k ∈ fpv vg, k = g := fun k hk => by rw [e] at hk; simpa [fpv, Value.ownBlock, eq_comm] using hk
      exact h.o.chgLow (cs := cur) S.c e2 hg (hlow g (by rw [e]; simp [fpv, Value.ownBlock]))
  refine ⟨hb.setv 3 v' rfl, O.chg C (fun k hk hm => ?_), hO.chgT C hb (by decide) (by decide), (h.c.new S.c h.fg).new C (by intro k hk; have := only1 hk; subst this; exact h.fv), fun k hk => ?_, h.fo, h.fv⟩
  · have := only1 hm
    subst this
    exact O.ne_blk hb (by decide) hk
  · rcases S.f k hk with h1 | h1
    · exact h.fg k h1
    · exact Nat.le_trans h.c.size h1
theorem BdI.vw (h : BdI w0 B gv vg vo G os w) (hG : ∀ x ∈ G, WfI x) (hw : ∀ o ∈ os, WfI o.addr ∧ ∀ x ∈ o.slots, WfI x) (hl : ∀ o ∈ os, o.slots.length ≤ 1000000) (h1 : G.length ≤ 1000000) (h2 : os.length ≤ 1000000) :
    VwAt w w.heap.size (.agg (bdCells vg vo)) ⟨0, 0, 0, G, [], os, 0, 0, 0⟩ := by
  obtain ⟨A, c, rfl⟩ := h.o.slice
  have hz : WfI 0 := ⟨by decide, by decide⟩
  have hm : (1000000 : Nat) ≤ maxLen := by decide
  exact ⟨⟨vg, none, 0, A, c, rfl, h.g.sl hG (Nat.le_trans h1 hm), ⟨fun i g hg => by simp at hg⟩, h.o.obs hw (fun o ho => Nat.le_trans (hl o ho) hm), by simp, Nat.le_trans h2 hm⟩, hz, hz, hz, hz, hz, hz⟩
end
end Go.Proofs.Ytfkgooliglcjkaa
