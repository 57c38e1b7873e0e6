/- Package page's contracts for a walk that owns a page beside other blocks; told of layer 5. -/
import Derived.Test.YtcmligooekbodaaPgRest
namespace Go.Proofs.Ytcmligooekbodaa
open Go.RowKit

/-- Blocks of S are as they were. -/
def Keep (S : List Nat) (w w' : World) : Prop := ∀ k ∈ S, w'.heap[k]? = w.heap[k]?
theorem Keep.refl (S : List Nat) (w : World) : Keep S w w := fun _ _ => rfl
theorem Keep.trans {S : List Nat} {a b c : World} (h : Keep S a b) (k : Keep S b c) : Keep S a c := fun j hj => (k j hj).trans (h j hj)
theorem Keep.blk {S : List Nat} {w w' : World} (h : Keep S w w') {k : Nat} {t : TypeId} {cs : Array Value} (hb : Blk w k t cs) (hk : k ∈ S) : Blk w' k t cs := (h k hk).trans hb
theorem Keep.of_chg {S T : List Nat} {w w' : World} (h : Chg T w w') (hs : ∀ k ∈ S, k < w.heap.size ∧ k ∉ T) : Keep S w w' := fun k hk => h.block k (hs k hk).1 (hs k hk).2

/-- A page in block g, made since w0; the walk's other blocks are S. -/
structure PgI (w0 : World) (S : List Nat) (w : World) (g n : Nat) (l : List R) (v : Value) : Prop where
  I : IsPg w g n v l
  c : Chg [] w0 w
  n : ∀ k ∈ g :: fpv v, w0.heap.size ≤ k ∧ k ∉ S
  s : ∀ k ∈ S, k < w.heap.size
theorem PgI.step {w0 w w' : World} {S : List Nat} {g n : Nat} {l l' : List R} {v res : Value} {e : Ending} (P : PgI w0 S w g n l v) (hp : PgPost g n v res l' w e w') : e = .returned res ∧ ∃ v', PgI w0 S w' g n l' v' ∧ Keep S w w' := by
  obtain ⟨rfl, v', I', s⟩ := hp
  have h := Stp.trans (⟨P.c, fun j hj => .inr (P.n j hj).1⟩ : Stp [] (g :: fpv v) w0 w) s
  refine ⟨rfl, v', ⟨I', h.c, fun k hk => ⟨(h.f k hk).resolve_left (by simp), fun hS => ?_⟩, fun k hk => Nat.lt_of_lt_of_le (P.s k hk) s.c.size⟩, Keep.of_chg s.c fun k hk => ⟨P.s k hk, fun hm => (P.n k hm).2 hk⟩⟩
  rcases s.f k hk with h1 | h1
  · exact (P.n k h1).2 hS
  · have := P.s k hS; omega
theorem PgI.chg0 {w0 w w' : World} {S : List Nat} {g n : Nat} {l : List R} {v : Value} (P : PgI w0 S w g n l v) (c : Chg [] w w') : PgI w0 S w' g n l v :=
  ⟨P.I.chg0 c, P.c.trans c, P.n, fun k hk => Nat.lt_of_lt_of_le (P.s k hk) c.size⟩
theorem PgI.drewN {w0 w : World} {S : List Nat} {g n : Nat} {l : List R} {v : Value} (P : PgI w0 S w g n l v) (m : Nat) : PgI w0 S (w.drewN m) g n l v := P.chg0 ((Chg.refl _ _).drewN m)
/-- A new block of the walk. -/
theorem PgI.alloc {w0 w : World} {S : List Nat} {g n : Nat} {l : List R} {v : Value} (P : PgI w0 S w g n l v) (o : Obj) : PgI w0 (w.heap.size :: S) (w.alloc o) g n l v :=
  ⟨P.I.alloc o, P.c.alloc o, fun k hk => ⟨(P.n k hk).1, fun hm => by
    rcases List.mem_cons.1 hm with rfl | hm
    · rcases List.mem_cons.1 hk with h1 | h1
      · have := P.I.b.lt; omega
      · have := own_lt P.I.o (mem_fpv.1 h1); omega
    · exact (P.n k hk).2 hm⟩, fun k hk => by
    rw [World.size_alloc]
    rcases List.mem_cons.1 hk with rfl | hk
    · omega
    · have := P.s k hk; omega⟩
/-- A store into one of the walk's blocks. -/
theorem PgI.set {w0 w : World} {S : List Nat} {g n : Nat} {l : List R} {v : Value} (P : PgI w0 S w g n l v) {p : Addr} (hp : p.block ∈ S) (h0 : w0.heap.size ≤ p.block) (u : Value) : PgI w0 S (w.setCell p u) g n l v := by
  have c : Chg [p.block] w (w.setCell p u) := (Chg.refl _ w).setCell (.inl (List.mem_cons_self ..)) u
  refine ⟨⟨c.blk P.I.b (fun hm => (P.n g (List.mem_cons_self ..)).2 (by simp at hm; rw [hm]; exact hp)), own_chg P.I.o c fun k hk hm => (P.n k (List.mem_cons_of_mem _ (mem_fpv.2 hk))).2 (by simp at hm; rw [hm]; exact hp)⟩, P.c.setCell (.inr h0) u, P.n, fun k hk => Nat.lt_of_lt_of_le (P.s k hk) c.size⟩
theorem PgI.forget {w0 w : World} {S T : List Nat} {g n : Nat} {l : List R} {v : Value} (P : PgI w0 S w g n l v) (h : ∀ k ∈ T, k ∈ S) : PgI w0 T w g n l v :=
  ⟨P.I, P.c, fun k hk => ⟨(P.n k hk).1, fun hm => (P.n k hk).2 (h k hm)⟩, fun k hk => P.s k (h k hk)⟩
theorem PgI.ne {w0 w : World} {S : List Nat} {g n : Nat} {l : List R} {v : Value} (P : PgI w0 S w g n l v) : w0.heap.size ≤ g := (P.n g (List.mem_cons_self ..)).1

def AllocI (w0 : World) (S : List Nat) (g n : Nat) (l : List R) (k : Int) (w : World) (e : Ending) (w' : World) : Prop :=
  ∃ a c l' v', e = .returned (.tuple #[.int .i64 a, .int .i64 c]) ∧ AllocSays l k a c l' ∧ PgI w0 S w' g n l' v' ∧ Keep S w w'
theorem alloc_i {w0 w : World} {S : List Nat} {g n : Nat} {l : List R} {v : Value} (P : PgI w0 S w g n l v) (h : Okn n l) (hn : n ≤ 262144) (k : Int) :
    Calls Try.prog 9 #[.pointer (some ⟨g, 0, none⟩), .int .i64 k] w (AllocI w0 S g n l k w) :=
  (alloc_ok w g n v l P.I h hn k).mono fun e w' ⟨a, c, l', hs, hp⟩ => by
    obtain ⟨rfl, v', P', hk⟩ := P.step hp
    exact ⟨a, c, l', v', rfl, hs, P', hk⟩
def FreeI (w0 : World) (S : List Nat) (g n : Nat) (l : List R) (first k : Int) (w : World) (e : Ending) (w' : World) : Prop :=
  ∃ c l' v', e = .returned (.int .i64 c) ∧ FreeSays n l first k c l' ∧ PgI w0 S w' g n l' v' ∧ Keep S w w'
theorem free_i {w0 w : World} {S : List Nat} {g n : Nat} {l : List R} {v : Value} (P : PgI w0 S w g n l v) (h : Okn n l) (hn : n ≤ 262144) (first k : Int) :
    Calls Try.prog 11 #[.pointer (some ⟨g, 0, none⟩), .int .i64 first, .int .i64 k] w (FreeI w0 S g n l first k w) :=
  (free_ok w g n v l P.I h hn first k).mono fun e w' ⟨c, l', hs, hp⟩ => by
    obtain ⟨rfl, v', P', hk⟩ := P.step hp
    exact ⟨c, l', v', rfl, hs, P', hk⟩
theorem okn_len6 {n : Nat} {l : List R} (h : Okn n l) (hn : n ≤ 262144) : l.length ≤ 1000000 := by have := h.len; omega
theorem sum_bd : ∀ {l : List R} {lo : Nat}, OkF lo l → sumR l + lo ≤ nxt1 lo l
  | [], lo, _ => by simp [sumR, nxt1]
  | r :: t, lo, h => by
    have h1 := sum_bd h.2.2
    have h2 := h.1
    show (r.p + sumR t) + lo ≤ nxt1 (r.f + r.p + 1) t
    omega
theorem okn_sum {n : Nat} {l : List R} (h : Okn n l) (hn : n ≤ 262144) : sumR l ≤ 1000000 := by have := sum_bd h.1; have := h.2; omega
end Go.Proofs.Ytcmligooekbodaa
