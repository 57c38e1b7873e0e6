/- The walks of package span. -/
/- The walks of package span: Addr, At, Full, Alloc, Mark. -/
/- The walks of package span: At, Mark. -/
/- The walk of package span: Sweep. -/
/- The walks of package page: Free. -/
/- The walks of package page: Free, the other arms; all joined. -/
/- The walks of package page: Alloc. -/
/- The walks of package page: New, Runs, Left. -/
/- Package page's contracts for a walk that owns a page beside other blocks; told of layer 5. -/
/- Runs of free pages: what Free gives back. Plain. -/
import Derived.Test.YtoeppmnoifankaaGreatDoorMBitJ
import Derived.Test.YtoeppmnoifankaaGreatDoorMCl
import Derived.Test.YtoeppmnoifankaaGreatDoorMPa
namespace Go.Proofs.YtoeppmnoifankaaGreatDoor
open Go.RowKit

structure Sp where
  first : Nat
  k : Nat
  F : Nat → Bool
  M : Nat → Bool
  fr : Nat
structure SpB where
  g : Nat
  u : Nat
  ua : Nat
  m : Nat
  ma : Nat
def SpB.l (b : SpB) : List Nat := [b.g, b.u, b.ua, b.m, b.ma]
structure IsSp (w : World) (b : SpB) (s : Sp) : Prop where
  hb : Blk w b.g 246 #[.int .i64 s.first, .int .i64 s.k, .pointer (some ⟨b.u, 0, none⟩), .pointer (some ⟨b.m, 0, none⟩), .int .i64 s.fr]
  hu : IsSet w b.u b.ua (slK s.k) s.F
  hm : IsSet w b.m b.ma (slK s.k) s.M
  hk : s.k < 16
  f1 : 1 ≤ s.first
  f2 : s.first ≤ 262144
  fr : s.fr ≤ 64
  ne : b.u ≠ b.m
  ne2 : b.ua ≠ b.ma
section
variable {w w' : World} {b : SpB} {s : Sp}
theorem IsSp.chg {S : List Nat} (h : IsSp w b s) (c : Chg S w w') (hn : ∀ k ∈ b.l, k ∉ S) : IsSp w' b s :=
  ⟨c.blk h.hb (hn _ (by simp [SpB.l])), h.hu.chg c (hn _ (by simp [SpB.l])) (hn _ (by simp [SpB.l])), h.hm.chg c (hn _ (by simp [SpB.l])) (hn _ (by simp [SpB.l])), h.hk, h.f1, h.f2, h.fr, h.ne, h.ne2⟩
theorem IsSp.lt (h : IsSp w b s) : ∀ k ∈ b.l, k < w.heap.size := fun k hk => by
  simp only [SpB.l, List.mem_cons, List.not_mem_nil, or_false] at hk
  rcases hk with rfl | rfl | rfl | rfl | rfl
  · exact h.hb.lt
  · exact h.hu.b.lt
  · exact h.hu.d.lt
  · exact h.hm.b.lt
  · exact h.hm.d.lt
end
/-! New -/
def SnPost (first k : Nat) (w : World) (e : Ending) (w' : World) : Prop := ∃ b : SpB, e = .returned (.tuple #[.pointer (some ⟨b.g, 0, none⟩), .int .i64 0]) ∧ IsSp w' b ⟨first, k, fun _ => false, fun _ => false, 0⟩ ∧ Chg [] w w' ∧ ∀ j ∈ b.l, w.heap.size ≤ j
/-! asks -/
section
variable (w : World) (b : SpB) (s : Sp) (I : IsSp w b s)
include I
end
end Go.Proofs.YtoeppmnoifankaaGreatDoor
namespace Go.Proofs.YtoeppmnoifankaaGreatDoor
open Go.RowKit

def Sp.addr (s : Sp) (i : Nat) : Nat := s.first * 64 + i * szK s.k
section
variable (w : World) (b : SpB) (s : Sp) (I : IsSp w b s)
include I
/-! Full, Alloc -/
def SfPost (s : Sp) (w : World) (e : Ending) (w' : World) : Prop := ∃ r : Int, e = .returned (.bool (decide (r < 0))) ∧ NextSays (slK s.k) (notF s.F) s.fr r ∧ Chg [] w w'
def SaPost (b : SpB) (s : Sp) (black : Bool) (w : World) (e : Ending) (w' : World) : Prop :=
  (e = .returned (.tuple #[.int .i64 0, .bool false]) ∧ (∀ x, s.fr ≤ x → x < slK s.k → s.F x = true) ∧ Chg [] w w') ∨
  ∃ y : Nat, e = .returned (.tuple #[.int .i64 y, .bool true]) ∧ s.fr ≤ y ∧ y < slK s.k ∧ s.F y = false ∧ (∀ x, s.fr ≤ x → x < y → s.F x = true) ∧ IsSp w' b ⟨s.first, s.k, setF s.F y, if black then setF s.M y else s.M, y⟩ ∧ Chg b.l w w'
end
end Go.Proofs.YtoeppmnoifankaaGreatDoor
namespace Go.Proofs.YtoeppmnoifankaaGreatDoor
open Go.RowKit

section
variable (w : World) (b : SpB) (s : Sp) (I : IsSp w b s)
include I
def SkPost (b : SpB) (s : Sp) (i : Nat) (w : World) (e : Ending) (w' : World) : Prop :=
  e = .returned (.bool (s.F i && !(s.M i))) ∧ IsSp w' b ⟨s.first, s.k, s.F, if s.F i then setF s.M i else s.M, s.fr⟩ ∧ Chg b.l w w'
def StPost (i : Nat) (w : World) (e : Ending) (w' : World) : Prop := e = .returned (.tuple #[.int .i64 i, .bool true]) ∧ Chg [] w w'
end
end Go.Proofs.YtoeppmnoifankaaGreatDoor
namespace Go.Proofs.YtoeppmnoifankaaGreatDoor
open Go.RowKit

def SwPost (b : SpB) (s : Sp) (w : World) (e : Ending) (w' : World) : Prop :=
  ∃ v, e = .returned v ∧ OwnI 3 w' v (intsN ((allN s.F (slK s.k)).filter fun i => !(s.M i))) ∧ IsSp w' ⟨b.g, b.m, b.ma, b.u, b.ua⟩ ⟨s.first, s.k, s.M, fun _ => false, 0⟩ ∧ Chg b.l w w' ∧ ∀ j ∈ fpv v, w.heap.size ≤ j
def outTo (M : Nat → Bool) (al : List Nat) (i : Nat) : List Int := intsN ((al.take i).filter fun i => !(M i))
def SwRel1 (w0 : World) (M : Nat → Bool) (al : List Nat) (gk : Nat) (v idx : Value) (w : World) : Prop :=
  ∃ i, gk + i = al.length + 1 ∧ i ≤ al.length ∧ idx = .int .i64 (i : Nat) ∧ OwnI 3 w v (outTo M al i) ∧ Chg [] w0 w ∧ (∀ j ∈ fpv v, w0.heap.size ≤ j)
def clrTo (F : Nat → Bool) (al : List Nat) (i x : Nat) : Bool := F x && !((al.take i).contains x)
def SwRel2 (w0 : World) (u ua n : Nat) (F : Nat → Bool) (al : List Nat) (gk : Nat) (idx : Value) (w : World) : Prop :=
  ∃ i, gk + i = al.length + 1 ∧ i ≤ al.length ∧ idx = .int .i64 (i : Nat) ∧ IsSet w u ua n (clrTo F al i) ∧ Chg [u, ua] w0 w
end Go.Proofs.YtoeppmnoifankaaGreatDoor
namespace Go.Proofs.YtoeppmnoifankaaGreatDoor
open Go.RowKit

def FrRel (w0 : World) (m : Nat) (gk : Nat) (v : Value) (w : World) : Prop := ∃ i : Nat, gk + i = m + 1 ∧ i ≤ m ∧ v = .int .i64 i ∧ w = w0

/-- What Free finds ahead of its stores: the place is M, the pages are nobody's. -/
structure FrOk (L : List R) (M first k : Nat) : Prop where
  lt : ∀ i, i < M → ∃ s, L[i]? = some s ∧ s.f < first
  X : M = 0 ∨ ∃ m q, M = m + 1 ∧ L[m]? = some q ∧ q.f + q.p ≤ first
  Y : M = L.length ∨ ∃ c, L[M]? = some c ∧ first + k ≤ c.f

end Go.Proofs.YtoeppmnoifankaaGreatDoor
namespace Go.Proofs.YtoeppmnoifankaaGreatDoor
open Go.RowKit

/-- What Free finds where something is free already. -/
structure FrNo (L : List R) (M first k : Nat) : Prop where
  lt : ∀ i, i < M → ∃ s, L[i]? = some s ∧ s.f < first
  E : M = L.length ∨ ∃ c, L[M]? = some c ∧ first ≤ c.f
  S : (∃ m q, M = m + 1 ∧ L[m]? = some q ∧ first < q.f + q.p) ∨ ((M = 0 ∨ ∃ m q, M = m + 1 ∧ L[m]? = some q ∧ q.f + q.p ≤ first) ∧ ∃ c, L[M]? = some c ∧ first ≤ c.f ∧ c.f < first + k)

/-- What Free answers, and the runs after it. -/
def FreeSays (n : Nat) (l : List R) (first k : Int) (c : Int) (l' : List R) : Prop :=
  ((k < 1 ∨ first < 1 ∨ (n : Int) - 1 < first ∨ (n : Int) - first < k) ∧ c = 1 ∧ l' = l) ∨
  (¬ (k < 1 ∨ first < 1 ∨ (n : Int) - 1 < first ∨ (n : Int) - first < k) ∧ ((someR l first.toNat k.toNat ∧ c = 5 ∧ l' = l) ∨ (¬ someR l first.toNat k.toNat ∧ c = 0 ∧ l' = backR l first.toNat k.toNat)))
def FreePost (g n : Nat) (v : Value) (l : List R) (first k : Int) (w : World) (e : Ending) (w' : World) : Prop :=
  ∃ c l', FreeSays n l first k c l' ∧ PgPost g n v (.int .i64 c) l' w e w'

end Go.Proofs.YtoeppmnoifankaaGreatDoor
namespace Go.Proofs.YtoeppmnoifankaaGreatDoor
open Go.RowKit

/-- The runs that are great enough. -/
def fl (k : Nat) (l : List R) : List R := l.filter fun r => decide (k ≤ r.p)
theorem IsPg.chg0 {w w' : World} {g n : Nat} {v : Value} {l : List R} (I : IsPg w g n v l) (c : Chg [] w w') : IsPg w' g n v l :=
  ⟨c.blk I.b (by simp), own_chg I.o c (fun _ _ => by simp)⟩
structure AlInv (w0 : World) (h : Nat) (v : Value) (l L : List R) (w : World) : Prop where
  I : IsBy w h v L
  T : Top l L
  c : Chg [] w0 w
  n : ∀ j ∈ h :: fpv v, w0.heap.size ≤ j
def AlRel (w0 : World) (h k : Nat) (l : List R) (gk : Nat) (idx : Value) (w : World) : Prop :=
  ∃ i hv L, gk + i = l.length + 1 ∧ i ≤ l.length ∧ idx = .int .i64 (i : Nat) ∧ AlInv w0 h hv (fl k (l.take i)) L w

/-- What Alloc answers, and the runs after it. -/
def AllocSays (l : List R) (k : Int) (a c : Int) (l' : List R) : Prop :=
  (k < 1 ∧ a = 0 ∧ c = 1 ∧ l' = l) ∨ (1 ≤ k ∧ (∀ r ∈ l, (r.p : Int) < k) ∧ a = 0 ∧ c = 3 ∧ l' = l) ∨ (1 ≤ k ∧ ∃ r, Best l k.toNat r ∧ a = r.f ∧ c = 0 ∧ l' = cutR l r k.toNat)
def AllocPost (g n : Nat) (v : Value) (l : List R) (k : Int) (w : World) (e : Ending) (w' : World) : Prop :=
  ∃ a c l', AllocSays l k a c l' ∧ PgPost g n v (.tuple #[.int .i64 a, .int .i64 c]) l' w e w'
end Go.Proofs.YtoeppmnoifankaaGreatDoor
namespace Go.Proofs.YtoeppmnoifankaaGreatDoor
open Go.RowKit

def newN (n : Int) : Nat := (min (max n 1) 262144).toNat
def newL (N : Nat) : List R := if 1 < N then [⟨1, N - 1⟩] else []
def NewPost (N : Nat) (w : World) (e : Ending) (w' : World) : Prop :=
  ∃ g v, e = .returned (.pointer (some ⟨g, 0, none⟩)) ∧ IsPg w' g N v (newL N) ∧ Chg [] w w' ∧ ∀ k ∈ g :: fpv v, w.heap.size ≤ k
theorem newL_ok (N : Nat) (h : 1 ≤ N) : Okn N (newL N) := by
  unfold newL
  split
  · refine ⟨⟨Nat.le_refl _, by show 1 ≤ N - 1; omega, trivial⟩, ?_⟩
    show 1 + (N - 1) + 1 ≤ N + 1
    omega
  · exact ⟨trivial, by show 1 ≤ N + 1; omega⟩

theorem new_one (w : World) : NewPost 1 w (.returned (.pointer (some ⟨w.heap.size, 0, none⟩))) (w.alloc (.cells #[.int .i64 1, .slice none 0 0] 249)) :=
  ⟨_, _, rfl, ⟨Blk.new _ _ _, rfl, .inl ⟨rfl, rfl⟩⟩, (Chg.refl _ w).alloc _, fun k hk => by
    have : k = w.heap.size := by simpa [fpv, Value.ownBlock] using hk
    omega⟩
theorem new_many (w : World) (N : Nat) (h : 1 < N) (x y : Int) (hx : x = N) (hy : y = (N : Int) - 1) : NewPost N w (.returned (.pointer (some ⟨w.heap.size, 0, none⟩)))
    ((w.alloc (.cells #[.int .i64 x, .slice (some ⟨w.heap.size + 1, 0, none⟩) 1 1] 249)).alloc (.cells #[.int .i64 1, .int .i64 y] 145)) := by
  subst hx hy
  have hsz : (w.alloc (.cells #[.int .i64 (N : Int), .slice (some ⟨w.heap.size + 1, 0, none⟩) 1 1] 249)).heap.size = w.heap.size + 1 := World.size_alloc ..
  have B0 := (Blk.new w 249 #[Value.int .i64 (N : Int), .slice (some ⟨w.heap.size + 1, 0, none⟩) 1 1]).alloc (.cells #[.int .i64 1, .int .i64 ((N : Int) - 1)] 145)
  have B1 := Blk.new (w.alloc (.cells #[.int .i64 (N : Int), .slice (some ⟨w.heap.size + 1, 0, none⟩) 1 1] 249)) 145 #[Value.int .i64 1, Value.int .i64 ((N : Int) - 1)]
  rw [hsz] at B1
  have e : newL N = [⟨1, N - 1⟩] := by unfold newL; rw [if_pos h]
  have e2 : ((N - 1 : Nat) : Int) = (N : Int) - 1 := by omega
  refine ⟨w.heap.size, .slice (some ⟨w.heap.size + 1, 0, none⟩) 1 1, rfl, ⟨B0, ?_⟩, ((Chg.refl [] w).alloc _).alloc _, fun k hk => ?_⟩
  · rw [e]
    refine own_mk (rest := []) ?_ rfl (Nat.le_refl _) (by decide) rfl
    have e3 : (rc [(⟨1, N - 1⟩ : R)] ++ []).toArray = #[Value.int .i64 1, Value.int .i64 ((N : Int) - 1)] := by rw [← e2]; rfl
    rw [e3]; exact B1
  · have : k = w.heap.size ∨ k = w.heap.size + 1 := by simpa [fpv, Value.ownBlock, eq_comm] using hk
    omega
set_option maxRecDepth 100000 in
set_option maxHeartbeats 1600000 in
theorem new_ok (w : World) (n : Int) : Calls Tryz.prog 218 #[.int .i64 n] w (NewPost (newN n) w) := by
  rcases Int.lt_or_le n 1 with h1 | h1
  · have e : newN n = 1 := by unfold newN; omega
    rw [e]
    clear e
    go_enter Tryz.func218, Tryz.ntmps218
    go_wp2_with fail
    go_ret
    exact new_one w
  · rcases Int.lt_or_le 262144 n with h2 | h2
    · have e : newN n = 262144 := by unfold newN; omega
      rw [e]
      have h3 : ¬ n < 1 := by omega
      clear e h1
      go_enter Tryz.func218, Tryz.ntmps218
      go_wp2_with fail
      go_ret
      exact new_many w 262144 (by omega) _ _ rfl rfl
    · have h3 : ¬ n < 1 := by omega
      have h4 : ¬ 262144 < n := by omega
      obtain ⟨N, rfl⟩ : ∃ N : Nat, n = N := ⟨n.toNat, by omega⟩
      have e : newN N = N := by unfold newN; omega
      rw [e]
      clear e
      rcases Nat.lt_or_ge 1 N with h5 | h5
      · have h6 : (1 : Int) < (N : Int) := by omega
        have h7 : IntKind.i64.wrap ((N : Int) - 1) = (N : Int) - 1 := by rw [IntKind.wrap_i64]; omega
        go_enter Tryz.func218, Tryz.ntmps218
        go_wp2_with fail
        all_goals
          go_ret
          exact new_many w N h5 _ _ rfl rfl
      · obtain rfl : N = 1 := by omega
        go_enter Tryz.func218, Tryz.ntmps218
        go_wp2_with fail
        all_goals
          go_ret
          exact new_one w

theorem runs_ok (w : World) (g n : Nat) (v : Value) (l : List R) (I : IsPg w g n v l) (hl : l.length ≤ 1000000) :
    Calls Tryz.prog 86 #[.pointer (some ⟨g, 0, none⟩)] w (ClPost l w) := by
  have c1 := I.b.cellv 1 rfl
  have HC := Lib.hid (clone_ok w v l I.o hl)
  obtain ⟨A, c, rfl⟩ := own_slice I.o
  clear I
  go_enter Tryz.func86, Tryz.ntmps86
  go_wp2_with fail
  refine HC.out.mono ?_
  rintro e w1 ⟨v', rfl, hp⟩
  have HP := Lib.hid hp; clear hp
  obtain ⟨A', c', rfl⟩ := own_slice HP.out.1
  go_wp2_with fail
  go_ret
  exact ⟨_, rfl, HP.out⟩

def LfPost (s : Nat) (w : World) (e : Ending) (w' : World) : Prop := e = .returned (.int .i64 s) ∧ Chg [] w w'
def LfRel (w0 : World) (v : Value) (l : List R) (gk : Nat) (s idx : Value) (w : World) : Prop :=
  ∃ i, gk + i = l.length + 1 ∧ i ≤ l.length ∧ s = .int .i64 (sumR (l.take i) : Nat) ∧ idx = .int .i64 (i : Nat) ∧ Chg [] w0 w ∧ w.ownsRow 0 145 2 v l.length (rc l)
end Go.Proofs.YtoeppmnoifankaaGreatDoor
namespace Go.Proofs.YtoeppmnoifankaaGreatDoor
open Go.RowKit

/-- Blocks of S are as they were. -/
def Keep (S : List Nat) (w w' : World) : Prop := ∀ k ∈ S, w'.heap[k]? = w.heap[k]?
/-- A page in block g, made since w0; the walk's other blocks are S. -/
structure PgI (w0 : World) (S : List Nat) (w : World) (g n : Nat) (l : List R) (v : Value) : Prop where
  I : IsPg w g n v l
  c : Chg [] w0 w
  n : ∀ k ∈ g :: fpv v, w0.heap.size ≤ k ∧ k ∉ S
  s : ∀ k ∈ S, k < w.heap.size
def AllocI (w0 : World) (S : List Nat) (g n : Nat) (l : List R) (k : Int) (w : World) (e : Ending) (w' : World) : Prop :=
  ∃ a c l' v', e = .returned (.tuple #[.int .i64 a, .int .i64 c]) ∧ AllocSays l k a c l' ∧ PgI w0 S w' g n l' v' ∧ Keep S w w'
def FreeI (w0 : World) (S : List Nat) (g n : Nat) (l : List R) (first k : Int) (w : World) (e : Ending) (w' : World) : Prop :=
  ∃ c l' v', e = .returned (.int .i64 c) ∧ FreeSays n l first k c l' ∧ PgI w0 S w' g n l' v' ∧ Keep S w w'
end Go.Proofs.YtoeppmnoifankaaGreatDoor
namespace Go.Proofs.YtoeppmnoifankaaGreatDoor

end Go.Proofs.YtoeppmnoifankaaGreatDoor
