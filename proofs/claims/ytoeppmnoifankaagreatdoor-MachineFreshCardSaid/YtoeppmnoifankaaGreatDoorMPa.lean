/- A value method called through a pointer in an interface value: plain law, of no program. -/
/- Runs of free pages: plain laws on lists. No program in sight. -/
/- The walks of package page's heap of runs (container/heap over bySize). -/
/- container/heap over bySize: up, Push, down, Pop. -/
/- container/heap.Pop over bySize. -/
/- copy and clear on rows of elements of any number of cells; stores into the middle of a block. Of no program. -/
/- The walks of package slices at runs of pages: Index, Delete, Clone, Insert. -/
/- The walks of package slices at runs of pages: Clone, Insert. -/
/- The walk of slices.Insert at runs of pages: in the middle, where there is no room; and all roads joined. -/
/- The walks of package page: join. -/
import Derived.Test.YtoeppmnoifankaaGreatDoorMem
import Derived.WalkKit
import Derived.Deep.LoopGhost
import Derived.StillTailTactics
import Derived.BigRegion
import Derived.Deep.RegionLaw
import Derived.Deep.AppendLies
import Derived.Lib.AppendZerosOnto
import Derived.Lib.Overlaps
import Derived.Maps.AppendAt
import Derived.BigQuiet
namespace Go.Proofs.YtoeppmnoifankaaGreatDoor
open Go.RowKit
end Go.Proofs.YtoeppmnoifankaaGreatDoor
namespace Go.Proofs.YtoeppmnoifankaaGreatDoor

/-- A run of pages. -/
structure R where
  f : Nat
  p : Nat
  deriving DecidableEq

def nxt1 (lo : Nat) (a : List R) : Nat := a.foldl (fun _ r => r.f + r.p + 1) lo
def OkF : Nat → List R → Prop
  | _, [] => True
  | lo, r :: t => lo ≤ r.f ∧ 1 ≤ r.p ∧ OkF (r.f + r.p + 1) t
/-- Page x is free. -/
def Fr (l : List R) (x : Nat) : Prop := ∃ r, r ∈ l ∧ r.f ≤ x ∧ x < r.f + r.p
def Okn (n : Nat) (l : List R) : Prop := OkF 1 l ∧ nxt1 1 l ≤ n + 1

/-! Alloc. -/
/-- The best run: it is great enough, and the least, the first of like ones. -/
def Best (l : List R) (k : Nat) (r : R) : Prop := r ∈ l ∧ k ≤ r.p ∧ ∀ s ∈ l, k ≤ s.p → r.p < s.p ∨ (r.p = s.p ∧ r.f ≤ s.f)
def cutR (l : List R) (r : R) (k : Nat) : List R :=
  if r.p = k then l.erase r else l.map fun s => if s = r then ⟨r.f + k, r.p - k⟩ else s
/-! Free. -/
def joinR (l : List R) (i : Nat) : List R :=
  match l[i]?, l[i + 1]? with
  | some r, some s => if r.f + r.p = s.f then (l.set i ⟨r.f, r.p + s.p⟩).eraseIdx (i + 1) else l
  | _, _ => l
/-- The place among the runs. -/
def plc (l : List R) (first : Nat) : Nat := (l.takeWhile fun r => decide (r.f < first)).length
def backR (l : List R) (first k : Nat) : List R :=
  let at_ := plc l first
  let l1 := joinR (l.insertIdx at_ ⟨first, k⟩) at_
  if at_ = 0 then l1 else joinR l1 (at_ - 1)
/-- Something of it is free. -/
def someR (l : List R) (first k : Nat) : Prop :=
  (∃ r, 0 < plc l first ∧ l[plc l first - 1]? = some r ∧ first < r.f + r.p) ∨ (∃ r, l[plc l first]? = some r ∧ r.f < first + k)

def frontR (first k : Nat) : List R → List R
  | [] => [⟨first, k⟩]
  | s :: b' => if first + k = s.f then ⟨first, k + s.p⟩ :: b' else ⟨first, k⟩ :: s :: b'
/-! What is free, page by page. -/
def sumR (l : List R) : Nat := (l.map (·.p)).sum
/-- Runs of what is free below m, from page i on. -/
def scanR (F : Nat → Bool) : Nat → Nat → List R
  | _, 0 => []
  | i, m + 1 => if F i then (match scanR F (i + 1) m with | [] => [⟨i, 1⟩] | r :: t => if r.f = i + 1 then ⟨i, r.p + 1⟩ :: t else ⟨i, 1⟩ :: r :: t) else scanR F (i + 1) m
end Go.Proofs.YtoeppmnoifankaaGreatDoor
namespace Go.Proofs.YtoeppmnoifankaaGreatDoor
open Go.RowKit

def rc (l : List R) : List Value := l.flatMap fun r => [.int .i64 r.f, .int .i64 r.p]
theorem rc_len : ∀ l : List R, (rc l).length = l.length * 2
  | [] => rfl
  | r :: t => by have := rc_len t; simp [rc] at this ⊢; omega
/-- Each number of each run is small. -/
def Sm (l : List R) : Prop := ∀ r ∈ l, r.f ≤ 1000000 ∧ r.p ≤ 1000000

/-- The heap's variable lies in block h; the runs are l. -/
structure IsBy (w : World) (h : Nat) (v : Value) (l : List R) : Prop where
  b : Blk w h 397 #[v]
  o : w.ownsRow 0 145 2 v l.length (rc l)

def lessR (a b : R) : Bool := decide (a.p < b.p) || (a.p == b.p && decide (a.f < b.f))

def swapR (l : List R) (i j : Nat) (a b : R) : List R := (l.set i b).set j a

theorem info_run : (Tryz.prog.info? 145).map (fun i => (i.zero, i.size, i.bytes)) = some (some (.agg #[.int .i64 0, .int .i64 0]), 2, 16) := by kernel_rfl

def PushPost (h : Nat) (v : Value) (l : List R) (w : World) (e : Ending) (w' : World) : Prop :=
  e = .returned (.tuple #[]) ∧ ∃ v', IsBy w' h v' l ∧ Stp (h :: fpv v) (h :: fpv v') w w'

end Go.Proofs.YtoeppmnoifankaaGreatDoor
namespace Go.Proofs.YtoeppmnoifankaaGreatDoor
open Go.RowKit

def leR (a b : R) : Prop := a.p < b.p ∨ (a.p = b.p ∧ a.f ≤ b.f)
/-- x is on its way up in L, which holds l besides. -/
structure UpI (l : List R) (x : R) (L : List R) (j : Nat) : Prop where
  len : L.length = l.length + 1
  lt : j < L.length
  at_ : L[j]? = some x
  ins : ∀ p s, p ≠ j → L[p]? = some s → s ∈ l
  has : ∀ s ∈ l, ∃ p, p ≠ j ∧ L[p]? = some s
  up : 0 < j → ∀ s0, L[0]? = some s0 → ∀ s ∈ l, leR s0 s
  top : j = 0 → ∀ s ∈ l, leR x s
/-- What a heap owes: the first is the least. -/
structure Top (l : List R) (L : List R) : Prop where
  len : L.length = l.length
  mem : ∀ s, s ∈ L ↔ s ∈ l
  top : ∀ s0, L[0]? = some s0 → ∀ s ∈ l, leR s0 s

def UpRel (w0 : World) (h : Nat) (v : Value) (l : List R) (x : R) (gk : Nat) (v1 : Value) (w : World) : Prop :=
  ∃ (j : Nat) (L : List R), gk = j + 1 ∧ v1 = .int .i64 j ∧ UpI l x L j ∧ IsBy w h v L ∧ Chg (fpv v) w0 w
def UpPost (w0 : World) (h : Nat) (v : Value) (l : List R) (e : Ending) (w : World) : Prop :=
  e = .returned (.tuple #[]) ∧ ∃ L, Top l L ∧ IsBy w h v L ∧ Chg (fpv v) w0 w

def HpPost (h : Nat) (v : Value) (l : List R) (w : World) (e : Ending) (w' : World) : Prop :=
  e = .returned (.tuple #[]) ∧ ∃ v' L, Top l L ∧ IsBy w' h v' L ∧ Stp (h :: fpv v) (h :: fpv v') w w'

/-! Pop. -/
def PopPost (h : Nat) (v : Value) (x : R) (w : World) (e : Ending) (w' : World) : Prop :=
  e = .returned (.iface 145 (.agg #[.int .i64 x.f, .int .i64 x.p])) ∧ Chg (h :: fpv v) w w'

def DownRel (w0 : World) (h n m : Nat) (v : Value) (y : Option R) (gk : Nat) (v7 : Value) (w : World) : Prop :=
  ∃ (i : Nat) (L : List R), gk + i = n + 1 ∧ i ≤ n ∧ v7 = .int .i64 i ∧ L.length = m ∧ L[n]? = y ∧ IsBy w h v L ∧ Chg (fpv v) w0 w
def DownPost (w0 : World) (h n m : Nat) (v : Value) (y : Option R) (e : Ending) (w : World) : Prop :=
  ∃ q L, e = .returned (.bool q) ∧ L.length = m ∧ L[n]? = y ∧ IsBy w h v L ∧ Chg (fpv v) w0 w
def SwapPost (w : World) (v : Value) (l : List R) (i j : Nat) (e : Ending) (w' : World) : Prop :=
  e = .returned (.tuple #[]) ∧ ∃ L : List R, L.length = l.length ∧ (∀ n, i ≠ n → j ≠ n → L[n]? = l[n]?) ∧ w'.ownsRow 0 145 2 v L.length (rc L) ∧ Chg (fpv v) w w'
end Go.Proofs.YtoeppmnoifankaaGreatDoor
namespace Go.Proofs.YtoeppmnoifankaaGreatDoor
open Go.RowKit

def Swap0Post (w : World) (v : Value) (n m : Nat) (x : R) (e : Ending) (w' : World) : Prop :=
  e = .returned (.tuple #[]) ∧ ∃ L : List R, L.length = m ∧ L[n]? = some x ∧ w'.ownsRow 0 145 2 v L.length (rc L) ∧ Chg (fpv v) w w'
end Go.Proofs.YtoeppmnoifankaaGreatDoor
namespace Go.Proofs.YtoeppmnoifankaaGreatDoor
open Go.RowKit

section
variable {P : Program}
end

end Go.Proofs.YtoeppmnoifankaaGreatDoor
namespace Go.Proofs.YtoeppmnoifankaaGreatDoor
open Go.RowKit

def IxPost (n : Nat) (w : World) (e : Ending) (w' : World) : Prop := e = .returned (.int .i64 n) ∧ Chg [] w w'
def IxRel (w0 : World) (h n : Nat) (r : R) (gk : Nat) (v : Value) (w : World) : Prop :=
  ∃ i : Nat, gk + i = n + 1 ∧ i ≤ n ∧ v = .int .i64 i ∧ Chg [] w0 w ∧ Blk w h 145 #[.int .i64 r.f, .int .i64 r.p]

theorem rc_one (l : List R) : ∀ u ∈ rc l, u.oneCell' = true := by
  intro u hu
  obtain ⟨r, _, hr⟩ := List.mem_flatMap.1 hu
  simp at hr
  rcases hr with rfl | rfl <;> rfl

def DelPost (v : Value) (l : List R) (w : World) (e : Ending) (w' : World) : Prop :=
  ∃ v', e = .returned v' ∧ w'.ownsRow 0 145 2 v' l.length (rc l) ∧ Chg (fpv v) w w' ∧ v'.ownBlock = v.ownBlock

end Go.Proofs.YtoeppmnoifankaaGreatDoor
namespace Go.Proofs.YtoeppmnoifankaaGreatDoor
open Go.RowKit

def ClPost (l : List R) (w : World) (e : Ending) (w' : World) : Prop :=
  ∃ v', e = .returned v' ∧ w'.ownsRow 0 145 2 v' l.length (rc l) ∧ Chg [] w w' ∧ ∀ k, v'.ownBlock = some k → w.heap.size ≤ k

set_option maxRecDepth 100000 in
set_option maxHeartbeats 1600000 in
theorem clone_ok (w : World) (v : Value) (l : List R) (o : w.ownsRow 0 145 2 v l.length (rc l)) (hl : l.length ≤ 1000000) :
    Calls Tryz.prog 143 #[v] w (ClPost l w) := by
  obtain ⟨i0, hi0, hz0, hz1, hz2⟩ := info_parts info_run
  have hu := Tryz.underlying142
  rcases o.2 with ⟨rfl, h0⟩ | ⟨g, cap, cur, rfl, _, hg, hc, hm, hs, ht⟩
  · have hn : l = [] := List.eq_nil_of_length_eq_zero h0
    subst hn
    have hnil := Lib.run_eql_slice_nil (P := Tryz.prog) w 142 145 none 0 0 0 0 hu
    clear hi0 hz0 hz1 hz2 o
    go_enter Tryz.func143, Tryz.ntmps143
    go_wp2_with fail
    go_ret
    exact ⟨_, rfl, ⟨rfl, .inl ⟨rfl, rfl⟩⟩, Chg.refl _ _, fun k hk => by simp [Value.ownBlock] at hk⟩
  · have hnil := Lib.run_eql_slice_nil (P := Tryz.prog) w 142 145 (some ⟨g, 0, none⟩) l.length cap 0 0 hu
    have hgl : g < w.heap.size := Blk.lt (cs := cur) hg
    have hcells : ∀ j u, (rc l)[j]? = some u → (w.alloc (.cells #[] 145)).cell? ((⟨g, 0, none⟩ : Addr).add j) = some u := fun j u hj => by
      exact (o.alloc (.cells #[] 145)).cells (g := g) rfl j u hj
    have HO := Lib.hid (And.intro o (And.intro hcells (show l.length ≤ maxLen ∧ l.length * 16 ≤ 140737488355328 by simp only [maxLen]; omega))); clear o hcells
    have HI := Lib.hid (And.intro hi0 (And.intro hz0 (And.intro hz1 hz2))); clear hi0 hz0 hz1 hz2 hg hs ht hm hc
    go_enter Tryz.func143, Tryz.ntmps143
    have hmade := World.ownsRow_made (base := 0) (e := 145) (size := 2) w #[] 0 (Nat.zero_le _) (Nat.zero_le _) rfl
    have HM := Lib.hid hmade; clear hmade
    go_wp2_with (at_builtin; refine wpList_append_own_at _ rfl (.tmp 5) (.tmp 6) _ rfl 0 145 i0 _ 2 16 hu HI.out.1 HI.out.2.1 HI.out.2.2.1 HI.out.2.2.2 rfl (by decide) (.slice (some ⟨w.heap.size, 0, none⟩) 0 0) 0 [] rfl HM.out ⟨g, 0, none⟩ l.length cap (rc l) rfl (rc_len l) HO.out.2.1 (rc_one l) (by rw [Nat.zero_add]; exact HO.out.2.2.1) (by rw [Nat.zero_add]; exact HO.out.2.2.2) (Nat.zero_le _) ?_; intro v1 w1 hown1 hgr1 hnl1 hat1)
    have H1 := Lib.hid (And.intro hown1 (And.intro hgr1 hat1)); clear hown1 hgr1 hnl1 hat1
    go_wp2_with fail
    go_ret
    obtain ⟨hown1, hgr1, hat1⟩ := H1.out
    refine ⟨v1, rfl, by simpa using hown1, ((Chg.refl _ w).alloc _).grown hgr1 (fun k hk => .inr ?_), fun k hk => ?_⟩
    · simp [Value.ownBlock] at hk; omega
    · rcases hat1 with e | e <;> rw [e] at hk <;> simp [Value.ownBlock] at hk <;> omega

def InsPost (v : Value) (l : List R) (w : World) (e : Ending) (w' : World) : Prop :=
  ∃ v', e = .returned v' ∧ w'.ownsRow 0 145 2 v' l.length (rc l) ∧ Chg (fpv v) w w' ∧ (v'.ownBlock = v.ownBlock ∨ ∃ k, v'.ownBlock = some k ∧ w.heap.size ≤ k)

end Go.Proofs.YtoeppmnoifankaaGreatDoor
namespace Go.Proofs.YtoeppmnoifankaaGreatDoor
open Go.RowKit

end Go.Proofs.YtoeppmnoifankaaGreatDoor
namespace Go.Proofs.YtoeppmnoifankaaGreatDoor
open Go.RowKit

theorem own_slice {w : World} {T size n : Nat} {v : Value} {xs : List Value} (h : w.ownsRow 0 T size v n xs) : ∃ A c, v = .slice A n c := by
  rcases h.2 with ⟨h1, h0⟩ | ⟨g, cap, cur, h1, _⟩
  · exact ⟨none, 0, by rw [h1, h0]⟩
  · exact ⟨_, _, h1⟩
/-- Pages lie in block g; the runs are l. -/
structure IsPg (w : World) (g n : Nat) (v : Value) (l : List R) : Prop where
  b : Blk w g 249 #[.int .i64 n, v]
  o : w.ownsRow 0 145 2 v l.length (rc l)
def PgPost (g n : Nat) (v : Value) (res : Value) (l : List R) (w : World) (e : Ending) (w' : World) : Prop :=
  e = .returned res ∧ ∃ v', IsPg w' g n v' l ∧ Stp (g :: fpv v) (g :: fpv v') w w'
end Go.Proofs.YtoeppmnoifankaaGreatDoor
