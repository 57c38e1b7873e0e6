/- Package pool: where its buffers lie; at, fresh, give. -/
/- Package pool: give; the pair of a P turned. -/
/- Package pool: Put. -/
/- Package pool: Get. (Printed by wip/genns.py.) -/
/- Package pool: Give. -/
/- Package pool: Give of half a buffer; Flushed, Reset, Local, Lists, Len; New. -/
/- Package pool: Lists; New. (Printed by wip/gennv.py.) -/
/- Package pool: Len. -/
/- Lists of structs that begin anywhere in their block: what is left of a list behind list[1:]. Plain theorems on worlds; no program in sight. -/
/- Package roots: jobs in memory; stack, Left, Next. -/
/- Package roots: New. (Printed by wip/gennz.py.) -/
/- Package roots: Add. (Printed by wip/genoa.py.) -/
/- Package barrier: New, Len, Put, by what lies in it. -/
/- slices.Contains of an own list; package barrier: All. (Printed by wip/genoc.py.) -/
/- Package sched: Where. -/
/- A map from integers to integers that the call owns, told by a function. Plain theorems on worlds; no program in sight. -/
import Derived.Test.YtcpljjacamibeaaGreatDoorNo
import Derived.ArgAppend
import Derived.Test.YtcpljjacamibeaaGreatDoorMj6J
import Derived.Test.YtcpljjacamibeaaGreatDoorMemJ
import Derived.Maps.OwnOps
import Derived.Maps.OwnSet
import Derived.Test.YtcpljjacamibeaaGreatDoorMZ
namespace Go.Proofs.YtcpljjacamibeaaGreatDoor
set_option maxHeartbeats 16000000
set_option maxRecDepth 100000
open Go.RowKit Go.Maps
def bptr (b : Nat) : Value := .pointer (some ⟨b, 0, none⟩)
structure PlH where
  gpo : Nat
  vps : Value
  vfu : Value
  vem : Value
  gpr : Nat → Nat
  bo : Nat → Nat
  bt : Nat → Nat
  fl : Nat → Bool
  fu : List Nat
  em : List Nat
  ct : Nat → List Int
def InPl (P : Nat) (h : PlH) (b : Nat) : Prop := (∃ p, p < P ∧ (b = h.bo p ∨ b = h.bt p)) ∨ b ∈ h.fu ∨ b ∈ h.em
structure IsPl (w : World) (P : Nat) (h : PlH) : Prop where
  b : Blk w h.gpo 196 #[h.vps, h.vfu, h.vem]
  os : OwnV 271 w h.vps (ptrs h.gpr P)
  of : OwnV 197 w h.vfu (h.fu.map bptr)
  oe : OwnV 197 w h.vem (h.em.map bptr)
  ap : ∀ k ∈ fpv h.vfu, k ∉ fpv h.vem
  pr : ∀ p, p < P → Blk w (h.gpr p) 274 #[bptr (h.bo p), bptr (h.bt p), .bool (h.fl p)]
  d : ∀ p q, p < P → q < P → p ≠ q → h.gpr p ≠ h.gpr q
  c : ∀ b, InPl P h b → IsBf w b (h.ct b)
def PlF (P : Nat) (h : PlH) (k : Nat) : Prop := k = h.gpo ∨ k ∈ fpv h.vps ∨ k ∈ fpv h.vfu ∨ k ∈ fpv h.vem ∨ (∃ p, p < P ∧ k = h.gpr p) ∨ InPl P h k
def PlTo (P : Nat) (h h' : PlH) (v : Value) (w : World) (e : Ending) (w' : World) : Prop :=
  ∃ T, e = .returned v ∧ IsPl w' P h' ∧ (∀ k, PlF P h' k → PlF P h k ∨ w.heap.size ≤ k) ∧ (∀ k ∈ T, PlF P h k) ∧ Chg T w w'
section
variable {w w' : World} {P : Nat} {h : PlH}
end
section
variable {w : World} {P : Nat} {h : PlH} (I : IsPl w P h)
include I
end
def FreshPost (P : Nat) (h : PlH) (w : World) (e : Ending) (w' : World) : Prop :=
  ∃ b ve E T, e = .returned (bptr b) ∧ IsBf w' b [] ∧ ((h.em = [] ∧ E = [] ∧ w.heap.size ≤ b) ∨ h.em = E ++ [b]) ∧ IsPl w' P { h with vem := ve, em := E } ∧ (∀ k ∈ fpv ve, k ∈ fpv h.vem ∨ w.heap.size ≤ k) ∧ (∀ k ∈ T, k = h.gpo) ∧ Chg T w w'
section
variable {w w' : World} {P : Nat} {h : PlH}
end
def giveH (h : PlH) (p b : Nat) (v : Value) : PlH := { h with vfu := v, fu := h.fu ++ [b], fl := updV h.fl p true }
def GivePost (P : Nat) (h : PlH) (p b : Nat) (w : World) (e : Ending) (w' : World) : Prop :=
  ∃ v, e = .returned (.tuple #[]) ∧ IsPl w' P (giveH h p b v) ∧ (∀ k ∈ fpv v, k ∈ fpv h.vfu ∨ w.heap.size ≤ k) ∧ Chg (h.gpo :: h.gpr p :: fpv h.vfu) w w'
def PutPost (P : Nat) (h : PlH) (p : Nat) (v : Int) (w : World) (e : Ending) (w' : World) : Prop :=
  ((h.ct (h.bo p)).length < 32 ∧ PlTo P h { h with ct := updV h.ct (h.bo p) (h.ct (h.bo p) ++ [v]) } (.int .i64 0) w e w') ∨
  ((h.ct (h.bo p)).length = 32 ∧ (h.ct (h.bt p)).length < 32 ∧ PlTo P h { h with bo := updV h.bo p (h.bt p), bt := updV h.bt p (h.bo p), fl := updV h.fl p (h.fl p), ct := updV h.ct (h.bt p) (h.ct (h.bt p) ++ [v]) } (.int .i64 0) w e w') ∨
  ((h.ct (h.bo p)).length = 32 ∧ (h.ct (h.bt p)).length = 32 ∧ ∃ b E vf ve, ((h.em = [] ∧ E = [] ∧ w.heap.size ≤ b) ∨ h.em = E ++ [b]) ∧
    PlTo P h { h with bo := updV h.bo p b, bt := updV h.bt p (h.bo p), fl := updV h.fl p true, vfu := vf, fu := h.fu ++ [h.bt p], vem := ve, em := E, ct := updV h.ct b [v] } (.int .i64 0) w e w')
def swH (h : PlH) (p : Nat) : PlH := { h with bo := updV h.bo p (h.bt p), bt := updV h.bt p (h.bo p), fl := updV h.fl p (h.fl p) }
def GetPost (P : Nat) (h : PlH) (p : Nat) (w : World) (e : Ending) (w' : World) : Prop :=
  (∃ ys x, h.ct (h.bo p) = ys ++ [x] ∧ PlTo P h { h with ct := updV h.ct (h.bo p) ys } (.tuple #[.int .i64 x, .bool true]) w e w') ∨
  (∃ ys x, h.ct (h.bo p) = [] ∧ h.ct (h.bt p) = ys ++ [x] ∧ PlTo P h { swH h p with ct := updV h.ct (h.bt p) ys } (.tuple #[.int .i64 x, .bool true]) w e w') ∨
  (∃ F f ys x vf ve, h.ct (h.bo p) = [] ∧ h.ct (h.bt p) = [] ∧ h.fu = F ++ [f] ∧ h.ct f = ys ++ [x] ∧ PlTo P h { h with bo := updV h.bo p f, bt := updV h.bt p (h.bo p), fl := updV h.fl p (h.fl p), vfu := vf, fu := F, vem := ve, em := h.em ++ [h.bt p], ct := updV h.ct f ys } (.tuple #[.int .i64 x, .bool true]) w e w') ∨
  (h.ct (h.bo p) = [] ∧ h.ct (h.bt p) = [] ∧ h.fu = [] ∧ PlTo P h (swH h p) (.tuple #[.int .i64 0, .bool false]) w e w')
section
variable {w : World} {P : Nat} {h : PlH} (I : IsPl w P h)
include I
end
section
variable {w : World} {P : Nat} {h : PlH} (I : IsPl w P h)
include I
end
def PlD (P : Nat) (h : PlH) : Prop := ∀ p q, p < P → q < P → h.bo p ≠ h.bt q ∧ (p ≠ q → h.bo p ≠ h.bo q ∧ h.bt p ≠ h.bt q)
def moreH (h : PlH) (i : Nat) (v' : Value) (gr b1 b2 : Nat) : PlH := { h with vps := v', gpr := updV h.gpr i gr, bo := updV h.bo i b1, bt := updV h.bt i b2, fl := updV h.fl i false, ct := updV (updV h.ct b1 []) b2 [] }
structure PlN (w0 w : World) (i : Nat) (h : PlH) : Prop where
  I : IsPl w i h
  n : ∀ k, PlF i h k → w0.heap.size ≤ k
  d : PlD i h
  e : h.vfu = .slice none 0 0 ∧ h.vem = .slice none 0 0 ∧ h.fu = [] ∧ h.em = []
  z : ∀ b, h.ct b = []
  f : ∀ p, p < i → h.fl p = false
  c : Chg [] w0 w
def PvRel (w0 : World) (P g : Nat) (gk : Nat) (idx : Value) (w : World) : Prop := ∃ (i : Nat) (h : PlH), gk + i = P + 1 ∧ i ≤ P ∧ idx = .int .i64 (i : Nat) ∧ h.gpo = g ∧ PlN w0 w i h
def PvPost (P : Nat) (w : World) (e : Ending) (w' : World) : Prop := ∃ h, e = .returned (.tuple #[.pointer (some ⟨h.gpo, 0, none⟩), .int .i64 0]) ∧ PlN w w' P h
def h00 (g : Nat) : PlH := ⟨g, .slice none 0 0, .slice none 0 0, .slice none 0 0, fun _ => 0, fun _ => 0, fun _ => 0, fun _ => false, [], [], fun _ => []⟩
def plL (h : PlH) : Nat → Nat
  | 0 => 0
  | i + 1 => plL h i + ((h.ct (h.bo i)).length + (h.ct (h.bt i)).length)
def fuL (ct : Nat → List Int) : List Nat → Nat
  | [] => 0
  | b :: l => (ct b).length + fuL ct l
def LqRel (w : World) (h : PlH) (P : Nat) (gk : Nat) (n idx : Value) (wr : World) : Prop := ∃ i k, gk + i = P + 1 ∧ i ≤ P ∧ idx = .int .i64 (i : Nat) ∧ n = .int .i64 (plL h i : Nat) ∧ wr = w.drewN k
def LgRel (w : World) (h : PlH) (P : Nat) (gk : Nat) (n idx : Value) (wr : World) : Prop := ∃ j, gk + j = h.fu.length + 1 ∧ j ≤ h.fu.length ∧ idx = .int .i64 (j : Nat) ∧ n = .int .i64 ((plL h P + fuL h.ct (h.fu.take j) : Nat)) ∧ wr = w
section
variable {w : World} {P : Nat} {h : PlH} (I : IsPl w P h)
include I
end
structure OwnO {α : Type} (f : α → List Value) (sz : Nat) (E : TypeId) (w : World) (v : Value) (xs : List α) : Prop where
  ex : (v = .slice none 0 0 ∧ xs = []) ∨ ∃ g off cap cur, v = .slice (some ⟨g, off, none⟩) xs.length cap ∧ w.heap[g]? = some (.cells cur E (0, 0)) ∧ xs.length ≤ cap ∧ cap ≤ maxLen ∧ off + cap * sz ≤ cur.size ∧ (cur.toList.drop off).take (xs.length * sz) = xs.flatMap f
section
variable {α : Type} {f : α → List Value} {sz : Nat} {P : Program} {T E : TypeId} {by_ : Nat} {w w' : World} {v : Value} {xs : List α}
end
structure JbA where
  g : Int
  a : Int
  b : Int
def jbC (j : JbA) : List Value := [.int .i64 j.g, .int .i64 j.a, .int .i64 j.b]
def jbV (j : JbA) : Value := .agg (jbC j).toArray
def stJ (g : Int) : JbA := ⟨g, 0, 16⟩
structure IsRt (w : World) (g : Nat) (v : Value) (l : List JbA) : Prop where
  b : Blk w g 200 #[v]
  o : OwnO jbC 3 287 w v l
def RtF (g : Nat) (v : Value) (k : Nat) : Prop := k = g ∨ k ∈ fpv v
section
variable {w : World} {g : Nat} {v : Value} {l : List JbA} (I : IsRt w g v l)
include I
end
def RnPost (g : Nat) (v : Value) (j : JbA) (l : List JbA) (w : World) (e : Ending) (w' : World) : Prop := ∃ v', e = .returned (.tuple #[jbV j, .bool true]) ∧ IsRt w' g v' l ∧ (∀ k, RtF g v' k → RtF g v k) ∧ Chg [g] w w'
def glJ (G i : Nat) : JbA := ⟨-1, ((8 * i : Nat) : Int), ((min (8 * i + 8) G : Nat) : Int)⟩
def rtG (G m : Nat) : List JbA := (List.range m).map (glJ G)
structure RtN (w0 w : World) (g : Nat) (v : Value) (l : List JbA) : Prop where
  I : IsRt w g v l
  n : ∀ k, RtF g v k → w0.heap.size ≤ k
  c : Chg [] w0 w
def RzgRel (w0 : World) (G g : Nat) (gk : Nat) (idx : Value) (w : World) : Prop := ∃ (i : Nat) (v : Value), gk + i = (G + 7) / 8 + 1 ∧ i ≤ (G + 7) / 8 ∧ idx = .int .i64 (8 * i : Nat) ∧ RtN w0 w g v (rtG G i)
def RzsRel (w0 : World) (L : List JbA) (gs : List Int) (g : Nat) (gk : Nat) (idx : Value) (w : World) : Prop := ∃ (i : Nat) (v : Value), gk + i = gs.length + 1 ∧ i ≤ gs.length ∧ idx = .int .i64 (i : Nat) ∧ RtN w0 w g v (L ++ (gs.take i).map stJ)
def RznPost (L : List JbA) (w : World) (e : Ending) (w' : World) : Prop := ∃ g v, e = .returned (.pointer (some ⟨g, 0, none⟩)) ∧ RtN w w' g v L
def RdInts (w : World) (A : Option Addr) (gs : List Int) : Prop := ∀ i x, gs[i]? = some x → ∃ b off, A = some ⟨b, off, none⟩ ∧ b < w.heap.size ∧ w.cell? ⟨b, off + i, none⟩ = some (.int .i64 x)
def isG (x : Int) (j : JbA) : Bool := decide (j.g = x)
def jbIx (x : Int) (l : List JbA) : Int := match l.findIdx? (isG x) with | some k => (k : Int) | none => -1
def JiRel (w0 : World) (x : Int) (l : List JbA) (gk : Nat) (idx : Value) (w : World) : Prop :=
  ∃ i, gk + i = l.length + 1 ∧ i ≤ l.length ∧ idx = .int .i64 (i : Nat) ∧ (l.take i).findIdx? (isG x) = none ∧ Chg [] w0 w
def addJ (x : Int) (l : List JbA) : List JbA := if l.any (isG x) then l else l ++ [stJ x]
def RtTo (g : Nat) (v : Value) (l' : List JbA) (w : World) (e : Ending) (w' : World) : Prop := ∃ v', e = .returned (.tuple #[]) ∧ IsRt w' g v' l' ∧ (∀ k, RtF g v' k → RtF g v k ∨ w.heap.size ≤ k) ∧ Chg (g :: fpv v) w w'
def IsBr (w : World) (g : Nat) (xs : List (Int × Int)) : Prop := ∃ l : Nat → Int, Blk w g 205 (nT l xs.length) ∧ (∀ i x, xs[i]? = some x → l (2 * i) = x.1 ∧ l (2 * i + 1) = x.2) ∧ xs.length ≤ 16
def brP (x : Int × Int) (xs : List (Int × Int)) : List (Int × Int) := if x = (0, 0) then xs else xs ++ [x]
def BrPost (g : Nat) (v : Value) (xs : List (Int × Int)) (w : World) (e : Ending) (w' : World) : Prop := e = .returned v ∧ IsBr w' g xs ∧ Chg [g] w w'
section
variable {w : World} {g : Nat} {xs : List (Int × Int)} (I : IsBr w g xs)
include I
end
def IxRelY (w0 : World) (xs : List Int) (g : Int) (gk : Nat) (idx : Value) (w : World) : Prop := ∃ j : Nat, gk + j = xs.length + 1 ∧ j ≤ xs.length ∧ idx = .int .i64 (j : Nat) ∧ g ∉ xs.take j ∧ w = w0
theorem sl_index_yes (w : World) (v : Value) (xs : List Int) (g : Int) (O : OwnI 3 w v xs) (hg : g ∈ xs) (hl : xs.length ≤ 1000000) : Calls Tryz.prog 156 #[v, .int .i64 g] w (fun e w' => ∃ k : Nat, QuPost (.int .i64 (k : Nat)) w e w') := by
  obtain ⟨A, c, rfl⟩ := O.slice
  obtain ⟨n, hn⟩ : ∃ n, n = xs.length := ⟨_, rfl⟩
  rw [← hn]
  have hl : n ≤ 1000000 := by rw [hn]; exact hl
  have HO := Lib.hid (And.intro O (And.intro hg hn)); clear O hg hn
  go_enter Tryz.func156, Tryz.ntmps156
  go_wp2_with fail
  go_loopg [8] (n + 1) (fun gk idx wr => IxRelY w xs g gk idx wr)
  case atStart => exact ⟨0, by have := HO.out.2.2; omega, by omega, rfl, by simp, rfl⟩
  case round =>
    obtain ⟨j, hgk, hj, rfl, hno, rfl⟩ := hrel
    by_cases hlt : j < n
    · have hjx : j < xs.length := by rw [← HO.out.2.2]; exact hlt
      obtain ⟨b, hA, hc, -, -⟩ := HO.out.1.cell (List.getElem?_eq_getElem hjx)
      subst hA
      obtain ⟨x, hx⟩ : ∃ x, x = xs[j] := ⟨_, rfl⟩
      rw [← hx] at hc
      have d1 : (j : Int) < (n : Int) := by omega
      have d0 : (0 : Int) ≤ (j : Int) := by omega
      have ht2 : g ≠ x → g ∉ xs.take (j + 1) := fun e hm => by
        rw [List.take_add_one, List.getElem?_eq_getElem hjx, List.mem_append] at hm
        rcases hm with h | h
        · exact hno h
        · exact e (by rw [hx]; simpa using h)
      have HT := Lib.hid (And.intro ht2 hgk); clear ht2 hno hgk hx
      by_cases e : g = x
      · have hne : (g == x) = true := by rw [beq_iff_eq]; exact e
        clear e
        go_wp2_with fail
        go_ret
        exact ⟨j, rfl, rfl⟩
      · have hne : (g == x) = false := by rw [beq_eq_false_iff_ne]; exact e
        have HE := Lib.hid e; clear e
        go_wp2_with fail
        go_roundg (n - j)
        case measure => have := HT.out.2; have := HO.out.2.2; omega
        case rel => exact ⟨j + 1, by have := HT.out.2; have := HO.out.2.2; omega, by have := HO.out.2.2; omega, by go_num, HT.out.1 HE.out, rfl⟩
    · exact absurd HO.out.2.1 (by
        have e : j = xs.length := by have := HO.out.2.2; omega
        rw [e, List.take_length] at hno
        exact hno)
theorem sl_contains (w : World) (v : Value) (xs : List Int) (g : Int) (O : OwnI 3 w v xs) (hl : xs.length ≤ 1000000) : Calls Tryz.prog 92 #[v, .int .i64 g] w (QuPost (.bool (xs.contains g)) w) := by
  by_cases hg : g ∈ xs
  · have K := sl_index_yes w v xs g O hg hl
    have hc : xs.contains g = true := by simpa using hg
    rw [hc]
    obtain ⟨A, c, rfl⟩ := O.slice
    have HK := Lib.hid K; clear K O hg hc
    go_enter Tryz.func92, Tryz.ntmps92
    go_wp2_with fail
    refine HK.out.mono ?_
    rintro e w1 ⟨k, rfl, rfl⟩
    have d0 : (0 : Int) ≤ (k : Int) := by omega
    have d1 : ¬ (k : Int) < 0 := by omega
    go_wp2_with fail
    go_ret
    exact ⟨by first | rfl | simp, rfl⟩
  · have hc : xs.contains g = false := by simpa using hg
    rw [hc]
    exact sl_contains_no w v xs g O hg hl
def prC (p : Int × Int) : List Value := [.int .i64 p.1, .int .i64 p.2]
def PcPost (xs : List (Int × Int)) (w : World) (e : Ending) (w' : World) : Prop := ∃ v', e = .returned v' ∧ OwnG prC 2 202 w' v' xs ∧ Chg [] w w' ∧ ∀ k ∈ fpv v', w.heap.size ≤ k
def whF (P : Nat) (r : Nat → RgR) (x : Int) : Option Nat := (List.range P).find? fun p => (rgL (r p)).contains x
def whP (P : Nat) (r : Nat → RgR) (com : List Int) (x : Int) : Int := match whF P r x with
  | some p => (p : Nat)
  | none => if com.contains x = true then -1 else 0
def whB (P : Nat) (r : Nat → RgR) (com : List Int) (x : Int) : Bool := match whF P r x with
  | some _ => true
  | none => com.contains x
theorem whF_succ {P i : Nat} {r : Nat → RgR} {x : Int} (hi : i < P) (h : ∀ j, j < i → (rgL (r j)).contains x = false) (h1 : (rgL (r i)).contains x = true) : whF P r x = some i := by
  unfold whF
  rw [List.find?_range_eq_some]
  exact ⟨h1, List.mem_range.2 hi, fun j hj => by rw [h j hj]; rfl⟩
theorem whF_none {P : Nat} {r : Nat → RgR} {x : Int} (h : ∀ j, j < P → (rgL (r j)).contains x = false) : whF P r x = none := by
  unfold whF
  rw [List.find?_eq_none]
  intro j hj
  rw [h j (List.mem_range.1 hj)]
  exact Bool.false_ne_true
def WheRel (w0 : World) (P : Nat) (r : Nat → RgR) (x : Int) (gk : Nat) (idx : Value) (w : World) : Prop := ∃ i : Nat, gk + i = P + 1 ∧ i ≤ P ∧ idx = .int .i64 (i : Nat) ∧ Chg [] w0 w ∧ ∀ j, j < i → (rgL (r j)).contains x = false
section
variable {w : World} {g gq P : Nat} {vr vq : Value} {gp : Nat → Nat} {r : Nat → RgR} {com : List Int} (I : IsSc w g gq P vr vq gp r com)
include I
theorem sc_where (x : Int) (hP : P ≤ 64) (hr : ∀ q, q < P → RgOk (r q)) (hw : ∀ x ∈ com, WfI x) (hl : com.length ≤ 100000) :
    Calls Tryz.prog 43 #[.pointer (some ⟨g, 0, none⟩), .int .i64 x] w (NwPost (.tuple #[.int .i64 (whP P r com x), .bool (whB P r com x)]) w) := by
  obtain ⟨rp, hrp⟩ : ∃ z, z = whP P r com x := ⟨_, rfl⟩
  obtain ⟨rb, hrb⟩ : ∃ z, z = whB P r com x := ⟨_, rfl⟩
  rw [← hrp, ← hrb]
  obtain ⟨Ar, cr, hvr⟩ := I.o.slice
  rw [ptrs_len] at hvr
  have s0 : w.cell? ⟨g, 0, none⟩ = some (.slice Ar P cr) := by rw [← hvr]; exact I.b.cellv 0 rfl
  have s1 : w.cell? ⟨g, 1, none⟩ = some (.pointer (some ⟨gq, 0, none⟩)) := I.b.cellv 1 rfl
  have HI := Lib.hid (And.intro I (And.intro hvr (And.intro hr (And.intro hw (And.intro hl (And.intro hrp hrb)))))); clear I hvr hr hw hl hrp hrb
  go_enter Tryz.func43, Tryz.ntmps43
  go_wp2_with fail
  go_loopg [15] (P + 1) (fun gk idx wr => WheRel w P r x gk idx wr)
  case atStart => exact ⟨0, by omega, by omega, rfl, Chg.refl _ _, by omega⟩
  case round =>
    obtain ⟨i, hgk, hi, rfl, c, hno⟩ := hrel
    have HC := Lib.hid (And.intro c hno); clear c hno s0 s1
    by_cases hiP : i < P
    · have e1 : decide ((i : Int) < (P : Int)) = true := decide_eq_true (by omega)
      have e2 : (i : Int) < (P : Int) := by omega
      have e3 : (0 : Int) ≤ (i : Int) := by omega
      have Iw := HI.out.1.chg HC.out.1 (by simp)
      have O := Iw.o
      rw [HI.out.2.1] at O
      obtain ⟨ga, hA, ca⟩ : ∃ ga, Ar = some ⟨ga, 0, none⟩ ∧ wr.cell? ⟨ga, i, none⟩ = some (.pointer (some ⟨gp i, 0, none⟩)) := by
        obtain ⟨ga, h1, h2, -⟩ := O.cell (ptrs_at gp hiP)
        exact ⟨ga, h1, h2⟩
      subst hA
      have Br := Iw.r i hiP
      have HR := Lib.hid Br; clear Br Iw O
      have KR := HI.out.2.2.1 i hiP
      have HKR := Lib.hid KR; clear KR
      go_wp2_with fail
      refine (rg_all_l _ (gp i) (r i) HR.out HKR.out.hs HKR.out.fr HKR.out.n).mono ?_
      rintro e w2 ⟨v, rfl, O2, c2, hf2⟩
      have HC2 := Lib.hid (HC.out.1.trans c2); clear c2 ca hf2
      have hlr : (rgL (r i)).length ≤ 1000000 := by unfold rgL; rw [List.length_map, List.length_range]; have := HKR.out.n; omega
      have KC := sl_contains w2 v (rgL (r i)) x O2 hlr
      obtain ⟨bb, hbb⟩ : ∃ b, b = (rgL (r i)).contains x := ⟨_, rfl⟩
      rw [← hbb] at KC
      have HB := Lib.hid (And.intro hbb KC); clear hbb KC O2 hlr
      go_wp2_with fail
      refine (HB.out.2).mono ?_
      rintro e w3 ⟨rfl, rfl⟩
      cases bb
      · go_wp2_with fail
        go_roundg (P - i)
        case measure => omega
        case rel => exact ⟨i + 1, by omega, by omega, by go_num, HC2.out, fun j hj => by
          by_cases e : j < i
          · exact HC.out.2 j e
          · have : j = i := by omega
            subst this; exact HB.out.1.symm⟩
      · have hF : whF P r x = some i := whF_succ hiP HC.out.2 HB.out.1.symm
        have q1 : rp = (i : Nat) := by rw [HI.out.2.2.2.2.2.1]; unfold whP; rw [hF]
        have q2 : rb = true := by rw [HI.out.2.2.2.2.2.2]; unfold whB; rw [hF]
        subst q1 q2
        go_wp2_with fail
        try rw [Exit.noGoto_ret]
        go_ret2
        exact ⟨rfl, HC2.out⟩
    · have hiP' : i = P := by omega
      subst hiP'
      have e1 : decide ((i : Int) < (i : Int)) = false := decide_eq_false (by omega)
      have e2 : ¬ (i : Int) < (i : Int) := by omega
      have hF : whF i r x = none := whF_none HC.out.2
      have q1 : rp = if com.contains x = true then -1 else 0 := by rw [HI.out.2.2.2.2.2.1]; unfold whP; rw [hF]
      have q2 : rb = com.contains x := by rw [HI.out.2.2.2.2.2.2]; unfold whB; rw [hF]
      have Iw := HI.out.1.chg HC.out.1 (by simp)
      have s1 : wr.cell? ⟨g, 1, none⟩ = some (.pointer (some ⟨gq, 0, none⟩)) := Iw.b.cellv 1 rfl
      have KQ := q_all wr gq vq com Iw.q Iw.oq HI.out.2.2.2.1 (by have := HI.out.2.2.2.2.1; omega)
      have HQ := Lib.hid (And.intro KQ (And.intro q1 q2)); clear KQ q1 q2 Iw hF
      go_wp2_with fail
      refine (HQ.out.1).mono ?_
      rintro e w2 ⟨v, rfl, O2, c2, hf2⟩
      have HC2 := Lib.hid (HC.out.1.trans c2); clear c2 hf2 s1
      have KC := sl_contains w2 v com x O2 (by have := HI.out.2.2.2.2.1; omega)
      obtain ⟨bb, hbb⟩ : ∃ b, b = com.contains x := ⟨_, rfl⟩
      rw [← hbb] at KC
      have HB := Lib.hid (And.intro hbb KC); clear hbb KC O2
      go_wp2_with fail
      refine (HB.out.2).mono ?_
      rintro e w3 ⟨rfl, rfl⟩
      cases bb
      · have q1 : rp = 0 := by rw [HQ.out.2.1, ← HB.out.1]; rfl
        have q2 : rb = false := by rw [HQ.out.2.2, ← HB.out.1]
        subst q1 q2
        go_wp2_with fail
        go_ret2
        exact ⟨rfl, HC2.out⟩
      · have q1 : rp = -1 := by rw [HQ.out.2.1, ← HB.out.1]; rfl
        have q2 : rb = true := by rw [HQ.out.2.2, ← HB.out.1]
        subst q1 q2
        go_wp2_with fail
        go_ret2
        exact ⟨rfl, HC2.out⟩
end
structure IMap (P : Program) (K : TypeId) (w : World) (b n : Nat) (f : Int → Option Int) : Prop where
  ex : ∃ D : DataW Unit, w.ownsMap P K (plainElem P K) b n D ∧ IsMap D ∧ ∀ x, has D (.int .i64 x) = (f x).isSome ∧ ∀ v, f x = some v → D.atKey (.int .i64 x) (.lit (.int .i64 0)) = .lit (.int .i64 v)
structure IntTy (P : Program) (T K : TypeId) : Prop where
  m : P.underlying T = some (.map K K)
  i : P.underlying K = some (.int .i64)
  z : ∀ w, (zeroValue K).run P w = .ok (.int .i64 0) w
def putF (f : Int → Option Int) (x v : Int) : Int → Option Int := fun y => if y = x then some v else f y
theorem WfI.wf {x : Int} (h : WfI x) : (Lit.int .i64 x).wf = true := by
  have e1 : IntKind.i64.min = -9223372036854775808 := by decide
  have e2 : IntKind.i64.max = 9223372036854775807 := by decide
  simp only [Lit.wf, e1, e2, Bool.and_eq_true, decide_eq_true_eq]; exact h
section
variable {P : Program} {T K : TypeId} {w w' : World} {b n : Nat} {f : Int → Option Int}
theorem IMap.made (w : World) (P : Program) (K : TypeId) : IMap P K (w.alloc (.map #[] 0)) w.heap.size 0 (fun _ => none) :=
  ⟨.map [], World.ownsMap_made _ _ _ _, isMap_empty, fun x => ⟨rfl, fun v h => by cases h⟩⟩
theorem IMap.lt (h : IMap P K w b n f) : b < w.heap.size := let ⟨_, h1, _⟩ := h.ex; h1.lt
theorem IMap.block (h : IMap P K w b n f) (hb : w'.heap[b]? = w.heap[b]?) : IMap P K w' b n f := by
  obtain ⟨D, ⟨es, cl, h1, h2⟩, r⟩ := h.ex
  exact ⟨D, ⟨es, cl, hb.trans h1, h2⟩, r⟩
theorem IMap.chg {S : List Nat} (h : IMap P K w b n f) (c : Chg S w w') (hn : b ∉ S) : IMap P K w' b n f := h.block (c.block b h.lt hn)
theorem IMap.alloc (h : IMap P K w b n f) (o : Obj) : IMap P K (w.alloc o) b n f := h.chg (S := []) ((Chg.refl _ w).alloc o) (by simp)
theorem IMap.mono (h : IMap P K w b n f) {m : Nat} (hm : n ≤ m) : IMap P K w b m f := let ⟨D, h1, r⟩ := h.ex; ⟨D, h1.mono hm, r⟩
theorem IMap.ext (h : IMap P K w b n f) {g : Int → Option Int} (e : ∀ x, f x = g x) : IMap P K w b n g := by
  have : f = g := funext e
  rw [← this]; exact h
theorem IMap.look (h : IMap P K w b n f) (t : IntTy P T K) {x : Int} (hx : WfI x) : (Instr.lookup T (.map (some b)) (.int .i64 x) false).run P w = .ok (.int .i64 ((f x).getD 0)) w := by
  obtain ⟨D, ho, hm, hf⟩ := h.ex
  obtain ⟨c, hrun, hat, _⟩ := ho.lookup_int (int_keyed t.i) t.m t.i (t.z w) (keyOf_int_mk t.i hx.wf)
  rw [hrun]
  obtain ⟨h1, h2⟩ := hf x
  cases e : f x with
  | none =>
    rw [e] at h1
    rw [atKey_of_not_has h1] at hat
    injection hat with hat
    injection hat with _ hat
    rw [← hat]; rfl
  | some v =>
    rw [h2 v e] at hat
    injection hat with hat
    injection hat with _ hat
    rw [← hat]; rfl
theorem IMap.put (h : IMap P K w b n f) (t : IntTy P T K) {x v : Int} (hx : WfI x) (hv : WfI v) (hn : n < maxLen) :
    ∃ w', (Instr.mapUpdate T (.map (some b)) (.int .i64 x) (.int .i64 v)).run P w = .ok () w' ∧ IMap P K w' b (n + 1) (putF f x v) ∧ Chg [b] w w' := by
  obtain ⟨D, ho, hm, hf⟩ := h.ex
  obtain ⟨w', hrun, r1, r2⟩ := ho.update (int_keyed t.i) t.m hn (keyOf_int_mk t.i hx.wf) (plainElem_int t.i hv.wf)
  refine ⟨w', hrun, ⟨_, r1, hm.put _ _, fun y => ?_⟩, (Chg.refl _ w).grown r2 (fun k hk => by injection hk with hk; exact .inl (by simp [hk]))⟩
  unfold putF
  by_cases e : y = x
  · subst e
    rw [if_pos rfl]
    exact ⟨has_put_same hm (show WideAt.IsKeyLit (Lit.int .i64 y) from trivial) _, fun u hu => by injection hu with hu; subst hu; exact atKey_put_same hm (show WideAt.IsKeyLit (Lit.int .i64 y) from trivial) _ _⟩
  · rw [if_neg e]
    have hne : (Lit.int .i64 y) ≠ (Lit.int .i64 x) := by simpa using e
    exact ⟨(has_put_other hne _).trans (hf y).1, fun u hu => (atKey_put_other hne _ _).trans ((hf y).2 u hu)⟩
end
section
variable {P : Program} {T K : TypeId} {w : World} {b n : Nat} {f : Int → Option Int}
  {ops : Array Oper} {rest : List Oper} {o : Oper} {a : Act} {Q : Exit → Act → World → Prop}
theorem wpList_imap_look (hg : o.guard = none) (m x : Operand) (hop : o.op = Op.lookup T m x false) (h : IMap P K w b n f) (t : IntTy P T K) (hm : a.eval m = .map (some b)) {k : Int} (hx : a.eval x = .int .i64 k) (hk : WfI k)
    (hK : wpList P ops Q rest (a.put o.dst (.int .i64 ((f k).getD 0))) w) : wpList P ops Q (o :: rest) a w := by
  refine wpList_plain hg fun K' hK' => ?_
  unfold Oper.wp
  simp [execOp, hop, hm, hx, h.look t hk, Result.andThen]
  exact hK' _ _ hK
theorem wpList_imap_put (hg : o.guard = none) (m x v : Operand) (hop : o.op = Op.mapUpdate T m x v) (h : IMap P K w b n f) (t : IntTy P T K) (hm : a.eval m = .map (some b)) {k u : Int} (hx : a.eval x = .int .i64 k) (hk : WfI k) (hv : a.eval v = .int .i64 u) (hu : WfI u) (hn : n < maxLen)
    (hK : ∀ w', IMap P K w' b (n + 1) (putF f k u) → Chg [b] w w' → wpList P ops Q rest (a.put o.dst undef) w') : wpList P ops Q (o :: rest) a w := by
  refine wpList_plain hg fun K' hK' => ?_
  obtain ⟨w', hrun, r1, r2⟩ := h.put t hk hu hn
  unfold Oper.wp
  simp [execOp, hop, hm, hx, hv, hrun, Result.andThen]
  exact hK' _ _ (hK w' r1 r2)
end
end Go.Proofs.YtcpljjacamibeaaGreatDoor
