/- Package ring: All; package sched: Local; package machine: away. -/
/- Package wait: Wait, Wake, of lists that are owned; what they need of package slices. -/
/- Package wait: Wait, of lists that are owned and lie apart. (Printed by wip/genml2.py.) -/
/- Package wait: Wake. (Printed by wip/genml3.py.) -/
/- Package ring: Put, where the row may be full; package queue: Put of any list. -/
/- Package queue: Get, All of any list; package sched: Global, Common. -/
/- Package sched: Ready, Global, Common, Local, Where, of rows and a queue of any length. (Printed by wip/gennc.py.) -/
/- Package sched: what Pick tries first: those in common each 61st time; a part of those in common. (Printed by wip/gennd.py.) -/
/- Package sched: Pick in general: which of its four ways serves. (Printed by wip/genne.py.) -/
/- Package sched: Pick of any sched, told. -/
import Derived.Test.YtcpljjacamibeaaGreatDoorMj2J
import Derived.Test.YtcpljjacamibeaaGreatDoorMg7
import Derived.Test.YtcpljjacamibeaaGreatDoorMcEJ
import Derived.Test.YtcpljjacamibeaaGreatDoorMcOJ
import Derived.Test.YtcpljjacamibeaaGreatDoorMm2J
import Derived.Laws.EntriesVeiled
namespace Go.Proofs.YtcpljjacamibeaaGreatDoor
set_option maxHeartbeats 16000000
set_option maxRecDepth 100000
open Go.RowKit Go.Maps
def AllRel (w0 : World) (n gk : Nat) (v idx : Value) (w : World) : Prop := ∃ (j : Nat) (A : Option Addr) (c : Nat) (xs : List Int), gk + j = n + 1 ∧ j ≤ n ∧ idx = .int .i64 (j : Nat) ∧ v = .slice A j c ∧ xs.length = j ∧ OwnI 3 w (.slice A j c) xs ∧ (∀ b ∈ fpv (.slice A j c), w0.heap.size ≤ b) ∧ Chg [] w0 w
def LcPost (n : Nat) (w : World) (e : Ending) (w' : World) : Prop := ∃ A c, e = .returned (.slice A n c) ∧ Chg [] w w'
section
variable {w : World} {g gq P : Nat} {vr vq : Value} {gp : Nat → Nat} {r : Nat → RgR} {com : List Int} (I : IsSc w g gq P vr vq gp r com)
include I
end
def awayA (m : Mac) (q g : Nat) : Mac := { m with sts := m.sts.set g 1, rg := updV m.rg q (rgPut (m.rg q) (g : Nat)), ps := updV m.ps q { m.ps q with g := -1 } }
section
variable {W : Bs} {w : World} {p : MAt} {m : Mac} (M : MM W w p m)
include M
end
def IxRelL (w0 : World) (n gk : Nat) (idx : Value) (w : World) : Prop := ∃ j : Nat, gk + j = n + 1 ∧ j ≤ n ∧ idx = .int .i64 (j : Nat) ∧ w = w0
theorem sl_index_no (w : World) (v : Value) (xs : List Int) (g : Int) (O : OwnI 3 w v xs) (hg : g ∉ xs) (hl : xs.length ≤ 1000000) : Calls Tryz.prog 156 #[v, .int .i64 g] w (QuPost (.int .i64 (-1)) w) := by
  obtain ⟨A, c, rfl⟩ := O.slice
  obtain ⟨n, hn⟩ : ∃ n, n = xs.length := ⟨_, rfl⟩
  rw [← hn]
  have hl : n ≤ 1000000 := by rw [hn]; exact hl
  have HO := Lib.hid (And.intro O (And.intro hg hn)); clear O hg hn
  go_enter Tryz.func156, Tryz.ntmps156
  go_wp2_with fail
  go_loopg [8] (n + 1) (fun gk idx wr => IxRelL w n gk idx wr)
  case atStart => exact ⟨0, by omega, by omega, rfl, rfl⟩
  case round =>
    obtain ⟨j, hgk, hj, rfl, rfl⟩ := hrel
    by_cases hlt : j < n
    · have hjx : j < xs.length := by rw [← HO.out.2.2]; exact hlt
      obtain ⟨b, hA, hc, -, -⟩ := HO.out.1.cell (List.getElem?_eq_getElem hjx)
      subst hA
      obtain ⟨x, hx⟩ : ∃ x, x = xs[j] := ⟨_, rfl⟩
      rw [← hx] at hc
      have hne : (g == x) = false := by
        rw [beq_eq_false_iff_ne]
        intro e
        exact HO.out.2.1 (by rw [e, hx]; exact List.getElem_mem hjx)
      have d1 : (j : Int) < (n : Int) := by omega
      have d0 : (0 : Int) ≤ (j : Int) := by omega
      clear hx
      go_wp2_with fail
      go_roundg (n - j)
      case measure => omega
      case rel => exact ⟨j + 1, by omega, by omega, by go_num, rfl⟩
    · have d1 : ¬ (j : Int) < (n : Int) := by omega
      go_wp2_with fail
      go_ret
      exact ⟨rfl, rfl⟩
theorem sl_contains_no (w : World) (v : Value) (xs : List Int) (g : Int) (O : OwnI 3 w v xs) (hg : g ∉ xs) (hl : xs.length ≤ 1000000) : Calls Tryz.prog 92 #[v, .int .i64 g] w (QuPost (.bool false) w) := by
  have K := sl_index_no w v xs g O hg hl
  obtain ⟨A, c, rfl⟩ := O.slice
  have HK := Lib.hid K; clear K O
  go_enter Tryz.func92, Tryz.ntmps92
  go_wp2_with fail
  refine HK.out.mono ?_
  rintro e w1 ⟨rfl, rfl⟩
  go_wp2_with fail
  go_ret
  exact ⟨rfl, rfl⟩
structure IsWt (w : World) (gw : Nat) (vw : Nat → Value) (wt : Nat → List Int) : Prop where
  b : Blk w gw 223 (wtC vw)
  o : ∀ i, i < 32 → OwnI 3 w (vw i) (wt i)
  d : ∀ i j, i < 32 → j < 32 → i ≠ j → ∀ k ∈ fpv (vw i), k ∉ fpv (vw j)
def WtPost (gw : Nat) (vw : Nat → Value) (a : Nat) (wt' : Nat → List Int) (r : Value) (w : World) (e : Ending) (w' : World) : Prop :=
  ∃ v', e = .returned r ∧ IsWt w' gw (updV vw a v') wt' ∧ Chg (gw :: fpv (vw a)) w w' ∧ ∀ k ∈ fpv v', k ∈ fpv (vw a) ∨ w.heap.size ≤ k
theorem lclone_sl (w : World) (g i n c B : Nat) (ys : List Int) (hu : SlI w B (.slice (some ⟨g, i, none⟩) n c) ys) (hB : B ≤ w.heap.size) (hl : ys.length ≤ 1000000) : Calls Tryz.prog 41 #[.slice (some ⟨g, i, none⟩) n c] w fun e w' => ∃ v', e = .returned v' ∧ OwnI 3 w' v' ys ∧ Chg [] w w' ∧ ∀ k ∈ fpv v', w.heap.size ≤ k := by
  have hnil : ∀ w : World, (binOp BinOp.eql 37 (.slice (some ⟨g, i, none⟩) n c) (.slice none 0 0)).run Tryz.prog w = .ok (.bool false) w := fun _ => by kernel_rfl
  have HU := Lib.hid (And.intro hu (And.intro hB hl)); clear hu hB hl
  go_enter Tryz.func41, Tryz.ntmps41
  go_wp2_with (at_builtin; refine wpList_cat_sl rfl _ _ rfl slZ rfl (OwnI.empty _ w) rfl (HU.out.1.chg ((Chg.refl [] w).alloc _) HU.out.2.1 (by simp)) (by have := HU.out.2.2; simp; omega) ?_; intro A' c' w2 O2 S2)
  go_ret
  rw [List.nil_append, List.length_nil, Nat.zero_add] at O2
  rw [List.length_nil, Nat.zero_add] at S2
  have one : ∀ k ∈ fpv (.slice (some ⟨w.heap.size, 0, none⟩) 0 0), k = w.heap.size := fun k hk => by simpa [fpv, Value.ownBlock, eq_comm] using hk
  refine ⟨_, rfl, O2, ((Chg.refl [] w).alloc (.cells #[] 3)).newS S2.c (fun k hk => by rw [one k hk]; exact Nat.le_refl _), fun k hk => ?_⟩
  rcases S2.f k hk with h | h
  · rw [one k h]; exact Nat.le_refl _
  · rw [World.size_alloc] at h; omega
def rgPopN : Nat → RgR → RgR × List Int
  | 0, r => (r, [])
  | k + 1, r => (rgPop (rgPopN k r).1, (rgPopN k r).2 ++ [(rgPopN k r).1.l (rgPopN k r).1.fr])
def rgPutX (r : RgR) (x : Int) : RgR × List Int := if r.n < 256 then (rgPut r x, []) else ((rgPopN 128 r).1, (rgPopN 128 r).2 ++ [x])
def RgxPost (g : Nat) (r : RgR) (xs : List Int) (w : World) (e : Ending) (w' : World) : Prop := ∃ v, e = .returned v ∧ OwnI 3 w' v xs ∧ (∀ b ∈ fpv v, w.heap.size ≤ b) ∧ Blk w' g 263 (rgC r) ∧ Chg [g] w w'
def BhRel (w0 : World) (g : Nat) (r : RgR) (gk : Nat) (v idx : Value) (w : World) : Prop := ∃ (j : Nat) (A : Option Addr) (c : Nat), gk + j = 128 + 1 ∧ j ≤ 128 ∧ idx = .int .i64 (j : Nat) ∧ v = .slice A j c ∧ OwnI 3 w (.slice A j c) (rgPopN j r).2 ∧ (∀ b ∈ fpv (.slice A j c), w0.heap.size ≤ b) ∧ Blk w g 263 (rgC (rgPopN j r).1) ∧ Chg [g] w0 w
def QpPost (g : Nat) (vq : Value) (xs : List Int) (w : World) (e : Ending) (w' : World) : Prop := ∃ vq', e = .returned (.tuple #[]) ∧ Blk w' g 267 #[vq'] ∧ OwnI 3 w' vq' xs ∧ (∀ k ∈ fpv vq', k ∈ fpv vq ∨ w.heap.size ≤ k) ∧ Chg (g :: fpv vq) w w'
def getN (ps most : Nat) (com : List Int) : Nat := min (min (min (com.length / ps + 1) most) 128) com.length
def QgPost (g : Nat) (n : Nat) (com : List Int) (w : World) (e : Ending) (w' : World) : Prop := ∃ v vq', e = .returned v ∧ OwnI 3 w' v (com.take n) ∧ (∀ k ∈ fpv v, w.heap.size ≤ k) ∧ Blk w' g 267 #[vq'] ∧ OwnI 3 w' vq' (com.drop n) ∧ (∀ k ∈ fpv vq', w.heap.size ≤ k) ∧ (∀ k ∈ fpv v, k ∉ fpv vq') ∧ Chg [g] w w'
section
variable {w w' : World} {g gq P : Nat} {vr vq vq' : Value} {gp : Nat → Nat} {r : Nat → RgR} {com com' : List Int}
end
def rgL (r : RgR) : List Int := (List.range r.n).map fun j => r.l ((r.fr + j) % 256)
theorem rgL_len (r : RgR) : (rgL r).length = r.n := by simp [rgL]
theorem rgL_at (r : RgR) {j : Nat} (h : j < r.n) : (rgL r)[j]? = some (r.l ((r.fr + j) % 256)) := by simp [rgL, h]
def RdyPost (g gq P : Nat) (vr vq : Value) (gp : Nat → Nat) (r : Nat → RgR) (com : List Int) (S : List Nat) (v : Value) (w : World) (e : Ending) (w' : World) : Prop :=
  ∃ vq', e = .returned v ∧ IsSc w' g gq P vr vq' gp r com ∧ (∀ k ∈ fpv vq', k ∈ fpv vq ∨ w.heap.size ≤ k) ∧ Chg S w w'
section
variable {w : World} {g gq P : Nat} {vr vq : Value} {gp : Nat → Nat} {r : Nat → RgR} {com : List Int} (I : IsSc w g gq P vr vq gp r com)
include I
end
theorem lclone_own (w : World) (v : Value) (xs : List Int) (O : OwnI 3 w v xs) (hw : ∀ x ∈ xs, WfI x) (hl : xs.length ≤ 1000000) : Calls Tryz.prog 41 #[v] w fun e w' => ∃ v', e = .returned v' ∧ OwnI 3 w' v' xs ∧ Chg [] w w' ∧ ∀ k ∈ fpv v', w.heap.size ≤ k := by
  rcases O.o.2 with ⟨rfl, h0⟩ | ⟨gb, cap, cur, rfl, _, _, hc, hm2, _⟩
  · have : xs = [] := List.length_eq_zero_iff.1 h0
    subst this
    exact (lclone_nil w).mono fun e w' ⟨he, c⟩ => ⟨_, he, OwnI.nil _ _, c, fun b hb => by simp [fpv, Value.ownBlock] at hb⟩
  · exact lclone_sl w gb 0 _ cap _ xs (O.sl hw (by unfold maxLen; omega)) (Nat.le_refl _) hl
def NlPost (xs : List Int) (w : World) (e : Ending) (w' : World) : Prop := ∃ v, e = .returned v ∧ OwnI 3 w' v xs ∧ Chg [] w w' ∧ ∀ k ∈ fpv v, w.heap.size ≤ k
theorem q_all (w : World) (g : Nat) (vq : Value) (com : List Int) (B : Blk w g 267 #[vq]) (O : OwnI 3 w vq com) (hw : ∀ x ∈ com, WfI x) (hl : com.length ≤ 1000000) : Calls Tryz.prog 94 #[.pointer (some ⟨g, 0, none⟩)] w (NlPost com w) := by
  have K := lclone_own w vq com O hw hl
  obtain ⟨A, c, hv⟩ := O.slice
  obtain ⟨n, hn⟩ : ∃ n, n = com.length := ⟨_, rfl⟩
  rw [← hn] at hv
  subst hv
  clear hn
  have c0 := B.cellv 0 rfl
  have HK := Lib.hid K; clear K O B
  go_enter Tryz.func94, Tryz.ntmps94
  go_wp2_with fail
  refine HK.out.mono ?_
  rintro e w1 ⟨v1, rfl, O1, c1, F1⟩
  obtain ⟨A1, cc, hv1⟩ := O1.slice
  obtain ⟨n1, hn1⟩ : ∃ n, n = com.length := ⟨_, rfl⟩
  rw [← hn1] at hv1
  subst hv1
  clear hn1
  have H1 := Lib.hid (And.intro O1 (And.intro c1 F1)); clear O1 c1 F1
  go_wp2_with fail
  go_ret
  exact ⟨_, rfl, H1.out.1, H1.out.2.1, H1.out.2.2⟩
section
variable {w : World} {g gq P : Nat} {vr vq : Value} {gp : Nat → Nat} {r : Nat → RgR} {com : List Int} (I : IsSc w g gq P vr vq gp r com)
include I
end
def AllRelL (w0 : World) (r : RgR) (gk : Nat) (v idx : Value) (w : World) : Prop := ∃ (j : Nat) (A : Option Addr) (c : Nat), gk + j = r.n + 1 ∧ j ≤ r.n ∧ idx = .int .i64 (j : Nat) ∧ v = .slice A j c ∧ OwnI 3 w (.slice A j c) ((rgL r).take j) ∧ (∀ b ∈ fpv (.slice A j c), w0.heap.size ≤ b) ∧ Chg [] w0 w
theorem rg_all_l (w : World) (g : Nat) (r : RgR) (B : Blk w g 263 (rgC r)) (hs : r.hs = false) (hf : r.fr < 256) (hn : r.n ≤ 256) : Calls Tryz.prog 93 #[.pointer (some ⟨g, 0, none⟩)] w (NlPost (rgL r) w) := by
  have c0 : w.cell? ⟨g, 259, none⟩ = some (.bool false) := by rw [← hs]; exact B.cellv 259 (rgC_hs r)
  have c1 : w.cell? ⟨g, 257, none⟩ = some (.int .i64 (r.n : Nat)) := B.cellv 257 (rgC_n r)
  have HB := Lib.hid B; clear B
  go_enter Tryz.func93, Tryz.ntmps93
  go_wp2_with fail
  go_loopg [3, 22] (r.n + 1) (fun gk v idx wr => AllRelL w r gk v idx wr)
  case atStart => exact ⟨0, none, 0, by omega, by omega, rfl, rfl, OwnI.nil _ _, fun b hb => by simp [fpv, Value.ownBlock] at hb, Chg.refl [] w⟩
  case round =>
    obtain ⟨j, A, c, hgk, hj, rfl, rfl, O, hF, cW⟩ := hrel
    have hxs : ((rgL r).take j).length = j := by rw [List.length_take, rgL_len]; omega
    have HO := Lib.hid (And.intro hF (And.intro cW (And.intro hxs O))); clear hF cW hxs O
    by_cases hlt : j < r.n
    · have d1 : (j : Int) < (r.n : Int) := by omega
      have Br := HO.out.2.1.blk HB.out (by simp)
      have KA := rg_at wr g r Br j hf (by omega)
      have HA := Lib.hid (And.intro Br KA); clear Br KA
      go_wp2_with fail
      refine (HA.out.2).mono ?_
      rintro e w2 ⟨rfl, c2⟩
      have B2 := c2.blk HA.out.1 (by simp)
      have k0 : w2.cell? ⟨g, (r.fr + j) % 256, none⟩ = some (.int .i64 (r.l ((r.fr + j) % 256))) := B2.cellv _ (rgC_at r (by omega))
      have O2 := HO.out.2.2.2.chg0 c2
      have hl := HO.out.2.2.1
      have H2 := Lib.hid c2; clear c2 B2
      go_wp2_with (at_builtin; refine wpList_push_int rfl _ _ rfl slZ rfl O2 rfl (by omega) ?_; rw [hl]; intro A' c' w9 O9 S9)
      have D9 := (HO.out.2.1.trans H2.out).newS S9.c HO.out.1
      have F9 : ∀ b ∈ fpv (.slice A' (j + 1) c'), w.heap.size ≤ b := fun b hb => by
        rcases S9.f b hb with h | h
        · exact HO.out.1 b h
        · exact Nat.le_trans (HO.out.2.1.trans H2.out).size h
      have e9 : (rgL r).take j ++ [r.l ((r.fr + j) % 256)] = (rgL r).take (j + 1) := by rw [List.take_add_one, rgL_at r hlt]; rfl
      rw [e9] at O9
      have H9 := Lib.hid (And.intro O9 (And.intro F9 D9)); clear O9 F9 D9 S9 O2 hl e9
      go_roundg (r.n - j)
      case measure => omega
      case rel => exact ⟨j + 1, A', c', by omega, by omega, by go_num, by go_num, H9.out.1, H9.out.2.1, H9.out.2.2⟩
    · have d1 : ¬ (j : Int) < (r.n : Int) := by omega
      have ej : j = r.n := by omega
      subst ej
      have O9 : OwnI 3 wr (.slice A r.n c) (rgL r) := by
        have h := HO.out.2.2.2
        rw [List.take_of_length_le (by rw [rgL_len]; omega)] at h
        exact h
      have H9 := Lib.hid O9; clear O9
      go_wp2_with fail
      go_ret
      exact ⟨_, rfl, H9.out, HO.out.2.1, HO.out.1⟩
def ScTo (g gq P : Nat) (vr vq : Value) (gp : Nat → Nat) (r : Nat → RgR) (com : List Int) (v : Value) (w : World) (e : Ending) (w' : World) : Prop :=
  ∃ vq' T, e = .returned v ∧ IsSc w' g gq P vr vq' gp r com ∧ (∀ k ∈ fpv vq', k ∈ fpv vq ∨ w.heap.size ≤ k) ∧ (∀ k ∈ T, ScF g gq P vr vq gp k) ∧ Chg T w w'
def hd0 (l : List Int) : Int := l.headD 0
def neB (l : List Int) : Bool := decide (l ≠ [])
def fairB (tick : Int) (com : List Int) : Bool := decide (tick = 61 ∧ com ≠ [])
def rgPuts : RgR → List Int → RgR
  | r, [] => r
  | r, x :: l => rgPuts (rgPut r x) l
section
variable {w : World} {g gq P : Nat} {vr vq : Value} {gp : Nat → Nat} {r : Nat → RgR} {com : List Int} (I : IsSc w g gq P vr vq gp r com)
include I
def PtRel (w : World) (g gq P : Nat) (vr : Value) (gp : Nat → Nat) (r : Nat → RgR) (com xs : List Int) (p m : Nat) (v : Value) (gk : Nat) (idx : Value) (wr : World) : Prop :=
  ∃ (j : Nat) (vq : Value), gk + j = m + 1 ∧ j ≤ m ∧ idx = .int .i64 (j : Nat) ∧ IsSc wr g gq P vr vq gp (updV r p (rgPuts (r p) (xs.tail.take j))) com ∧ (∀ k ∈ fpv vq, w.heap.size ≤ k) ∧ OwnI 3 wr v xs ∧ (∀ k ∈ fpv v, k ∉ fpv vq) ∧ Chg [gq, gp p] w wr
end
def fst4 (b : Nat → Bool) : Nat := if b 0 = true then 0 else if b 1 = true then 1 else if b 2 = true then 2 else 3
def pickB (b : Nat → Bool) : Bool := b (fst4 b)
def pickX (x : Nat → Int) (b : Nat → Bool) : Int := if b (fst4 b) = true then x (fst4 b) else 0
def scT (g gq P : Nat) (vr vq : Value) (gp : Nat → Nat) : List Nat := g :: gq :: (fpv vr ++ fpv vq ++ (List.range P).map gp)
structure PkG (w0 : World) (gs gk gt gv g p : Nat) (tick vic : Int) (gf gr gq P : Nat) (vr vq0 vq : Value) (gp : Nat → Nat) (r : Nat → RgR) (com : List Int) (w : World) : Prop where
  f : Blk w gf 311 #[.func (Fn.func 208) #[] #[.pointer (some ⟨gt, 0, none⟩), .pointer (some ⟨gs, 0, none⟩)], .func (Fn.func 214) #[.pointer (some ⟨gp p, 0, none⟩)] #[],
    .func (Fn.func 211) #[] #[.pointer (some ⟨gs, 0, none⟩), .pointer (some ⟨gr, 0, none⟩)], .func (Fn.func 212) #[] #[.pointer (some ⟨gs, 0, none⟩), .pointer (some ⟨gv, 0, none⟩), .pointer (some ⟨gk, 0, none⟩), .pointer (some ⟨gr, 0, none⟩)]]
  s : Blk w gs 100 #[.pointer (some ⟨g, 0, none⟩)]
  k : Blk w gk 3 #[.int .i64 (p : Nat)]
  t : Blk w gt 3 #[.int .i64 tick]
  v : Blk w gv 3 #[.int .i64 vic]
  rr : Blk w gr 173 #[.pointer (some ⟨gp p, 0, none⟩)]
  nk : gk ∉ fpv vq ∧ gt ∉ fpv vq ∧ gv ∉ fpv vq
  nr : gr ∉ fpv vr
  i : IsSc w g gq P vr vq gp r com
  q : ∀ k ∈ fpv vq, k ∈ fpv vq0 ∨ w0.heap.size ≤ k
  c : Chg (scT g gq P vr vq0 gp) w0 w
section
variable {w : World} {g gq P : Nat} {vr vq : Value} {gp : Nat → Nat} {r : Nat → RgR} {com : List Int} (I : IsSc w g gq P vr vq gp r com)
include I
end
def vicB (P p : Nat) (r : Nat → RgR) (vic : Int) : Bool := decide (0 ≤ vic ∧ vic < (P : Int) ∧ vic ≠ (p : Int) ∧ ¬ (r vic.toNat).n = 0)
def pkB (P p : Nat) (tick vic : Int) (r : Nat → RgR) (com : List Int) : Nat → Bool
  | 0 => fairB tick com
  | 1 => decide (0 < (r p).n)
  | 2 => neB com
  | _ => vicB P p r vic
def pkX (P p : Nat) (tick vic : Int) (r : Nat → RgR) (com : List Int) : Nat → Int
  | 0 => if fairB tick com = true then hd0 com else 0
  | 1 => if 0 < (r p).n then (r p).l (r p).fr else 0
  | 2 => hd0 com
  | _ => if vicB P p r vic = true then stlX r p vic.toNat else 0
def pkR (P p : Nat) (vic : Int) (r : Nat → RgR) (com : List Int) : Nat → Nat → RgR
  | 0 => r
  | 1 => if 0 < (r p).n then updV r p (rgPop (r p)) else r
  | 2 => updV r p (rgPuts (r p) (com.take (getN P 64 com)).tail)
  | _ => if vicB P p r vic = true then stlR r p vic.toNat else r
def pkC (P : Nat) (tick : Int) (com : List Int) : Nat → List Int
  | 0 => if fairB tick com = true then com.tail else com
  | 1 => com
  | 2 => com.drop (getN P 64 com)
  | _ => com
structure RgOk (r : RgR) : Prop where
  hs : r.hs = false
  fr : r.fr < 256
  n : r.n ≤ 256
section
variable {w : World} {g gq P : Nat} {vr vq : Value} {gp : Nat → Nat} {r : Nat → RgR} {com : List Int} (I : IsSc w g gq P vr vq gp r com)
include I
end
end Go.Proofs.YtcpljjacamibeaaGreatDoor
