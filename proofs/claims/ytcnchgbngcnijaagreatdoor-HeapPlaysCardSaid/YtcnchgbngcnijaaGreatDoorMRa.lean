/- The document's arena (treadmillref5): how it lies in memory; find. -/
/- The document's arena (treadmillref5): Full, Class, At. -/
/- The document's arena (treadmillref5): At. -/
/- The document's arena (treadmillref5): Len, Load, Marked, Mark. -/
/- The document's arena (treadmillref5): a span told anew; Mark. -/
/- The document's arena (treadmillref5): Load. -/
/- The document's arena (treadmillref5): Store. -/
/- The document's arena (treadmillref5): Find. -/
/- The document's arena (treadmillref5): NewArena. -/
import Derived.Test.YtcnchgbngcnijaaGreatDoorMRs
import Derived.Test.YtcnchgbngcnijaaGreatDoorMPd
import Derived.Test.YtcnchgbngcnijaaGreatDoorMAs
import Derived.Test.YtcnchgbngcnijaaGreatDoorMAr
namespace Go.Proofs.YtcnchgbngcnijaaGreatDoor
open Go.RowKit Go.Maps

structure RaH where
  g : Nat
  gp : Nat
  A : Nat
  c : Nat
  vi : Value
  vs : Value
  vl : Value
  bw : Nat
  B : Nat → RsB
  L : Nat → Nat
  mw : Nat
def raP (h : RaH) (id : Nat) : Value := .pointer (some ⟨(h.B id).g, 0, none⟩)
def clsOf (a : Ar) (id : Nat) : Nat := match a.sp id with | none => 0 | some s => slK s.k
def raL (h : RaH) (a : Ar) (id : Nat) : Value := .slice (some ⟨h.L id, 0, none⟩) (clsOf a id) (clsOf a id)
/-- The second form of the arena a: ids rise beside their spans. -/
structure RaM (w : World) (h : RaH) (a : Ar) (ids : List Nat) : Prop where
  b : Blk w h.g 40 #[.pointer (some ⟨h.gp, 0, none⟩), h.vi, h.vs, h.vl, .map (some h.bw)]
  P : ∃ F, RfA w h.gp h.A h.c a.n F ∧ SayF a.n a.l F
  i : OwnI 3 w h.vi (intsN ids)
  s : OwnV 97 w h.vs (ids.map (raP h))
  l : OwnV 33 w h.vl (ids.map (raL h a))
  S : ∀ id s, a.sp id = some s → ∃ r, IsRs w (h.B id) s r
  Ln : ∀ id s, a.sp id = some s → ∃ ls : List Int, ls.length = slK s.k ∧ Blk w (h.L id) 3 (ls.map (Value.int .i64)).toArray ∧ ∀ y xs, y < slK s.k → s.F y = true → a.ob (s.addr y) = some xs → ls[y]? = some (xs.length : Int) ∧ xs.length ≤ szK s.k
  W : ∃ f, VMap Tryz.prog 3 w h.bw h.mw f ∧ ∀ x xs j z, a.ob x = some xs → xs[j]? = some z → f ((x + j : Nat) : Int) = some (.int .i64 z)
  rise : ids.Pairwise (· < ·)
  mem : ∀ id, id ∈ ids ↔ (a.sp id).isSome = true
  d1 : ∀ id id' s s', a.sp id = some s → a.sp id' = some s' → id ≠ id' → ∀ k ∈ (h.B id).l, k ∉ (h.B id').l
  d2 : ∀ id s, a.sp id = some s → h.A ∉ (h.B id).l
  d3 : ∀ id id' s s', a.sp id = some s → a.sp id' = some s' → id ≠ id' → h.L id ≠ h.L id'
  d4 : ∀ id s, a.sp id = some s → h.L id ∉ fpv h.vi
/-- Its blocks. -/
def RaF (h : RaH) (a : Ar) (k : Nat) : Prop := k = h.g ∨ k = h.gp ∨ k = h.A ∨ k ∈ fpv h.vi ∨ k ∈ fpv h.vs ∨ k ∈ fpv h.vl ∨ k = h.bw ∨ ∃ id s, a.sp id = some s ∧ (k ∈ (h.B id).l ∨ k = h.L id)
section
variable {w w' : World} {h : RaH} {a : Ar} {ids : List Nat}
theorem RaM.chg {S : List Nat} (M : RaM w h a ids) (c : Chg S w w') (hn : ∀ k, RaF h a k → k ∉ S) : RaM w' h a ids := by
  obtain ⟨F, hP, hF⟩ := M.P
  obtain ⟨f, hW, hf⟩ := M.W
  refine ⟨c.blk M.b (hn _ (.inl rfl)), ⟨F, hP.chg c (hn _ (.inr (.inl rfl))) (hn _ (.inr (.inr (.inl rfl)))), hF⟩, M.i.chg c (fun k hk => hn k (.inr (.inr (.inr (.inl hk))))), M.s.chg c (fun k hk => hn k (.inr (.inr (.inr (.inr (.inl hk)))))), M.l.chg c (fun k hk => hn k (.inr (.inr (.inr (.inr (.inr (.inl hk))))))), fun id s hs => ?_, fun id s hs => ?_, ⟨f, hW.chg c (hn _ (.inr (.inr (.inr (.inr (.inr (.inr (.inl rfl)))))))), hf⟩, M.rise, M.mem, M.d1, M.d2, M.d3, M.d4⟩
  · obtain ⟨r, hr⟩ := M.S id s hs
    exact ⟨r, hr.chg c fun k hk => hn k (.inr (.inr (.inr (.inr (.inr (.inr (.inr ⟨id, s, hs, .inl hk⟩)))))))⟩
  · obtain ⟨ls, h1, h2, h3⟩ := M.Ln id s hs
    exact ⟨ls, h1, c.blk h2 (hn _ (.inr (.inr (.inr (.inr (.inr (.inr (.inr ⟨id, s, hs, .inr rfl⟩)))))))), h3⟩
theorem RaM.chg0 (M : RaM w h a ids) (c : Chg [] w w') : RaM w' h a ids := M.chg c (by simp)
theorem RaM.lt (M : RaM w h a ids) {k : Nat} (hk : RaF h a k) : k < w.heap.size := by
  obtain ⟨F, hP, -⟩ := M.P
  obtain ⟨f, hW, -⟩ := M.W
  rcases hk with rfl | rfl | rfl | hk | hk | hk | rfl | ⟨id, s, hs, hk | rfl⟩
  · exact M.b.lt
  · exact hP.b1.lt
  · exact hP.b2.lt
  · exact M.i.lt hk
  · exact M.s.lt hk
  · exact M.l.lt hk
  · exact hW.lt
  · obtain ⟨r, hr⟩ := M.S id s hs
    exact hr.lt k hk
  · obtain ⟨ls, -, h2, -⟩ := M.Ln id s hs
    exact h2.lt
/-- Where an id stands. -/
theorem RaM.pos (M : RaM w h a ids) {id : Nat} {s : Sp} (hs : a.sp id = some s) : ∃ k : Nat, ids[k]? = some id := by
  have h1 := (M.mem id).2 (by rw [hs]; rfl)
  obtain ⟨k, hk, e⟩ := List.getElem_of_mem h1
  exact ⟨k, by rw [List.getElem?_eq_getElem hk, e]⟩
theorem RaM.at_ (M : RaM w h a ids) {k id : Nat} (hk : ids[k]? = some id) : ∃ s, a.sp id = some s := Option.isSome_iff_exists.1 ((M.mem id).1 (List.mem_of_getElem? hk))
end
/-- Where an id stands in the list, or -1. -/
def FnSays (ids : List Nat) (x r : Int) : Prop := (r = -1 ∧ ∀ id ∈ ids, ((id : Nat) : Int) ≠ x) ∨ ∃ (k id : Nat), r = ((k : Nat) : Int) ∧ ids[k]? = some id ∧ x = (id : Nat)
def FnRel (ids : List Nat) (x : Int) (gk : Nat) (idx : Value) (w0 w : World) : Prop := ∃ i, gk + i = ids.length + 1 ∧ i ≤ ids.length ∧ idx = .int .i64 (i : Nat) ∧ (∀ j id, j < i → ids[j]? = some id → ((id : Nat) : Int) ≠ x) ∧ w = w0
def FnPost (ids : List Nat) (x : Int) (w : World) (e : Ending) (w' : World) : Prop := ∃ r, FnSays ids x r ∧ QuPost (.int .i64 r) w e w'
set_option maxHeartbeats 1600000 in
set_option maxRecDepth 100000 in
theorem rafind_ok (w : World) (h : RaH) (a : Ar) (ids : List Nat) (M : RaM w h a ids) (hl : ids.length ≤ 100000) (x : Int) : Calls Tryz.prog 101 #[.pointer (some ⟨h.g, 0, none⟩), .int .i64 x] w (FnPost ids x w) := by
  have b1 : w.cell? ⟨h.g, 1, none⟩ = some h.vi := M.b.cellv 1 rfl
  obtain ⟨Ai, ci, hvi⟩ := M.i.slice
  have hlen : (intsN ids).length = ids.length := by unfold intsN; rw [List.length_map]
  rw [hlen] at hvi
  have Mi := M.i
  rw [hvi] at b1 Mi
  obtain ⟨n, hn⟩ : ∃ n, n = ids.length := ⟨_, rfl⟩
  rw [← hn] at b1 hl
  have HI := Lib.hid (And.intro Mi hn); clear M Mi hvi hlen hn
  go_enter Tryz.func101, Tryz.ntmps101
  go_wp2_with fail
  go_loopg [5] (n + 1) (fun gk idx wr => FnRel ids x gk idx w wr)
  case atStart => exact ⟨0, by have := HI.out.2; omega, by omega, rfl, fun j id hj => by omega, rfl⟩
  case round =>
    obtain ⟨i, hgk, hi, rfl, hno, rfl⟩ := hrel
    rw [← HI.out.2] at hgk hi
    by_cases ei : i < n
    · obtain ⟨id, hid⟩ : ∃ id, ids[i]? = some id := ⟨_, List.getElem?_eq_getElem (by rw [← HI.out.2]; exact ei)⟩
      have hz : (intsN ids)[i]? = some (id : Int) := by unfold intsN; rw [List.getElem?_map, hid]; rfl
      obtain ⟨g, rfl, c1, -, -⟩ := HI.out.1.cell hz
      have hi' : (i : Int) < (n : Int) := by omega
      have hi0 : (0 : Int) ≤ (i : Int) := by omega
      have HN := Lib.hid (And.intro hno hid); clear hno hid hz
      by_cases e : (id : Int) = x
      · have hq : ((id : Int) == x) = true := by simpa using e
        have HE := Lib.hid e; clear e
        go_wp2_with fail
        go_ret
        exact ⟨(i : Nat), .inr ⟨i, id, rfl, HN.out.2, HE.out.symm⟩, rfl, rfl⟩
      · have hq : ((id : Int) == x) = false := by simpa using e
        have HE := Lib.hid e; clear e
        go_wp2_with fail
        go_roundg (n - i)
        case measure => omega
        case rel => exact ⟨i + 1, by have := HI.out.2; omega, by have := HI.out.2; omega, by go_num, fun j id' hj hid' => by
          by_cases e2 : j = i
          · subst e2
            rw [HN.out.2] at hid'
            have := Option.some.inj hid'
            subst this
            exact HE.out
          · exact HN.out.1 j id' (by omega) hid', rfl⟩
    · obtain rfl : i = n := by omega
      have hi' : ¬ (i : Int) < (i : Int) := by omega
      have HN := Lib.hid hno; clear hno
      go_wp2_with fail
      go_ret
      exact ⟨-1, .inl ⟨rfl, fun id hid => by
        obtain ⟨k, hk, e⟩ := List.getElem_of_mem hid
        exact HN.out k id (by have := HI.out.2; omega) (by rw [List.getElem?_eq_getElem hk, e])⟩, rfl, rfl⟩
end Go.Proofs.YtcnchgbngcnijaaGreatDoor
namespace Go.Proofs.YtcnchgbngcnijaaGreatDoor
open Go.RowKit Go.Maps

def vcap (v : Value) : Nat := match v with | .slice _ _ c => c | _ => 0
section
variable {w w' : World} {h : RaH} {a : Ar} {ids : List Nat}
/-- What find tells, told of the spans. -/
theorem RaM.find (M : RaM w h a ids) {x r : Int} (hr : FnSays ids x r) : (r = -1 ∧ spI a x = none) ∨ ∃ (k id : Nat) (s : Sp), r = ((k : Nat) : Int) ∧ ids[k]? = some id ∧ x = ((id : Nat) : Int) ∧ a.sp id = some s ∧ spI a x = some s := by
  rcases hr with ⟨rfl, hno⟩ | ⟨k, id, rfl, hk, rfl⟩
  · refine .inl ⟨rfl, ?_⟩
    unfold spI
    split
    · next h0 =>
      cases hs : a.sp x.toNat with
      | none => rfl
      | some s =>
        exfalso
        exact hno x.toNat ((M.mem _).2 (by rw [hs]; rfl)) (by omega)
    · rfl
  · obtain ⟨s, hs⟩ := M.at_ hk
    exact .inr ⟨k, id, s, rfl, hk, rfl, hs, by unfold spI; rw [if_pos (by omega), Int.toNat_natCast, hs]⟩
/-- The span at a place of the list. -/
theorem RaM.scell (M : RaM w h a ids) {k id : Nat} (hk : ids[k]? = some id) : ∃ g, h.vs = .slice (some ⟨g, 0, none⟩) ids.length (vcap h.vs) ∧ w.cell? ⟨g, k, none⟩ = some (raP h id) := by
  have h1 : (ids.map (raP h))[k]? = some (raP h id) := by rw [List.getElem?_map, hk]; rfl
  obtain ⟨A, c, hv⟩ := M.s.slice
  rw [List.length_map] at hv
  have Ms := M.s
  rw [hv] at Ms ⊢
  obtain ⟨g, e, hc, -⟩ := Ms.cell h1
  subst e
  exact ⟨g, rfl, hc⟩
end
def RflPost (a : Ar) (x : Int) (w : World) (e : Ending) (w' : World) : Prop := ∃ bo, e = .returned (.bool bo) ∧ w' = w ∧ (bo = true ↔ (spI a x = none ∨ ∃ s, spI a x = some s ∧ fullS s))
set_option maxHeartbeats 1600000 in
set_option maxRecDepth 100000 in
theorem rafull_ok (w : World) (h : RaH) (a : Ar) (ids : List Nat) (M : RaM w h a ids) (hl : ids.length ≤ 100000) (x : Int) : Calls Tryz.prog 62 #[.pointer (some ⟨h.g, 0, none⟩), .int .i64 x] w (RflPost a x w) := by
  have b2 : w.cell? ⟨h.g, 2, none⟩ = some h.vs := M.b.cellv 2 rfl
  have hfi := rafind_ok w h a ids M hl x
  have HM := Lib.hid (And.intro M hfi); clear M hfi
  go_enter Tryz.func62, Tryz.ntmps62
  go_wp2_with fail
  refine HM.out.2.mono ?_
  rintro e w1 ⟨r, hr, rfl, rfl⟩
  rcases HM.out.1.find hr with ⟨rfl, hn⟩ | ⟨k, id, s, rfl, hk, rfl, hs, hx⟩
  · have HN := Lib.hid hn; clear hn hr
    go_wp2_with fail
    go_ret
    exact ⟨true, rfl, rfl, ⟨fun _ => .inl HN.out, fun _ => rfl⟩⟩
  · obtain ⟨g, hv, hc⟩ := HM.out.1.scell hk
    obtain ⟨n, hn⟩ : ∃ n, n = ids.length := ⟨_, rfl⟩
    obtain ⟨c, hcc⟩ : ∃ c, c = (vcap h.vs) := ⟨_, rfl⟩
    have hkl : k < n := by rw [hn]; exact (List.getElem?_eq_some_iff.1 hk).1
    rw [← hn, ← hcc] at hv
    rw [hv] at b2
    have hkl' : (k : Int) < (n : Int) := by omega
    have hk0 : (0 : Int) ≤ (k : Int) := by omega
    have hk1 : ¬ (k : Int) < 0 := by omega
    have hc' : w1.cell? ⟨g, k, none⟩ = some (.pointer (some ⟨(h.B id).g, 0, none⟩)) := hc
    obtain ⟨ρ, hI⟩ := HM.out.1.S id s hs
    have hfu := rsfull_ok w1 (h.B id) s ρ hI
    have HF := Lib.hid (And.intro hfu hx); clear hfu hx hI hs hk hc hr hv hcc hn
    go_wp2_with fail
    refine HF.out.1.mono ?_
    rintro e w2 ⟨bo, rfl, rfl, hbo⟩
    have HB := Lib.hid hbo; clear hbo
    go_wp2_with fail
    go_ret
    refine ⟨bo, rfl, rfl, HB.out.trans ⟨fun hf => .inr ⟨s, HF.out.2, hf⟩, fun hf => ?_⟩⟩
    rcases hf with hf | ⟨s', hs', hf⟩
    · rw [HF.out.2] at hf; cases hf
    · rw [HF.out.2] at hs'; cases hs'; exact hf
def clI (a : Ar) (x : Int) : Int := match spI a x with | none => -1 | some s => (s.k : Nat)
end Go.Proofs.YtcnchgbngcnijaaGreatDoor
namespace Go.Proofs.YtcnchgbngcnijaaGreatDoor
open Go.RowKit Go.Maps

/-- The places before (k, i) where nothing lives at x. -/
def NoAt (a : Ar) (ids : List Nat) (x : Int) (k : Nat) : Prop := ∀ j id s i, j < k → ids[j]? = some id → a.sp id = some s → i < slK s.k → s.F i = true → ((s.addr i : Nat) : Int) ≠ x
def NoIn (s : Sp) (x : Int) (i : Nat) : Prop := ∀ j, j < i → s.F j = true → ((s.addr j : Nat) : Int) ≠ x
def RaoRel (a : Ar) (ids : List Nat) (x : Int) (w0 : World) (gk : Nat) (idx : Value) (w : World) : Prop := ∃ k, gk + k = ids.length + 1 ∧ k ≤ ids.length ∧ idx = .int .i64 (k : Nat) ∧ NoAt a ids x k ∧ Chg [] w0 w
def RaiRel (s : Sp) (x : Int) (w0 : World) (gk : Nat) (idx : Value) (w : World) : Prop := ∃ i, gk + i = slK s.k + 1 ∧ i ≤ slK s.k ∧ idx = .int .i64 (i : Nat) ∧ NoIn s x i ∧ Chg [] w0 w
def RatPost (a : Ar) (ids : List Nat) (x : Int) (w : World) (e : Ending) (w' : World) : Prop :=
  Chg [] w w' ∧ ((NoAt a ids x ids.length ∧ e = .returned (.tuple #[.int .i64 0, .int .i64 0, .bool false])) ∨ ∃ k id s i, ids[k]? = some id ∧ a.sp id = some s ∧ i < slK s.k ∧ s.F i = true ∧ x = ((s.addr i : Nat) : Int) ∧ e = .returned (.tuple #[.int .i64 (k : Nat), .int .i64 (i : Nat), .bool true]))
set_option maxHeartbeats 3200000 in
set_option maxRecDepth 100000 in
theorem raat_ok (w : World) (h : RaH) (a : Ar) (ids : List Nat) (M : RaM w h a ids) (hl : ids.length ≤ 100000) (x : Int) : Calls Tryz.prog 108 #[.pointer (some ⟨h.g, 0, none⟩), .int .i64 x] w (RatPost a ids x w) := by
  obtain ⟨A, c, hv⟩ := M.s.slice
  rw [List.length_map] at hv
  obtain ⟨n, hn⟩ : ∃ n, n = ids.length := ⟨_, rfl⟩
  rw [← hn] at hv hl
  have HM := Lib.hid (And.intro M (And.intro hn hv)); clear M hn hv
  go_enter Tryz.func108, Tryz.ntmps108
  go_wp2_with fail
  go_loopg [7] (n + 1) (fun gk idx wr => RaoRel a ids x w gk idx wr)
  case atStart => exact ⟨0, by have := HM.out.2.1; omega, by omega, rfl, fun j id s i hj => by omega, Chg.refl _ _⟩
  case round =>
    obtain ⟨k, hgk, hk, rfl, hno, cw⟩ := hrel
    obtain ⟨wk, hwk⟩ : ∃ wk, wk = wr := ⟨_, rfl⟩
    subst hwk
    have Mr := HM.out.1.chg0 cw
    have b2 : wk.cell? ⟨h.g, 2, none⟩ = some h.vs := Mr.b.cellv 2 rfl
    rw [← HM.out.2.1] at hgk hk
    by_cases ek : k < n
    · obtain ⟨id, hid⟩ : ∃ id, ids[k]? = some id := ⟨_, List.getElem?_eq_getElem (by rw [← HM.out.2.1]; exact ek)⟩
      obtain ⟨g, hv, hc⟩ := Mr.scell hid
      obtain ⟨c', hcc⟩ : ∃ c', c' = (vcap h.vs) := ⟨_, rfl⟩
      rw [← HM.out.2.1, ← hcc] at hv
      rw [hv] at b2
      obtain ⟨s, hs⟩ := Mr.at_ hid
      obtain ⟨ρ, hI⟩ := Mr.S id s hs
      have hsl := hI.sl
      obtain ⟨m, hm⟩ : ∃ m, m = slK s.k := ⟨_, rfl⟩
      obtain ⟨b, hb⟩ : ∃ b, b = h.B id := ⟨_, rfl⟩
      have hc' : wk.cell? ⟨g, k, none⟩ = some (.pointer (some ⟨b.g, 0, none⟩)) := by rw [hb]; exact hc
      rw [← hb] at hI
      have hg1 : g < wk.heap.size := lt_of_cell hc'
      have hg2 : h.g < wk.heap.size := Mr.b.lt
      rw [← hm] at hsl
      have HK := Lib.hid (And.intro hid (And.intro hs (And.intro hI (And.intro hm (And.intro hno cw)))))
      clear hid hs hI hm hno cw hcc hc hv Mr hb
      have hk' : (k : Int) < (n : Int) := by omega
      have hk0 : (0 : Int) ≤ (k : Int) := by omega
      go_wp2_with fail
      go_loopg [8] (m + 1) (fun gk idx wr' => RaiRel s x wk gk idx wr')
      case atStart => exact ⟨0, by have := HK.out.2.2.2.1; omega, by omega, rfl, fun j hj => by omega, Chg.refl _ _⟩
      case round =>
        obtain ⟨i, hgi, hi, rfl, hni, cw2⟩ := hrel
        have I2 := HK.out.2.2.1.chg0 cw2
        have z1 : wr.cell? ⟨h.g, 2, none⟩ = some (.slice (some ⟨g, 0, none⟩) n c') := cw2.cellv hg2 (by simp) b2
        have z2 : wr.cell? ⟨g, k, none⟩ = some (.pointer (some ⟨b.g, 0, none⟩)) := cw2.cellv hg1 (by simp) hc'
        have z3 : wr.cell? ⟨b.g, 2, none⟩ = some (.slice (some ⟨b.u, 0, none⟩) (slK s.k) (slK s.k)) := I2.hb.cellv 2 rfl
        rw [← HK.out.2.2.2.1] at hgi hi z3
        by_cases ei : i < m
        · have hc2 : wr.cell? ⟨b.u, i, none⟩ = some (.bool (s.F i)) := bools_at I2.hu (by rw [← HK.out.2.2.2.1]; exact ei)
          have hi' : (i : Int) < (m : Int) := by omega
          have hi0 : (0 : Int) ≤ (i : Int) := by omega
          cases hFi : s.F i with
          | false =>
            rw [hFi] at hc2
            have H2 := Lib.hid (And.intro hni (And.intro cw2 hFi)); clear hni cw2 hFi I2
            go_wp2_with fail
            go_roundg (m - i)
            case measure => omega
            case rel => exact ⟨i + 1, by have := HK.out.2.2.2.1; omega, by have := HK.out.2.2.2.1; omega, by go_num, fun j hj hF => by
              by_cases e : j = i
              · subst e; rw [H2.out.2.2] at hF; cases hF
              · exact H2.out.1 j (by omega) hF, H2.out.2.1⟩
          | true =>
            rw [hFi] at hc2
            have hca := rsaddr_ok wr b s ρ i I2 (by rw [← HK.out.2.2.2.1]; exact ei)
            have H2 := Lib.hid (And.intro hni (And.intro cw2 (And.intro hFi hca))); clear hni cw2 hFi I2 hca
            go_wp2_with fail
            refine H2.out.2.2.2.mono ?_
            rintro e w3 ⟨rfl, cw3⟩
            have HC := Lib.hid cw3; clear cw3
            obtain ⟨y, hy⟩ : ∃ y : Int, y = ((s.addr i : Nat) : Int) := ⟨_, rfl⟩
            rw [← hy]
            by_cases e : y = x
            · have hq : (y == x) = true := by simpa using e
              have HE := Lib.hid (And.intro e hy); clear e hy
              go_wp2_with fail
              go_ret3
              exact ⟨HK.out.2.2.2.2.2.trans (H2.out.2.1.trans HC.out), .inr ⟨k, id, s, i, HK.out.1, HK.out.2.1, by rw [← HK.out.2.2.2.1]; exact ei, H2.out.2.2.1, by rw [← HE.out.1, HE.out.2], rfl⟩⟩
            · have hq : (y == x) = false := by simpa using e
              have HE := Lib.hid (And.intro e hy); clear e hy
              go_wp2_with fail
              go_roundg (m - i)
              case measure => omega
              case rel => exact ⟨i + 1, by have := HK.out.2.2.2.1; omega, by have := HK.out.2.2.2.1; omega, by go_num, fun j hj hF => by
                by_cases e : j = i
                · subst e; rw [← HE.out.2]; exact HE.out.1
                · exact H2.out.1 j (by omega) hF, H2.out.2.1.trans HC.out⟩
        · obtain rfl : i = m := by omega
          have hi' : ¬ (i : Int) < (i : Int) := by omega
          have H2 := Lib.hid (And.intro hni cw2); clear hni cw2 I2
          go_wp2_with fail
          go_roundg (n - k)
          case measure => omega
          case rel => exact ⟨k + 1, by have := HM.out.2.1; omega, by have := HM.out.2.1; omega, by go_num, fun j id' s' i' hj hid' hs' hi' hF' => by
            by_cases e : j = k
            · subst e
              rw [HK.out.1] at hid'
              cases hid'
              rw [HK.out.2.1] at hs'
              cases hs'
              exact H2.out.1 i' (by rw [HK.out.2.2.2.1]; exact hi') hF'
            · exact HK.out.2.2.2.2.1 j id' s' i' (by omega) hid' hs' hi' hF', HK.out.2.2.2.2.2.trans H2.out.2⟩
    · obtain rfl : k = n := by omega
      have hk' : ¬ (k : Int) < (k : Int) := by omega
      have HN := Lib.hid (And.intro hno cw); clear hno cw Mr
      rw [HM.out.2.2] at b2
      go_wp2_with fail
      go_ret3
      exact ⟨HN.out.2, .inl ⟨by rw [← HM.out.2.1]; exact HN.out.1, rfl⟩⟩
end Go.Proofs.YtcnchgbngcnijaaGreatDoor
namespace Go.Proofs.YtcnchgbngcnijaaGreatDoor
open Go.RowKit Go.Maps

section
variable {w w' : World} {h : RaH} {a : Ar} {ids : List Nat}
theorem RaM.noat {N : Nat} (M : RaM w h a ids) (ok : ArOk N a) {x : Int} (hn : NoAt a ids x ids.length) : obI a x = none := by
  unfold obI
  split
  · next h0 =>
    cases ho : a.ob x.toNat with
    | none => rfl
    | some xs =>
      exfalso
      obtain ⟨id, s, i, h1, h2, h3, h4⟩ := (ok.ob x.toNat).1 (by rw [ho]; rfl)
      obtain ⟨k, hk⟩ := M.pos h1
      exact hn k id s i (List.getElem?_eq_some_iff.1 hk).1 hk h1 h2 h3 (by omega)
  · rfl
theorem obI_at {N : Nat} (ok : ArOk N a) {id i : Nat} {s : Sp} (h1 : a.sp id = some s) (h2 : i < slK s.k) (h3 : s.F i = true) : ∃ xs, obI a ((s.addr i : Nat) : Int) = some xs ∧ a.ob (s.addr i) = some xs ∧ 1 ≤ xs.length ∧ xs.length ≤ 256 := by
  have := (ok.ob (s.addr i)).2 ⟨id, s, i, h1, h2, h3, rfl⟩
  obtain ⟨xs, hx⟩ := Option.isSome_iff_exists.1 this
  exact ⟨xs, by unfold obI; rw [if_pos (by omega), Int.toNat_natCast, hx], hx, ok.len _ _ hx⟩
/-- The lengths at a place of the list. -/
theorem RaM.lcell (M : RaM w h a ids) {k id : Nat} {s : Sp} (hk : ids[k]? = some id) (hs : a.sp id = some s) : ∃ g, h.vl = .slice (some ⟨g, 0, none⟩) ids.length (vcap h.vl) ∧ w.cell? ⟨g, k, none⟩ = some (.slice (some ⟨h.L id, 0, none⟩) (slK s.k) (slK s.k)) := by
  have h1 : (ids.map (raL h a))[k]? = some (raL h a id) := by rw [List.getElem?_map, hk]; rfl
  obtain ⟨A, c, hv⟩ := M.l.slice
  rw [List.length_map] at hv
  have Ms := M.l
  rw [hv] at Ms ⊢
  obtain ⟨g, e, hc, -⟩ := Ms.cell h1
  subst e
  have e2 : raL h a id = .slice (some ⟨h.L id, 0, none⟩) (slK s.k) (slK s.k) := by unfold raL clsOf; rw [hs]
  rw [e2] at hc
  exact ⟨g, rfl, hc⟩
end
def lenI (a : Ar) (x : Int) : Nat := ((obI a x).getD []).length
def RmdPost (a : Ar) (x : Int) (w : World) (e : Ending) (w' : World) : Prop :=
  Chg [] w w' ∧ ((obI a x = none ∧ e = .returned (.bool false)) ∨ ∃ id i s, (obI a x).isSome = true ∧ a.sp id = some s ∧ i < slK s.k ∧ s.F i = true ∧ x = ((s.addr i : Nat) : Int) ∧ e = .returned (.bool (s.M i)))
end Go.Proofs.YtcnchgbngcnijaaGreatDoor
namespace Go.Proofs.YtcnchgbngcnijaaGreatDoor
open Go.RowKit Go.Maps

section
variable {w w' : World} {h : RaH} {a : Ar} {ids : List Nat}
theorem OwnV.ne_blk {E : TypeId} {v : Value} {xs : List Value} {g : Nat} {t : TypeId} {cs : Array Value} (h : OwnV E w v xs) (hb : Blk w g t cs) (hne : E ≠ t) : g ∉ fpv v := fun hm => own_ne h.o hb hne (mem_fpv.1 hm)
theorem ownI_ne {E : TypeId} {v : Value} {xs : List Int} {g : Nat} {t : TypeId} {cs : Array Value} (h : OwnI E w v xs) (hb : Blk w g t cs) (hne : E ≠ t) : g ∉ fpv v := fun hm => own_ne h.o hb hne (mem_fpv.1 hm)
/-- A span's own blocks are none of the arena's others. -/
theorem RaM.sep (M : RaM w h a ids) {id : Nat} {s : Sp} (hs : a.sp id = some s) : ∀ k ∈ (h.B id).l, k ≠ h.g ∧ k ≠ h.gp ∧ k ≠ h.A ∧ k ∉ fpv h.vi ∧ k ∉ fpv h.vs ∧ k ∉ fpv h.vl ∧ k ≠ h.bw ∧ (∀ id' s', a.sp id' = some s' → k ≠ h.L id') := by
  obtain ⟨r, I⟩ := M.S id s hs
  obtain ⟨F, hP, -⟩ := M.P
  obtain ⟨f, hW, -⟩ := M.W
  have d2 := M.d2 id s hs
  intro k hk
  have hA : k ≠ h.A := fun e => d2 (e ▸ hk)
  simp only [RsB.l, List.mem_cons, List.not_mem_nil, or_false] at hk
  rcases hk with rfl | rfl | rfl
  · exact ⟨I.hb.ne_ M.b (by decide), I.hb.ne_ hP.b1 (by decide), hA, ownI_ne M.i I.hb (by decide), M.s.ne_blk I.hb (by decide), M.l.ne_blk I.hb (by decide), Ne.symm (hW.ne_blk I.hb), fun id' s' hs' => by
      obtain ⟨ls, -, h2, -⟩ := M.Ln id' s' hs'
      exact I.hb.ne_ h2 (by decide)⟩
  · exact ⟨I.hu.ne_ M.b (by decide), I.hu.ne_ hP.b1 (by decide), hA, ownI_ne M.i I.hu (by decide), M.s.ne_blk I.hu (by decide), M.l.ne_blk I.hu (by decide), Ne.symm (hW.ne_blk I.hu), fun id' s' hs' => by
      obtain ⟨ls, -, h2, -⟩ := M.Ln id' s' hs'
      exact I.hu.ne_ h2 (by decide)⟩
  · exact ⟨I.hm.ne_ M.b (by decide), I.hm.ne_ hP.b1 (by decide), hA, ownI_ne M.i I.hm (by decide), M.s.ne_blk I.hm (by decide), M.l.ne_blk I.hm (by decide), Ne.symm (hW.ne_blk I.hm), fun id' s' hs' => by
      obtain ⟨ls, -, h2, -⟩ := M.Ln id' s' hs'
      exact I.hm.ne_ h2 (by decide)⟩
/-- A span told anew: its class and its first page stay; what it uses stays. -/
theorem RaM.reb {id r : Nat} {s s' : Sp} (M : RaM w h a ids) (hs : a.sp id = some s) (I : IsRs w' (h.B id) s' r) (c : Chg (h.B id).l w w') (e1 : s'.first = s.first) (e2 : s'.k = s.k) (e3 : s'.F = s.F) : RaM w' h { a with sp := updF a.sp id (some s') } ids := by
  obtain ⟨F, hP, hF⟩ := M.P
  obtain ⟨f, hW, hf⟩ := M.W
  have sep := M.sep hs
  have hsp : ∀ id' t, updF a.sp id (some s') id' = some t → ∃ t0, a.sp id' = some t0 ∧ t.first = t0.first ∧ t.k = t0.k ∧ t.F = t0.F ∧ (id' ≠ id → t = t0) ∧ (id' = id → t = s') := by
    intro id' t ht
    unfold updF at ht
    split at ht
    · next h1 => subst h1; cases ht; exact ⟨s, hs, e1, e2, e3, fun h => absurd rfl h, fun _ => rfl⟩
    · next h1 => exact ⟨t, ht, rfl, rfl, rfl, fun _ => rfl, fun h => absurd h h1⟩
  have hcl : ∀ id', clsOf { a with sp := updF a.sp id (some s') } id' = clsOf a id' := by
    intro id'
    unfold clsOf updF
    by_cases h1 : id' = id
    · subst h1; simp [hs, e2]
    · simp [h1]
  refine ⟨c.blk M.b (fun hm => (sep _ hm).1 rfl), ⟨F, hP.chg c (fun hm => (sep _ hm).2.1 rfl) (fun hm => (sep _ hm).2.2.1 rfl), hF⟩, M.i.chg c (fun k hk hm => (sep _ hm).2.2.2.1 hk), M.s.chg c (fun k hk hm => (sep _ hm).2.2.2.2.1 hk), ?_, fun id' t ht => ?_, fun id' t ht => ?_, ⟨f, hW.chg c (fun hm => (sep _ hm).2.2.2.2.2.2.1 rfl), hf⟩, M.rise, fun id' => ?_, ?_, ?_, ?_, ?_⟩
  · have e : (ids.map (raL h { a with sp := updF a.sp id (some s') })) = ids.map (raL h a) := List.map_congr_left fun id' _ => by unfold raL; rw [hcl]
    rw [e]
    exact M.l.chg c (fun k hk hm => (sep _ hm).2.2.2.2.2.1 hk)
  · obtain ⟨t0, h0, -, -, -, h1, h2⟩ := hsp id' t ht
    by_cases e : id' = id
    · rw [h2 e, e]; exact ⟨r, I⟩
    · rw [h1 e]
      obtain ⟨q, hq⟩ := M.S id' t0 h0
      exact ⟨q, hq.chg c fun k hk hm => M.d1 id' id t0 s h0 hs e k hk hm⟩
  · obtain ⟨t0, h0, h1, h2, h3, -, -⟩ := hsp id' t ht
    obtain ⟨ls, l1, l2, l3⟩ := M.Ln id' t0 h0
    refine ⟨ls, by rw [h2]; exact l1, c.blk l2 (fun hm => (sep _ hm).2.2.2.2.2.2.2 id' t0 h0 rfl), fun y xs hy hF ho => ?_⟩
    have e : t.addr y = t0.addr y := by unfold Sp.addr; rw [h1, h2]
    rw [e] at ho
    rw [h2]
    exact l3 y xs (by rw [← h2]; exact hy) (by rw [← h3]; exact hF) ho
  · rw [M.mem id']
    show _ ↔ (updF a.sp id (some s') id').isSome = true
    unfold updF
    split
    · next h1 => subst h1; rw [hs]; simp
    · rfl
  · intro i1 i2 s1 s2 h1 h2 hne
    obtain ⟨t1, q1, -⟩ := hsp _ _ h1
    obtain ⟨t2, q2, -⟩ := hsp _ _ h2
    exact M.d1 i1 i2 t1 t2 q1 q2 hne
  · intro i1 s1 h1
    obtain ⟨t1, q1, -⟩ := hsp _ _ h1
    exact M.d2 i1 t1 q1
  · intro i1 i2 s1 s2 h1 h2 hne
    obtain ⟨t1, q1, -⟩ := hsp _ _ h1
    obtain ⟨t2, q2, -⟩ := hsp _ _ h2
    exact M.d3 i1 i2 t1 t2 q1 q2 hne
  · intro i1 s1 h1
    obtain ⟨t1, q1, -⟩ := hsp _ _ h1
    exact M.d4 i1 t1 q1
end
def RmkPost (h : RaH) (a : Ar) (ids : List Nat) (x : Int) (w : World) (e : Ending) (w' : World) : Prop :=
  (obI a x = none ∧ e = .returned (.bool false) ∧ Chg [] w w') ∨ ∃ id i s, (obI a x).isSome = true ∧ a.sp id = some s ∧ i < slK s.k ∧ s.F i = true ∧ x = ((s.addr i : Nat) : Int) ∧ e = .returned (.bool (!(s.M i))) ∧ RaM w' h { a with sp := updF a.sp id (some (markS s i)) } ids ∧ Chg (h.B id).l w w'
set_option maxHeartbeats 1600000 in
set_option maxRecDepth 100000 in
theorem ramark_ok (w : World) (h : RaH) (a : Ar) (ids : List Nat) (M : RaM w h a ids) (hl : ids.length ≤ 100000) (N : Nat) (ok : ArOk N a) (x : Int) : Calls Tryz.prog 55 #[.pointer (some ⟨h.g, 0, none⟩), .int .i64 x] w (RmkPost h a ids x w) := by
  have hat := raat_ok w h a ids M hl x
  have HM := Lib.hid (And.intro M (And.intro hat ok)); clear M hat ok
  go_enter Tryz.func55, Tryz.ntmps55
  go_wp2_with fail
  refine HM.out.2.1.mono ?_
  rintro e w1 ⟨cw, ⟨hno, rfl⟩ | ⟨k, id, s, i, hk, hs, hi, hF, hx, rfl⟩⟩
  · have hn := HM.out.1.noat HM.out.2.2 hno
    have HN := Lib.hid (And.intro hn cw); clear hn hno cw
    go_wp2_with fail
    go_ret
    exact .inl ⟨HN.out.1, rfl, HN.out.2⟩
  · have M1 := HM.out.1.chg0 cw
    have b2 : w1.cell? ⟨h.g, 2, none⟩ = some h.vs := M1.b.cellv 2 rfl
    obtain ⟨g, hv, hc⟩ := M1.scell hk
    obtain ⟨xs, ho, ho', -, -⟩ := obI_at HM.out.2.2 hs hi hF
    obtain ⟨ρ, hI⟩ := M1.S id s hs
    obtain ⟨c, hcc⟩ : ∃ c, c = vcap h.vs := ⟨_, rfl⟩
    obtain ⟨n, hn⟩ : ∃ n, n = ids.length := ⟨_, rfl⟩
    obtain ⟨b, hb⟩ : ∃ b, b = h.B id := ⟨_, rfl⟩
    have hc' : w1.cell? ⟨g, k, none⟩ = some (.pointer (some ⟨b.g, 0, none⟩)) := by rw [hb]; exact hc
    rw [← hb] at hI
    have hset := rsset_ok w1 b s ρ i hI hi hF
    have hkl : k < n := by rw [hn]; exact (List.getElem?_eq_some_iff.1 hk).1
    rw [← hn, ← hcc] at hv
    rw [hv] at b2
    have hkl' : (k : Int) < (n : Int) := by omega
    have hk0 : (0 : Int) ≤ (k : Int) := by omega
    have HX := Lib.hid (And.intro ho (And.intro hx (And.intro cw (And.intro hs (And.intro hi (And.intro hF (And.intro hb (And.intro M1 hset)))))))); clear ho ho' hI hs hF hk M1 cw hn hcc hv hx hc hb hi hset
    go_wp2_with fail
    refine HX.out.2.2.2.2.2.2.2.2.mono ?_
    rintro e w2 ⟨rfl, I2, c2⟩
    have HY := Lib.hid (And.intro I2 c2); clear I2 c2
    go_wp2_with fail
    go_ret
    have c3 : Chg (h.B id).l w1 w2 := HY.out.2.mono (by rw [← HX.out.2.2.2.2.2.2.1]; simp [RsB.l])
    exact .inr ⟨id, i, s, by rw [HX.out.2.1, HX.out.1]; rfl, HX.out.2.2.2.1, HX.out.2.2.2.2.1, HX.out.2.2.2.2.2.1, HX.out.2.1, rfl, HX.out.2.2.2.2.2.2.2.1.reb HX.out.2.2.2.1 (by rw [← HX.out.2.2.2.2.2.2.1]; exact HY.out.1) c3 rfl rfl rfl, (HX.out.2.2.1.mono (by simp)).trans c3⟩
end Go.Proofs.YtcnchgbngcnijaaGreatDoor
namespace Go.Proofs.YtcnchgbngcnijaaGreatDoor
open Go.RowKit Go.Maps

section
variable {w w' : World} {h : RaH} {a : Ar} {ids : List Nat}
theorem RaM.addr_lt {id i : Nat} {s : Sp} (M : RaM w h a ids) (hs : a.sp id = some s) (hi : i < slK s.k) : s.addr i ≤ 20000000 := by
  obtain ⟨r, I⟩ := M.S id s hs
  obtain ⟨_, _, _, h4, _, _, _, _, h9⟩ := kF I.hk
  have : i * szK s.k ≤ 64 * 256 := Nat.mul_le_mul (by omega) h4
  have := I.f2
  unfold Sp.addr
  omega
end
end Go.Proofs.YtcnchgbngcnijaaGreatDoor
namespace Go.Proofs.YtcnchgbngcnijaaGreatDoor
open Go.RowKit Go.Maps

section
variable {w w' : World} {h : RaH} {a : Ar} {ids : List Nat}
/-- A word of a span's place lies in the span's pages. -/
theorem word_page {s : Sp} {i j : Nat} (hk : s.k < 16) (hi : i < slK s.k) (hj : j < szK s.k) : s.first ≤ (s.addr i + j) / 64 ∧ (s.addr i + j) / 64 < s.first + pgK s.k := by
  have h5 := sl_sz hk hi
  rw [Nat.add_mul] at h5
  unfold Sp.addr
  omega
theorem word_inj {s : Sp} {i i' j j' : Nat} (hj : j < szK s.k) (hj' : j' < szK s.k) (e : s.addr i + j = s.addr i' + j') : i = i' ∧ j = j' := by
  unfold Sp.addr at e
  have e2 : i * szK s.k + j = i' * szK s.k + j' := by omega
  have e3 : i = i' := by
    have h1 : (i * szK s.k + j) / szK s.k = (i' * szK s.k + j') / szK s.k := by rw [e2]
    rw [Nat.add_comm (i * szK s.k), Nat.add_comm (i' * szK s.k), Nat.add_mul_div_right _ _ (by omega), Nat.add_mul_div_right _ _ (by omega), Nat.div_eq_of_lt hj, Nat.div_eq_of_lt hj'] at h1
    omega
  subst e3
  exact ⟨rfl, by omega⟩
theorem own_map {P : Program} {K T : TypeId} {size n m b : Nat} {v : Value} {xs : List Value} {f : Int → Option Value} (ho : w.ownsRow 0 T size v n xs) (hW : VMap P K w b m f) : b ∉ fpv v := fun hm => by
  have hm := mem_fpv.1 hm
  rcases ho.2 with ⟨rfl, _⟩ | ⟨g', cap, cur, rfl, _, hh, _⟩
  · simp [Value.ownBlock] at hm
  · have e : g' = b := by simpa [Value.ownBlock] using hm
    subst e
    exact hW.ne_blk (t := T) hh rfl
end
def RpsPost (h : RaH) (a : Ar) (ids : List Nat) (x i v : Int) (w : World) (e : Ending) (w' : World) : Prop :=
  e = .returned (.int .i64 (slotC a x i)) ∧ ∃ m, m ≤ h.mw + 1 ∧ RaM w' { h with mw := m } (putA a x i v) ids ∧ Chg [h.bw] w w'
end Go.Proofs.YtcnchgbngcnijaaGreatDoor
namespace Go.Proofs.YtcnchgbngcnijaaGreatDoor
open Go.RowKit Go.Maps

section
variable {w w' : World} {h : RaH} {a : Ar} {ids : List Nat}
end
def RslPost (a : Ar) (x : Int) (w : World) (e : Ending) (w' : World) : Prop :=
  Chg [] w w' ∧ ((obI a x = none ∧ e = .returned (.tuple #[.agg #[.int .i64 0, .int .i64 0], .bool false])) ∨ ∃ id i, (obI a x).isSome = true ∧ At a x id i ∧ e = .returned (.tuple #[.agg #[.int .i64 (id : Nat), .int .i64 (i : Nat)], .bool true]))
end Go.Proofs.YtcnchgbngcnijaaGreatDoor
namespace Go.Proofs.YtcnchgbngcnijaaGreatDoor
open Go.RowKit Go.Maps

theorem sayF_new' (N : Nat) : SayF N (newL N) (RnF N) := fun x => by
  unfold RnF newL
  rw [decide_eq_true_iff]
  split
  · next h => rw [fr_cons]
              simp only [fr_nil, or_false]
              constructor
              · rintro ⟨a, b⟩; exact ⟨by omega, a, by omega⟩
              · rintro ⟨a, b, _⟩; exact ⟨b, by omega⟩
  · constructor
    · intro h; exact absurd h fr_nil
    · rintro ⟨a, b, c⟩; omega
def RanPost (n : Nat) (w : World) (e : Ending) (w' : World) : Prop := ∃ h : RaH, e = .returned (.pointer (some ⟨h.g, 0, none⟩)) ∧ RaM w' h (newA n) [] ∧ Chg [] w w' ∧ (∀ k, RaF h (newA n) k → w.heap.size ≤ k) ∧ h.mw = 0
set_option maxHeartbeats 1600000 in
set_option maxRecDepth 100000 in
theorem ranew_ok (w : World) (n : Nat) (h4 : 4 ≤ n) (hn : n ≤ 200) : Calls Tryz.prog 11 #[.int .i64 ((n * 64 : Nat) : Int)] w (RanPost n w) := by
  obtain ⟨z, hz⟩ : ∃ z, z = n * 64 := ⟨_, rfl⟩
  have d1 : decide ((z : Int) < 256) = false := decide_eq_false (by omega)
  have d2 : decide ((16777216 : Int) < (z : Int)) = false := decide_eq_false (by omega)
  have e1 : (z : Int).tmod 64 = 0 := by rw [Int.tmod_eq_emod_of_nonneg (by omega)]; omega
  have e2 : (z : Int).tdiv 64 = (n : Int) := by rw [Int.tdiv_eq_ediv_of_nonneg (by omega)]; omega
  have d3 : ¬ (z : Int) < 256 := by omega
  have d4 : ¬ (16777216 : Int) < (z : Int) := by omega
  have hew : IntKind.i64.wrap (n : Int) = (n : Int) := IntWalk.i64_in _ (by omega)
  rw [← hz]
  clear hz
  have hmm := @run_makeMap Tryz.prog
  go_enter Tryz.func11, Tryz.ntmps11
  go_wp2_with fail
  refine (rnew_ok w n (by omega) hn).mono ?_
  rintro e w1 ⟨gp, rfl, ⟨A, c, p1, p2, p3⟩, c1, f1⟩
  have HI := Lib.hid (And.intro p1 (And.intro p2 (And.intro p3 (And.intro c1 f1)))); clear p1 p2 p3 c1 f1
  go_wp2_with fail
  go_ret
  have m1 := VMap.made w1 Tryz.prog 3
  have C1 := (Chg.refl [] w1).alloc (.map #[] 0)
  have z1 : (w1.alloc (.map #[] 0)).heap.size = w1.heap.size + 1 := World.size_alloc _ _
  obtain ⟨w4, hw4⟩ : ∃ w4, w4 = w1.alloc (.map #[] 0) := ⟨_, rfl⟩
  rw [← hw4] at m1 C1 z1 ⊢
  have B4 := Blk.new w4 40 #[.pointer (some ⟨gp, 0, none⟩), .slice none 0 0, .slice none 0 0, .slice none 0 0, .map (some w1.heap.size)]
  have C4 := (Chg.refl [] w4).alloc (.cells #[.pointer (some ⟨gp, 0, none⟩), .slice none 0 0, .slice none 0 0, .slice none 0 0, .map (some w1.heap.size)] 40)
  have hs := HI.out.2.2.2.1.size
  rw [z1] at B4
  have hP : RfA w1 gp A c n (RnF n) := ⟨HI.out.1, HI.out.2.1⟩
  refine ⟨⟨w1.heap.size + 1, gp, A, c, .slice none 0 0, .slice none 0 0, .slice none 0 0, w1.heap.size, fun _ => ⟨0, 0, 0⟩, fun _ => 0, 0⟩, ?_, ⟨B4, ⟨RnF n, (hP.chg0 C1).chg0 C4, sayF_new' n⟩, OwnI.nil _ _, OwnV.nil _ _, OwnV.nil _ _, fun id s h => by simp [newA] at h, fun id s h => by simp [newA] at h, ⟨fun _ => none, m1.chg C4 (by simp), fun x xs j z h => by simp [newA] at h⟩, List.Pairwise.nil, fun id => by simp [newA], fun _ _ _ _ h => by simp [newA] at h, fun _ _ h => by simp [newA] at h, fun _ _ _ _ h => by simp [newA] at h, fun _ _ h => by simp [newA] at h⟩, (HI.out.2.2.2.1.trans C1).trans C4, fun k hk => ?_, rfl⟩
  · rfl
  · rcases hk with h1 | h1 | h1 | h1 | h1 | h1 | h1 | ⟨_, _, h1, _⟩
    · rw [h1]; show w.heap.size ≤ w1.heap.size + 1; omega
    · rw [h1]; exact HI.out.2.2.2.2
    · rw [h1]; exact HI.out.2.2.1
    · simp [fpv, Value.ownBlock] at h1
    · simp [fpv, Value.ownBlock] at h1
    · simp [fpv, Value.ownBlock] at h1
    · rw [h1]; exact hs
    · simp [newA] at h1
end Go.Proofs.YtcnchgbngcnijaaGreatDoor
