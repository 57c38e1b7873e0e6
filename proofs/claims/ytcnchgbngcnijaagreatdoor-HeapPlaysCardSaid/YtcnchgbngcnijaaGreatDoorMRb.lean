/- The document's arena (treadmillref5): Live. -/
/- The document's arena (treadmillref5): a span that gives places back; Sweep. -/
/- The document's arena (treadmillref5): the walk of Sweep. -/
/- The document's arena (treadmillref5): the walk of Objects. -/
/- The document's arena (treadmillref5): what Objects and Live tell. -/
import Derived.Test.YtcnchgbngcnijaaGreatDoorMRa
import Derived.Test.YtcnchgbngcnijaaGreatDoorMAs
import Derived.Test.YtcnchgbngcnijaaGreatDoorMZ
namespace Go.Proofs.YtcnchgbngcnijaaGreatDoor
open Go.RowKit Go.Maps

def lv1 (a : Ar) (id : Nat) : Nat := match a.sp id with | none => 0 | some s => cntF s.F (slK s.k) * szK s.k
def lvN (a : Ar) (ids : List Nat) (k : Nat) : Nat := ((ids.take k).map (lv1 a)).sum
theorem lvN_succ {a : Ar} {ids : List Nat} {k id : Nat} (h : ids[k]? = some id) : lvN a ids (k + 1) = lvN a ids k + lv1 a id := by
  unfold lvN
  rw [List.take_add_one, h]
  simp
theorem RaM.lv_le {w : World} {h : RaH} {a : Ar} {ids : List Nat} (M : RaM w h a ids) (id : Nat) : lv1 a id ≤ 16384 := by
  unfold lv1
  cases hs : a.sp id with
  | none => exact Nat.zero_le _
  | some s =>
    obtain ⟨r, I⟩ := M.S id s hs
    obtain ⟨_, _, _, h4, _, _, _, _, h9⟩ := kF I.hk
    have := cntF_le s.F (slK s.k)
    show cntF s.F (slK s.k) * szK s.k ≤ 64 * 256
    exact Nat.mul_le_mul (by omega) h4
theorem RaM.lvN_le {w : World} {h : RaH} {a : Ar} {ids : List Nat} (M : RaM w h a ids) : ∀ k, k ≤ ids.length → lvN a ids k ≤ k * 16384
  | 0, _ => by simp [lvN]
  | k + 1, hk => by
    have h1 := M.lvN_le k (by omega)
    have h2 : ids[k]? = some ids[k] := List.getElem?_eq_getElem (by omega)
    have h3 := M.lv_le ids[k]
    rw [lvN_succ h2]
    omega
def RlaRel (a : Ar) (ids : List Nat) (w0 : World) (gk : Nat) (acc idx : Value) (w : World) : Prop := ∃ k, gk + k = ids.length + 1 ∧ k ≤ ids.length ∧ idx = .int .i64 (k : Nat) ∧ acc = .int .i64 (lvN a ids k : Nat) ∧ Chg [] w0 w
set_option maxHeartbeats 3200000 in
set_option maxRecDepth 100000 in
theorem ralive_ok (w : World) (h : RaH) (a : Ar) (ids : List Nat) (M : RaM w h a ids) (hl : ids.length ≤ 100000) : Calls Tryz.prog 19 #[.pointer (some ⟨h.g, 0, none⟩)] w (NwPost (.int .i64 (lvN a ids ids.length : Nat)) w) := by
  obtain ⟨A, c, hv⟩ := M.s.slice
  rw [List.length_map] at hv
  obtain ⟨n, hn⟩ : ∃ n, n = ids.length := ⟨_, rfl⟩
  rw [← hn] at hv hl
  have HM := Lib.hid (And.intro M (And.intro hn hv)); clear M hn hv
  go_enter Tryz.func19, Tryz.ntmps19
  go_wp2_with fail
  go_loopg [3, 4] (n + 1) (fun gk acc idx wr => RlaRel a ids w gk acc idx wr)
  case atStart => exact ⟨0, by have := HM.out.2.1; omega, by omega, rfl, rfl, Chg.refl _ _⟩
  case round =>
    obtain ⟨k, hgk, hk, rfl, rfl, cw⟩ := hrel
    have Mr := HM.out.1.chg0 cw
    have b2 : wr.cell? ⟨h.g, 2, none⟩ = some h.vs := Mr.b.cellv 2 rfl
    have hle := Mr.lvN_le k hk
    rw [← HM.out.2.1] at hgk hk
    obtain ⟨acc, hacc⟩ : ∃ acc, acc = lvN a ids k := ⟨_, rfl⟩
    rw [← hacc] at hle ⊢
    by_cases ek : k < n
    · obtain ⟨id, hid⟩ : ∃ id, ids[k]? = some id := ⟨_, List.getElem?_eq_getElem (by rw [← HM.out.2.1]; exact ek)⟩
      obtain ⟨g, hv, hc⟩ := Mr.scell hid
      obtain ⟨c', hcc⟩ : ∃ c', c' = vcap h.vs := ⟨_, rfl⟩
      rw [← HM.out.2.1, ← hcc] at hv
      rw [hv] at b2
      obtain ⟨s, hs⟩ := Mr.at_ hid
      obtain ⟨ρ, hI⟩ := Mr.S id s hs
      obtain ⟨b, hb⟩ : ∃ b, b = h.B id := ⟨_, rfl⟩
      have hc' : wr.cell? ⟨g, k, none⟩ = some (.pointer (some ⟨b.g, 0, none⟩)) := by rw [hb]; exact hc
      rw [← hb] at hI
      have hg1 : g < wr.heap.size := lt_of_cell hc'
      have hg2 : h.g < wr.heap.size := Mr.b.lt
      have hg3 : b.g < wr.heap.size := hI.hb.lt
      have b3 : wr.cell? ⟨b.g, 1, none⟩ = some (.int .i64 s.k) := hI.hb.cellv 1 rfl
      have hsz := fun (w' : World) => rsize_ok w' (s.k : Nat)
      rw [szI_nat hI.hk] at hsz
      have hl1 := Mr.lv_le id
      have el : lv1 a id = cntF s.F (slK s.k) * szK s.k := by unfold lv1; rw [hs]
      rw [el] at hl1
      obtain ⟨z, hz⟩ : ∃ z, z = szK s.k := ⟨_, rfl⟩
      obtain ⟨ct, hct⟩ : ∃ ct, ct = cntF s.F (slK s.k) := ⟨_, rfl⟩
      have hlv := fun (w' : World) (hch : Chg [] wr w') => rslive_ok w' b s ρ (hI.chg0 hch)
      rw [← hct] at hlv
      rw [← hz] at hsz
      rw [← hct, ← hz] at hl1 el
      have e1 : IntKind.i64.wrap ((ct : Int) * (z : Int)) = ((ct * z : Nat) : Int) := by rw [← Int.natCast_mul, IntKind.wrap_i64]; omega
      have e2 : IntKind.i64.wrap ((acc : Int) + ((ct * z : Nat) : Int)) = ((acc + ct * z : Nat) : Int) := by rw [IntKind.wrap_i64]; omega
      have HK := Lib.hid (And.intro hid (And.intro el (And.intro hacc cw)))
      have HS := Lib.hid (And.intro hlv hsz)
      have HE := Lib.hid (And.intro e1 e2)
      clear hid hs hI hacc cw hcc hc hv Mr hb hlv hsz el e1 e2 hz hct hl1
      have hk' : (k : Int) < (n : Int) := by omega
      have hk0 : (0 : Int) ≤ (k : Int) := by omega
      have k0 : Chg [] wr wr.drew := (Chg.refl [] wr).drew
      go_upto_region 5 with fail
      go_region_held3 (fun w' => w'.cell? ⟨h.g, 2, none⟩ = some (.slice (some ⟨g, 0, none⟩) n c') ∧ w'.cell? ⟨g, k, none⟩ = some (.pointer (some ⟨b.g, 0, none⟩)) ∧ w'.cell? ⟨b.g, 1, none⟩ = some (.int .i64 s.k) ∧ Chg [] wr w') (go_keep)
        (first
          | (go_at_call 69; refine (HS.out.1 _ (by repeat (first | assumption | exact Chg.refl [] wr | refine Chg.drew ?_))).mono ?_; rintro e w' ⟨rfl, rfl⟩)
          | (go_at_call 70; refine (HS.out.2 _).mono ?_; rintro e w' ⟨rfl, cw⟩; have D : Chg [] wr w' := Chg.trans (by repeat (first | assumption | exact Chg.refl [] wr | refine Chg.drew ?_)) cw; have z0 : w'.cell? ⟨h.g, 2, none⟩ = some (.slice (some ⟨g, 0, none⟩) n c') := D.cellv hg2 (by simp) b2; have z1 : w'.cell? ⟨g, k, none⟩ = some (.pointer (some ⟨b.g, 0, none⟩)) := D.cellv hg1 (by simp) hc'; have z2 : w'.cell? ⟨b.g, 1, none⟩ = some (.int .i64 s.k) := D.cellv hg3 (by simp) b3))
      all_goals (go_wp2_with fail)
      all_goals (go_roundg (n - k))
      all_goals first
        | omega
        | exact ⟨k + 1, by have := HM.out.2.1; omega, by have := HM.out.2.1; omega, by go_num, by rw [lvN_succ HK.out.1, HK.out.2.1, ← HK.out.2.2.1]; first | exact congrArg _ HE.out.2 | (rw [HE.out.1]; exact congrArg _ HE.out.2), HK.out.2.2.2.trans (by assumption)⟩
    · obtain rfl : k = n := by omega
      have hk' : ¬ (k : Int) < (k : Int) := by omega
      have HN := Lib.hid (And.intro hacc cw); clear hacc cw Mr
      rw [HM.out.2.2] at b2
      go_wp2_with fail
      go_ret
      exact ⟨by rw [← HM.out.2.1, ← HN.out.1]; rfl, HN.out.2⟩
end Go.Proofs.YtcnchgbngcnijaaGreatDoor
namespace Go.Proofs.YtcnchgbngcnijaaGreatDoor
open Go.RowKit Go.Maps

section
variable {w w' : World} {h : RaH} {a : Ar} {ids : List Nat}
/-- A span told anew that uses no more than it used; objects that go. -/
theorem RaM.shr {id r : Nat} {s s' : Sp} {ob' : Nat → Option (List Int)} {live' : Nat} (M : RaM w h a ids) (hs : a.sp id = some s) (I : IsRs w' (h.B id) s' r) (c : Chg (h.B id).l w w') (e1 : s'.first = s.first) (e2 : s'.k = s.k) (e3 : ∀ y xs, s'.F y = true → ob' (s.addr y) = some xs → s.F y = true) (e4 : ∀ x xs, ob' x = some xs → a.ob x = some xs) : RaM w' h { a with sp := updF a.sp id (some s'), ob := ob', live := live' } ids := by
  obtain ⟨F, hP, hF⟩ := M.P
  obtain ⟨f, hW, hf⟩ := M.W
  have sep := M.sep hs
  have hsp : ∀ id' t, updF a.sp id (some s') id' = some t → ∃ t0, a.sp id' = some t0 ∧ t.first = t0.first ∧ t.k = t0.k ∧ (∀ y xs, t.F y = true → ob' (t0.addr y) = some xs → t0.F y = true) ∧ (id' ≠ id → t = t0) ∧ (id' = id → t = s') := by
    intro id' t ht
    unfold updF at ht
    split at ht
    · next h1 => subst h1; cases ht; exact ⟨s, hs, e1, e2, e3, fun h => absurd rfl h, fun _ => rfl⟩
    · next h1 => exact ⟨t, ht, rfl, rfl, fun _ _ h _ => h, fun _ => rfl, fun h => absurd h h1⟩
  have hcl : ∀ id', clsOf { a with sp := updF a.sp id (some s'), ob := ob', live := live' } id' = clsOf a id' := by
    intro id'
    unfold clsOf updF
    by_cases h1 : id' = id
    · subst h1; simp [hs, e2]
    · simp [h1]
  refine ⟨c.blk M.b (fun hm => (sep _ hm).1 rfl), ⟨F, hP.chg c (fun hm => (sep _ hm).2.1 rfl) (fun hm => (sep _ hm).2.2.1 rfl), hF⟩, M.i.chg c (fun k hk hm => (sep _ hm).2.2.2.1 hk), M.s.chg c (fun k hk hm => (sep _ hm).2.2.2.2.1 hk), ?_, fun id' t ht => ?_, fun id' t ht => ?_, ⟨f, hW.chg c (fun hm => (sep _ hm).2.2.2.2.2.2.1 rfl), fun x xs j z hx hj => hf x xs j z (e4 x xs hx) hj⟩, M.rise, fun id' => ?_, ?_, ?_, ?_, ?_⟩
  · have e : (ids.map (raL h { a with sp := updF a.sp id (some s'), ob := ob', live := live' })) = ids.map (raL h a) := List.map_congr_left fun id' _ => by unfold raL; rw [hcl]
    rw [e]
    exact M.l.chg c (fun k hk hm => (sep _ hm).2.2.2.2.2.1 hk)
  · obtain ⟨t0, h0, -, -, -, h1, h2⟩ := hsp id' t ht
    by_cases e : id' = id
    · rw [h2 e, e]; exact ⟨r, I⟩
    · rw [h1 e]
      obtain ⟨q, hq⟩ := M.S id' t0 h0
      exact ⟨q, hq.chg c fun k hk hm => M.d1 id' id t0 s h0 hs e k hk hm⟩
  · obtain ⟨t0, h0, h1, h2, h3, -, -⟩ := hsp id' t ht
    obtain ⟨ls, l1, l2, l3⟩ := M.Ln id' t0 h0
    refine ⟨ls, by rw [h2]; exact l1, c.blk l2 (fun hm => (sep _ hm).2.2.2.2.2.2.2 id' t0 h0 rfl), fun y xs hy hF ho => ?_⟩
    have e : t.addr y = t0.addr y := by unfold Sp.addr; rw [h1, h2]
    rw [e] at ho
    rw [h2]
    exact l3 y xs (by rw [← h2]; exact hy) (h3 y xs hF ho) (e4 _ _ ho)
  · rw [M.mem id']
    show _ ↔ (updF a.sp id (some s') id').isSome = true
    unfold updF
    split
    · next h1 => subst h1; rw [hs]; simp
    · rfl
  · intro i1 i2 s1 s2 h1 h2 hne
    obtain ⟨t1, q1, -⟩ := hsp _ _ h1
    obtain ⟨t2, q2, -⟩ := hsp _ _ h2
    exact M.d1 i1 i2 t1 t2 q1 q2 hne
  · intro i1 s1 h1
    obtain ⟨t1, q1, -⟩ := hsp _ _ h1
    exact M.d2 i1 t1 q1
  · intro i1 i2 s1 s2 h1 h2 hne
    obtain ⟨t1, q1, -⟩ := hsp _ _ h1
    obtain ⟨t2, q2, -⟩ := hsp _ _ h2
    exact M.d3 i1 i2 t1 t2 q1 q2 hne
  · intro i1 s1 h1
    obtain ⟨t1, q1, -⟩ := hsp _ _ h1
    exact M.d4 i1 t1 q1
theorem RaM.sweep {id r i : Nat} {s : Sp} (M : RaM w h a ids) (hs : a.sp id = some s) (hmf : ∀ i, s.M i = true → s.F i = true) (I : IsRs w' (h.B id) (sweptS s) r) (c : Chg (h.B id).l w w') : RaM w' h (sweepA a id s i) ids :=
  M.shr hs I c rfl rfl (fun y _ h _ => hmf y h) fun x xs hx => by
    unfold obT at hx
    split at hx
    · cases hx
    · exact hx
end
end Go.Proofs.YtcnchgbngcnijaaGreatDoor
namespace Go.Proofs.YtcnchgbngcnijaaGreatDoor
open Go.RowKit Go.Maps

theorem addrT_succ' {s : Sp} {i y : Nat} (h : (sweptL s)[i]? = some y) : intsN (addrT s (i + 1)) = intsN (addrT s i) ++ [(((sweptS s).addr y : Nat) : Int)] := by
  unfold addrT intsN
  rw [List.take_add_one, h]
  simp [Sp.addr, sweptS]
def RwpRel (w1 : World) (s : Sp) (gk : Nat) (v idx : Value) (w : World) : Prop :=
  ∃ i, gk + i = (sweptL s).length + 1 ∧ i ≤ (sweptL s).length ∧ idx = .int .i64 (i : Nat) ∧ OwnI 3 w v (intsN (addrT s i)) ∧ (∀ k ∈ fpv v, w1.heap.size ≤ k) ∧ Chg [] w1 w
def RwpPost (h : RaH) (a : Ar) (ids : List Nat) (x : Int) (w : World) (e : Ending) (w' : World) : Prop :=
  (spI a x = none ∧ e = .returned (.tuple #[.slice none 0 0, .int .i64 4]) ∧ Chg [] w w') ∨
  ∃ id s v, x = ((id : Nat) : Int) ∧ a.sp id = some s ∧ e = .returned (.tuple #[v, .int .i64 0]) ∧ OwnI 3 w' v (intsN ((sweptL s).map s.addr)) ∧ (∀ k ∈ fpv v, w.heap.size ≤ k) ∧ RaM w' h (sweepA a id s (sweptL s).length) ids ∧ Chg (h.B id).l w w'
set_option maxHeartbeats 3200000 in
set_option maxRecDepth 100000 in
theorem rasweep_ok (w : World) (h : RaH) (a : Ar) (ids : List Nat) (M : RaM w h a ids) (hl : ids.length ≤ 100000) (hmf : ∀ id s i, a.sp id = some s → s.M i = true → s.F i = true) (x : Int) : Calls Tryz.prog 57 #[.pointer (some ⟨h.g, 0, none⟩), .int .i64 x] w (RwpPost h a ids x w) := by
  have b2 : w.cell? ⟨h.g, 2, none⟩ = some h.vs := M.b.cellv 2 rfl
  have hfi := rafind_ok w h a ids M hl x
  have HM := Lib.hid (And.intro M (And.intro hfi hmf)); clear M hfi hmf
  go_enter Tryz.func57, Tryz.ntmps57
  go_wp2_with fail
  refine HM.out.2.1.mono ?_
  rintro e w1 ⟨r, hr, rfl, rfl⟩
  rcases HM.out.1.find hr with ⟨rfl, hn⟩ | ⟨k, id, s, rfl, hk, rfl, hs, hx⟩
  · have HN := Lib.hid hn; clear hn hr
    go_wp2_with fail
    go_ret2
    exact .inl ⟨HN.out, rfl, Chg.refl _ _⟩
  · obtain ⟨g, hv, hc⟩ := HM.out.1.scell hk
    have hal := fun y (hy : y < slK s.k) => HM.out.1.addr_lt hs hy
    obtain ⟨n, hn⟩ : ∃ n, n = ids.length := ⟨_, rfl⟩
    obtain ⟨c, hcc⟩ : ∃ c, c = vcap h.vs := ⟨_, rfl⟩
    have hkl : k < n := by rw [hn]; exact (List.getElem?_eq_some_iff.1 hk).1
    rw [← hn, ← hcc] at hv
    rw [hv] at b2
    have hkl' : (k : Int) < (n : Int) := by omega
    have hk0 : (0 : Int) ≤ (k : Int) := by omega
    have hk1 : ¬ (k : Int) < 0 := by omega
    obtain ⟨b, hb⟩ : ∃ b, b = h.B id := ⟨_, rfl⟩
    have hc' : w1.cell? ⟨g, k, none⟩ = some (.pointer (some ⟨b.g, 0, none⟩)) := by rw [hb]; exact hc
    obtain ⟨ρ, hI⟩ := HM.out.1.S id s hs
    have hkk := hI.hk
    have hf2 := hI.f2
    have sep := HM.out.1.sep hs
    rw [← hb] at hI sep
    have hg1 : g < w1.heap.size := lt_of_cell hc'
    have hg2 : h.g < w1.heap.size := HM.out.1.b.lt
    have hgv : g ∈ fpv h.vs := by rw [hv]; simp [fpv, Value.ownBlock]
    have n1 : h.g ∉ b.l := fun hm => (sep _ hm).1 rfl
    have n2 : g ∉ b.l := fun hm => (sep _ hm).2.2.2.2.1 hgv
    have hsw := rssweep_ok w1 b s ρ hI (fun i => HM.out.2.2 id s i hs)
    have HF := Lib.hid (And.intro hsw (And.intro hs hb)); clear hsw hx hI hs hk hc hr hv hcc hn sep hgv hb
    go_wp2_with fail
    refine HF.out.1.mono ?_
    rintro e w2 ⟨vl, rfl, Ol, Fl, I2, C2⟩
    have z1 : w2.cell? ⟨h.g, 2, none⟩ = some (.slice (some ⟨g, 0, none⟩) n c) := C2.cellv hg2 n1 b2
    have z2 : w2.cell? ⟨g, k, none⟩ = some (.pointer (some ⟨b.g, 0, none⟩)) := C2.cellv hg1 n2 hc'
    have hg3 : g < w2.heap.size := lt_of_cell z2
    have hg4 : h.g < w2.heap.size := lt_of_cell z1
    obtain ⟨Al, cl, hvl⟩ := Ol.slice
    have hli : (intsN (sweptL s)).length = (sweptL s).length := by unfold intsN; rw [List.length_map]
    rw [hli] at hvl
    subst hvl
    have hall : ∀ i y, (sweptL s)[i]? = some y → y < slK s.k := fun i y hy => by
      have := List.mem_of_getElem? hy
      unfold sweptL at this
      rw [List.mem_filter] at this
      have h1 := this.1
      unfold allN at h1
      rw [List.mem_filter, List.mem_range] at h1
      exact h1.1
    have hlen : (sweptL s).length ≤ 64 := by
      have h1 : (sweptL s).length ≤ (allN s.F (slK s.k)).length := List.length_filter_le _ _
      rw [allN_len] at h1
      have := cntF_le s.F (slK s.k)
      have := (kF hkk).2.2.2.2.2.2.2.2
      omega
    have HL := Lib.hid (And.intro Ol (And.intro Fl (And.intro I2 (And.intro C2 hall)))); clear Ol Fl I2 C2 hall hli b2 hc' hg1 hg2 n1 n2
    go_wp2_with fail
    obtain ⟨w0, rfl⟩ : ∃ w0 : World, w0 = w2 := ⟨_, rfl⟩
    go_loopg [8, 9] ((sweptL s).length + 1) (fun gk v idx wr => RwpRel w0 s gk v idx wr)
    case atStart => exact ⟨0, by omega, by omega, rfl, OwnI.nil _ _, by simp [fpv, Value.ownBlock], Chg.refl _ _⟩
    case round =>
      obtain ⟨i, hgk, hin, rfl, O, Fv, cw⟩ := hrel
      by_cases e : i < (sweptL s).length
      · obtain ⟨y, hy⟩ : ∃ y, (sweptL s)[i]? = some y := ⟨_, List.getElem?_eq_getElem e⟩
        have hyi : (intsN (sweptL s))[i]? = some (y : Int) := by unfold intsN; rw [List.getElem?_map, hy]; rfl
        have hi' : (i : Int) < ((sweptL s).length : Int) := by omega
        have hi0 : (0 : Int) ≤ (i : Int) := by omega
        obtain ⟨g0, rfl, q0, -, -⟩ := (HL.out.1.chg0 cw).cell hyi
        have y1 : wr.cell? ⟨h.g, 2, none⟩ = some (.slice (some ⟨g, 0, none⟩) n c) := cw.cellv hg4 (by simp) z1
        have y2 : wr.cell? ⟨g, k, none⟩ = some (.pointer (some ⟨b.g, 0, none⟩)) := cw.cellv hg3 (by simp) z2
        have hys := HL.out.2.2.2.2 i y hy
        have hqw : WfI (((sweptS s).addr y : Nat) : Int) := by have h1 : (sweptS s).addr y ≤ 20000000 := hal y hys; first | exact ⟨by omega, by omega⟩ | (unfold WfI; omega)
        have hol : (intsN (addrT s i)).length = i := by unfold intsN addrT; rw [List.length_map, List.length_map, List.length_take]; omega
        obtain ⟨Ao, co, rfl⟩ := O.slice
        rw [hol] at O Fv ⊢
        have k1 : Chg [] wr wr.drew := (Chg.refl [] wr).drew
        have HX := Lib.hid (And.intro O (And.intro Fv (And.intro cw (And.intro (HL.out.2.2.1.chg0 cw) (And.intro hy hyi)))))
        clear O Fv cw hy hyi
        go_upto_region 9 with fail
        have hS1 : ∀ {W : World}, SlI (W.alloc (.cells #[.int .i64 (((sweptS s).addr y : Nat) : Int)] 3)) (W.alloc (.cells #[.int .i64 (((sweptS s).addr y : Nat) : Int)] 3)).heap.size (.slice (some ⟨W.heap.size, 0, none⟩) 1 1) [(((sweptS s).addr y : Nat) : Int)] := SlI.one (Blk.new _ _ _) hqw
        go_region_law
          (first
            | (rw [if_pos (by rfl)]; go_simp; go_at_call 68; refine (rsaddr_ok _ b (sweptS s) 0 y (HX.out.2.2.2.1.chg0 (by first | exact k1 | exact Chg.refl _ _)) hys).mono ?_; rintro e w' ⟨rfl, C⟩; dsimp only; have D := Chg.trans (S := []) (a := wr) (by first | exact k1 | exact Chg.refl _ _) C)
            | (refine step_cat_n (by rfl) _ _ (by rfl) slty (by rfl) (by first | exact OwnI.alloc (HX.out.1.chg0 D) _ | exact (OwnI.alloc (HX.out.1.chg0 D) _).drew) (by rfl) (by first | exact hS1 | exact SlI.one (Blk.new _ _ _).drew hqw) (i + 1) (by simp [hol]) (by omega) ?_; intro A3 c3 w3 O3 S3))
        all_goals (have D1 : Chg [] w0 w3 := Chg.new (HX.out.2.2.1.trans (by first | exact D.alloc _ | exact (D.alloc _).drew)) S3.c HX.out.2.1)
        all_goals (have F3 : ∀ kk ∈ fpv (.slice A3 (i + 1) c3), w0.heap.size ≤ kk := fun kk hkk => (by
          rcases S3.f kk hkk with h1 | h1
          · exact HX.out.2.1 kk h1
          · refine Nat.le_trans (Chg.size (S := []) (HX.out.2.2.1.trans ?_)) h1
            first | exact D.alloc _ | exact (D.alloc _).drew))
        all_goals (have HY := Lib.hid (And.intro O3 (And.intro F3 D1)); clear O3 F3 D1 S3 D C k1)
        all_goals (go_wp2_with fail)
        all_goals (go_roundg ((sweptL s).length - i))
        all_goals first
          | omega
          | exact ⟨i + 1, by omega, by omega, by go_num, by rw [addrT_succ' HX.out.2.2.2.2.1]; exact HY.out.1, HY.out.2.1, HY.out.2.2⟩
      · obtain rfl : i = (sweptL s).length := by omega
        have hi' : ¬ ((sweptL s).length : Int) < ((sweptL s).length : Int) := by omega
        have HX := Lib.hid (And.intro O (And.intro Fv cw)); clear O Fv cw
        go_wp2_with fail
        go_ret2
        have c3 : Chg (h.B id).l w1 wr := by
          rw [← HF.out.2.2]
          exact HL.out.2.2.2.1.trans (HX.out.2.2.mono (by simp))
        refine .inr ⟨id, s, _, rfl, HF.out.2.1, rfl, ?_, fun kk hkk => Nat.le_trans HL.out.2.2.2.1.size (HX.out.2.1 kk hkk), RaM.sweep HM.out.1 HF.out.2.1 (fun i => HM.out.2.2 id s i HF.out.2.1) (by rw [← HF.out.2.2]; exact HL.out.2.2.1.chg0 HX.out.2.2) c3, c3⟩
        have e9 : addrT s (sweptL s).length = (sweptL s).map s.addr := by unfold addrT; rw [List.take_length]
        rw [← e9]; exact HX.out.1
end Go.Proofs.YtcnchgbngcnijaaGreatDoor
namespace Go.Proofs.YtcnchgbngcnijaaGreatDoor
open Go.RowKit Go.Maps

/-- Addresses of objects in the first k spans. -/
def Seen (a : Ar) (ids : List Nat) (k : Nat) (y : Int) : Prop := ∃ j id s i, j < k ∧ ids[j]? = some id ∧ a.sp id = some s ∧ i < slK s.k ∧ s.F i = true ∧ y = ((s.addr i : Nat) : Int)
def SeenIn (s : Sp) (i : Nat) (y : Int) : Prop := ∃ j, j < i ∧ s.F j = true ∧ y = ((s.addr j : Nat) : Int)
structure ObX (P : Int → Prop) (n : Nat) (xs : List Int) : Prop where
  r : Rise xs
  m : ∀ y, y ∈ xs ↔ P y
  l : xs.length ≤ n
  b : ∀ y ∈ xs, WfI y
theorem ObX.put {P : Int → Prop} {n : Nat} {xs : List Int} {x : Int} (h : ObX P n xs) (hx : WfI x) : ObX (fun y => P y ∨ y = x) (n + 1) (putL xs x) :=
  ⟨rising_putL h.r, fun y => by rw [mem_putL, h.m], Nat.le_trans (len_putL xs x) (by have := h.l; omega), fun y hy => by
    rcases mem_putL.1 hy with h1 | h1
    · exact h.b y h1
    · rw [h1]; exact hx⟩
theorem ObX.ext {P Q : Int → Prop} {n m : Nat} {xs : List Int} (h : ObX P n xs) (e : ∀ y, P y ↔ Q y) (hn : n ≤ m) : ObX Q m xs := ⟨h.r, fun y => (h.m y).trans (e y), Nat.le_trans h.l hn, h.b⟩
def RooRel (a : Ar) (ids : List Nat) (w0 : World) (gk : Nat) (v idx : Value) (w : World) : Prop := ∃ k xs, gk + k = ids.length + 1 ∧ k ≤ ids.length ∧ idx = .int .i64 (k : Nat) ∧ OwnI 3 w v xs ∧ ObX (Seen a ids k) (k * 64) xs ∧ (∀ j ∈ fpv v, w0.heap.size ≤ j) ∧ Chg [] w0 w
def RoiRel (a : Ar) (ids : List Nat) (k : Nat) (s : Sp) (w0 wk : World) (gk : Nat) (v idx : Value) (w : World) : Prop := ∃ i xs, gk + i = slK s.k + 1 ∧ i ≤ slK s.k ∧ idx = .int .i64 (i : Nat) ∧ OwnI 3 w v xs ∧ ObX (fun y => Seen a ids k y ∨ SeenIn s i y) (k * 64 + i) xs ∧ (∀ j ∈ fpv v, w0.heap.size ≤ j) ∧ Chg [] w0 w
def RobPost (a : Ar) (ids : List Nat) (w : World) (e : Ending) (w' : World) : Prop := ∃ v xs, e = .returned v ∧ OwnI 3 w' v xs ∧ ObX (Seen a ids ids.length) (ids.length * 64) xs ∧ (∀ j ∈ fpv v, w.heap.size ≤ j) ∧ Chg [] w w'
theorem seen_next {a : Ar} {ids : List Nat} {k id : Nat} {s : Sp} (hid : ids[k]? = some id) (hs : a.sp id = some s) (y : Int) : (Seen a ids k y ∨ SeenIn s (slK s.k) y) ↔ Seen a ids (k + 1) y := by
  constructor
  · rintro (⟨j, id', s', i, h1, h2⟩ | ⟨i, h1, h2, h3⟩)
    · exact ⟨j, id', s', i, by omega, h2⟩
    · exact ⟨k, id, s, i, by omega, hid, hs, h1, h2, h3⟩
  · rintro ⟨j, id', s', i, h1, h2, h3, h4, h5, h6⟩
    by_cases e : j = k
    · subst e
      rw [hid] at h2; cases h2
      rw [hs] at h3; cases h3
      exact .inr ⟨i, h4, h5, h6⟩
    · exact .inl ⟨j, id', s', i, by omega, h2, h3, h4, h5, h6⟩
theorem seenIn_skip {s : Sp} {i : Nat} (h : s.F i = false) (y : Int) : SeenIn s i y ↔ SeenIn s (i + 1) y := by
  constructor
  · rintro ⟨j, h1, h2⟩; exact ⟨j, by omega, h2⟩
  · rintro ⟨j, h1, h2, h3⟩
    by_cases e : j = i
    · subst e; rw [h] at h2; cases h2
    · exact ⟨j, by omega, h2, h3⟩
theorem seenIn_take {s : Sp} {i : Nat} (h : s.F i = true) (y : Int) : (SeenIn s i y ∨ y = ((s.addr i : Nat) : Int)) ↔ SeenIn s (i + 1) y := by
  constructor
  · rintro (⟨j, h1, h2⟩ | h1)
    · exact ⟨j, by omega, h2⟩
    · exact ⟨i, by omega, h, h1⟩
  · rintro ⟨j, h1, h2, h3⟩
    by_cases e : j = i
    · subst e; exact .inr h3
    · exact .inl ⟨j, by omega, h2, h3⟩
set_option maxHeartbeats 3200000 in
set_option maxRecDepth 100000 in
theorem raobjects_ok (w : World) (h : RaH) (a : Ar) (ids : List Nat) (M : RaM w h a ids) (hl : ids.length ≤ 10000) : Calls Tryz.prog 17 #[.pointer (some ⟨h.g, 0, none⟩)] w (RobPost a ids w) := by
  obtain ⟨A, c, hv⟩ := M.s.slice
  rw [List.length_map] at hv
  obtain ⟨n, hn⟩ : ∃ n, n = ids.length := ⟨_, rfl⟩
  rw [← hn] at hv hl
  have HM := Lib.hid (And.intro M (And.intro hn hv)); clear M hn hv
  go_enter Tryz.func17, Tryz.ntmps17
  go_wp2_with fail
  go_loopg [3, 4] (n + 1) (fun gk v idx wr => RooRel a ids w gk v idx wr)
  case atStart => exact ⟨0, [], by have := HM.out.2.1; omega, by omega, rfl, OwnI.nil _ _, ⟨by first | exact trivial | exact List.Pairwise.nil | simp [Rise], fun y => by simp [Seen], by simp, by simp⟩, by simp [fpv, Value.ownBlock], Chg.refl _ _⟩
  case round =>
    obtain ⟨k, xs, hgk, hk, rfl, O, X, Fv, cw⟩ := hrel
    have b2w : w.cell? ⟨h.g, 2, none⟩ = some h.vs := HM.out.1.b.cellv 2 rfl
    obtain ⟨wk, hwk⟩ : ∃ wk, wk = wr := ⟨_, rfl⟩
    subst hwk
    have Mr := HM.out.1.chg0 cw
    have b2 : wk.cell? ⟨h.g, 2, none⟩ = some h.vs := Mr.b.cellv 2 rfl
    rw [← HM.out.2.1] at hgk hk
    by_cases ek : k < n
    · obtain ⟨id, hid⟩ : ∃ id, ids[k]? = some id := ⟨_, List.getElem?_eq_getElem (by rw [← HM.out.2.1]; exact ek)⟩
      obtain ⟨g, hv, hc⟩ := HM.out.1.scell hid
      obtain ⟨c', hcc⟩ : ∃ c', c' = (vcap h.vs) := ⟨_, rfl⟩
      rw [← HM.out.2.1, ← hcc] at hv
      rw [hv] at b2 b2w
      obtain ⟨s, hs⟩ := HM.out.1.at_ hid
      obtain ⟨ρ, hI⟩ := HM.out.1.S id s hs
      have hsl := hI.sl
      obtain ⟨m, hm⟩ : ∃ m, m = slK s.k := ⟨_, rfl⟩
      obtain ⟨b, hb⟩ : ∃ b, b = h.B id := ⟨_, rfl⟩
      have hc' : w.cell? ⟨g, k, none⟩ = some (.pointer (some ⟨b.g, 0, none⟩)) := by rw [hb]; exact hc
      rw [← hb] at hI
      have hg1 : g < w.heap.size := lt_of_cell hc'
      have hg2 : h.g < w.heap.size := HM.out.1.b.lt
      rw [← hm] at hsl
      have HK := Lib.hid (And.intro hid (And.intro hs (And.intro hI (And.intro hm (And.intro O (And.intro X (And.intro Fv cw)))))))
      clear hid hs hI hm O X Fv cw hcc hc hv Mr hb
      have hk' : (k : Int) < (n : Int) := by omega
      have hk0 : (0 : Int) ≤ (k : Int) := by omega
      go_wp2_with fail
      go_loopg [3, 5] (m + 1) (fun gk v idx wr' => RoiRel a ids k s w wk gk v idx wr')
      case atStart => exact ⟨0, xs, by have := HK.out.2.2.2.1; omega, by omega, rfl, HK.out.2.2.2.2.1, HK.out.2.2.2.2.2.1.ext (fun y => by simp [SeenIn]) (by omega), HK.out.2.2.2.2.2.2.1, HK.out.2.2.2.2.2.2.2⟩
      case round =>
        obtain ⟨i, xi, hgi, hi, rfl, O2, X2, Fv2, cw2⟩ := hrel
        have I2 := HK.out.2.2.1.chg0 cw2
        have z1 : wr.cell? ⟨h.g, 2, none⟩ = some (.slice (some ⟨g, 0, none⟩) n c') := cw2.cellv hg2 (by simp) b2w
        have z2 : wr.cell? ⟨g, k, none⟩ = some (.pointer (some ⟨b.g, 0, none⟩)) := cw2.cellv hg1 (by simp) hc'
        have z3 : wr.cell? ⟨b.g, 2, none⟩ = some (.slice (some ⟨b.u, 0, none⟩) (slK s.k) (slK s.k)) := I2.hb.cellv 2 rfl
        rw [← HK.out.2.2.2.1] at hgi hi z3
        by_cases ei : i < m
        · have hc2 : wr.cell? ⟨b.u, i, none⟩ = some (.bool (s.F i)) := bools_at I2.hu (by rw [← HK.out.2.2.2.1]; exact ei)
          have hi' : (i : Int) < (m : Int) := by omega
          have hi0 : (0 : Int) ≤ (i : Int) := by omega
          cases hFi : s.F i with
          | false =>
            rw [hFi] at hc2
            have H2 := Lib.hid (And.intro O2 (And.intro X2 (And.intro Fv2 (And.intro cw2 hFi)))); clear O2 X2 Fv2 cw2 hFi I2
            go_wp2_with fail
            go_roundg (m - i)
            case measure => omega
            case rel => exact ⟨i + 1, xi, by have := HK.out.2.2.2.1; omega, by have := HK.out.2.2.2.1; omega, by go_num, H2.out.1, H2.out.2.1.ext (fun y => or_congr Iff.rfl (seenIn_skip H2.out.2.2.2.2 y)) (by omega), H2.out.2.2.1, H2.out.2.2.2.1⟩
          | true =>
            rw [hFi] at hc2
            have hca := rsaddr_ok wr b s ρ i I2 (by rw [← HK.out.2.2.2.1]; exact ei)
            have hal := HM.out.1.addr_lt HK.out.2.1 (i := i) (by rw [← HK.out.2.2.2.1]; exact ei)
            have hwx : WfI ((s.addr i : Nat) : Int) := by unfold WfI; omega
            have hxl : xi.length ≤ 1000000 := by have := X2.l; omega
            have H2 := Lib.hid (And.intro O2 (And.intro X2 (And.intro Fv2 (And.intro cw2 (And.intro hFi hca))))); clear O2 X2 Fv2 cw2 hFi I2 hca
            go_wp2_with fail
            refine H2.out.2.2.2.2.2.mono ?_
            rintro e w3 ⟨rfl, cw3⟩
            have HC := Lib.hid cw3; clear cw3
            go_wp2_with fail
            refine (put_ok w3 _ xi _ (H2.out.1.chg0 HC.out) H2.out.2.1.b hwx hxl).mono ?_
            rintro e w4 ⟨v4, rfl, O4, S4⟩
            have F4 : ∀ j ∈ fpv v4, w.heap.size ≤ j := fun j hj => by
              rcases S4.f j hj with h1 | h1
              · exact H2.out.2.2.1 j h1
              · exact Nat.le_trans (H2.out.2.2.2.1.trans HC.out).size h1
            have D4 : Chg [] w w4 := Chg.new (H2.out.2.2.2.1.trans HC.out) S4.c H2.out.2.2.1
            have HE := Lib.hid (And.intro O4 (And.intro F4 D4)); clear O4 F4 D4 S4
            go_wp2_with fail
            go_roundg (m - i)
            case measure => omega
            case rel => exact ⟨i + 1, _, by have := HK.out.2.2.2.1; omega, by have := HK.out.2.2.2.1; omega, by go_num, HE.out.1, (H2.out.2.1.put hwx).ext (fun y => by rw [or_assoc]; exact or_congr Iff.rfl (seenIn_take H2.out.2.2.2.2.1 y)) (by omega), HE.out.2.1, HE.out.2.2⟩
        · obtain rfl : i = m := by omega
          have hi' : ¬ (i : Int) < (i : Int) := by omega
          have H2 := Lib.hid (And.intro O2 (And.intro X2 (And.intro Fv2 cw2))); clear O2 X2 Fv2 cw2 I2
          go_wp2_with fail
          go_roundg (n - k)
          case measure => omega
          case rel => exact ⟨k + 1, xi, by have := HM.out.2.1; omega, by have := HM.out.2.1; omega, by go_num, H2.out.1, H2.out.2.1.ext (fun y => by rw [HK.out.2.2.2.1]; exact seen_next HK.out.1 HK.out.2.1 y) (by omega), H2.out.2.2.1, H2.out.2.2.2⟩
    · obtain rfl : k = n := by omega
      have hk' : ¬ (k : Int) < (k : Int) := by omega
      have HN := Lib.hid (And.intro O (And.intro X (And.intro Fv cw))); clear O X Fv cw Mr
      rw [HM.out.2.2] at b2
      go_wp2_with fail
      go_ret
      exact ⟨_, xs, rfl, HN.out.1, by rw [← HM.out.2.1]; exact HN.out.2.1, HN.out.2.2.1, HN.out.2.2.2⟩
end Go.Proofs.YtcnchgbngcnijaaGreatDoor
namespace Go.Proofs.YtcnchgbngcnijaaGreatDoor
open Go.RowKit Go.Maps

theorem RaM.seen {w : World} {h : RaH} {a : Ar} {ids : List Nat} {N : Nat} (M : RaM w h a ids) (ok : ArOk N a) (y : Int) : Seen a ids ids.length y ↔ (obI a y).isSome = true := by
  constructor
  · rintro ⟨j, id, s, i, h1, h2, h3, h4, h5, rfl⟩
    obtain ⟨xs, e, -⟩ := obI_at ok h3 h4 h5
    rw [e]; rfl
  · intro hy
    obtain ⟨xs, e⟩ := Option.isSome_iff_exists.1 hy
    obtain ⟨id, i, s, h1, h2, h3, h4, -⟩ := ok.find e
    obtain ⟨k, hk⟩ := M.pos h1
    exact ⟨k, id, s, i, (List.getElem?_eq_some_iff.1 hk).1, hk, h1, h2, h3, h4⟩
/-- Rising lists with the same members are the same. -/
theorem rise_ext : ∀ {xs ys : List Int}, Rise xs → Rise ys → (∀ y, y ∈ xs ↔ y ∈ ys) → xs = ys := by
  intro xs
  induction xs with
  | nil =>
    intro ys _ _ h
    cases ys with
    | nil => rfl
    | cons y ys => exact absurd ((h y).2 (List.mem_cons_self ..)) (by simp)
  | cons x xs ih =>
    intro ys hx hy h
    cases ys with
    | nil => exact absurd ((h x).1 (List.mem_cons_self ..)) (by simp)
    | cons y ys =>
      have hx' := List.pairwise_cons.1 hx
      have hy' := List.pairwise_cons.1 hy
      have e : x = y := by
        rcases List.mem_cons.1 ((h x).1 (List.mem_cons_self ..)) with h1 | h1
        · exact h1
        · rcases List.mem_cons.1 ((h y).2 (List.mem_cons_self ..)) with h2 | h2
          · exact h2.symm
          · have := hx'.1 _ h2
            have := hy'.1 _ h1
            omega
      subst e
      rw [ih hx'.2 hy'.2 fun z => ?_]
      constructor
      · intro hz
        rcases List.mem_cons.1 ((h z).1 (List.mem_cons_of_mem _ hz)) with h1 | h1
        · have := hx'.1 _ hz; omega
        · exact h1
      · intro hz
        rcases List.mem_cons.1 ((h z).2 (List.mem_cons_of_mem _ hz)) with h1 | h1
        · have := hy'.1 _ hz; omega
        · exact h1
end Go.Proofs.YtcnchgbngcnijaaGreatDoor
