/- The walk of package arena: Sweep. -/
import Derived.Test.YtkocikpoagfonaaDoorAr8
namespace Go.Proofs.YtkocikpoagfonaaDoor
open Go.RowKit

theorem step_vmap_del {P : Program} {T K E : TypeId} {z : Value} {w : World} {b n : Nat} {f : Int → Option Value} {ops : Array Oper} {o : Oper} {a : Act} {K' : Act → World → Prop} {Q : Exit → Act → World → Prop} {E' : Prop} (hg : o.guard = none) (m x : Operand) (hop : o.op = Op.call { callee := .builtin .delete, args := #[m, x], argTypes := #[T, K] }) (h : VMap P K w b n f) (t : VTy P T K E z) (hm : a.eval m = .map (some b)) {k : Int} (hx : a.eval x = .int .i64 k) (hk : Wf64 k)
    (hK : ∀ w', VMap P K w' b n (delV f k) → Chg [b] w w' → w'.heap.size = w.heap.size → K' (a.put o.dst (.tuple #[])) w') : if Region.wanted o (yielded ops a.tmps) = true then Oper.wp P o a w K' Q else E' := by
  have hw : Region.wanted o (yielded ops a.tmps) = true := by simp [Region.wanted, hg]
  rw [if_pos hw]
  obtain ⟨w', hrun, r1, r2, r3⟩ := h.del t hk o.type
  unfold Oper.wp execOp
  simp only [hop, resolve, invoke, builtin, Sem.run_bind, Sem.run_pure, Result.andThen_ok, List.map_toArray, List.map_cons, List.map_nil, hm, hx, hrun]
  exact hK w' r1 r2 r3
def sweptL (s : Sp) : List Nat := (allN s.F (slK s.k)).filter fun i => !(s.M i)
def addrT (s : Sp) (i : Nat) : List Nat := ((sweptL s).take i).map s.addr
def obT (a : Ar) (s : Sp) (i x : Nat) : Option (List Int) := if x ∈ addrT s i then none else a.ob x
theorem obT_zero (a : Ar) (s : Sp) : obT a s 0 = a.ob := by funext x; unfold obT addrT; rw [if_neg (by simp)]
theorem addrT_succ {s : Sp} {i y : Nat} (h : (sweptL s)[i]? = some y) : addrT s (i + 1) = addrT s i ++ [s.addr y] := by unfold addrT; rw [List.take_add_one, h]; simp
theorem obT_succ {a : Ar} {s : Sp} {i y : Nat} (h : (sweptL s)[i]? = some y) : updF (obT a s i) (s.addr y) none = obT a s (i + 1) := by
  funext x
  unfold updF obT
  rw [addrT_succ h]
  by_cases e : x = s.addr y
  · rw [if_pos e, if_pos (by simp [e])]
  · rw [if_neg e]
    by_cases hx : x ∈ addrT s i
    · rw [if_pos hx, if_pos (by simp [hx])]
    · rw [if_neg hx, if_neg (by simp [hx, e])]
def sweptS (s : Sp) : Sp := ⟨s.first, s.k, s.M, fun _ => false, 0⟩
def sweptB (b : SpB) : SpB := ⟨b.g, b.m, b.ma, b.u, b.ua⟩
def sweepA (a : Ar) (id : Nat) (s : Sp) (i : Nat) : Ar := { a with sp := updF a.sp id (some (sweptS s)), ob := obT a s i, live := a.live - i * szK s.k }
theorem StA.more {S : List Nat} {h h' h'' : ArH} {a a' a'' : Ar} {w w' w'' : World} (s : StA h a h' a' w w') (c : Chg S w' w'') (hS : ∀ k ∈ S, ArF h' a' k ∨ w.heap.size ≤ k) (fr : ∀ k, ArF h'' a'' k → ArF h' a' k ∨ w.heap.size ≤ k) : StA h a h'' a'' w w'' :=
  ⟨c.os.trans s.os, c.tape.trans s.tape, c.output.trans s.output, Nat.le_trans s.size c.size, fun k hk hn => (c.block k (Nat.lt_of_lt_of_le hk s.size) (fun hm => by
    rcases hS k hm with h1 | h1
    · rcases s.fr k h1 with h2 | h2
      · exact hn h2
      · omega
    · omega)).trans (s.block k hk hn), fun k hk => by
    rcases fr k hk with h1 | h1
    · exact s.fr k h1
    · exact .inr h1⟩
theorem ArF.turn {h : ArH} {a : Ar} {id : Nat} {s s' : Sp} {b : SpB} {k : Nat} (hs : a.sp id = some s) (hb : ∀ k ∈ b.l, k ∈ (h.B id).l) (hk : ArF (turnH h id b) { a with sp := updF a.sp id (some s') } k) : ArF h a k := by
  rcases hk with h1 | h1 | h1 | h1 | h1 | h1 | ⟨i, t, ht, h1⟩ | h1
  · exact .inl h1
  · exact .inr (.inl h1)
  · exact .inr (.inr (.inl h1))
  · exact .inr (.inr (.inr (.inl h1)))
  · exact .inr (.inr (.inr (.inr (.inl h1))))
  · exact .inr (.inr (.inr (.inr (.inr (.inl h1)))))
  · by_cases e : i = id
    · have e2 : (turnH h id b).B i = b := if_pos e
      rw [e2] at h1
      exact .inr (.inr (.inr (.inr (.inr (.inr (.inl ⟨id, s, hs, hb k h1⟩))))))
    · refine .inr (.inr (.inr (.inr (.inr (.inr (.inl ⟨i, t, ?_, ?_⟩))))))
      · rw [← ht]; exact (updF_other _ _ e).symm
      · have e2 : (turnH h id b).B i = h.B i := if_neg e
        rw [← e2]; exact h1
  · exact .inr (.inr (.inr (.inr (.inr (.inr (.inr h1))))))
theorem obT_mono {a : Ar} {s : Sp} {i x : Nat} (h : (obT a s (i + 1) x).isSome = true) : (obT a s i x).isSome = true := by
  unfold obT at h ⊢
  by_cases e : x ∈ addrT s i
  · have : x ∈ addrT s (i + 1) := by
      unfold addrT at e ⊢
      rw [List.mem_map] at e ⊢
      obtain ⟨y, hy, e⟩ := e
      exact ⟨y, List.take_subset_take_left _ (Nat.le_succ i) hy, e⟩
    rw [if_pos this] at h; cases h
  · rw [if_neg e]
    by_cases e2 : x ∈ addrT s (i + 1)
    · rw [if_pos e2] at h; cases h
    · rwa [if_neg e2] at h
theorem ArF.sweep {h1 : ArH} {a : Ar} {id i k : Nat} {s : Sp} (hk : ArF h1 (sweepA a id s (i + 1)) k) : ArF h1 (sweepA a id s i) k := by
  rcases hk with h | h | h | h | h | h | h | ⟨x, hx, h⟩
  · exact .inl h
  · exact .inr (.inl h)
  · exact .inr (.inr (.inl h))
  · exact .inr (.inr (.inr (.inl h)))
  · exact .inr (.inr (.inr (.inr (.inl h))))
  · exact .inr (.inr (.inr (.inr (.inr (.inl h)))))
  · exact .inr (.inr (.inr (.inr (.inr (.inr (.inl h))))))
  · exact .inr (.inr (.inr (.inr (.inr (.inr (.inr ⟨x, obT_mono hx, h⟩))))))
def AwPost (h : ArH) (a : Ar) (id : Int) (w : World) (e : Ending) (w' : World) : Prop :=
  (spI a id = none ∧ e = .returned (.tuple #[.slice none 0 0, .int .i64 4]) ∧ Chg [] w w') ∨
  ∃ s v, 0 ≤ id ∧ a.sp id.toNat = some s ∧ e = .returned (.tuple #[v, .int .i64 0]) ∧ OwnI 3 w' v (intsN ((sweptL s).map s.addr)) ∧ (∀ k ∈ fpv v, w.heap.size ≤ k) ∧ (∀ k ∈ fpv v, ¬ ArF (turnH h id.toNat (sweptB (h.B id.toNat))) (sweepA a id.toNat s (sweptL s).length) k) ∧ ArM w' (turnH h id.toNat (sweptB (h.B id.toNat))) (sweepA a id.toNat s (sweptL s).length) ∧ StA h a (turnH h id.toNat (sweptB (h.B id.toNat))) (sweepA a id.toNat s (sweptL s).length) w w'
def AwRel (w0 : World) (h h1 : ArH) (a : Ar) (id : Nat) (s : Sp) (vl : Value) (gk : Nat) (v idx : Value) (w : World) : Prop :=
  ∃ i, gk + i = (sweptL s).length + 1 ∧ i ≤ (sweptL s).length ∧ idx = .int .i64 (i : Nat) ∧ OwnI 3 w v (intsN (addrT s i)) ∧ OwnI 3 w vl (intsN (sweptL s)) ∧ (∀ k ∈ fpv v, w0.heap.size ≤ k ∧ k ∉ fpv vl) ∧ (∀ k ∈ fpv v, ∀ k' , ArF h1 (sweepA a id s i) k' → k ≠ k') ∧ (∀ k ∈ fpv vl, ∀ k', ArF h1 (sweepA a id s i) k' → k ≠ k') ∧ ArM w h1 (sweepA a id s i) ∧ StA h a h1 (sweepA a id s i) w0 w
set_option maxHeartbeats 3200000 in
set_option maxRecDepth 100000 in
theorem asweep_ok (w : World) (h : ArH) (a : Ar) (M : ArM w h a) (T : Tab w) (id : Int) (hid : Wf64 id) (hlive : a.live ≤ 100000000) (hge : ∀ s, spI a id = some s → (sweptL s).length * szK s.k ≤ a.live) :
    Calls Tryd.prog 14 #[.pointer (some ⟨h.ga, 0, none⟩), .int .i64 id] w (AwPost h a id w) := by
  have b1 : w.cell? ⟨h.ga, 1, none⟩ = some (.map (some h.bs)) := M.b.cellv 1 rfl
  have hl := M.s.look tyS hid
  rw [spV_I] at hl
  cases ho : spI a id with
  | none =>
    rw [ho] at hl
    have hl' : (Instr.lookup 50 (.map (some h.bs)) (.int .i64 id) false).run Tryd.prog w = .ok (.pointer none) w := hl
    have HO := Lib.hid ho; clear ho hl M hge
    go_enter Tryd.func14, Tryd.ntmps14
    go_wp2_with fail
    go_ret2
    exact .inl ⟨HO.out, rfl, Chg.refl _ _⟩
  | some s =>
    rw [ho] at hl
    have hl' : (Instr.lookup 50 (.map (some h.bs)) (.int .i64 id) false).run Tryd.prog w = .ok (.pointer (some ⟨(h.B id.toNat).g, 0, none⟩)) w := hl
    have hid0 : 0 ≤ id := by
      unfold spI at ho
      by_cases h0 : 0 ≤ id
      · exact h0
      · rw [if_neg h0] at ho; cases ho
    have hs : a.sp id.toNat = some s := by unfold spI at ho; rwa [if_pos hid0] at ho
    have hlv := hge s ho
    obtain ⟨j, rfl⟩ : ∃ j : Nat, id = j := ⟨id.toNat, by omega⟩
    rw [Int.toNat_natCast] at hl' hs
    have I := M.S _ s hs
    have HO := Lib.hid (And.intro ho (And.intro M (And.intro hs (And.intro I T)))); clear ho hl M hs I T hge
    go_enter Tryd.func14, Tryd.ntmps14
    go_wp2_with fail
    refine (ssweep_ok w (h.B j) s HO.out.2.2.2.1 HO.out.2.2.2.2).mono ?_
    rintro e w1 ⟨vl, rfl, Ol, I1, C1, F1⟩
    have M1 := ArM.turn (b := sweptB (h.B j)) (s' := sweptS s) HO.out.2.1 HO.out.2.2.1 I1 C1 rfl (by intro k hk; simp only [sweptB, SpB.l, List.mem_cons, List.not_mem_nil, or_false] at hk ⊢; rcases hk with h | h | h | h | h <;> simp [h])
    have st1 := StA.turn (h := h) (a := a) (id := j) (s := s) (s' := sweptS s) (b := sweptB (h.B j)) HO.out.2.2.1 C1 (by intro k hk; simp only [sweptB, SpB.l, List.mem_cons, List.not_mem_nil, or_false] at hk ⊢; rcases hk with h | h | h | h | h <;> simp [h])
    have e0 : ({ a with sp := updF a.sp j (some (sweptS s)) } : Ar) = sweepA a j s 0 := by unfold sweepA; rw [obT_zero, Nat.zero_mul, Nat.sub_zero]
    rw [e0] at M1 st1
    obtain ⟨h1, hh1⟩ : ∃ h1, h1 = turnH h j (sweptB (h.B j)) := ⟨_, rfl⟩
    rw [← hh1] at M1 st1
    have ga1 : h1.ga = h.ga := by rw [hh1]; rfl
    have bj1 : h1.bj = h.bj := by rw [hh1]; rfl
    have hBj : (turnH h j (sweptB (h.B j))).B j = sweptB (h.B j) := if_pos rfl
    have Bg : (h1.B j).g = (h.B j).g := by rw [hh1, hBj]; rfl
    have Ol' : OwnI 3 w1 vl (intsN (sweptL s)) := Ol
    obtain ⟨Al, cl, rfl⟩ := Ol'.slice
    have hli : (intsN (sweptL s)).length = (sweptL s).length := by unfold intsN; rw [List.length_map]
    rw [hli] at Ol' F1 ⊢
    have HH := Lib.hid (And.intro hh1 (And.intro ga1 (And.intro bj1 Bg))); clear hh1 ga1 bj1 Bg hBj
    have hnF : ∀ k ∈ fpv (.slice Al (sweptL s).length cl), ∀ k', ArF h1 (sweepA a j s 0) k' → k ≠ k' := fun k hk k' hk' e => by
      have f1 := F1 k hk
      rw [HH.out.1, ← e0] at hk'
      have := HO.out.2.1.lt k' (ArF.turn HO.out.2.2.1 (by intro k hk; simp only [sweptB, SpB.l, List.mem_cons, List.not_mem_nil, or_false] at hk ⊢; rcases hk with h | h | h | h | h <;> simp [h]) hk')
      omega
    have HL := Lib.hid (And.intro M1 (And.intro st1 (And.intro Ol' (And.intro F1 hnF)))); clear M1 st1 Ol' F1 hnF hli Ol I1 C1 e0
    go_wp2_with fail
    have hall : ∀ i y, (sweptL s)[i]? = some y → y < slK s.k := fun i y hy => by
      have := List.mem_of_getElem? hy
      unfold sweptL at this
      rw [List.mem_filter] at this
      have h1 := this.1
      unfold allN at h1
      rw [List.mem_filter, List.mem_range] at h1
      exact h1.1
    have hlen : (sweptL s).length ≤ 64 := by
      have h1 : (sweptL s).length ≤ (allN s.F (slK s.k)).length := List.length_filter_le _ _
      rw [allN_len] at h1
      have := cntF_le s.F (slK s.k)
      have := (kF HO.out.2.2.2.1.hk).2.2.2.2.2.2.2.2
      omega
    have hsz := (kF HO.out.2.2.2.1.hk).2.2.2.1
    have hkk := HO.out.2.2.2.1.hk
    have HA := Lib.hid hall; clear hall
    obtain ⟨w0, rfl⟩ : ∃ w0 : World, w0 = w1 := ⟨_, rfl⟩
    go_loopg [7, 30] ((sweptL s).length + 1) (fun gk v idx wr => AwRel w h h1 a j s (.slice Al (sweptL s).length cl) gk v idx wr)
    case atStart => exact ⟨0, by omega, by omega, rfl, OwnI.nil _ _, HL.out.2.2.1, by simp [fpv, Value.ownBlock], by simp [fpv, Value.ownBlock], HL.out.2.2.2.2, HL.out.1, HL.out.2.1⟩
    case round =>
      obtain ⟨i, hgk, hin, rfl, O, OL, Fv, nv, nl, M, st⟩ := hrel
      by_cases e : i < (sweptL s).length
      · obtain ⟨y, hy⟩ : ∃ y, (sweptL s)[i]? = some y := ⟨_, List.getElem?_eq_getElem e⟩
        have hyi : (intsN (sweptL s))[i]? = some (y : Int) := by unfold intsN; rw [List.getElem?_map, hy]; rfl
        have hi' : (i : Int) < ((sweptL s).length : Int) := by omega
        obtain ⟨g0, rfl, q0, -, -⟩ := OL.cell hyi
        have hys := HA.out i y hy
        have hsp : (sweepA a j s i).sp j = some (sweptS s) := updF_same _ _ _
        have I := M.S j _ hsp
        have hol : (intsN (addrT s i)).length ≤ 64 := by
          unfold intsN addrT; rw [List.length_map, List.length_map, List.length_take]; omega
        obtain ⟨Ao, co, rfl⟩ := O.slice
        have HX := Lib.hid (And.intro O (And.intro OL (And.intro Fv (And.intro nv (And.intro nl (And.intro M (And.intro st (And.intro I hy))))))))
        clear O OL Fv nv nl M st I hy hyi hsp
        go_wp2_with fail
        have hS := saddr_ok wr (h1.B j) (sweptS s) HX.out.2.2.2.2.2.2.2.1 y hys
        rw [HH.out.2.2.2] at hS
        refine hS.mono ?_
        rintro e w2 ⟨rfl, c2⟩
        clear hS
        have O2 := HX.out.1.chg0 c2
        have hll : (intsN (addrT s i)).length + 1 ≤ 1000000000000 := by omega
        have H2 := Lib.hid (And.intro c2 O2); clear c2 O2
        go_wp2_with (at_builtin; refine wpList_push_int rfl _ _ rfl slZ rfl H2.out.2 rfl hll ?_)
        intro A' c' w5 O5 S5
        have lt2 : ∀ k, ArF h1 (sweepA a j s i) k → k < w2.heap.size := fun k hk => (HX.out.2.2.2.2.2.1.chg0 H2.out.1).lt k hk
        have M5 : ArM w5 h1 (sweepA a j s i) := (HX.out.2.2.2.2.2.1.chg0 H2.out.1).chg S5.c (fun k hk hm => HX.out.2.2.2.1 k hm k hk rfl)
        have n5 : ∀ k ∈ fpv (.slice A' ((intsN (addrT s i)).length + 1) c'), ∀ k', ArF h1 (sweepA a j s i) k' → k ≠ k' := fun k hk k' hk' => by
          rcases S5.f k hk with h2 | h2
          · exact HX.out.2.2.2.1 k h2 k' hk'
          · have := lt2 k' hk'; omega
        have f5 : ∀ k ∈ fpv (.slice A' ((intsN (addrT s i)).length + 1) c'), w.heap.size ≤ k ∧ k ∉ fpv (.slice (some ⟨g0, 0, none⟩) (sweptL s).length cl) := fun k hk => by
          rcases S5.f k hk with h2 | h2
          · exact HX.out.2.2.1 k h2
          · refine ⟨?_, fun hm => ?_⟩
            · have h3 := HX.out.2.2.2.2.2.2.1.size
              have h4 := H2.out.1.size
              omega
            · have h3 := (HX.out.2.1.chg0 H2.out.1).lt hm
              omega
        have st5 : StA h a h1 (sweepA a j s i) w w5 := (HX.out.2.2.2.2.2.2.1.more (S := []) H2.out.1 (by simp) (fun k hk => .inl hk)).more S5.c (fun k hk => .inr (HX.out.2.2.1 k hk).1) (fun k hk => .inl hk)
        have OL5 := (HX.out.2.1.chg0 H2.out.1).chg S5.c (fun k hk hm => (HX.out.2.2.1 k hm).2 hk)
        have H5 := Lib.hid (And.intro M5 (And.intro n5 (And.intro f5 (And.intro st5 (And.intro OL5 O5)))))
        clear M5 n5 f5 st5 OL5 O5 S5 lt2
        go_upto_region 11 with fail
        go_cut [40] from 41 to 46 (fun _ wd => VMap Tryd.prog 3 wd h1.bj h1.m (delV (natV (obV h1 (sweepA a j s i))) (s.addr y : Nat)) ∧ Chg [h1.bj] w5 wd)
        case first =>
          have b3 : w5.cell? ⟨h.ga, 3, none⟩ = some (.map (some h.bj)) := by
            have := H5.out.1.b.cellv 3 rfl
            rw [HH.out.2.1, HH.out.2.2.1] at this
            exact this
          have I5 := H5.out.1.S j _ (updF_same _ _ _)
          have J5 := H5.out.1.j
          rw [HH.out.2.2.1] at J5
          have hwf : Wf64 ((s.addr y : Nat) : Int) := by
            have h1 := HO.out.2.2.2.1.f2
            have h2 := sl_sz hkk hys
            have h3 := (kF hkk).2.2.2.2.2.1
            rw [Nat.add_mul] at h2
            unfold Wf64 Sp.addr
            omega
          have hga := H5.out.1.b.lt
          rw [HH.out.2.1] at hga
          have HQ := Lib.hid (And.intro I5 (And.intro J5 hwf)); clear I5 J5 hwf
          have k1 : Chg [] w5 w5.drew := (Chg.refl [] w5).drew
          go_region_law
            (first
              | (rw [if_pos (by rfl)]; go_simp; go_at_call 34; have hS := saddr_ok _ (h1.B j) (sweptS s) (HQ.out.1.chg0 k1) y hys; rw [HH.out.2.2.2] at hS; refine hS.mono ?_; clear hS; rintro e w' ⟨rfl, C⟩; dsimp only; have D := Chg.trans (S := []) (a := w5) k1 C; have z1 : w'.cell? ⟨h.ga, 3, none⟩ = some (.map (some h.bj)) := D.cellv hga (by simp) b3)
              | (refine step_vmap_del (by rfl) _ _ (by rfl) (HQ.out.2.1.chg D (by simp)) tyJ (by rfl) (by rfl) HQ.out.2.2 ?_; intro wz V C3 hsz3))
          all_goals (have HZ := Lib.hid (And.intro V ((D.mono (T := [h.bj]) (by simp)).trans C3)); clear V)
          all_goals go_wp2_with fail
          all_goals (go_meet; rw [HH.out.2.2.1]; exact HZ.out)
        case rest =>
          obtain ⟨V6, C6⟩ := hcut
          obtain ⟨w6, rfl⟩ : ∃ W : World, W = wc := ⟨_, rfl⟩
          have M6 := H5.out.1.delob V6 C6
          have st6 := H5.out.2.2.2.1.trans (StA.delob (x := s.addr y) C6)
          have ob6 : updF (sweepA a j s i).ob (s.addr y) none = obT a s (i + 1) := obT_succ HX.out.2.2.2.2.2.2.2.2
          rw [ob6] at M6 st6
          have hbj6 : ArF h1 (sweepA a j s i) h1.bj := .inr (.inr (.inr (.inr (.inr (.inl rfl)))))
          have O6 := H5.out.2.2.2.2.2.chg C6 (fun k hk hm => H5.out.2.1 k hk h1.bj hbj6 (by simpa using hm))
          have OL6 := H5.out.2.2.2.2.1.chg C6 (fun k hk hm => HX.out.2.2.2.2.1 k hk h1.bj hbj6 (by simpa using hm))
          have I6 := M6.S j _ (updF_same _ _ _)
          have H6 := Lib.hid (And.intro M6 (And.intro st6 (And.intro O6 (And.intro OL6 I6))))
          clear M6 st6 ob6 hbj6 O6 OL6 I6 V6 C6
          go_upto_region 12 with fail
          have B6 := H6.out.1.b
          rw [HH.out.2.1] at B6
          have hga := B6.lt
          have k1 : Chg [] w6 w6.drew := (Chg.refl [] w6).drew
          have k0 : Chg [] w6 w6 := Chg.refl [] w6
          have HB6 := Lib.hid B6
          have b4 : w6.drew.cell? ⟨h.ga, 4, none⟩ = some (.int .i64 ((a.live - i * szK s.k : Nat) : Int)) := B6.drew.cellv 4 rfl
          have f4 := B6.drew.frozen 4
          clear B6
          have hmul : i * szK s.k + szK s.k ≤ (sweptL s).length * szK s.k := by
            rw [← Nat.succ_mul]; exact Nat.mul_le_mul_right _ e
          have hmul2 : (i + 1) * szK s.k = i * szK s.k + szK s.k := Nat.succ_mul _ _
          obtain ⟨L, hL⟩ : ∃ L, L = a.live - i * szK s.k := ⟨_, rfl⟩
          have hL2 : a.live - (i + 1) * szK s.k = L - szK s.k := by omega
          have hL3 : szK s.k ≤ L := by omega
          have hL4 : L ≤ 100000000 := by omega
          rw [← hL] at b4
          have HL6 := Lib.hid (And.intro hL hL2); clear hL hL2 hmul hmul2
          go_region_law
            (first
              | (rw [if_pos (by rfl)]; go_simp; go_at_call 32; have hS := sclass_ok w6.drew (h1.B j) (sweptS s) (H6.out.2.2.2.2.chg0 k1); rw [HH.out.2.2.2] at hS; refine hS.mono ?_; clear hS; rintro e w' ⟨rfl, rfl⟩; dsimp only)
              | (rw [if_pos (by rfl)]; go_simp; go_at_call 28; refine (size_k _ s.k hkk).mono ?_; rintro e w' ⟨rfl, C⟩; dsimp only; have D := Chg.trans (S := []) (a := w6) (by assumption) C; have z1 : w'.cell? ⟨h.ga, 4, none⟩ = some (.int .i64 (L : Nat)) := D.cellv hga (by simp) (HB6.out.cellv 4 (by rw [HL6.out.1]; rfl)); have z2 : w'.frozen? ⟨h.ga, 4, none⟩ = false := (D.blk HB6.out (by simp)).frozen 4))
          all_goals (have hb := (D.blk HB6.out (by simp)).setv 4 (.int .i64 ((a.live - (i + 1) * szK s.k : Nat) : Int)) rfl)
          all_goals (have HZ := Lib.hid (And.intro hb ((D.mono (T := [h.ga]) (by simp)).setCell (p := ⟨h.ga, 4, none⟩) (.inl (by simp)) (.int .i64 ((a.live - (i + 1) * szK s.k : Nat) : Int)))); clear hb)
          all_goals rw [show IntKind.i64.wrap ((L : Int) - (szK s.k : Int)) = ((a.live - (i + 1) * szK s.k : Nat) : Int) by rw [IntWalk.i64_in _ (by omega), HL6.out.2]; omega]
          all_goals (generalize World.setCell _ _ _ = w8 at HZ ⊢)
          all_goals (
            have B8 := HZ.out.1
            have C8 := HZ.out.2
            rw [← HH.out.2.1] at B8 C8
            have M8 := H6.out.1.turnLive B8 C8
            have st8 : StA h a h1 (sweepA a j s (i + 1)) w w8 := H6.out.2.1.more C8 (fun k hk => .inl (.inl (by simpa using hk))) (fun k hk => .inl hk)
            have hga8 : ∀ {u}, ArF h1 u h1.ga := .inl rfl
            have O8 := H6.out.2.2.1.chg C8 (fun k hk hm => H5.out.2.1 k hk h1.ga hga8 (by simpa using hm))
            have OL8 := H6.out.2.2.2.1.chg C8 (fun k hk hm => HX.out.2.2.2.2.1 k hk h1.ga hga8 (by simpa using hm))
            have H8 := Lib.hid (And.intro M8 (And.intro st8 (And.intro O8 OL8)))
            clear B8 C8 M8 st8 hga8 O8 OL8)
          all_goals go_wp2_with fail
          all_goals go_roundg ((sweptL s).length - i)
          all_goals (first | omega | skip)
          all_goals (
            refine ⟨i + 1, by omega, by omega, rfl, ?_, H8.out.2.2.2, fun k hk => H5.out.2.2.1 k hk, fun k hk k' hk' => H5.out.2.1 k hk k' (ArF.sweep hk'), fun k hk k' hk' => HX.out.2.2.2.2.1 k hk k' (ArF.sweep hk'), H8.out.1, H8.out.2.1⟩
            have := H8.out.2.2.1
            rw [addrT_succ HX.out.2.2.2.2.2.2.2.2]
            unfold intsN at this ⊢
            rw [List.map_append]
            exact this)
      · have e2 : i = (sweptL s).length := by omega
        subst e2
        have hi' : ¬ ((sweptL s).length : Int) < ((sweptL s).length : Int) := by omega
        have HX := Lib.hid (And.intro O (And.intro Fv (And.intro M (And.intro st nv))))
        clear O OL Fv nv nl M st e hgk hin
        go_wp2_with fail
        go_ret2
        have hj : ((j : Nat) : Int).toNat = j := Int.toNat_natCast j
        refine .inr ⟨s, _, by omega, by rw [hj]; exact HO.out.2.2.1, rfl, ?_, fun k hk => (HX.out.2.1 k hk).1, ?_, ?_, ?_⟩
        · have := HX.out.1
          unfold addrT at this
          rw [List.take_length] at this
          exact this
        · rw [hj, ← HH.out.1]; exact fun k hk hF => HX.out.2.2.2.2 k hk k hF rfl
        · rw [hj, ← HH.out.1]; exact HX.out.2.2.1
        · rw [hj, ← HH.out.1]; exact HX.out.2.2.2.1
end Go.Proofs.YtkocikpoagfonaaDoor
