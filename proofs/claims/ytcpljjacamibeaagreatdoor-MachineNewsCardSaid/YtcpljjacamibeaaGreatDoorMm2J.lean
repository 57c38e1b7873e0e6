/- A machine in memory: its parts told anew one by one. -/
/- Package phase while the collector is off; package sched: New's parts, has. -/
/- Package sched over each P's ring and the queue in common: has, Common, Ready. -/
import Derived.Test.YtcpljjacamibeaaGreatDoorMcRJ
import Derived.Test.YtcpljjacamibeaaGreatDoorMcOJ
import Derived.Test.YtcpljjacamibeaaGreatDoorMOw
namespace Go.Proofs.YtcpljjacamibeaaGreatDoor
set_option maxHeartbeats 16000000
set_option maxRecDepth 100000
open Go.RowKit Go.Maps
section
variable {W : Bs} {w w' : World} {p p' : MAt} {m m' : Mac}
theorem gorC_size (x : GorA) : (gorC x).size = 21 := by unfold gorC; simp
theorem gorC_at (x : GorA) {i : Nat} (h : i < 16) : (gorC x)[3 + i]? = some (.int .i64 (x.st i)) := by
  unfold gorC
  rw [List.getElem?_toArray, List.append_assoc, List.getElem?_append_right (by simp), List.getElem?_append_left (by simpa using (by omega : 3 + i - 3 < 16))]
  simp [show 3 + i - 3 = i by omega, h]
theorem gorC_0 (x : GorA) : (gorC x)[0]? = some (.int .i64 x.f) := rfl
theorem gorC_1 (x : GorA) : (gorC x)[1]? = some (.int .i64 x.pc) := rfl
theorem gorC_2 (x : GorA) : (gorC x)[2]? = some (.int .i64 x.cnt) := rfl
theorem gorC_19 (x : GorA) : (gorC x)[19]? = some (.int .i64 x.p) := rfl
theorem gorC_20 (x : GorA) : (gorC x)[20]? = some (.int .i64 x.cyc) := rfl
theorem gorC_ext {a : Array Value} (x : GorA) (hs : a.size = 21) (h0 : a[0]? = some (.int .i64 x.f)) (h1 : a[1]? = some (.int .i64 x.pc)) (h2 : a[2]? = some (.int .i64 x.cnt)) (hi : ∀ i, i < 16 → a[3 + i]? = some (.int .i64 (x.st i))) (h3 : a[19]? = some (.int .i64 x.p)) (h4 : a[20]? = some (.int .i64 x.cyc)) : a = gorC x := by
  apply Array.ext_getElem?
  intro i
  have : i = 0 ∨ i = 1 ∨ i = 2 ∨ (3 ≤ i ∧ i < 19) ∨ i = 19 ∨ i = 20 ∨ 21 ≤ i := by omega
  rcases this with rfl | rfl | rfl | h | rfl | rfl | h
  · rw [h0, gorC_0]
  · rw [h1, gorC_1]
  · rw [h2, gorC_2]
  · obtain ⟨k, rfl⟩ : ∃ k, i = 3 + k := ⟨i - 3, by omega⟩
    rw [hi k (by omega), gorC_at x (by omega)]
  · rw [h3, gorC_19]
  · rw [h4, gorC_20]
  · rw [Array.getElem?_eq_none (by omega), Array.getElem?_eq_none (by rw [gorC_size]; omega)]
theorem gorC_st (x : GorA) {i : Nat} (h : i < 16) (y : Int) : (gorC x).setIfInBounds (3 + i) (.int .i64 y) = gorC { x with st := updV x.st i y } := by
  have far : ∀ j, j ≠ 3 + i → ((gorC x).setIfInBounds (3 + i) (.int .i64 y))[j]? = (gorC x)[j]? := fun j hj => by
    rw [Array.getElem?_setIfInBounds, if_neg (Ne.symm hj)]
  refine gorC_ext _ (by simp [gorC_size]) ?_ ?_ ?_ (fun k hk => ?_) ?_ ?_
  · rw [far 0 (by omega)]; rfl
  · rw [far 1 (by omega)]; rfl
  · rw [far 2 (by omega)]; rfl
  · by_cases e : k = i
    · subst e
      rw [Array.getElem?_setIfInBounds, if_pos rfl, if_pos (by rw [gorC_size]; omega)]
      show _ = some (Value.int .i64 (updV x.st k y k))
      rw [updV_same]
    · rw [far _ (by omega), gorC_at x hk]
      show _ = some (Value.int .i64 (updV x.st i y k))
      rw [updV_other _ _ e]
  · rw [far 19 (by omega)]; rfl
  · rw [far 20 (by omega)]; rfl
theorem MM.mset (M : MM W w p m) (i : Nat) (v : Value) (hg : p'.gm = p.gm) (hcs : (mC p m).setIfInBounds i v = mC p' m') (hO : ∀ k, k ≠ Kd.mach → MF p' m' k = MF p m k ∧ ∀ w, MC W p' m' w k = MC W p m w k) : MM W (w.setCell ⟨p.gm, i, none⟩ v) p' m' := by
  have B : Blk w p.gm 109 (mC p m) := M.k .mach
  have B' := (B.setv i v hcs)
  refine M.turn .mach ((Chg.refl [p.gm] w).setCell (.inl (by simp)) v) (fun j hj => .inl (show j = p.gm by simpa using hj)) (fun j hj => ?_) ?_ hO
  · have e : j = p.gm := by have : j = p'.gm := hj; rw [this, hg]
    subst e
    exact ⟨.inl rfl, B'.lt⟩
  · show Blk _ p'.gm _ _
    rw [hg]; exact B'
theorem MM.pset (M : MM W w p m) {q : Nat} (hq : q < m.np) (i : Nat) (v : Value) (x : PrcA) (hcs : (prcC (m.ps q) (p.vsc q) (p.bn q)).setIfInBounds i v = prcC x (p.vsc q) (p.bn q)) : MM W (w.setCell ⟨p.bp q, i, none⟩ v) p { m with ps := updV m.ps q x } := by
  have B : Blk w (p.bp q) 128 (prcC (m.ps q) (p.vsc q) (p.bn q)) := M.k (.proc q) hq
  have B' := B.setv i v hcs
  refine M.turn (.proc q) ((Chg.refl [p.bp q] w).setCell (.inl (by simp)) v) (fun j hj => .inl ⟨hq, by simpa using hj⟩) (fun j hj => ?_) (fun _ => ?_) (fun k hk => ?_)
  · obtain ⟨-, rfl⟩ := hj
    exact ⟨.inl ⟨hq, rfl⟩, B'.lt⟩
  · show Blk _ (p.bp q) _ (prcC (updV m.ps q x q) _ _)
    rw [updV_same]; exact B'
  · cases k
    case proc q' =>
      refine ⟨rfl, fun w => ?_⟩
      have hne : q' ≠ q := fun e => hk (by rw [e])
      show (q' < m.np → Blk w (p.bp q') _ (prcC (updV m.ps q x q') _ _)) = _
      rw [updV_other _ _ hne]; rfl
    all_goals exact ⟨rfl, fun _ => rfl⟩
theorem MM.gset (M : MM W w p m) {g : Nat} (hg : g < m.ng) (i : Nat) (v : Value) (x : GorA) (hcs : (gorC (m.gs g)).setIfInBounds i v = gorC x) : MM W (w.setCell ⟨p.bg g, i, none⟩ v) p { m with gs := updV m.gs g x } := by
  have B : Blk w (p.bg g) 118 (gorC (m.gs g)) := M.k (.gor g) hg
  have B' := B.setv i v hcs
  refine M.turn (.gor g) ((Chg.refl [p.bg g] w).setCell (.inl (by simp)) v) (fun j hj => .inl ⟨hg, by simpa using hj⟩) (fun j hj => ?_) (fun _ => ?_) (fun k hk => ?_)
  · obtain ⟨-, rfl⟩ := hj
    exact ⟨.inl ⟨hg, rfl⟩, B'.lt⟩
  · show Blk _ (p.bg g) _ (gorC (updV m.gs g x g))
    rw [updV_same]; exact B'
  · cases k
    case gor g' =>
      refine ⟨rfl, fun w => ?_⟩
      have hne : g' ≠ g := fun e => hk (by rw [e])
      show (g' < m.ng → Blk w (p.bg g') _ (gorC (updV m.gs g x g'))) = _
      rw [updV_other _ _ hne]; rfl
    all_goals exact ⟨rfl, fun _ => rfl⟩
theorem MM.stT (M : MM W w p m) {v' : Value} {xs' : List Int} (I : IsSt w' p.gst v' xs') (hv : v' = p.vst) (s : Stp (p.gst :: fpv p.vst) (p.gst :: fpv v') w w') : MM W w' p { m with sts := xs' } := by
  subst hv
  refine M.turn .states s.c (fun j hj => .inl (show j = p.gst ∨ j ∈ fpv p.vst from List.mem_cons.1 hj)) (fun j hj => ⟨.inl hj, ?_⟩) I (fun k hk => ?_)
  · rcases hj with rfl | h
    · exact I.b.lt
    · exact I.o.lt h
  · cases k
    case states => exact absurd rfl hk
    all_goals exact ⟨rfl, fun _ => rfl⟩
theorem MM.stT' (M : MM W w p m) {v' : Value} {xs' : List Int} (I : IsSt w' p.gst v' xs') (s : Stp (p.gst :: fpv p.vst) (p.gst :: fpv v') w w') : MM W w' { p with vst := v' } { m with sts := xs' } := by
  refine M.turn .states s.c (fun j hj => .inl (show j = p.gst ∨ j ∈ fpv p.vst from List.mem_cons.1 hj)) (fun j hj => ⟨?_, ?_⟩) I (fun k hk => ?_)
  · rcases s.f j (by rcases hj with h | h <;> simp [h]) with h | h
    · exact .inl (by simpa [MF] using h)
    · exact .inr h
  · rcases hj with rfl | h
    · exact I.b.lt
    · exact I.o.lt h
  · cases k
    case states => exact absurd rfl hk
    all_goals exact ⟨rfl, fun _ => rfl⟩
theorem MM.scT (M : MM W w p m) {T : List Nat} {vq' : Value} {r' : Nat → RgR} {com' : List Int} (I : IsSc w' p.gsd p.gq m.np p.vr vq' p.gr r' com') (c : Chg T w w') (hT : ∀ j ∈ T, ScF p.gsd p.gq m.np p.vr p.vq p.gr j ∨ w.heap.size ≤ j) (hv : ∀ j ∈ fpv vq', j ∈ fpv p.vq ∨ w.heap.size ≤ j) : MM W w' { p with vq := vq' } { m with rg := r', com := com' } := by
  refine M.turn .sched c hT (fun j hj => ⟨?_, I.lt hj⟩) I (fun k hk => ?_)
  · rcases hj with h | h | h | h | h
    · exact .inl (.inl h)
    · exact .inl (.inr (.inl h))
    · exact .inl (.inr (.inr (.inl h)))
    · rcases hv j h with h | h
      · exact .inl (.inr (.inr (.inr (.inl h))))
      · exact .inr h
    · exact .inl (.inr (.inr (.inr (.inr h))))
  · cases k
    case sched => exact absurd rfl hk
    all_goals exact ⟨rfl, fun _ => rfl⟩
theorem MM.listT (M : MM W w p m) (k0 : Kd) (hk0 : k0 ≠ .mach) {T : List Nat} {v : Value} {i : Nat} (c : Chg T w w') (hT : ∀ j ∈ T, MF p m k0 j ∨ w.heap.size ≤ j) (hg : p'.gm = p.gm) (hcs : (mC p m).setIfInBounds i v = mC p' m')
    (hF : ∀ j, MF p' m' k0 j → (MF p m k0 j ∨ w.heap.size ≤ j) ∧ j < w'.heap.size) (hC : ∀ w'', Chg [p.gm] w' w'' → MC W p' m' w'' k0) (hO : ∀ k, k ≠ k0 → k ≠ .mach → MF p' m' k = MF p m k ∧ ∀ w, MC W p' m' w k = MC W p m w k) : MM W (w'.setCell ⟨p.gm, i, none⟩ v) p' m' := by
  have B : Blk w p.gm 109 (mC p m) := M.k .mach
  have hgT : p.gm ∉ T := fun hm => by
    rcases hT _ hm with h | h
    · exact hk0 (M.ap k0 .mach _ h rfl)
    · have := B.lt; omega
  have B' := (c.blk B hgT).setv i v hcs
  have c2 : Chg [p.gm] w' (w'.setCell ⟨p.gm, i, none⟩ v) := (Chg.refl _ _).setCell (.inl (by simp)) v
  refine M.turns (T := p.gm :: T) (fun k => k = .mach ∨ k = k0) ((c.mono (fun k hk => .inl (List.mem_cons_of_mem _ hk))).trans (c2.mono (by simp))) (fun j hj => ?_) (fun k hk j hj => ?_) (fun k k' j hk hk' hw hj hj' => ?_) (fun k hk => ?_) (fun k hk => hO k (fun e => hk (.inr e)) (fun e => hk (.inl e)))
  · rcases List.mem_cons.1 hj with rfl | h
    · exact .inl ⟨.mach, .inl rfl, rfl⟩
    · exact (hT j h).imp (fun h => ⟨k0, .inr rfl, h⟩) id
  · rcases hk with rfl | rfl
    · have e : j = p.gm := by have : j = p'.gm := hj; rw [this, hg]
      subst e
      exact ⟨.inl rfl, B'.lt⟩
    · exact ⟨(hF j hj).1, by rw [size_setCell]; exact (hF j hj).2⟩
  · have no : ∀ j, MF p' m' .mach j → ¬ w.heap.size ≤ j := fun j h => by
      have e : j = p.gm := by have : j = p'.gm := h; rw [this, hg]
      have := B.lt; omega
    rcases hk with rfl | rfl
    · exact absurd hw (no j hj)
    · rcases hk' with rfl | rfl
      · exact absurd hw (no j hj')
      · rfl
  · rcases hk with rfl | rfl
    · show Blk _ p'.gm _ _
      rw [hg]; exact B'
    · exact hC _ c2
theorem MM.coT (M : MM W w p m) {v' : Value} {x : ComA} (O : OwnG comC 6 59 w' v' (m.cms ++ [x])) (s : Stp (fpv p.vco) (fpv v') w w') : MM W (w'.setCell ⟨p.gm, 24, none⟩ v') { p with vco := v' } { m with cms := m.cms ++ [x] } := by
  have hg : p.gm ∉ fpv v' := fun hm => by
    rcases s.f _ hm with h | h
    · have := M.ap .mach .commits _ rfl h; cases this
    · have : p.gm < w.heap.size := M.hi .mach _ rfl; omega
  refine M.listT .commits (by simp) s.c (fun j hj => .inl hj) rfl rfl (fun j hj => ⟨s.f j hj, O.lt hj⟩) (fun w'' c2 => O.chg c2 (fun k hk hm => hg (by simp at hm; exact hm ▸ hk))) (fun k hk hm => ?_)
  cases k
  case commits => exact absurd rfl hk
  case mach => exact absurd rfl hm
  all_goals exact ⟨rfl, fun _ => rfl⟩
end
def phC (b P : Nat) : Array Value := #[.int .i64 0, .int .i64 0, .slice (some ⟨b, 0, none⟩) P P, .int .i64 0, .int .i64 0]
def PhPost (P : Nat) (w : World) (e : Ending) (w' : World) : Prop := ∃ g b, e = .returned (.tuple #[.pointer (some ⟨g, 0, none⟩), .int .i64 0]) ∧ w.heap.size ≤ g ∧ w.heap.size ≤ b ∧ Blk w' g 168 (phC b P) ∧ Chg [] w w'
section
variable (w : World) (g b P : Nat) (B : Blk w g 168 (phC b P))
include B
end
def rgPut (r : RgR) (x : Int) : RgR := { r with l := fun k => if k = (r.fr + r.n) % 256 then x else r.l k, n := r.n + 1 }
def rgPop (r : RgR) : RgR := { r with fr := (r.fr + 1) % 256, n := r.n - 1 }
theorem IsSc.ne {w : World} {g gq P : Nat} {vr vq : Value} {gp : Nat → Nat} {r : Nat → RgR} {com : List Int} (I : IsSc w g gq P vr vq gp r com) (p : Nat) (hp : p < P) : g ≠ gp p ∧ gq ≠ gp p ∧ g ≠ gq := ⟨I.b.ne_ (I.r p hp) (by decide), I.q.ne_ (I.r p hp) (by decide), I.b.ne_ I.q (by decide)⟩
theorem IsSc.ring {w w' : World} {g gq P : Nat} {vr vq : Value} {gp : Nat → Nat} {r : Nat → RgR} {com : List Int} (I : IsSc w g gq P vr vq gp r com) {p : Nat} (hp : p < P) {r' : RgR} (B : Blk w' (gp p) 263 (rgC r')) (c : Chg [gp p] w w') : IsSc w' g gq P vr vq gp (updV r p r') com := by
  obtain ⟨n1, n2, n3⟩ := I.ne p hp
  refine ⟨c.blk I.b (by simpa using n1), c.blk I.q (by simpa using n2), I.oq.chg c (fun k hk hm => own_ne I.oq.o (I.r p hp) (by decide) (mem_fpv.1 (by have e : k = gp p := (by simpa using hm); rw [← e]; exact hk))), I.o.chg c (fun k hk hm => own_ne I.o.o (I.r p hp) (by decide) (mem_fpv.1 (by have e : k = gp p := (by simpa using hm); rw [← e]; exact hk))), fun q hq => ?_, I.d⟩
  by_cases e : q = p
  · subst e; rw [updV_same]; exact B
  · rw [updV_other _ _ e]; exact c.blk (I.r q hq) (by simpa using I.d q p hq hp e)
theorem IsSc.chg0 {w w' : World} {g gq P : Nat} {vr vq : Value} {gp : Nat → Nat} {r : Nat → RgR} {com : List Int} (I : IsSc w g gq P vr vq gp r com) (c : Chg [] w w') : IsSc w' g gq P vr vq gp r com := I.chg c (by simp)
theorem IsSc.queue0 {w w' : World} {g gq P : Nat} {vr vq : Value} {gp : Nat → Nat} {r : Nat → RgR} {com : List Int} (I : IsSc w g gq P vr vq gp r com) (hq : vq = .slice none 0 0) (B : Blk w' gq 267 #[.slice none 0 0]) (c : Chg [gq] w w') : IsSc w' g gq P vr vq gp r com := by
  refine ⟨c.blk I.b (by simpa using I.b.ne_ I.q (by decide)), by rw [hq]; exact B, I.oq.chg c (fun k hk => by rw [hq] at hk; simp [fpv, Value.ownBlock] at hk), I.o.chg c (fun k hk hm => own_ne I.o.o I.q (by decide) (mem_fpv.1 (by have e : k = gq := (by simpa using hm); rw [← e]; exact hk))), fun q hp => c.blk (I.r q hp) (by simpa using (I.q.ne_ (I.r q hp) (by decide)).symm), I.d⟩
section
variable {w : World} {g gq P : Nat} {vr vq : Value} {gp : Nat → Nat} {r : Nat → RgR} {com : List Int} (I : IsSc w g gq P vr vq gp r com)
include I
theorem sc_has (p : Nat) (hp : p < P) : Calls Tryz.prog 126 #[.pointer (some ⟨g, 0, none⟩), .int .i64 (p : Nat)] w (QuPost (.bool true) w) := by
  obtain ⟨A, c, hv⟩ := I.o.slice
  rw [ptrs_len] at hv
  have c0 : w.cell? ⟨g, 0, none⟩ = some vr := I.b.cellv 0 rfl
  rw [hv] at c0
  have d1 : (0 : Int) ≤ p := by omega
  have d2 : (p : Int) < P := by omega
  go_enter Tryz.func126, Tryz.ntmps126
  go_wp2_with fail
  go_ret
  exact ⟨by simp [hp], rfl⟩
theorem sc_common0 (hq : vq = .slice none 0 0) : Calls Tryz.prog 143 #[.pointer (some ⟨g, 0, none⟩)] w (NwPost (.slice none 0 0) w) := by
  have c0 : w.cell? ⟨g, 1, none⟩ = some (.pointer (some ⟨gq, 0, none⟩)) := I.b.cellv 1 rfl
  have K := q_all0 w gq (by rw [← hq]; exact I.q)
  have HK := Lib.hid K; clear K
  go_enter Tryz.func143, Tryz.ntmps143
  go_wp2_with fail
  refine HK.out.mono ?_
  rintro e w1 ⟨rfl, c1⟩
  have HC := Lib.hid c1; clear c1
  go_wp2_with fail
  go_ret
  exact ⟨rfl, HC.out⟩
theorem sc_ready (hq : vq = .slice none 0 0) (p : Nat) (hp : p < P) (x : Int) (hf : (r p).fr < 256) (hn : (r p).n < 256) : Calls Tryz.prog 83 #[.pointer (some ⟨g, 0, none⟩), .int .i64 (p : Nat), .int .i64 x, .bool false] w fun e w' =>
    e = .returned (.int .i64 0) ∧ IsSc w' g gq P vr vq gp (updV r p (rgPut (r p) x)) com ∧ Chg [gp p, gq] w w' := by
  obtain ⟨A, c, hv⟩ := I.o.slice
  rw [ptrs_len] at hv
  have o := I.o
  rw [hv] at o
  obtain ⟨b, hA, hc, -, -⟩ := o.cell (ptrs_at gp hp)
  subst hA
  have hb : b ∉ [gp p] := fun hm => own_ne o.o (I.r p hp) (by decide) (by simp at hm; simp [Value.ownBlock, hm])
  have hbl : b < w.heap.size := lt_of_cellM hc
  have c0 : w.cell? ⟨g, 0, none⟩ = some vr := I.b.cellv 0 rfl
  rw [hv] at c0
  have c1 : w.cell? ⟨g, 1, none⟩ = some (.pointer (some ⟨gq, 0, none⟩)) := I.b.cellv 1 rfl
  have hgl := I.b.lt
  obtain ⟨n1, n2, n3⟩ := I.ne p hp
  have hg : g ∉ [gp p] := by simpa using n1
  have d1 : (0 : Int) ≤ p := by omega
  have d2 : (p : Int) < P := by omega
  have K := sc_has I p hp
  have HK := Lib.hid (And.intro K (And.intro I hq)); clear K o I hv hq
  go_enter Tryz.func83, Tryz.ntmps83
  go_wp2_with fail
  refine HK.out.1.mono ?_
  rintro e w1 ⟨rfl, rfl⟩
  go_wp2_with fail
  refine wp_region_takes (fuel := 2) 14 (fun w' => Chg [gp p] w1 w') [0, 1, 2, 3, 4, 5, 6, 7, 8, 9, 10, 11, 12] (by kernel_rfl) (by kernel_rfl) (fun _ _ _ _ _ h => h) (((Chg.refl [gp p] w1).drew)) ?_
  simp only [List.filterMap_cons, List.filterMap_nil, qGa, qGb]
  iterate 13
    refine wpTake_step (fun K hK => ?_)
    rw [if_pos (by rfl)]
    refine ⟨?_, fun w' hS' => ?_, ?_⟩
    rotate_left 1
    focus
      have y0 := hS'.cellv hgl hg c0
      have y1 := hS'.cellv hgl hg c1
      have y2 := hS'.cellv hbl hb hc
      go_simp
      try with_reducible rfl
      done
    simp only [Act.put, qSa, qSb, qSc]
    refine hK _ ?_
    clear hK K
  refine wpTake_nil ?_
  generalize hx0 : w1.drew = x0
  have D0 : Chg [] w1 x0 := by rw [← hx0]; exact (Chg.refl [] w1).drew
  clear hx0
  refine wpAnyS_ready (rs := [13]) (by kernel_rfl) (by simp) ?_
  refine AllReadyS.o (fun K hK => ?_)
  rw [if_pos (by rfl)]
  go_simp
  go_at_call 128
  refine (rg_put x0 (gp p) (r p) (D0.blk (HK.out.2.1.r p hp) (by simp)) x hf hn).mono ?_
  rintro e x1 ⟨rfl, B1, k1⟩
  dsimp only
  have D1 : Chg [gp p] w1 x1 := (D0.mono (by simp)).trans k1
  refine hK _ _ (D1) ?_
  clear hK K
  try simp only [Act.put, qSa, qSb, qSc]
  refine wpAnyS_tail 14 1 (by kernel_rfl) rfl ?_
  simp only [qDa, qDb]
  have J1 : IsSc x1 g gq P vr vq gp (updV r p (rgPut (r p) x)) com := HK.out.2.1.ring hp B1 D1
  have HD := Lib.hid (And.intro J1 D1)
  clear B1 D1 k1 D0
  go_wp2_with fail
  refine (q_put0 x1 gq (by have := HD.out.1.q; rw [HK.out.2.2] at this; exact this)).mono ?_
  rintro e x2 ⟨rfl, B2, k2⟩
  have J2 : IsSc x2 g gq P vr vq gp (updV r p (rgPut (r p) x)) com := HD.out.1.queue0 HK.out.2.2 B2 k2
  have HE := Lib.hid (And.intro J2 k2)
  clear B2 k2 J1 J2
  go_wp2_with fail
  go_ret
  exact ⟨rfl, HE.out.1, (HD.out.2.mono (by simp)).trans (HE.out.2.mono (by simp))⟩
end
end Go.Proofs.YtcpljjacamibeaaGreatDoor
