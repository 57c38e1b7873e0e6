/- Package sched over each P's ring and the queue in common: has, Common, Ready. -/
import Derived.Test.YtoeppmnoifankaaGreatDoorMcRJ
import Derived.Test.YtoeppmnoifankaaGreatDoorMm2J
import Derived.Test.YtoeppmnoifankaaGreatDoorMOw
namespace Go.Proofs.YtoeppmnoifankaaGreatDoor
open Go.RowKit Go.Maps

def rgPut (r : RgR) (x : Int) : RgR := { r with l := fun k => if k = (r.fr + r.n) % 256 then x else r.l k, n := r.n + 1 }
def rgPop (r : RgR) : RgR := { r with fr := (r.fr + 1) % 256, n := r.n - 1 }
theorem IsSc.ne {w : World} {g gq P : Nat} {vr vq : Value} {gp : Nat → Nat} {r : Nat → RgR} {com : List Int} (I : IsSc w g gq P vr vq gp r com) (p : Nat) (hp : p < P) : g ≠ gp p ∧ gq ≠ gp p ∧ g ≠ gq := ⟨I.b.ne_ (I.r p hp) (by decide), I.q.ne_ (I.r p hp) (by decide), I.b.ne_ I.q (by decide)⟩
/-- One ring turned, the queue stays. -/
theorem IsSc.ring {w w' : World} {g gq P : Nat} {vr vq : Value} {gp : Nat → Nat} {r : Nat → RgR} {com : List Int} (I : IsSc w g gq P vr vq gp r com) {p : Nat} (hp : p < P) {r' : RgR} (B : Blk w' (gp p) 253 (rgC r')) (c : Chg [gp p] w w') : IsSc w' g gq P vr vq gp (updV r p r') com := by
  obtain ⟨n1, n2, n3⟩ := I.ne p hp
  refine ⟨c.blk I.b (by simpa using n1), c.blk I.q (by simpa using n2), I.oq.chg c (fun k hk hm => own_ne I.oq.o (I.r p hp) (by decide) (mem_fpv.1 (by have e : k = gp p := (by simpa using hm); rw [← e]; exact hk))), I.o.chg c (fun k hk hm => own_ne I.o.o (I.r p hp) (by decide) (mem_fpv.1 (by have e : k = gp p := (by simpa using hm); rw [← e]; exact hk))), fun q hq => ?_, I.d⟩
  by_cases e : q = p
  · subst e; rw [updV_same]; exact B
  · rw [updV_other _ _ e]; exact c.blk (I.r q hq) (by simpa using I.d q p hq hp e)
theorem IsSc.chg0 {w w' : World} {g gq P : Nat} {vr vq : Value} {gp : Nat → Nat} {r : Nat → RgR} {com : List Int} (I : IsSc w g gq P vr vq gp r com) (c : Chg [] w w') : IsSc w' g gq P vr vq gp r com := I.chg c (by simp)
theorem IsSc.queue0 {w w' : World} {g gq P : Nat} {vr vq : Value} {gp : Nat → Nat} {r : Nat → RgR} {com : List Int} (I : IsSc w g gq P vr vq gp r com) (hq : vq = .slice none 0 0) (B : Blk w' gq 257 #[.slice none 0 0]) (c : Chg [gq] w w') : IsSc w' g gq P vr vq gp r com := by
  refine ⟨c.blk I.b (by simpa using I.b.ne_ I.q (by decide)), by rw [hq]; exact B, I.oq.chg c (fun k hk => by rw [hq] at hk; simp [fpv, Value.ownBlock] at hk), I.o.chg c (fun k hk hm => own_ne I.o.o I.q (by decide) (mem_fpv.1 (by have e : k = gq := (by simpa using hm); rw [← e]; exact hk))), fun q hp => c.blk (I.r q hp) (by simpa using (I.q.ne_ (I.r q hp) (by decide)).symm), I.d⟩
section
variable {w : World} {g gq P : Nat} {vr vq : Value} {gp : Nat → Nat} {r : Nat → RgR} {com : List Int} (I : IsSc w g gq P vr vq gp r com)
include I
set_option maxHeartbeats 1600000 in
set_option maxRecDepth 100000 in
theorem sc_has (p : Nat) (hp : p < P) : Calls Tryz.prog 101 #[.pointer (some ⟨g, 0, none⟩), .int .i64 (p : Nat)] w (QuPost (.bool true) w) := by
  obtain ⟨A, c, hv⟩ := I.o.slice
  rw [ptrs_len] at hv
  have c0 : w.cell? ⟨g, 0, none⟩ = some vr := I.b.cellv 0 rfl
  rw [hv] at c0
  have d1 : (0 : Int) ≤ p := by omega
  have d2 : (p : Int) < P := by omega
  go_enter Tryz.func101, Tryz.ntmps101
  go_wp2_with fail
  go_ret
  exact ⟨by simp [hp], rfl⟩
set_option maxHeartbeats 1600000 in
set_option maxRecDepth 100000 in
theorem sc_common0 (hq : vq = .slice none 0 0) : Calls Tryz.prog 58 #[.pointer (some ⟨g, 0, none⟩)] w (NwPost (.slice none 0 0) w) := by
  have c0 : w.cell? ⟨g, 1, none⟩ = some (.pointer (some ⟨gq, 0, none⟩)) := I.b.cellv 1 rfl
  have K := q_all0 w gq (by rw [← hq]; exact I.q)
  have HK := Lib.hid K; clear K
  go_enter Tryz.func58, Tryz.ntmps58
  go_wp2_with fail
  refine HK.out.mono ?_
  rintro e w1 ⟨rfl, c1⟩
  have HC := Lib.hid c1; clear c1
  go_wp2_with fail
  go_ret
  exact ⟨rfl, HC.out⟩
set_option maxHeartbeats 1600000 in
set_option maxRecDepth 100000 in
theorem sc_ready (hq : vq = .slice none 0 0) (p : Nat) (hp : p < P) (x : Int) (hf : (r p).fr < 256) (hn : (r p).n < 256) : Calls Tryz.prog 50 #[.pointer (some ⟨g, 0, none⟩), .int .i64 (p : Nat), .int .i64 x, .bool false] w fun e w' =>
    e = .returned (.int .i64 0) ∧ IsSc w' g gq P vr vq gp (updV r p (rgPut (r p) x)) com ∧ Chg [gp p, gq] w w' := by
  obtain ⟨A, c, hv⟩ := I.o.slice
  rw [ptrs_len] at hv
  have o := I.o
  rw [hv] at o
  obtain ⟨b, hA, hc, -, -⟩ := o.cell (ptrs_at gp hp)
  subst hA
  have hb : b ∉ [gp p] := fun hm => own_ne o.o (I.r p hp) (by decide) (by simp at hm; simp [Value.ownBlock, hm])
  have hbl : b < w.heap.size := lt_of_cellM hc
  have c0 : w.cell? ⟨g, 0, none⟩ = some vr := I.b.cellv 0 rfl
  rw [hv] at c0
  have c1 : w.cell? ⟨g, 1, none⟩ = some (.pointer (some ⟨gq, 0, none⟩)) := I.b.cellv 1 rfl
  have hgl := I.b.lt
  obtain ⟨n1, n2, n3⟩ := I.ne p hp
  have hg : g ∉ [gp p] := by simpa using n1
  have d1 : (0 : Int) ≤ p := by omega
  have d2 : (p : Int) < P := by omega
  have K := sc_has I p hp
  have HK := Lib.hid (And.intro K (And.intro I hq)); clear K o I hv hq
  go_enter Tryz.func50, Tryz.ntmps50
  go_wp2_with fail
  refine HK.out.1.mono ?_
  rintro e w1 ⟨rfl, rfl⟩
  go_wp2_with fail
  refine wp_region_takes (fuel := 2) 14 (fun w' => Chg [gp p] w1 w') [0, 1, 2, 3, 4, 5, 6, 7, 8, 9, 10, 11, 12] (by kernel_rfl) (by kernel_rfl) (fun _ _ _ _ _ h => h) (((Chg.refl [gp p] w1).drew)) ?_
  simp only [List.filterMap_cons, List.filterMap_nil, List.getElem?_cons_zero, List.getElem?_cons_succ]
  refine wpTake_step (fun K hK => ?_)
  rw [if_pos (by rfl)]
  refine ⟨?_, fun w' hS' => ?_, ?_⟩
  rotate_left 1
  focus
    have y0 := hS'.cellv hgl hg c0
    have y1 := hS'.cellv hgl hg c1
    have y2 := hS'.cellv hbl hb hc
    go_simp
    try with_reducible rfl
    done
  simp only [Act.put, List.setIfInBounds_toArray, List.set_cons_zero, List.set_cons_succ]
  refine hK _ ?_
  clear hK K
  refine wpTake_step (fun K hK => ?_)
  rw [if_pos (by rfl)]
  refine ⟨?_, fun w' hS' => ?_, ?_⟩
  rotate_left 1
  focus
    have y0 := hS'.cellv hgl hg c0
    have y1 := hS'.cellv hgl hg c1
    have y2 := hS'.cellv hbl hb hc
    go_simp
    try with_reducible rfl
    done
  simp only [Act.put, List.setIfInBounds_toArray, List.set_cons_zero, List.set_cons_succ]
  refine hK _ ?_
  clear hK K
  refine wpTake_step (fun K hK => ?_)
  rw [if_pos (by rfl)]
  refine ⟨?_, fun w' hS' => ?_, ?_⟩
  rotate_left 1
  focus
    have y0 := hS'.cellv hgl hg c0
    have y1 := hS'.cellv hgl hg c1
    have y2 := hS'.cellv hbl hb hc
    go_simp
    try with_reducible rfl
    done
  simp only [Act.put, List.setIfInBounds_toArray, List.set_cons_zero, List.set_cons_succ]
  refine hK _ ?_
  clear hK K
  refine wpTake_step (fun K hK => ?_)
  rw [if_pos (by rfl)]
  refine ⟨?_, fun w' hS' => ?_, ?_⟩
  rotate_left 1
  focus
    have y0 := hS'.cellv hgl hg c0
    have y1 := hS'.cellv hgl hg c1
    have y2 := hS'.cellv hbl hb hc
    go_simp
    try with_reducible rfl
    done
  simp only [Act.put, List.setIfInBounds_toArray, List.set_cons_zero, List.set_cons_succ]
  refine hK _ ?_
  clear hK K
  refine wpTake_step (fun K hK => ?_)
  rw [if_pos (by rfl)]
  refine ⟨?_, fun w' hS' => ?_, ?_⟩
  rotate_left 1
  focus
    have y0 := hS'.cellv hgl hg c0
    have y1 := hS'.cellv hgl hg c1
    have y2 := hS'.cellv hbl hb hc
    go_simp
    try with_reducible rfl
    done
  simp only [Act.put, List.setIfInBounds_toArray, List.set_cons_zero, List.set_cons_succ]
  refine hK _ ?_
  clear hK K
  refine wpTake_step (fun K hK => ?_)
  rw [if_pos (by rfl)]
  refine ⟨?_, fun w' hS' => ?_, ?_⟩
  rotate_left 1
  focus
    have y0 := hS'.cellv hgl hg c0
    have y1 := hS'.cellv hgl hg c1
    have y2 := hS'.cellv hbl hb hc
    go_simp
    try with_reducible rfl
    done
  simp only [Act.put, List.setIfInBounds_toArray, List.set_cons_zero, List.set_cons_succ]
  refine hK _ ?_
  clear hK K
  refine wpTake_step (fun K hK => ?_)
  rw [if_pos (by rfl)]
  refine ⟨?_, fun w' hS' => ?_, ?_⟩
  rotate_left 1
  focus
    have y0 := hS'.cellv hgl hg c0
    have y1 := hS'.cellv hgl hg c1
    have y2 := hS'.cellv hbl hb hc
    go_simp
    try with_reducible rfl
    done
  simp only [Act.put, List.setIfInBounds_toArray, List.set_cons_zero, List.set_cons_succ]
  refine hK _ ?_
  clear hK K
  refine wpTake_step (fun K hK => ?_)
  rw [if_pos (by rfl)]
  refine ⟨?_, fun w' hS' => ?_, ?_⟩
  rotate_left 1
  focus
    have y0 := hS'.cellv hgl hg c0
    have y1 := hS'.cellv hgl hg c1
    have y2 := hS'.cellv hbl hb hc
    go_simp
    try with_reducible rfl
    done
  simp only [Act.put, List.setIfInBounds_toArray, List.set_cons_zero, List.set_cons_succ]
  refine hK _ ?_
  clear hK K
  refine wpTake_step (fun K hK => ?_)
  rw [if_pos (by rfl)]
  refine ⟨?_, fun w' hS' => ?_, ?_⟩
  rotate_left 1
  focus
    have y0 := hS'.cellv hgl hg c0
    have y1 := hS'.cellv hgl hg c1
    have y2 := hS'.cellv hbl hb hc
    go_simp
    try with_reducible rfl
    done
  simp only [Act.put, List.setIfInBounds_toArray, List.set_cons_zero, List.set_cons_succ]
  refine hK _ ?_
  clear hK K
  refine wpTake_step (fun K hK => ?_)
  rw [if_pos (by rfl)]
  refine ⟨?_, fun w' hS' => ?_, ?_⟩
  rotate_left 1
  focus
    have y0 := hS'.cellv hgl hg c0
    have y1 := hS'.cellv hgl hg c1
    have y2 := hS'.cellv hbl hb hc
    go_simp
    try with_reducible rfl
    done
  simp only [Act.put, List.setIfInBounds_toArray, List.set_cons_zero, List.set_cons_succ]
  refine hK _ ?_
  clear hK K
  refine wpTake_step (fun K hK => ?_)
  rw [if_pos (by rfl)]
  refine ⟨?_, fun w' hS' => ?_, ?_⟩
  rotate_left 1
  focus
    have y0 := hS'.cellv hgl hg c0
    have y1 := hS'.cellv hgl hg c1
    have y2 := hS'.cellv hbl hb hc
    go_simp
    try with_reducible rfl
    done
  simp only [Act.put, List.setIfInBounds_toArray, List.set_cons_zero, List.set_cons_succ]
  refine hK _ ?_
  clear hK K
  refine wpTake_step (fun K hK => ?_)
  rw [if_pos (by rfl)]
  refine ⟨?_, fun w' hS' => ?_, ?_⟩
  rotate_left 1
  focus
    have y0 := hS'.cellv hgl hg c0
    have y1 := hS'.cellv hgl hg c1
    have y2 := hS'.cellv hbl hb hc
    go_simp
    try with_reducible rfl
    done
  simp only [Act.put, List.setIfInBounds_toArray, List.set_cons_zero, List.set_cons_succ]
  refine hK _ ?_
  clear hK K
  refine wpTake_step (fun K hK => ?_)
  rw [if_pos (by rfl)]
  refine ⟨?_, fun w' hS' => ?_, ?_⟩
  rotate_left 1
  focus
    have y0 := hS'.cellv hgl hg c0
    have y1 := hS'.cellv hgl hg c1
    have y2 := hS'.cellv hbl hb hc
    go_simp
    try with_reducible rfl
    done
  simp only [Act.put, List.setIfInBounds_toArray, List.set_cons_zero, List.set_cons_succ]
  refine hK _ ?_
  clear hK K
  refine wpTake_nil ?_
  generalize hx0 : w1.drew = x0
  have D0 : Chg [] w1 x0 := by rw [← hx0]; exact (Chg.refl [] w1).drew
  clear hx0
  refine wpAnyS_ready (rs := [13]) (by kernel_rfl) (by simp) ?_
  refine AllReadyS.cons (by simp only [List.getElem?_toArray, List.getElem?_cons_zero, List.getElem?_cons_succ]; rfl) (fun K hK => ?_) ?_
  · rw [if_pos (by rfl)]
    go_simp
    go_at_call 103
    refine (rg_put x0 (gp p) (r p) (D0.blk (HK.out.2.1.r p hp) (by simp)) x hf hn).mono ?_
    rintro e x1 ⟨rfl, B1, k1⟩
    dsimp only
    have D1 : Chg [gp p] w1 x1 := (D0.mono (by simp)).trans k1
    refine hK _ _ (D1) ?_
    clear hK K
    try simp only [Act.put, List.setIfInBounds_toArray, List.set_cons_zero, List.set_cons_succ]
    refine wpAnyS_tail 14 1 (by kernel_rfl) rfl ?_
    simp only [List.drop_succ_cons, List.drop_zero]
    have J1 : IsSc x1 g gq P vr vq gp (updV r p (rgPut (r p) x)) com := HK.out.2.1.ring hp B1 D1
    have HD := Lib.hid (And.intro J1 D1)
    clear B1 D1 k1 D0
    go_wp2_with fail
    refine (q_put0 x1 gq (by have := HD.out.1.q; rw [HK.out.2.2] at this; exact this)).mono ?_
    rintro e x2 ⟨rfl, B2, k2⟩
    have J2 : IsSc x2 g gq P vr vq gp (updV r p (rgPut (r p) x)) com := HD.out.1.queue0 HK.out.2.2 B2 k2
    have HE := Lib.hid (And.intro J2 k2)
    clear B2 k2 J1 J2
    go_wp2_with fail
    go_ret
    exact ⟨rfl, HE.out.1, (HD.out.2.mono (by simp)).trans (HE.out.2.mono (by simp))⟩
  exact AllReadyS.nil
end
end Go.Proofs.YtoeppmnoifankaaGreatDoor
