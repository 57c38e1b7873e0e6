/- Package cache: New (as XHpN, behind fewer texts: for the seats of layer 28). -/
import Derived.Test.YtcpljjacamibeaaGreatDoorMSerJ
import Derived.Test.YtcpljjacamibeaaGreatDoorMArJ
namespace Go.Proofs.YtcpljjacamibeaaGreatDoor
set_option maxHeartbeats 16000000
set_option maxRecDepth 100000
open Go.RowKit Go.Maps
theorem HpS.far {W w w' : World} {H : HpH} {A : HpA} {N b : Nat} {S : List Nat} (Q : HpS W w H A N b) (c : Chg S w w') (nf : ∀ k ∈ S, ¬ HpF H A k) (new : ∀ k ∈ S, W.heap.size ≤ k) : HpS W w' H A N b := by
  have nA : ∀ k, ArF H.ah A.a k → k ∉ S := fun k hk hm => nf k hm (.inl hk)
  have nC : ∀ k, CeF H.gc H.gl H.v k → k ∉ S := fun k hk hm => nf k hm (.inr (.inl hk))
  have nO : ∀ k, OwF H A.P k → k ∉ S := fun k hk hm => nf k hm (.inr (.inr hk))
  exact ⟨c.blk Q.hb (nO _ (.inl rfl)), ⟨Q.S.M.chg c nA, Q.S.I, Q.S.far, Q.S.c.new c new, rfl, Q.S.m⟩, Q.C.chg c nC, own_chg Q.o c (fun k hk => nO k (.inr (.inl (mem_fpv.2 hk)))), fun p hp => c.blk (Q.g p hp) (nO _ (.inr (.inr ⟨p, hp, rfl⟩))), Q.inj, Q.d1, Q.d2, Q.n1, Q.n2⟩
theorem info_row : (Tryz.prog.info? 37).map (fun i => (i.zero, i.size, i.bytes)) = some (some (.slice none 0 0), 1, 24) := by kernel_rfl
theorem run_push_row {w : World} {v : Value} {n : Nat} {l : List Value} (ty : TypeId) (h : w.ownsRow 0 37 1 v n l) (r : Value) (hr : ∃ A a b, r = .slice A a b) (hl : n ≤ 1000000) :
    ∃ v' w', (Builtin.append_ #[63, 63] ty #[v, .slice (some ⟨w.heap.size, 0, none⟩) 1 1]).run Tryz.prog (w.alloc (.cells #[r] 37)) = .ok v' w' ∧ w'.ownsRow 0 37 1 v' (n + 1) (l ++ [r]) ∧ Stp (fpv v) (fpv v') w w' := by
  obtain ⟨i, hi, hz, hsz, hb⟩ := info_parts info_row
  obtain ⟨v', w', hrun, h1, h2, h3, h4⟩ := run_append_own_at (P := Tryz.prog) (w.alloc (.cells #[r] 37)) 0 63 ty 37 i (.slice none 0 0) 1 24 Tryz.underlying63 hi hz hsz hb rfl (by decide) v n l (h.alloc _) ⟨w.heap.size, 0, none⟩ 1 1 [r] rfl
    (news_one w r 37)
    (by intro u hu; simp at hu; subst hu; obtain ⟨A, a, b, rfl⟩ := hr; rfl) (by unfold maxLen; omega) (by omega) (Nat.zero_le _)
  refine ⟨v', w', hrun, h1, ⟨((Chg.refl (fpv v) w).alloc _).grown h2 fun k hk => .inl (mem_fpv.2 hk), fun k hk => ?_⟩⟩
  rcases h4 with h4 | h4
  · rw [mem_fpv, h4] at hk; exact .inl (mem_fpv.2 hk)
  · rw [mem_fpv, h4] at hk
    injection hk with hk
    rw [World.size_alloc] at hk
    exact .inr (by omega)
theorem wpList_push_row {w : World} {v : Value} {n : Nat} {l : List Value} {ops : Array Oper} {rest : List Oper} {op : Oper} {a : Act} {Q : Exit → Act → World → Prop} (hgd : op.guard = none) (s x : Operand)
    (hop : op.op = .call { callee := .builtin .append, args := #[s, x], argTypes := #[63, 63] }) (hs : a.eval s = v) (h : w.ownsRow 0 37 1 v n l) (A0 : Option Addr) (m c : Nat) (hx : a.eval x = .slice (some ⟨w.heap.size, 0, none⟩) 1 1) (hl : n ≤ 1000000)
    (hK : ∀ A' c' w', w'.ownsRow 0 37 1 (.slice A' (n + 1) c') (n + 1) (l ++ [.slice A0 m c]) → Stp (fpv v) (fpv (.slice A' (n + 1) c')) w w' → wpList Tryz.prog ops Q rest (a.put op.dst (.slice A' (n + 1) c')) w') : wpList Tryz.prog ops Q (op :: rest) a (w.alloc (.cells #[.slice A0 m c] 37)) := by
  obtain ⟨v', w', hr, h2, h3⟩ := run_push_row op.type h (.slice A0 m c) ⟨A0, m, c, rfl⟩ hl
  obtain ⟨A', c', e⟩ : ∃ A c, v' = .slice A (n + 1) c := by
    rcases h2.2 with ⟨_, h0⟩ | ⟨g, cap, cur, e, _⟩
    · omega
    · exact ⟨_, _, e⟩
  subst e
  refine wpList_plain hgd fun K' hK' => ?_
  unfold Oper.wp execOp
  simp only [hop, resolve, invoke, builtin, Sem.run_bind, Sem.run_pure, Result.andThen_ok, List.map_toArray, List.map_cons, List.map_nil, hs, hx, hr]
  exact hK' _ _ (hK A' c' w' h2 h3)
theorem HpS.push {W w w' : World} {H : HpH} {A : HpA} {N b gr : Nat} {vo' : Value} (Q : HpS W w H A N b) (hB : Blk w gr 3 (own16 (A.own A.P))) (hnF : ¬ HpF H A gr) (hnew : W.heap.size ≤ gr)
    (O : w'.ownsRow 0 37 1 vo' (A.P + 1) (ownVs H.gp A.P ++ [.slice (some ⟨gr, 0, none⟩) 16 16])) (s : Stp (fpv H.vo) (fpv vo') w w') :
    HpS W (w'.setCell ⟨H.gh, 2, none⟩ vo') { H with vo := vo', gp := fun p => if p = A.P then gr else H.gp p } { A with P := A.P + 1 } N b := by
  have hW : W.heap.size ≤ w.heap.size := Q.S.c.size
  have c2 : Chg [H.gh] w' (w'.setCell ⟨H.gh, 2, none⟩ vo') := (Chg.refl _ w').setCell (.inl (by simp)) _
  have ghv : H.gh ∉ fpv H.vo := own_far Q.o Q.hb (by decide)
  have ghv' : H.gh ∉ fpv vo' := fun h => by
    rcases s.f _ h with h1 | h1
    · exact ghv h1
    · have := Q.hb.lt; omega
  have grv : gr ∉ fpv H.vo := own_far Q.o hB (by decide)
  have grh : gr ≠ H.gh := fun e => hnF (.inr (.inr (.inl e)))
  have oO : ∀ k, k = H.gh ∨ k ∈ fpv H.vo → OwF H A.P k := fun k hk => hk.elim .inl (fun h => .inr (.inl h))
  have nA : ∀ k, ArF H.ah A.a k → k ∉ fpv H.vo ∧ k ∉ [H.gh] := fun k hk => ⟨fun hm => (Q.d2 k (.inr (.inl hm))).1 hk, fun hm => (Q.d2 k (.inl (by simpa using hm))).1 hk⟩
  have nC : ∀ k, CeF H.gc H.gl H.v k → k ∉ fpv H.vo ∧ k ∉ [H.gh] := fun k hk => ⟨fun hm => (Q.d2 k (.inr (.inl hm))).2 hk, fun hm => (Q.d2 k (.inl (by simpa using hm))).2 hk⟩
  have gpv : ∀ p, p < A.P → H.gp p ∉ fpv H.vo := fun p hp => own_far Q.o (Q.g p hp) (by decide)
  have gph : ∀ p, p < A.P → H.gp p ≠ H.gh := fun p hp => (Q.g p hp).ne_ Q.hb (by decide)
  have grp : ∀ p, p < A.P → gr ≠ H.gp p := fun p hp e => hnF (.inr (.inr (.inr (.inr ⟨p, hp, e⟩))))
  have own : ∀ k, OwF { H with vo := vo', gp := fun p => if p = A.P then gr else H.gp p } (A.P + 1) k → OwF H A.P k ∨ k = gr ∨ w.heap.size ≤ k := fun k hk => by
    rcases hk with h | h | ⟨p, hp, h⟩
    · exact .inl (.inl h)
    · rcases s.f k h with h1 | h1
      · exact .inl (.inr (.inl h1))
      · exact .inr (.inr h1)
    · by_cases e : p = A.P
      · exact .inr (.inl (by rw [h]; exact if_pos e))
      · exact .inl (.inr (.inr ⟨p, by omega, by rw [h]; exact if_neg e⟩))
  refine ⟨?_, ⟨(Q.S.M.chg s.c (fun k hk => (nA k hk).1)).chg c2 (fun k hk => (nA k hk).2), Q.S.I, Q.S.far, (Q.S.c.new s.c (fun k hk => Q.n2 k (.inr (.inl hk)))).new c2 (fun k hk => Q.n2 k (.inl (by simpa using hk))), rfl, Q.S.m⟩, (Q.C.chg s.c (fun k hk => (nC k hk).1)).chg c2 (fun k hk => (nC k hk).2), ?_, fun p hp => ?_, fun p q hp hq hne => ?_, Q.d1, fun k hk => ?_, Q.n1, fun k hk => ?_⟩
  · exact ((s.c.blk Q.hb ghv).set_ 2 vo')
  · have e : ownVs (fun p => if p = A.P then gr else H.gp p) (A.P + 1) = ownVs H.gp A.P ++ [.slice (some ⟨gr, 0, none⟩) 16 16] := by
      unfold ownVs
      rw [List.range_succ, List.map_append]
      congr 1
      · refine List.map_congr_left fun p hp => ?_
        have := List.mem_range.1 hp
        show Value.slice (some ⟨if p = A.P then gr else H.gp p, 0, none⟩) 16 16 = _
        rw [if_neg (by omega)]
      · simp
    show World.ownsRow _ 0 37 1 vo' (A.P + 1) (ownVs (fun p => if p = A.P then gr else H.gp p) (A.P + 1))
    rw [e]
    exact own_chg O c2 (fun k hk hm => ghv' (by have : k = H.gh := (by simpa using hm); rw [← this]; exact mem_fpv.2 hk))
  · show Blk _ (if p = A.P then gr else H.gp p) 3 (own16 (A.own p))
    by_cases e : p = A.P
    · rw [if_pos e, e]
      exact c2.blk (s.c.blk hB grv) (by simpa using grh)
    · rw [if_neg e]
      have hp' : p < A.P := by have : p < A.P + 1 := hp; omega
      exact c2.blk (s.c.blk (Q.g p hp') (gpv p hp')) (by simpa using gph p hp')
  · have hp' : p < A.P + 1 := hp
    have hq' : q < A.P + 1 := hq
    show (if p = A.P then gr else H.gp p) ≠ if q = A.P then gr else H.gp q
    by_cases e1 : p = A.P
    · rw [if_pos e1, if_neg (by omega)]; exact grp q (by omega)
    · rw [if_neg e1]
      by_cases e2 : q = A.P
      · rw [if_pos e2]; exact (grp p (by omega)).symm
      · rw [if_neg e2]; exact Q.inj p q (by omega) (by omega) hne
  · rcases own k hk with h | rfl | h
    · exact Q.d2 k h
    · exact ⟨fun h => hnF (.inl h), fun h => hnF (.inr (.inl h))⟩
    · exact ⟨fun h2 => by have := Q.S.M.lt k h2; omega, fun h2 => by have := Q.C.lt h2; omega⟩
  · rcases own k hk with h | rfl | h
    · exact Q.n2 k h
    · exact hnew
    · omega
def hp0 (n P : Nat) : HpA := ⟨newA n, fun _ => [], P, fun _ _ => -1⟩
def NpRel (W : World) (gh n P gk : Nat) (idx : Value) (w : World) : Prop := ∃ i H, gk + i = P + 1 ∧ i ≤ P ∧ idx = .int .i64 (i : Nat) ∧ H.gh = gh ∧ HpS W w H (hp0 n i) 0 0
def NqRel (w0 : World) (gr gk : Nat) (idx : Value) (w : World) : Prop := ∃ k, gk + k = 17 ∧ k ≤ 16 ∧ idx = .int .i64 (k : Nat) ∧ Blk w gr 3 (own16 fun j => if j < k then -1 else 0) ∧ Chg [gr] w0 w
theorem hnew_ok (w : World) (n P : Nat) (z : Int) (hz : z = ((n * 64 : Nat) : Int)) (h4 : 4 ≤ n) (hn : n ≤ 262144) (hP1 : 1 ≤ P) (hP : P ≤ 64) : Calls Tryz.prog 55 #[.int .i64 z, .int .i64 (P : Nat)] w fun e w' => ∃ H, e = .returned (.tuple #[.pointer (some ⟨H.gh, 0, none⟩), .int .i64 0]) ∧ HpS w w' H (hp0 n P) 0 0 := by
  have hmk : ∀ W : World, (Instr.makeSlice 37 (.int .i64 16) (.int .i64 16)).run Tryz.prog W = .ok (.slice (some ⟨W.heap.size, 0, none⟩) 16 16) (W.alloc (.cells (own16 fun _ => 0) 3)) := fun W => by
    obtain ⟨i, hi, hzz⟩ := Option.map_eq_some_iff.1 (show (Tryz.prog.info? 3).map (fun i => (i.zero, i.size, i.bytes)) = some (some (.int .i64 0), 1, 8) by kernel_rfl)
    simp only [Prod.mk.injEq] at hzz
    obtain ⟨hz, hs, hb⟩ := hzz
    have hr := run_make (P := Tryz.prog) W 37 3 i _ Tryz.underlying37 hi hz .i64 .i64 16 16 (by decide) (Int.le_refl _) (by rw [hb]; decide) (by decide)
    have em : madeCells (Value.int .i64 0).cells (Int.toNat 16 * 1) = own16 fun _ => 0 := by kernel_rfl
    rw [hs, em] at hr
    exact hr
  have HZ := Lib.hid hz; clear hz
  have p1 : ¬ (P : Int) < 1 := by omega
  have p2 : ¬ (P : Int) > 64 := by omega
  have p3 : (1 : Int) ≤ (P : Int) := by omega
  have p4 : (P : Int) ≤ 64 := by omega
  go_enter Tryz.func55, Tryz.ntmps55
  go_wp2_with fail
  refine (s_new w n z HZ.out h4 hn).mono ?_
  rintro e w1 ⟨ga, h, rfl, S⟩
  have HS := Lib.hid S; clear S
  go_wp2_with fail
  refine (cnew_ok w1).mono ?_
  rintro e w2 ⟨gc, gl, rfl, I, c, hF⟩
  have HC := Lib.hid (And.intro I (And.intro c hF)); clear I c hF
  go_wp2_with fail
  obtain ⟨gh, hgh⟩ : ∃ gh, gh = w2.heap.size := ⟨_, rfl⟩
  obtain ⟨w3, hw3⟩ : ∃ w3, w3 = w2.alloc (.cells #[.pointer (some ⟨ga, 0, none⟩), .pointer (some ⟨gc, 0, none⟩), .slice none 0 0] 177) := ⟨_, rfl⟩
  have QI : HpS w w3 ⟨gh, h, gc, gl, fun _ => .slice none 0 0, .slice none 0 0, fun _ => 0⟩ (hp0 n 0) 0 0 := by
    have c3 : Chg [] w2 w3 := by rw [hw3]; exact (Chg.refl _ _).alloc _
    have S := (HS.out.chg0 HC.out.2.1).chg0 c3
    have hga : h.ga = ga := HS.out.ga
    have hw1 : w1.heap.size ≤ w2.heap.size := HC.out.2.1.size
    have hw0 : w.heap.size ≤ w1.heap.size := HS.out.c.size
    have hb : Blk w3 gh 177 #[.pointer (some ⟨ga, 0, none⟩), .pointer (some ⟨gc, 0, none⟩), .slice none 0 0] := by rw [hw3, hgh]; exact Blk.new _ _ _
    have oF : ∀ k, OwF ⟨gh, h, gc, gl, fun _ => .slice none 0 0, .slice none 0 0, fun _ => 0⟩ 0 k → k = gh := fun k hk => by
      rcases hk with h | h | ⟨p, hp, -⟩
      · exact h
      · simp [fpv, Value.ownBlock] at h
      · omega
    subst hga
    refine ⟨hb, S, HC.out.1.chg0 c3, World.ownsRow_nil _ _ _ _, fun p hp => ?_, fun p q hp => ?_, fun k hk hF => ?_, fun k hk => ?_, fun k hk => ?_, fun k hk => ?_⟩
    · have : p < 0 := hp; omega
    · have : p < 0 := hp; omega
    · have h1 := HC.out.2.2 k hk
      have h2 := HS.out.M.lt k hF
      omega
    · rw [oF k hk]
      exact ⟨fun h2 => by have := HS.out.M.lt gh h2; omega, fun h2 => by have := HC.out.1.lt h2; omega⟩
    · have h1 := HC.out.2.2 k hk
      omega
    · rw [oF k hk]; omega
  have HQ := Lib.hid QI; clear QI
  rw [← hgh, ← hw3]
  clear hgh hw3
  clear HS HC
  go_wp2_with fail
  go_loopg [31] (P + 1) (fun gk idx wr => NpRel w gh n P gk idx wr)
  case atStart => exact ⟨0, _, by omega, by omega, rfl, rfl, HQ.out⟩
  case round =>
    clear HQ
    obtain ⟨i, H, hgk, hi, rfl, hgh, Q⟩ := hrel
    by_cases ei : i < P
    · have hi' : (i : Int) < (P : Int) := by omega
      have H1 := Lib.hid (And.intro hgh Q); clear hgh Q
      go_wp2_with fail
      refine (count_ok wr).mono ?_
      rintro e w4 ⟨rfl, c4⟩
      have H2 := Lib.hid (H1.out.2.chg0 c4); clear c4
      go_upto_region 8 with fail
      obtain ⟨gr, hgr⟩ : ∃ gr, gr = w4.heap.size := ⟨_, rfl⟩
      obtain ⟨w5, hw5⟩ : ∃ w5, w5 = w4.alloc (.cells (own16 fun _ => 0) 3) := ⟨_, rfl⟩
      have B5 : Blk w5 gr 3 (own16 fun _ => 0) := by rw [hw5, hgr]; exact Blk.new _ _ _
      have c5 : Chg [] w4 w5 := by rw [hw5]; exact (Chg.refl _ _).alloc _
      have hgr2 : w4.heap.size ≤ gr := by omega
      rw [← hgr, ← hw5]
      clear hgr hw5
      have H5 := Lib.hid (And.intro B5 (And.intro c5 hgr2)); clear B5 c5 hgr2
      go_wp2_with fail
      go_loopg [37] 17 (fun gk idx wr' => NqRel w5 gr gk idx wr')
      case atStart => exact ⟨0, by omega, by omega, rfl, by simpa using H5.out.1, Chg.refl _ _⟩
      case round =>
        obtain ⟨k, hgk2, hk, rfl, B, c⟩ := hrel
        by_cases ek : k < 16
        · have hk' : (k : Int) < 16 := by omega
          have hk0 : (0 : Int) ≤ (k : Int) := by omega
          have ck : wr.cell? ⟨gr, k, none⟩ = some (.int .i64 (if k < k then -1 else 0)) := B.cellv k (own16_at _ ek)
          have fk : wr.frozen? ⟨gr, k, none⟩ = false := B.frozen k
          rw [if_neg (by omega)] at ck
          have HB := Lib.hid (And.intro B c); clear B c
          go_wp2_with fail
          go_roundg (16 - k)
          case measure => omega
          case rel =>
            refine ⟨k + 1, by omega, by omega, by go_num, ?_, HB.out.2.setCell (.inl (by simp)) _⟩
            have h1 := HB.out.1.set_ k (.int .i64 (-1))
            rw [own16_set _ ek] at h1
            have e : updV (fun j => if j < k then (-1 : Int) else 0) k (-1) = fun j => if j < k + 1 then -1 else 0 := by
              funext j
              unfold updV
              by_cases e : j = k
              · rw [if_pos e, if_pos (by omega)]
              · rw [if_neg e]
                show (if j < k then (-1 : Int) else 0) = _
                by_cases e2 : j < k
                · rw [if_pos e2, if_pos (by omega)]
                · rw [if_neg e2, if_neg (by omega)]
            rw [e] at h1
            exact h1
        · obtain rfl : k = 16 := by omega
          clear ek
          have Q6 : HpS w wr H (hp0 n i) 0 0 := (H2.out.chg0 H5.out.2.1).far c (fun j hj hF => by
            have e : j = gr := by simpa using hj
            have := H2.out.lt hF
            have := H5.out.2.2
            omega) (fun j hj => by
            have e : j = gr := by simpa using hj
            have := H2.out.S.c.size
            have := H5.out.2.2
            omega)
          have hB : Blk wr gr 3 (own16 ((hp0 n i).own (hp0 n i).P)) := by
            have e : (fun j => if j < 16 then (-1 : Int) else 0) = (fun j => if j < 16 then (-1 : Int) else 0) := rfl
            have e2 : own16 (fun j => if j < 16 then (-1 : Int) else 0) = own16 (fun _ => -1) := by
              apply Array.ext_getElem?
              intro j
              by_cases hj : j < 16
              · rw [own16_at _ hj, own16_at _ hj, if_pos hj]
              · rw [Array.getElem?_eq_none (by rw [own16_size]; omega), Array.getElem?_eq_none (by rw [own16_size]; omega)]
            show Blk wr gr 3 (own16 fun _ => -1)
            rw [← e2]; exact B
          have hnF : ¬ HpF H (hp0 n i) gr := fun hF => by
            have := H2.out.lt hF
            have := H5.out.2.2
            omega
          have hnew : w.heap.size ≤ gr := by
            have := H2.out.S.c.size
            have := H5.out.2.2
            omega
          have b2 : wr.cell? ⟨gh, 2, none⟩ = some H.vo := by rw [← H1.out.1]; exact Q6.hb.cellv 2 rfl
          have f2 : wr.frozen? ⟨gh, 2, none⟩ = false := by rw [← H1.out.1]; exact Q6.hb.frozen 2
          have O := Q6.o
          obtain ⟨Av, cv, hvo⟩ := Q6.vo_sl
          rw [hvo] at b2 O
          have nv : gh ∉ fpv H.vo := by rw [← H1.out.1]; exact own_far Q6.o Q6.hb (by decide)
          have ghl : gh < wr.heap.size := by rw [← H1.out.1]; exact Q6.hb.lt
          have H6 := Lib.hid (And.intro Q6 (And.intro hB (And.intro hnF (And.intro hnew (And.intro O (And.intro hvo nv)))))); clear Q6 hB hnF hnew O hvo nv B c
          have hPi : (hp0 n i).P = i := rfl
          rw [hPi] at b2
          go_wp2_with (at_builtin; refine wpList_push_row rfl _ _ rfl rfl H6.out.2.2.2.2.1 (some ⟨gr, 0, none⟩) 16 16 rfl (by show i ≤ 1000000; omega) ?_; intro A' c' w7 O7 s7; have g2 : w7.cell? ⟨gh, 2, none⟩ = some (.slice Av i cv) := s7.c.cellv ghl (by have := H6.out.2.2.2.2.2.2; rw [H6.out.2.2.2.2.2.1] at this; exact this) b2; have g3 : w7.frozen? ⟨gh, 2, none⟩ = false := (by have h1 := (s7.c.blk H6.out.1.hb (by have := H6.out.2.2.2.2.2.2; rw [H6.out.2.2.2.2.2.1] at this; rw [H1.out.1]; exact this)).frozen 2; rw [← H1.out.1]; exact h1))
          have Q8 := H6.out.1.push H6.out.2.1 H6.out.2.2.1 H6.out.2.2.2.1 O7 (by rw [H6.out.2.2.2.2.2.1]; exact s7)
          rw [H1.out.1] at Q8
          have H8 := Lib.hid Q8; clear Q8 O7 s7 g2 g3 b2 f2
          go_wp2_with fail
          go_roundg (P - i)
          case measure => omega
          case rel => exact ⟨i + 1, { H with gh := gh, vo := .slice A' (i + 1) c', gp := fun p => if p = i then gr else H.gp p }, by omega, by omega, by go_num, rfl, H8.out⟩
    · obtain rfl : i = P := by omega
      have hi' : ¬ (i : Int) < (i : Int) := by omega
      clear ei
      have H1 := Lib.hid (And.intro hgh Q); clear Q
      subst hgh
      go_wp2_with fail
      go_ret2
      exact ⟨H, rfl, H1.out.2⟩
end Go.Proofs.YtcpljjacamibeaaGreatDoor
