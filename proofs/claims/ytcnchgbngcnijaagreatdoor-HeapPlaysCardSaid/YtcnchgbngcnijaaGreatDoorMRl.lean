/- The document's arena (treadmillref5): Alloc. Plain theorems. -/
/- The document's arena (treadmillref5): the walk of Alloc. -/
/- The document's arena (treadmillref5): what Span and Drop tell. Plain theorems on worlds. -/
import Derived.Test.YtcnchgbngcnijaaGreatDoorMRk
import Derived.Test.YtcnchgbngcnijaaGreatDoorMSer
import Derived.Test.YtcnchgbngcnijaaGreatDoorMOw
namespace Go.Proofs.YtcnchgbngcnijaaGreatDoor
open Go.RowKit Go.Maps

/-- No word of a place that is free is an object's. -/
theorem RaM.free_word {w : World} {h : RaH} {a : Ar} {ids : List Nat} {N : Nat} (M : RaM w h a ids) (ok : ArOk N a) {id y j : Nat} {s : Sp} (hs : a.sp id = some s) (hy : y < slK s.k) (hn : a.ob (s.addr y) = none) (hj : j < szK s.k) :
    ∀ x xs j', a.ob x = some xs → j' < xs.length → ((x + j' : Nat) : Int) ≠ ((s.addr y + j : Nat) : Int) := by
  intro x xs j' hx hj' e
  have e : x + j' = s.addr y + j := by omega
  obtain ⟨id', t, i, h1, h2, h3, rfl⟩ := (ok.ob x).1 (by rw [hx]; rfl)
  obtain ⟨_, -, -, l1⟩ := M.Ln id' t h1
  have q1 := (l1 i xs h2 h3 hx).2
  have p1 := word_page (ok.pg id' t h1).1 h2 (j := j') (by omega)
  have p2 := word_page (ok.pg id s hs).1 hy (j := j) hj
  have o1 := ok.ow id' t _ h1 p1.1 p1.2
  have o2 := ok.ow id s _ hs p2.1 p2.2
  rw [e, o2] at o1
  injection o1 with o1
  subst o1
  rw [hs] at h1
  cases h1
  obtain ⟨r1, -⟩ := word_inj (by omega) hj e
  rw [r1, hn] at hx
  cases hx
/-- What the loop of Alloc keeps: the words up to j are 0. -/
structure RalK (w0 : World) (h : RaH) (a : Ar) (ids : List Nat) (x j : Nat) (w : World) : Prop where
  ex : ∃ m f, m ≤ h.mw + j ∧ RaM w { h with mw := m } a ids ∧ VMap Tryz.prog 3 w h.bw m f ∧ (∀ x xs j z, a.ob x = some xs → xs[j]? = some z → f ((x + j : Nat) : Int) = some (.int .i64 z)) ∧ ∀ j', j' < j → f ((x + j' : Nat) : Int) = some (.int .i64 0)
  c : Chg [h.bw] w0 w
theorem RalK.start {w : World} {h : RaH} {a : Ar} {ids : List Nat} (M : RaM w h a ids) (x : Nat) : RalK w h a ids x 0 w := by
  obtain ⟨f, hW, hf⟩ := M.W
  exact ⟨⟨h.mw, f, by omega, M, hW, hf, fun j' hj => by omega⟩, Chg.refl _ _⟩
theorem RalK.next {w0 w w' : World} {h : RaH} {a : Ar} {ids : List Nat} {x j m : Nat} {f : Int → Option Value} (c0 : Chg [h.bw] w0 w) (hm : m ≤ h.mw + j) (M : RaM w { h with mw := m } a ids) (hW : VMap Tryz.prog 3 w h.bw m f)
    (hf : ∀ x xs j z, a.ob x = some xs → xs[j]? = some z → f ((x + j : Nat) : Int) = some (.int .i64 z)) (h0 : ∀ j', j' < j → f ((x + j' : Nat) : Int) = some (.int .i64 0))
    (c : Chg [h.bw] w w') (hk : ∀ z xs j', a.ob z = some xs → j' < xs.length → ((z + j' : Nat) : Int) ≠ ((x + j : Nat) : Int)) (V : VMap Tryz.prog 3 w' h.bw (m + 1) (putV f ((x + j : Nat) : Int) (.int .i64 0))) : RalK w0 h a ids x (j + 1) w' := by
  refine ⟨⟨m + 1, _, by omega, RaM.word0 M c hk hW hf V, V, fun z xs j' u hz hj => ?_, fun j' hj => ?_⟩, c0.trans c⟩
  · unfold putV
    rw [if_neg (hk z xs j' hz (List.getElem?_eq_some_iff.1 hj).1)]
    exact hf z xs j' u hz hj
  · unfold putV
    by_cases e : j' = j
    · subst e; rw [if_pos rfl]
    · rw [if_neg (by omega)]; exact h0 j' (by omega)
/-- A place taken: what the span tells, ahead of the object. -/
theorem RaM.took {w w' : World} {h : RaH} {a : Ar} {ids : List Nat} (M : RaM w h a ids) {id y r : Nat} {s : Sp} (black : Bool) (hs : a.sp id = some s) (hn : a.ob (s.addr y) = none) (I : IsRs w' (h.B id) (allocS s y black) r) (c : Chg (h.B id).l w w') : RaM w' h { a with sp := updF a.sp id (some (allocS s y black)) } ids := by
  have M2 := M.shr (ob' := a.ob) (live' := a.live) hs I c rfl rfl (fun z xs hz ho => by
    by_cases e : z = y
    · rw [e, hn] at ho; cases ho
    · have hz : setF s.F y z = true := hz
      unfold setF at hz
      simpa [e] using hz) (fun _ _ h => h)
  exact M2
/-- What Alloc tells. -/
def RalPost (h : RaH) (a : Ar) (ids : List Nat) (id n : Int) (black : Bool) (w : World) (e : Ending) (w' : World) : Prop :=
  (∃ c : Int, e = .returned (.tuple #[.int .i64 0, .int .i64 c]) ∧ RaM w' h a ids ∧ StR h a h a w w' ∧ ((spI a id = none ∧ c = 4) ∨ ∃ s, spI a id = some s ∧ (((n < 1 ∨ (szK s.k : Int) < n) ∧ c = 1) ∨ (1 ≤ n ∧ n ≤ szK s.k ∧ fullS s ∧ c = 3)))) ∨
  ∃ s y m, 0 ≤ id ∧ a.sp id.toNat = some s ∧ 1 ≤ n ∧ n ≤ szK s.k ∧ s.fr ≤ y ∧ y < slK s.k ∧ s.F y = false ∧ (∀ x, s.fr ≤ x → x < y → s.F x = true) ∧ e = .returned (.tuple #[.int .i64 (s.addr y : Nat), .int .i64 0]) ∧ m ≤ h.mw + 256 ∧ RaM w' { h with mw := m } (allocA a id.toNat s y n.toNat black) ids ∧ StR h a { h with mw := m } (allocA a id.toNat s y n.toNat black) w w'
/-- Behind the loop. -/
theorem RalK.done {w0 w1 w2 w w' : World} {h : RaH} {a : Ar} {ids : List Nat} {N id y n : Nat} {s : Sp} {black : Bool} (I : ArI N a) (hs : a.sp id = some s) (hy : y < slK s.k) (hF : s.F y = false) (hn : n ≤ szK s.k) (hk : s.k < 16)
    (c1 : Chg (h.B id).l w0 w1) (c2 : Chg [h.L id] w1 w2) {ls : List Int} (hl : ls.length = slK s.k) (hB : Blk w2 (h.L id) 3 (ls.map (Value.int .i64)).toArray) (hln : ls[y]? = some (n : Int))
    (K : RalK w2 h { a with sp := updF a.sp id (some (allocS s y black)) } ids (s.addr y) n w) (c : Chg [] w w') :
    ∃ m, m ≤ h.mw + n ∧ RaM w' { h with mw := m } (allocA a id s y n black) ids ∧ StR h a { h with mw := m } (allocA a id s y n black) w0 w' := by
  obtain ⟨m, f, hm, M, hW, hf, h0⟩ := K.ex
  have hs1 : ({ a with sp := updF a.sp id (some (allocS s y black)) } : Ar).sp id = some (allocS s y black) := updF_same _ _ _
  obtain ⟨ls0, q1, q2, q3⟩ := M.Ln id _ hs1
  have hBw : Blk w (h.L id) 3 (ls.map (Value.int .i64)).toArray := K.c.blk hB (fun hm' => by
    have e : h.L id = h.bw := by simpa using hm'
    exact hW.ne_blk q2 e.symm)
  have ne : ∀ id' t i, id' ≠ id → updF a.sp id (some (allocS s y black)) id' = some t → i < slK t.k → t.addr i ≠ (allocS s y black).addr y := fun id' t i hne ht hi e => by
    rw [updF_other _ _ hne] at ht
    exact hne (I.ok.other ht hs hi hy e)
  have hls : ls0 = ls := by
    have e := q2.inj hBw
    have e2 := congrArg Array.toList e
    simp only [List.toList_toArray] at e2
    exact (List.map_inj_right (fun x y e => by injection e)).1 e2
  subst hls
  have B := M.born (live' := a.live + szK s.k) hs1 hy hk hn ne hW hf h0 hl q2 q3 hln
  refine ⟨m, hm, B.chg0 c, ?_⟩
  refine StR.of_chg (S := h.bw :: h.L id :: (h.B id).l) ((((c1.mono ?_).trans (c2.mono ?_)).trans (K.c.mono ?_)).trans (c.mono (by simp))) ?_ ?_
  · intro k hk; left; simp [hk]
  · intro k hk; left; have e : k = h.L id := by simpa using hk
    simp [e]
  · intro k hk; left; have e : k = h.bw := by simpa using hk
    simp [e]
  · intro k hk
    simp only [List.mem_cons] at hk
    rcases hk with rfl | rfl | hk
    · exact .inl (.inr (.inr (.inr (.inr (.inr (.inr (.inl rfl)))))))
    · exact .inl (.inr (.inr (.inr (.inr (.inr (.inr (.inr ⟨id, s, hs, .inr rfl⟩)))))))
    · exact .inl (.inr (.inr (.inr (.inr (.inr (.inr (.inr ⟨id, s, hs, .inl hk⟩)))))))
  · intro k hk
    refine .inl (RaF.sp (m := m) (fun id' t ht => ?_) hk)
    have ht : updF a.sp id (some (allocS s y black)) id' = some t := ht
    by_cases e : id' = id
    · subst e; exact ⟨s, hs⟩
    · rw [updF_other _ _ e] at ht; exact ⟨t, ht⟩
end Go.Proofs.YtcnchgbngcnijaaGreatDoor
namespace Go.Proofs.YtcnchgbngcnijaaGreatDoor
open Go.RowKit Go.Maps

theorem upd_self {a : Ar} {id : Nat} {s : Sp} (hs : a.sp id = some s) : ({ a with sp := updF a.sp id (some s) } : Ar) = a := by
  have e : updF a.sp id (some s) = a.sp := by
    funext j
    unfold updF
    split
    · next h => rw [h, hs]
    · rfl
  rw [e]
def RalRel (w0 : World) (h : RaH) (a : Ar) (ids : List Nat) (x n gk : Nat) (idx : Value) (w : World) : Prop := ∃ j, gk + j = n + 1 ∧ j ≤ n ∧ idx = .int .i64 (j : Nat) ∧ RalK w0 h a ids x j w
set_option maxHeartbeats 6400000 in
set_option maxRecDepth 100000 in
theorem raalloc_ok (w : World) (h : RaH) (a : Ar) (ids : List Nat) (M : RaM w h a ids) (hl : ids.length ≤ 100000) (hm : h.mw ≤ 1000000) (N : Nat) (I : ArI N a) (x n : Int) (black : Bool) : Calls Tryz.prog 53 #[.pointer (some ⟨h.g, 0, none⟩), .int .i64 x, .int .i64 n, .bool black] w (RalPost h a ids x n black w) := by
  have b2 : w.cell? ⟨h.g, 2, none⟩ = some h.vs := M.b.cellv 2 rfl
  have hfi := rafind_ok w h a ids M hl x
  have HM := Lib.hid (And.intro M (And.intro hfi I)); clear M hfi I
  go_enter Tryz.func53, Tryz.ntmps53
  go_wp2_with fail
  refine HM.out.2.1.mono ?_
  rintro e w1 ⟨r, hr, rfl, rfl⟩
  rcases HM.out.1.find hr with ⟨rfl, hn⟩ | ⟨k, id, s, rfl, hk, rfl, hs, hx⟩
  · have HN := Lib.hid hn; clear hn hr
    go_wp2_with fail
    go_ret2
    exact .inl ⟨4, rfl, HM.out.1, StR.same (Chg.refl _ _), .inl ⟨HN.out, rfl⟩⟩
  · obtain ⟨g, hv, hc⟩ := HM.out.1.scell hk
    obtain ⟨nn, hnn⟩ : ∃ nn, nn = ids.length := ⟨_, rfl⟩
    obtain ⟨c, hcc⟩ : ∃ c, c = vcap h.vs := ⟨_, rfl⟩
    have hkl : k < nn := by rw [hnn]; exact (List.getElem?_eq_some_iff.1 hk).1
    rw [← hnn, ← hcc] at hv
    rw [hv] at b2
    have hkl' : (k : Int) < (nn : Int) := by omega
    have hk0 : (0 : Int) ≤ (k : Int) := by omega
    have hk1 : ¬ (k : Int) < 0 := by omega
    obtain ⟨b, hb⟩ : ∃ b, b = h.B id := ⟨_, rfl⟩
    have hc' : w1.cell? ⟨g, k, none⟩ = some (.pointer (some ⟨b.g, 0, none⟩)) := by rw [hb]; exact hc
    obtain ⟨ρ, hI⟩ := HM.out.1.S id s hs
    have hkk := hI.hk
    rw [← hb] at hI
    have hcl : w1.cell? ⟨b.g, 1, none⟩ = some (.int .i64 s.k) := hI.hb.cellv 1 rfl
    have HF := Lib.hid (And.intro hI (And.intro hs (And.intro hb (And.intro hx (And.intro hk hnn))))); clear hx hI hs hk hc hr hv hcc hnn hb
    by_cases hn1 : n < 1
    · have d1 : decide (n < 1) = true := decide_eq_true hn1
      have HN := Lib.hid hn1
      go_wp2_with fail
      go_ret2
      exact .inl ⟨1, rfl, HM.out.1, StR.same (Chg.refl _ _), .inr ⟨s, HF.out.2.2.2.1, .inl ⟨.inl HN.out, rfl⟩⟩⟩
    · have d1 : decide (n < 1) = false := decide_eq_false hn1
      go_wp2_with fail
      refine (rsize_ok w1 (s.k : Nat)).mono ?_
      rintro e w2 ⟨rfl, c2⟩
      rw [szI_nat hkk]
      have HC := Lib.hid c2; clear c2
      by_cases hn2 : (szK s.k : Int) < n
      · have d2 : decide ((szK s.k : Int) < n) = true := decide_eq_true hn2
        have HN := Lib.hid hn2
        go_wp2_with fail
        go_ret2
        exact .inl ⟨1, rfl, HM.out.1.chg0 HC.out, StR.same HC.out, .inr ⟨s, HF.out.2.2.2.1, .inl ⟨.inr HN.out, rfl⟩⟩⟩
      · have d2 : decide ((szK s.k : Int) < n) = false := decide_eq_false hn2
        obtain ⟨q, rfl⟩ : ∃ q : Nat, n = q := ⟨n.toNat, by omega⟩
        have hq1 : 1 ≤ q := by omega
        have hq2 : q ≤ szK s.k := by omega
        go_wp2_with fail
        refine (rsalloc_ok w2 b s ρ black (HF.out.1.chg0 HC.out) (fun i => HM.out.2.2.mf id s i HF.out.2.1)).mono ?_
        rintro e w3 (⟨hfull, rfl, I3, C3⟩ | ⟨y, hy1, hy2, hy3, hy4, rfl, I3, C3⟩)
        · have H3 := Lib.hid (And.intro hfull (And.intro I3 C3)); clear hfull I3 C3
          go_wp2_with fail
          go_ret2
          have c3 : Chg (h.B id).l w1 w3 := by rw [← HF.out.2.2.1]; exact (HC.out.mono (by simp)).trans H3.out.2.2
          have M3 := (HM.out.1.chg0 HC.out).reb HF.out.2.1 (by rw [← HF.out.2.2.1]; exact H3.out.2.1) (by rw [← HF.out.2.2.1]; exact H3.out.2.2) rfl rfl rfl
          rw [upd_self HF.out.2.1] at M3
          exact .inl ⟨3, rfl, M3, StR.of_chg c3 (fun k hk => .inl (.inr (.inr (.inr (.inr (.inr (.inr (.inr ⟨id, s, HF.out.2.1, .inl hk⟩)))))))) (fun k hk => .inl hk), .inr ⟨s, HF.out.2.2.2.1, .inr ⟨by omega, by omega, H3.out.1, rfl⟩⟩⟩
        · have hfr := HM.out.2.2.fresh HF.out.2.1 hy2 hy3
          have M3 := (HM.out.1.chg0 HC.out).took black HF.out.2.1 hfr (by rw [← HF.out.2.2.1]; exact I3) (by rw [← HF.out.2.2.1]; exact C3)
          have h1 : ({ a with sp := updF a.sp id (some (allocS s y black)) } : Ar).sp id = some (allocS s y black) := updF_same _ _ _
          obtain ⟨g3, hv3, hc3⟩ := M3.lcell HF.out.2.2.2.2.1 h1
          obtain ⟨M4, ls, hls, Bls, hly⟩ := M3.lens h1 hy2 hfr (q : Nat)
          have b3 : w3.cell? ⟨h.g, 3, none⟩ = some h.vl := M3.b.cellv 3 rfl
          rw [← HF.out.2.2.2.2.2] at hv3
          obtain ⟨c3, hcc3⟩ : ∃ c, c = vcap h.vl := ⟨_, rfl⟩
          rw [← hcc3] at hv3
          rw [hv3] at b3
          obtain ⟨ls0, hl0, hLB, -⟩ := M3.Ln id _ h1
          have hf3 := hLB.frozen y
          obtain ⟨z0, hz0⟩ : ∃ z0, ls0[y]? = some z0 := ⟨_, List.getElem?_eq_getElem (by rw [hl0]; exact hy2)⟩
          have hcy : w3.cell? ⟨h.L id, y, none⟩ = some (.int .i64 z0) := hLB.cellv y (by simp [hz0])
          clear hl0 hz0
          have ek : (allocS s y black).k = s.k := rfl
          rw [ek] at hc3
          obtain ⟨sl, hsl⟩ : ∃ sl, sl = slK s.k := ⟨_, rfl⟩
          have hy2' : y < sl := by rw [hsl]; exact hy2
          rw [← hsl] at hc3
          have hy5 : (y : Int) < (sl : Int) := by omega
          have hy6 : (0 : Int) ≤ (y : Int) := by omega
          have C4 : Chg [h.L id] w3 (w3.setCell ⟨h.L id, y, none⟩ (.int .i64 (q : Nat))) := (Chg.refl _ w3).setCell (.inl (by simp)) _
          have fw := fun (j : Nat) (hj : j < szK s.k) => HM.out.1.free_word HM.out.2.2.ok HF.out.2.1 hy2 hfr hj
          have H3 := Lib.hid (And.intro hy1 (And.intro hy2 (And.intro hy3 (And.intro hy4 C3))))
          have H4 := Lib.hid (And.intro M4 (And.intro C4 (And.intro hls (And.intro Bls hly))))
          have H5 := Lib.hid (And.intro fw hsl)
          have hLlt := hLB.lt
          clear M3 M4 C4 hls Bls hly hy1 hy3 hy4 C3 I3 hfr fw hsl h1 hcc3 hv3 hLB ek b2 hc' hcl hy2
          go_wp2_with fail
          have K0 := RalK.start H4.out.1 (s.addr y)
          obtain ⟨w4, hw4⟩ : ∃ w4, w4 = w3.setCell ⟨h.L id, y, none⟩ (.int .i64 (q : Nat)) := ⟨_, rfl⟩
          have H6 := Lib.hid (And.intro K0 hw4)
          rw [← hw4] at K0 ⊢
          have H7 := Lib.hid K0
          clear K0 hw4 b3 hc3 hf3 hLlt hcy
          go_loopg [14] (q + 1) (fun gk idx wr => RalRel w4 h { a with sp := updF a.sp id (some (allocS s y black)) } ids (s.addr y) q gk idx wr)
          case atStart => exact ⟨0, by omega, by omega, rfl, H7.out⟩
          case round =>
            obtain ⟨j, hgk, hj, rfl, hK0⟩ := hrel
            by_cases ej : j < q
            · obtain ⟨m, f, hm2, Mr, hW, hf, h0⟩ := hK0.ex
              have b4 : wr.cell? ⟨h.g, 4, none⟩ = some (.map (some h.bw)) := Mr.b.cellv 4 rfl
              have hgl := Mr.b.lt
              obtain ⟨r1, hI1⟩ := Mr.S id _ (updF_same _ _ _)
              have hal := HM.out.1.addr_lt HF.out.2.1 H3.out.2.1
              have had := fun (W : World) (D : Chg [] wr W) => rsaddr_ok W b (allocS s y black) r1 y (by rw [HF.out.2.2.1]; exact hI1.chg0 D) H3.out.2.1
              have h256 := (kF hkk).2.2.2.1
              obtain ⟨ad, hadd⟩ : ∃ ad, ad = s.addr y := ⟨_, rfl⟩
              have e5 : (allocS s y black).addr y = ad := hadd.symm
              rw [← hadd] at hal
              rw [e5] at had
              have ew : IntKind.i64.wrap ((ad : Int) + (j : Int)) = ((ad + j : Nat) : Int) := by rw [IntKind.wrap_i64]; omega
              have hwf : Wf64 ((ad + j : Nat) : Int) := by unfold Wf64; omega
              have hmm : m < maxLen := by unfold maxLen; omega
              have ej' : (j : Int) < (q : Int) := by omega
              have HK := Lib.hid (And.intro hK0.c (And.intro hm2 (And.intro Mr (And.intro hW (And.intro hf (And.intro h0 hadd))))))
              have HA := Lib.hid had
              clear hK0 hm2 Mr hW hf h0 hadd had hI1 e5
              go_upto_region 14 with fail
              refine wp_region_takes (fuel := 3) 9 (fun w' => Chg [] wr w') [0, 1, 2, 3, 4, 5, 7] (by kernel_rfl) (by kernel_rfl) (fun _ _ _ _ _ h => h) ((Chg.refl [] wr).drew) ?_
              simp only [List.filterMap_cons, List.filterMap_nil, List.getElem?_cons_zero, List.getElem?_cons_succ]
              iterate 7
                refine wpTake_step (fun K hK => ?_)
                rw [if_pos (by rfl)]
                refine ⟨?_, fun w' hS' => ?_, ?_⟩
                rotate_left 1
                focus
                  have y4 : w'.cell? ⟨h.g, 4, none⟩ = some (.map (some h.bw)) := hS'.cellv hgl (by simp) b4
                  go_simp
                  try with_reducible rfl
                  done
                simp only [Act.put, List.setIfInBounds_toArray, List.set_cons_zero, List.set_cons_succ]
                refine hK _ ?_
                clear hK K
              refine wpTake_nil ?_
              refine wpAnyS_ready (rs := [6]) (by kernel_rfl) (by simp) ?_
              refine AllReadyS.one (by simp only [List.getElem?_toArray, List.getElem?_cons_zero, List.getElem?_cons_succ]; rfl) (fun K hK => ?_)
              rw [if_pos (by rfl)]
              go_simp
              go_at_call 68
              refine (HA.out _ (Chg.refl [] wr).drew).mono ?_
              rintro e w5 ⟨rfl, C⟩
              dsimp only
              have D5 : Chg [] wr w5 := (Chg.refl [] wr).drew.trans C
              refine hK _ _ (D5) ?_
              clear hK K
              try simp only [Act.put, List.setIfInBounds_toArray, List.set_cons_zero, List.set_cons_succ]
              refine wpAnyS_ready (rs := [8]) (by kernel_rfl) (by simp) ?_
              refine AllReadyS.one (by simp only [List.getElem?_toArray, List.getElem?_cons_zero, List.getElem?_cons_succ]; rfl) (fun K hK => ?_)
              rw [if_pos (by rfl)]
              go_simp
              refine hK _ _ (D5) ?_
              clear hK K
              try simp only [Act.put, List.setIfInBounds_toArray, List.set_cons_zero, List.set_cons_succ]
              refine wpAnyS_tail 9 1 (by kernel_rfl) rfl ?_
              simp only [List.drop_succ_cons, List.drop_zero]
              have V5 := HK.out.2.2.2.1.chg D5 (by simp)
              have HV := Lib.hid V5; clear V5 C
              go_wp2_with (at_mapUpdate; refine wpList_vmap_put rfl _ _ _ rfl HV.out tyO rfl (k := ((ad + j : Nat) : Int)) rfl hwf rfl hmm ?_)
              intro w6 V6 C6 _
              have K6 := RalK.next (x := s.addr y) HK.out.1 HK.out.2.1 HK.out.2.2.1 HK.out.2.2.2.1 HK.out.2.2.2.2.1 HK.out.2.2.2.2.2.1 ((D5.mono (by simp)).trans C6) (H5.out.1 j (by omega)) (by rw [← HK.out.2.2.2.2.2.2]; exact V6)
              have H8 := Lib.hid K6; clear K6 C6 V6 D5
              go_wp2_with fail
              go_roundg (q - j)
              case measure => omega
              case rel => exact ⟨j + 1, by omega, by omega, by go_num, H8.out⟩
            · obtain rfl : j = q := by omega
              have ej' : ¬ (j : Int) < (j : Int) := by omega
              have HK := Lib.hid hK0; clear hK0
              obtain ⟨m0, f0, _, Mr, -⟩ := HK.out.ex
              obtain ⟨r1, hI1⟩ := Mr.S id _ (updF_same _ _ _)
              have had := rsaddr_ok wr b (allocS s y black) r1 y (by rw [HF.out.2.2.1]; exact hI1) H3.out.2.1
              have HA := Lib.hid had; clear had hI1 Mr
              go_wp2_with fail
              refine HA.out.mono ?_
              rintro e w7 ⟨rfl, c7⟩
              have H9 := Lib.hid c7; clear c7
              go_wp2_with fail
              go_ret2
              have c1 : Chg (h.B id).l w1 w3 := by rw [← HF.out.2.2.1]; exact (HC.out.mono (by simp)).trans H3.out.2.2.2.2
              obtain ⟨m, hm3, MM, SS⟩ := RalK.done (c := H9.out) HM.out.2.2 HF.out.2.1 H3.out.2.1 H3.out.2.2.1 hq2 hkk c1 (by rw [H6.out.2]; exact H4.out.2.1) H4.out.2.2.1 (by rw [H6.out.2]; exact H4.out.2.2.2.1) H4.out.2.2.2.2 HK.out
              have h256 := (kF hkk).2.2.2.1
              refine .inr ⟨s, y, m, by omega, by rw [Int.toNat_natCast]; exact HF.out.2.1, by omega, by omega, H3.out.1, H3.out.2.1, H3.out.2.2.1, H3.out.2.2.2.1, rfl, by omega, ?_, ?_⟩
              · rw [Int.toNat_natCast, Int.toNat_natCast]; exact MM
              · rw [Int.toNat_natCast, Int.toNat_natCast]; exact SS
end Go.Proofs.YtcnchgbngcnijaaGreatDoor
namespace Go.Proofs.YtcnchgbngcnijaaGreatDoor
open Go.RowKit Go.Maps

theorem slvI : SlV Tryz.prog 33 3 (.int .i64 0) 8 := ⟨Tryz.underlying33, by kernel_rfl, rfl, by decide⟩
theorem slvS : SlV Tryz.prog 36 97 (.pointer none) 8 := ⟨Tryz.underlying36, by kernel_rfl, rfl, by decide⟩
theorem slvL : SlV Tryz.prog 37 33 (.slice none 0 0) 24 := ⟨Tryz.underlying37, by kernel_rfl, rfl, by decide⟩
section
variable {w w' : World} {h : RaH} {a : Ar} {ids : List Nat}
/-- The pages told anew. -/
theorem RaM.pages (M : RaM w h a ids) {l' : List R} {F' : Nat → Bool} (c : Chg [h.A] w w') (P : RfA w' h.gp h.A h.c a.n F') (hF : SayF a.n l' F') : RaM w' h { a with l := l' } ids := by
  obtain ⟨F0, hP0, -⟩ := M.P
  obtain ⟨f, hW, hf⟩ := M.W
  have nc : ∀ {k}, k ∈ [h.A] → k = h.A := fun hk => by simpa using hk
  have A := hP0.b2
  refine ⟨c.blk M.b (fun hm => A.ne_ M.b (by decide) (nc hm).symm), ⟨F', P, hF⟩, M.i.chg c (fun k hk hm => ownI_ne M.i A (by decide) (nc hm ▸ hk)), M.s.chg c (fun k hk hm => M.s.ne_blk A (by decide) (nc hm ▸ hk)), M.l.chg c (fun k hk hm => M.l.ne_blk A (by decide) (nc hm ▸ hk)), fun id s hs => ?_, fun id s hs => ?_, ⟨f, hW.chg c (fun hm => hW.ne_blk A (nc hm)), hf⟩, M.rise, M.mem, M.d1, M.d2, M.d3, M.d4⟩
  · obtain ⟨r, I⟩ := M.S id s hs
    exact ⟨r, I.chg c fun k hk hm => (M.sep hs k hk).2.2.1 (nc hm)⟩
  · obtain ⟨ls, l1, l2, l3⟩ := M.Ln id s hs
    exact ⟨ls, l1, c.blk l2 (fun hm => l2.ne_ A (by decide) (nc hm)), l3⟩
end
/-- The ids about a place between them. -/
theorem ids_split {ids : List Nat} {i id : Nat} (hr : ids.Pairwise (· < ·)) (hi : i ≤ ids.length) (h1 : ∀ (j y : Nat), j < i → ids[j]? = some y → y < id) (h2 : ∀ y, ids[i]? = some y → id ≤ y) (hn : id ∉ ids) : (∀ y ∈ ids.take i, y < id) ∧ ∀ y ∈ ids.drop i, id < y := by
  constructor
  · intro y hy
    obtain ⟨j, hj, e⟩ := List.getElem_of_mem hy
    have hj' : j < i := by rw [List.length_take] at hj; omega
    refine h1 j y hj' ?_
    rw [← e, List.getElem_take, List.getElem?_eq_getElem]
  · intro y hy
    obtain ⟨j, hj, e⟩ := List.getElem_of_mem hy
    rw [List.getElem_drop] at e
    have hjl : i + j < ids.length := by rw [List.length_drop] at hj; omega
    have hil : i < ids.length := by omega
    have h3 := h2 ids[i] (List.getElem?_eq_getElem hil)
    have hne : id ≠ y := fun e2 => hn (e2 ▸ (e ▸ List.getElem_mem hjl))
    by_cases e0 : j = 0
    · subst e0
      have e : ids[i] = y := e
      omega
    · have h4 := List.pairwise_iff_getElem.1 hr i (i + j) hil hjl (by omega)
      omega
/-- As CatPost, with a list of zeros that was made for it. -/
def CatPost2 (W : World) (g : Nat) (cs : Array Value) (F k i : Nat) (xs : List Value) (wd : World) : Prop :=
  ∃ gL, CatPost 33 W g 40 cs F (insT i (.slice (some ⟨gL, 0, none⟩) k k) xs) wd ∧ Blk wd gL 3 (zcells (.int .i64 0) k) ∧ W.heap.size ≤ gL
def RspPost (h : RaH) (a : Ar) (ids : List Nat) (k : Int) (w : World) (e : Ending) (w' : World) : Prop :=
  (¬ isK k ∧ e = .returned (.tuple #[.int .i64 0, .int .i64 1]) ∧ Chg [] w w') ∨
  ∃ q : Nat, k = q ∧ q < 16 ∧ ∃ x c l', AllocSays a.l (pgK q : Nat) x c l' ∧
    ((c ≠ 0 ∧ e = .returned (.tuple #[.int .i64 0, .int .i64 c]) ∧ RaM w' h a ids ∧ StR h a h a w w') ∨
     (c = 0 ∧ ∃ (f id : Nat) (h' : RaH) (ids' : List Nat), x = f ∧ a.sp id = none ∧ (∀ j, j < id → a.sp j ≠ none) ∧ e = .returned (.tuple #[.int .i64 (id : Nat), .int .i64 0]) ∧ h'.g = h.g ∧ h'.mw = h.mw ∧ RaM w' h' (spanA a l' id q f) ids' ∧ StR h a h' (spanA a l' id q f) w w'))
def RspR1 (w0 : World) (a : Ar) (N gk : Nat) (idx : Value) (w : World) : Prop := ∃ i, gk + i = N + 1 ∧ i ≤ N ∧ idx = .int .i64 (i : Nat) ∧ (∀ j, j < i → a.sp j ≠ none) ∧ w = w0
def RspR2 (w0 : World) (ids : List Nat) (id gk : Nat) (idx : Value) (w : World) : Prop := ∃ i, gk + i = ids.length + 1 ∧ i ≤ ids.length ∧ idx = .int .i64 (i : Nat) ∧ (∀ (j y : Nat), j < i → ids[j]? = some y → y < id) ∧ w = w0
/-- A span more: what the walk of Span made. -/
theorem RaM.spanned {w w2 w5 w6 w7 w8 w' : World} {h : RaH} {a : Ar} {ids : List Nat} (M : RaM w h a ids) {id i q f g : Nat} {b : RsB} {l' : List R} {F' : Nat → Bool} {vi vs vl : Value}
    (hn : a.sp id = none) (hr1 : ∀ y ∈ ids.take i, y < id) (hr2 : ∀ y ∈ ids.drop i, id < y)
    (c2 : Chg [h.A] w w2) (P : RfA w2 h.gp h.A h.c a.n F') (hF : SayF a.n l' F') (c5 : Chg [] w2 w5) (I : IsRs w5 b (spn f q) 0) (hb : ∀ k ∈ b.l, w2.heap.size ≤ k)
    (c6 : Chg [h.g] w5 w6) (Oi : OwnV 3 w6 vi (insT i (.int .i64 (id : Nat)) ((intsN ids).map (Value.int .i64)))) (fi : ∀ k ∈ fpv vi, w5.heap.size ≤ k)
    (c7 : Chg [h.g] w6 w7) (Os : OwnV 97 w7 vs (insT i (.pointer (some ⟨b.g, 0, none⟩)) (ids.map (raP h)))) (fs : ∀ k ∈ fpv vs, w6.heap.size ≤ k)
    (c8 : Chg [h.g] w7 w8) (Ol : OwnV 33 w8 vl (insT i (.slice (some ⟨g, 0, none⟩) (slK q) (slK q)) (ids.map (raL h a)))) (fl : ∀ k ∈ fpv vl, w7.heap.size ≤ k)
    (BL : Blk w8 g 3 (zcells (.int .i64 0) (slK q))) (hg : w7.heap.size ≤ g)
    (B : Blk w8 h.g 40 #[.pointer (some ⟨h.gp, 0, none⟩), vi, vs, vl, .map (some h.bw)]) (c : Chg [] w8 w') :
    ∃ h' : RaH, h'.g = h.g ∧ h'.mw = h.mw ∧ RaM w' h' (spanA a l' id q f) (insT i id ids) ∧ StR h a h' (spanA a l' id q f) w w' := by
  have hA : h.A < w.heap.size := M.lt (.inr (.inr (.inl rfl)))
  have hG : h.g < w.heap.size := M.b.lt
  have s2 := c2.size; have s5 := c5.size; have s6 := c6.size; have s7 := c7.size; have s8 := c8.size
  have nA : h.A ∉ [h.g] := fun hm => by
    obtain ⟨F0, hP0, -⟩ := M.P
    exact hP0.b2.ne_ M.b (by decide) (by simpa using hm)
  have ngp : h.gp ∉ [h.g] := fun hm => by
    obtain ⟨F0, hP0, -⟩ := M.P
    exact hP0.b1.ne_ M.b (by decide) (by simpa using hm)
  have big : ∀ {k : Nat}, w2.heap.size ≤ k → k ∉ [h.g] := fun hk hm => by
    have e := (show _ = h.g by simpa using hm); omega
  have C8 : Chg [h.g, h.A] w w8 := (((c2.mono (by simp)).trans (c5.mono (by simp))).trans ((c6.mono (by simp)).trans (c7.mono (by simp)))).trans (c8.mono (by simp))
  have Oi8 := (Oi.chg c7 (fun k hk => big (Nat.le_trans s5 (fi k hk)))).chg c8 (fun k hk => big (Nat.le_trans s5 (fi k hk)))
  have Os8 := Os.chg c8 (fun k hk => big (by have := fs k hk; omega))
  have P8 := ((((P.chg c5 (by simp) (by simp)).chg c6 ngp nA).chg c7 ngp nA).chg c8 ngp nA)
  have I8 := ((I.chg c6 (fun k hk => big (hb k hk))).chg c7 (fun k hk => big (hb k hk))).chg c8 (fun k hk => big (hb k hk))
  have e0 : insT i (.int .i64 (id : Nat)) ((intsN ids).map (Value.int .i64)) = (insT i (id : Int) (intsN ids)).map (Value.int .i64) := (insT_map _ _ _ _).symm
  rw [e0] at Oi8
  have N8 := M.newspan (w' := w8) hn hr1 hr2 C8 B P8 hF Oi8.i Os8 Ol I8 (fun k hk => by have := hb k hk; omega) BL (by omega) (fun hm => by
    have h1 := (Oi.chg c7 (fun k hk => big (Nat.le_trans s5 (fi k hk)))).lt hm; omega) (fun k hk => by have := fi k hk; omega)
  refine ⟨spH h id b g vi vs vl, rfl, rfl, N8.chg0 c, StR.of_chg (C8.trans (c.mono (by simp))) (fun k hk => ?_) (fun k hk => ?_)⟩
  · rcases (by simpa using hk : k = h.g ∨ k = h.A) with e | e
    · exact .inl (.inl e)
    · exact .inl (.inr (.inr (.inl e)))
  · have hB : ∀ j, j ≠ id → (spH h id b g vi vs vl).B j = h.B j := fun j e => if_neg e
    have hL : ∀ j, j ≠ id → (spH h id b g vi vs vl).L j = h.L j := fun j e => if_neg e
    rcases hk with h1 | h1 | h1 | h1 | h1 | h1 | h1 | ⟨j, t, ht, h1⟩
    · exact .inl (.inl h1)
    · exact .inl (.inr (.inl h1))
    · exact .inl (.inr (.inr (.inl h1)))
    · right; have := fi k h1; omega
    · right; have := fs k h1; omega
    · right; have := fl k h1; omega
    · exact .inl (.inr (.inr (.inr (.inr (.inr (.inr (.inl h1)))))))
    · by_cases e : j = id
      · right
        subst e
        have e1 : (spH h j b g vi vs vl).B j = b := if_pos rfl
        have e2 : (spH h j b g vi vs vl).L j = g := if_pos rfl
        rw [e1, e2] at h1
        rcases h1 with h1 | h1
        · have := hb k h1; omega
        · omega
      · left
        rw [hB j e, hL j e] at h1
        have ht : updF a.sp id (some (spn f q)) j = some t := ht
        rw [updF_other _ _ e] at ht
        exact .inr (.inr (.inr (.inr (.inr (.inr (.inr ⟨j, t, ht, h1⟩))))))
def RdpPost (h : RaH) (a : Ar) (ids : List Nat) (x : Int) (w : World) (e : Ending) (w' : World) : Prop :=
  (spI a x = none ∧ e = .returned (.int .i64 4) ∧ Chg [] w w') ∨
  ∃ (id : Nat) (s : Sp), x = id ∧ a.sp id = some s ∧ ((0 < cntF s.F (slK s.k) ∧ e = .returned (.int .i64 5) ∧ Chg [] w w') ∨
    (cntF s.F (slK s.k) = 0 ∧ ∃ cc l' h' ids', e = .returned (.int .i64 0) ∧ FreeSays a.n a.l (s.first : Nat) (pgK s.k : Nat) cc l' ∧ h'.g = h.g ∧ h'.mw = h.mw ∧ RaM w' h' (dropA a id s l') ids' ∧ StR h a h' (dropA a id s l') w w'))
theorem cut_map {α β : Type} (f : α → β) (l : List α) (k : Nat) : (l.map f).take k ++ (l.map f).drop (k + 1) = (l.eraseIdx k).map f := by
  rw [List.eraseIdx_eq_take_drop_succ, List.map_append, List.map_take, List.map_drop]
/-- A span less: what the walk of Drop made. -/
theorem RaM.dropped {w w2 w6 w7 w8 w' : World} {h : RaH} {a : Ar} {ids : List Nat} (M : RaM w h a ids) {id k : Nat} {s : Sp} {l' : List R} {F' : Nat → Bool} {vi vs vl : Value}
    (hs : a.sp id = some s) (hk : ids[k]? = some id) (h0 : cntF s.F (slK s.k) = 0)
    (c2 : Chg [h.A] w w2) (P : RfA w2 h.gp h.A h.c a.n F') (hF : SayF a.n l' F')
    (c6 : Chg [h.g] w2 w6) (Oi : OwnV 3 w6 vi (((intsN ids).map (Value.int .i64)).take k ++ ((intsN ids).map (Value.int .i64)).drop (k + 1))) (fi : ∀ k ∈ fpv vi, w2.heap.size ≤ k)
    (c7 : Chg [h.g] w6 w7) (Os : OwnV 97 w7 vs ((ids.map (raP h)).take k ++ (ids.map (raP h)).drop (k + 1))) (fs : ∀ k ∈ fpv vs, w6.heap.size ≤ k)
    (c8 : Chg [h.g] w7 w8) (Ol : OwnV 33 w8 vl ((ids.map (raL h a)).take k ++ (ids.map (raL h a)).drop (k + 1))) (fl : ∀ k ∈ fpv vl, w7.heap.size ≤ k)
    (B : Blk w8 h.g 40 #[.pointer (some ⟨h.gp, 0, none⟩), vi, vs, vl, .map (some h.bw)]) (c : Chg [] w8 w') :
    ∃ h' : RaH, h'.g = h.g ∧ h'.mw = h.mw ∧ RaM w' h' (dropA a id s l') (ids.eraseIdx k) ∧ StR h a h' (dropA a id s l') w w' := by
  have hA : h.A < w.heap.size := M.lt (.inr (.inr (.inl rfl)))
  have hG : h.g < w.heap.size := M.b.lt
  have s2 := c2.size; have s6 := c6.size; have s7 := c7.size; have s8 := c8.size
  have nA : h.A ∉ [h.g] := fun hm => by
    obtain ⟨F0, hP0, -⟩ := M.P
    exact hP0.b2.ne_ M.b (by decide) (by simpa using hm)
  have ngp : h.gp ∉ [h.g] := fun hm => by
    obtain ⟨F0, hP0, -⟩ := M.P
    exact hP0.b1.ne_ M.b (by decide) (by simpa using hm)
  have big : ∀ {k : Nat}, w2.heap.size ≤ k → k ∉ [h.g] := fun hk hm => by
    have e := (show _ = h.g by simpa using hm); omega
  have C8 : Chg [h.g, h.A] w w8 := ((c2.mono (by simp)).trans ((c6.mono (by simp)).trans (c7.mono (by simp)))).trans (c8.mono (by simp))
  rw [cut_map] at Oi Os Ol
  have e1 : (intsN ids).eraseIdx k = intsN (ids.eraseIdx k) := by
    unfold intsN
    rw [← cut_map, List.eraseIdx_eq_take_drop_succ]
  rw [e1] at Oi
  have Oi8 := (Oi.chg c7 (fun k hk => big (fi k hk))).chg c8 (fun k hk => big (fi k hk))
  have Os8 := Os.chg c8 (fun k hk => big (by have := fs k hk; omega))
  have P8 := (((P.chg c6 ngp nA).chg c7 ngp nA).chg c8 ngp nA)
  have hz : ∀ y, y < slK s.k → s.F y = false := fun y hy => by
    cases e : s.F y with
    | false => rfl
    | true => have := cnt_pos hy e; omega
  have N8 := M.less (w' := w8) (ow' := noT a.ow s.first (pgK s.k)) hs hk hz C8 B P8 hF Oi8.i Os8 Ol (fun k hk => by have := fi k hk; omega)
  refine ⟨{ h with vi := vi, vs := vs, vl := vl }, rfl, rfl, N8.chg0 c, StR.of_chg (C8.trans (c.mono (by simp))) (fun k hk => ?_) (fun k hk => ?_)⟩
  · rcases (by simpa using hk : k = h.g ∨ k = h.A) with e | e
    · exact .inl (.inl e)
    · exact .inl (.inr (.inr (.inl e)))
  · rcases hk with h1 | h1 | h1 | h1 | h1 | h1 | h1 | ⟨j, t, ht, h1⟩
    · exact .inl (.inl h1)
    · exact .inl (.inr (.inl h1))
    · exact .inl (.inr (.inr (.inl h1)))
    · right; have := fi k h1; omega
    · right; have := fs k h1; omega
    · right; have := fl k h1; omega
    · exact .inl (.inr (.inr (.inr (.inr (.inr (.inr (.inl h1)))))))
    · left
      exact .inr (.inr (.inr (.inr (.inr (.inr (.inr ⟨j, t, (updF_get ht).2, h1⟩))))))
end Go.Proofs.YtcnchgbngcnijaaGreatDoor
