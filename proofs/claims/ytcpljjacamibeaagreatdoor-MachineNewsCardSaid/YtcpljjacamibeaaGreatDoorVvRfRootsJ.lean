/- The walks of the document's view: once, Roots. -/
/- The walks of package audit: places, twice, size. -/
/- The walk of package audit: objects. -/
/- The walks of package audit: rules, All, Check, Text. -/
import Derived.Test.YtcpljjacamibeaaGreatDoorVvOwnIJ
import Derived.Test.YtcpljjacamibeaaGreatDoorMZ
import Derived.Laws.EntriesVeiled
namespace Go.Proofs.YtcpljjacamibeaaGreatDoor
set_option maxHeartbeats 16000000
set_option maxRecDepth 100000
open Go.RowKit Go.Maps
theorem once_ok (w : World) (v : Value) (xs : List Int) (x : Int) (h : OwnI 3 w v xs) (hl : xs.length ≤ 2000000) : Calls Tryz.prog 264 #[v, .int .i64 x] w (OncePost v (addOnce xs x) w) := by
  obtain ⟨A, c, rfl⟩ := h.slice
  have H := Lib.hid h; clear h
  go_enter Tryz.func264, Tryz.ntmps264
  by_cases h0 : x = 0
  · have hx : (x == 0) = true := by rw [beq_iff_eq]; exact h0
    have e1 : addOnce xs x = xs := by unfold addOnce; rw [if_pos (.inl h0)]
    rw [e1]
    clear h0 e1
    go_wp2_with fail
    go_ret
    exact ⟨_, rfl, H.out, Stp.refl _ _⟩
  · have hx : (x == 0) = false := by rw [beq_eq_false_iff_ne]; exact h0
    by_cases h1 : x ∈ xs
    · have e1 : addOnce xs x = xs := by unfold addOnce; rw [if_pos (.inr h1)]
      have e2 := Lib.hid (decide_eq_true h1)
      rw [e1]
      clear h0 e1 h1
      go_wp2_with fail
      refine (has_ok _ _ xs x H.out.rd).mono ?_
      rintro e w1 ⟨rfl, rfl⟩
      rw [e2.out]
      go_wp2_with fail
      go_ret
      exact ⟨_, rfl, H.out, Stp.refl _ _⟩
    · have e1 : addOnce xs x = xs ++ [x] := by unfold addOnce; rw [if_neg (by rintro (h | h); exact h0 h; exact h1 h)]
      have e2 := Lib.hid (decide_eq_false h1)
      rw [e1]
      clear h0 e1 h1
      go_wp2_with fail
      refine (has_ok _ _ xs x H.out.rd).mono ?_
      rintro e w1 ⟨rfl, rfl⟩
      rw [e2.out]
      go_wp2_with (at_builtin; refine wpList_push_int rfl _ _ rfl slty rfl H.out rfl (by omega) ?_)
      intro A' c' w2 O2 S2
      have HO := Lib.hid (And.intro O2 S2); clear O2 S2
      go_wp2_with fail
      go_ret
      exact ⟨_, rfl, HO.out.1, HO.out.2⟩
def RtPost (V : Vw) (w : World) (e : Ending) (w' : World) : Prop := NewI V.rootsL w e w'
def Rr1Rel (w0 : World) (V : Vw) (gk : Nat) (v idx : Value) (w : World) : Prop :=
  ∃ i, gk + i = V.globals.length + 1 ∧ i ≤ V.globals.length ∧ idx = .int .i64 (i : Nat) ∧ OwnI 3 w v ((V.globals.take i).foldl addOnce []) ∧ Chg [] w0 w ∧ ∀ k ∈ fpv v, w0.heap.size ≤ k
def Rr2Rel (w0 : World) (V : Vw) (gk : Nat) (v idx : Value) (w : World) : Prop :=
  ∃ i, gk + i = V.gs.length + 1 ∧ i ≤ V.gs.length ∧ idx = .int .i64 (i : Nat) ∧ OwnI 3 w v ((V.saidTo i).foldl addOnce []) ∧ Chg [] w0 w ∧ ∀ k ∈ fpv v, w0.heap.size ≤ k
def Rr3Rel (w0 : World) (l0 xs : List Int) (gk : Nat) (v idx : Value) (w : World) : Prop :=
  ∃ i, gk + i = xs.length + 1 ∧ i ≤ xs.length ∧ idx = .int .i64 (i : Nat) ∧ OwnI 3 w v ((xs.take i).foldl addOnce l0) ∧ Chg [] w0 w ∧ ∀ k ∈ fpv v, w0.heap.size ≤ k
theorem saidTo_zero (V : Vw) : V.saidTo 0 = V.globals := by simp [Vw.saidTo]
theorem stp_new {w0 w w' : World} {v v' : Value} (h : Chg [] w0 w) (hf : ∀ k ∈ fpv v, w0.heap.size ≤ k) (S : Stp (fpv v) (fpv v') w w') : Chg [] w0 w' ∧ ∀ k ∈ fpv v', w0.heap.size ≤ k :=
  ⟨h.new S.c hf, fun k hk => by
    rcases S.f k hk with h1 | h1
    · exact hf k h1
    · exact Nat.le_trans h.size h1⟩
theorem saidTo_le (V : Vw) (j : Nat) : (V.saidTo j).length ≤ V.said.length := by
  rw [← saidTo_all]
  unfold Vw.saidTo
  rw [List.length_append, List.length_append]
  have : V.gs.take V.gs.length = V.gs.take j ++ V.gs.drop j := by rw [List.take_length, List.take_append_drop]
  rw [this, List.filter_append, List.flatMap_append, List.length_append]; omega
theorem rroots_ok (w : World) (v : Value) (V : Vw) (h : VwAt w w.heap.size v V) (hS : Small V) : Calls Tryz.prog 177 #[v] w (RtPost V w) := by
  obtain ⟨g, A1, c1, A2, c2, rfl, h1, h2, h3, h4, h5⟩ := h.ex
  obtain ⟨A0, c0, rfl⟩ := h1.ex
  have hm : maxLen ≤ 9223372036854775807 := by decide
  have C1 := (Chg.refl [] w).alloc (.cells #[.int .i64 V.phase, .int .i64 V.cycle, .int .i64 V.clock, .slice A0 V.globals.length c0, .slice A1 V.gs.length c1, .slice A2 V.objects.length c2, .int .i64 V.grey, .int .i64 V.notes, .int .i64 V.roots] 41)
  have B1 := Blk.new w 41 #[.int .i64 V.phase, .int .i64 V.cycle, .int .i64 V.clock, .slice A0 V.globals.length c0, .slice A1 V.gs.length c1, .slice A2 V.objects.length c2, .int .i64 V.grey, .int .i64 V.notes, .int .i64 V.roots]
  have hb4 := Nat.le_trans h4 hm
  have hb0 := Nat.le_trans h1.len hm
  have HB := Lib.hid (And.intro C1 (And.intro B1 (And.intro h1 h2))); clear C1 B1 h h1 h2 h3 h4 h5 hm
  have hn : V.said.length ≤ 1000000 := by have := hS.n; unfold Vw.names at this; rw [List.length_append] at this; omega
  have hg0 : V.globals.length ≤ 1000000 := by have := hn; unfold Vw.said at this; rw [List.length_append] at this; omega
  have HS := Lib.hid (And.intro hn hg0); clear hn hg0
  go_enter Tryz.func177, Tryz.ntmps177
  go_wp2_with fail
  generalize hW0 : (w.alloc (.cells #[.int .i64 V.phase, .int .i64 V.cycle, .int .i64 V.clock, .slice A0 V.globals.length c0, .slice A1 V.gs.length c1, .slice A2 V.objects.length c2, .int .i64 V.grey, .int .i64 V.notes, .int .i64 V.roots] 41)) = W0 at HB ⊢
  clear hW0
  go_loopg [3, 4] (V.globals.length + 1) (fun gk v idx wr => Rr1Rel W0 V gk v idx wr)
  case atStart => exact ⟨0, by omega, by omega, rfl, OwnI.nil _ _, Chg.refl [] _, by simp [fpv, Value.ownBlock]⟩
  case round =>
    obtain ⟨i, hgk, hin, rfl, O, C, F⟩ := hrel
    have b3 : wr.cell? ⟨w.heap.size, 3, none⟩ = some (.slice A0 V.globals.length c0) := (C.blk HB.out.2.1 (by simp)).cellv 3 rfl
    have b4 : wr.cell? ⟨w.heap.size, 4, none⟩ = some (.slice A1 V.gs.length c1) := (C.blk HB.out.2.1 (by simp)).cellv 4 rfl
    have hfl := len_foldOnce (V.globals.take i) []
    have htl : (V.globals.take i).length ≤ V.globals.length := by simp; omega
    generalize hL : (V.globals.take i).foldl addOnce [] = L at O hfl
    obtain ⟨Av, cv, rfl⟩ := O.slice
    have HL := Lib.hid hL; clear hL
    by_cases e : i < V.globals.length
    · obtain ⟨x, hx⟩ : ∃ x, V.globals[i]? = some x := ⟨_, List.getElem?_eq_getElem e⟩
      obtain ⟨ba, off, rfl, hb1, hb2⟩ := ((HB.out.2.2.1.chg (HB.out.1.trans C) (Nat.le_refl _) (by simp)).at_ _ _ _ rfl) i x hx
      have hi' : (i : Int) < (V.globals.length : Int) := by omega
      have HX := Lib.hid (And.intro O (And.intro C (And.intro F (fold_succ hx [])))); clear O C F hx hb1
      go_wp2_with fail
      refine (once_ok _ _ L x HX.out.1 (by have := HS.out.2; simp at hfl; omega)).mono ?_
      rintro e w1 ⟨v', rfl, O1, S1⟩
      have HN := stp_new HX.out.2.1 HX.out.2.2.1 S1
      have HY := Lib.hid (And.intro O1 HN); clear O1 S1 HN b3 b4 hb2
      go_wp2_with fail
      go_roundg (V.globals.length - i)
      case measure => omega
      case rel => exact ⟨i + 1, by omega, by omega, by go_num, by rw [HX.out.2.2.2, HL.out]; exact HY.out.1, HY.out.2⟩
    · have e2 : V.globals.length = i := by omega
      have e3 : V.globals.take i = V.globals := by rw [← e2, List.take_length]
      have hi' : ¬ (i : Int) < (V.globals.length : Int) := by omega
      have HX := Lib.hid (And.intro O (And.intro C F))
      have HE := Lib.hid (by rw [← HL.out, e3] : L = V.globals.foldl addOnce []); clear O C F hgk e2 e3 htl hfl HL
      go_wp2_with fail
      clear b3 b4
      obtain ⟨wq, rfl⟩ : ∃ wq : World, wq = wr := ⟨_, rfl⟩
      go_loopg [3, 5] (V.gs.length + 1) (fun gk v idx wr => Rr2Rel W0 V gk v idx wr)
      case atStart => exact ⟨0, by omega, by omega, rfl, by rw [saidTo_zero, ← HE.out]; exact HX.out.1, HX.out.2⟩
      case round =>
        clear HX hi' e hin HE
        obtain ⟨j, hgk, hjn, rfl, O, C, F⟩ := hrel
        have b4 : wr.cell? ⟨w.heap.size, 4, none⟩ = some (.slice A1 V.gs.length c1) := (C.blk HB.out.2.1 (by simp)).cellv 4 rfl
        generalize hL : (V.saidTo j).foldl addOnce [] = L at O
        have HL := Lib.hid hL; clear hL
        obtain ⟨Av, cv, rfl⟩ := O.slice
        by_cases ej : j < V.gs.length
        · obtain ⟨g, hg⟩ : ∃ g, V.gs[j]? = some g := ⟨_, List.getElem?_eq_getElem ej⟩
          obtain ⟨b, off, s, rfl, hbb, i00, i1, i02, hsl, hwf⟩ := (HB.out.2.2.2.chg HB.out.1 (Nat.le_refl _) (by simp)).at_ j g hg
          obtain ⟨As, cs, rfl⟩ := hsl.ex
          have hbw : b < W0.heap.size := Nat.lt_of_lt_of_le hbb HB.out.1.size
          have i0 := C.cellv hbw (by simp) i00
          have i2 := C.cellv hbw (by simp) i02
          have HI := Lib.hid (And.intro i00 i02); clear i00 i02
          have hj' : (j : Int) < (V.gs.length : Int) := by omega
          have hlL : L.length ≤ V.said.length := by
            have h1 := len_foldOnce (V.saidTo j) []
            rw [HL.out] at h1
            have h2 := saidTo_le V j
            simp only [List.length_nil] at h1
            omega
          have hsuc := saidTo_succ hg
          have hst : g.state ≠ 5 → (V.saidTo (j + 1)).length ≤ V.said.length := fun _ => saidTo_le V (j + 1)
          have hsl2 := hsl.len
          unfold maxLen at hsl2
          have HX := Lib.hid (And.intro O (And.intro C (And.intro F (And.intro hsuc hsl)))); clear O C F hsuc hsl hwf hbb hg i1
          by_cases h5 : g.state = 5
          · have q5 : (g.state != 5) = false := by rw [h5]; rfl
            have H5 := Lib.hid h5; clear h5 hst
            go_wp2_with fail
            obtain ⟨wq2, rfl⟩ : ∃ wq : World, wq = wr := ⟨_, rfl⟩
            go_loopg [3, 6] 2 (fun gk v idx wr => gk = 2 ∧ v = .slice Av L.length cv ∧ idx = .int .i64 (0 : Nat) ∧ wr = wq2)
            case atStart => exact ⟨rfl, rfl, rfl, rfl⟩
            case round =>
              obtain ⟨hgk2, rfl, rfl, rfl⟩ := hrel
              by_cases hl0 : 0 < g.stack.length
              · have hl0' : (0 : Int) < (g.stack.length : Int) := by omega
                have hl0'' : decide (0 < g.stack.length) = true := decide_eq_true hl0
                go_wp2_with fail
                go_roundg (V.gs.length - j)
                case measure => omega
                case rel => exact ⟨j + 1, by omega, by omega, by go_num, by rw [HX.out.2.2.2.1, if_pos H5.out, List.append_nil, HL.out]; exact HX.out.1, HX.out.2.1, HX.out.2.2.1⟩
              · have hl0' : ¬ (0 : Int) < (g.stack.length : Int) := by omega
                have hl0'' : decide (0 < g.stack.length) = false := decide_eq_false hl0
                go_wp2_with fail
                go_roundg (V.gs.length - j)
                case measure => omega
                case rel => exact ⟨j + 1, by omega, by omega, by go_num, by rw [HX.out.2.2.2.1, if_pos H5.out, List.append_nil, HL.out]; exact HX.out.1, HX.out.2.1, HX.out.2.2.1⟩
          · have q5 : (g.state != 5) = true := by rw [bne_iff_ne]; exact h5
            have H5 := Lib.hid (And.intro h5 (hst h5)); clear h5 hst
            go_wp2_with fail
            obtain ⟨wq2, hwq2⟩ : ∃ wq : World, wq = wr := ⟨_, rfl⟩
            rw [← hwq2] at HX b4 i0 i2 ⊢
            clear hwq2
            go_loopg [3, 6] (g.stack.length + 1) (fun gk v idx wr => Rr3Rel W0 L g.stack gk v idx wr)
            case atStart => exact ⟨0, by omega, by omega, rfl, HX.out.1, HX.out.2.1, HX.out.2.2.1⟩
            case round =>
              obtain ⟨i, hgk3, hin, rfl, O, C, F⟩ := hrel
              have b4 : wr.cell? ⟨w.heap.size, 4, none⟩ = some (.slice (some ⟨b, off, none⟩) V.gs.length c1) := (C.blk HB.out.2.1 (by simp)).cellv 4 rfl
              have hfl := len_foldOnce (g.stack.take i) L
              have htl : (g.stack.take i).length ≤ g.stack.length := by simp; omega
              have i0' : wr.cell? ⟨b, off + j * 3, none⟩ = some (.int .i64 g.state) := C.cellv hbw (by simp) HI.out.1
              have i2' : wr.cell? ⟨b, off + j * 3 + 2, none⟩ = some (.slice As g.stack.length cs) := C.cellv hbw (by simp) HI.out.2
              generalize hM : (g.stack.take i).foldl addOnce L = M at O hfl
              obtain ⟨Am, cm, rfl⟩ := O.slice
              have HM := Lib.hid hM; clear hM
              by_cases e : i < g.stack.length
              · obtain ⟨x, hx⟩ : ∃ x, g.stack[i]? = some x := ⟨_, List.getElem?_eq_getElem e⟩
                obtain ⟨ba, off2, rfl, hb1, hb2⟩ := ((HX.out.2.2.2.2.chg C HB.out.1.size (by intro k hk; simp at hk)).at_ _ _ _ rfl) i x hx
                have hi' : (i : Int) < (g.stack.length : Int) := by omega
                have HZ := Lib.hid (And.intro O (And.intro C (And.intro F (fold_succ hx L)))); clear O C F hx hb1
                go_wp2_with fail
                refine (once_ok _ _ M x HZ.out.1 (by have := HS.out.1; have := H5.out.2; have h9 := HX.out.2.2.2.1; rw [if_neg H5.out.1] at h9; rw [h9, List.length_append] at this; omega)).mono ?_
                rintro e w1 ⟨v', rfl, O1, S1⟩
                have HN := stp_new HZ.out.2.1 HZ.out.2.2.1 S1
                have HY := Lib.hid (And.intro O1 HN); clear O1 S1 HN b4 hb2 i0' i2'
                go_wp2_with fail
                go_roundg (g.stack.length - i)
                case measure => omega
                case rel => exact ⟨i + 1, by omega, by omega, by go_num, by rw [HZ.out.2.2.2, HM.out]; exact HY.out.1, HY.out.2⟩
              · have e2 : g.stack.length = i := by omega
                have e3 : g.stack.take i = g.stack := by rw [← e2, List.take_length]
                have hi' : ¬ (i : Int) < (g.stack.length : Int) := by omega
                have HZ := Lib.hid (And.intro O (And.intro C F))
                have HE := Lib.hid (by rw [← HM.out, e3] : M = g.stack.foldl addOnce L); clear O C F hgk3 e2 e3 htl hfl HM
                go_wp2_with fail
                go_roundg (V.gs.length - j)
                case measure => omega
                case rel => exact ⟨j + 1, by omega, by omega, by go_num, by rw [HX.out.2.2.2.1, if_neg H5.out.1, List.foldl_append, HL.out, ← HE.out]; exact HZ.out.1, HZ.out.2⟩
        · have e2 : V.gs.length = j := by omega
          have hj' : ¬ (j : Int) < (V.gs.length : Int) := by omega
          have HE := Lib.hid (by rw [← HL.out, ← e2, saidTo_all]; rfl : L = V.rootsL)
          have HX := Lib.hid (And.intro O (And.intro C F)); clear O C F hgk e2
          go_wp2_with fail
          go_ret
          exact ⟨_, rfl, by rw [← HE.out]; exact HX.out.1, HB.out.1.trans HX.out.2.1, fun k hk => Nat.le_trans HB.out.1.size (HX.out.2.2 k hk)⟩
def badG (ps : Int) (g : Gr) : Bool := !(if g.state = 2 then decide (0 ≤ g.p ∧ g.p < ps) else if g.state = 1 then decide (-1 ≤ g.p ∧ g.p < ps) else decide (g.p = -1))
def brkPl (V : Vw) (ps : Int) : Bool := V.gs.any (badG ps)
def runL (gs : List Gr) : List Int := (gs.filter fun g => g.state == 2).map (·.p)
def brkTw (V : Vw) : Bool := !decide (runL V.gs).Nodup
def ObBad (os : List Ob) (i : Nat) : Prop := ∃ o, os[i]? = some o ∧ (o.addr < 64 ∨ owN o.slots.length = 0 ∨ ∃ j p, i = j + 1 ∧ os[j]? = some p ∧ (o.addr ≤ p.addr ∨ o.addr - p.addr < (owN p.slots.length : Int)))
open Classical in
noncomputable def brkOb (V : Vw) : Bool := decide (∃ i, ObBad V.objects i)
open Classical in
theorem brkOb_yes {V : Vw} {i : Nat} {x : Ob} (hx : V.objects[i]? = some x) (h : x.addr < 64 ∨ owN x.slots.length = 0 ∨ ∃ j p, i = j + 1 ∧ V.objects[j]? = some p ∧ (x.addr ≤ p.addr ∨ x.addr - p.addr < (owN p.slots.length : Int))) : brkOb V = true := by
  unfold brkOb; exact decide_eq_true ⟨i, x, hx, h⟩
open Classical in
theorem brkOb_no {V : Vw} (h : ∀ j, j < V.objects.length → ¬ ObBad V.objects j) : brkOb V = false := by
  unfold brkOb
  refine decide_eq_false ?_
  rintro ⟨i, x, hx, hb⟩
  exact h i (List.getElem?_eq_some_iff.1 hx).1 ⟨x, hx, hb⟩
theorem obOk_addr {os : List Ob} {j : Nat} {p : Ob} (h : ¬ ObBad os j) (hp : os[j]? = some p) : ¬ p.addr < 64 := fun ha => h ⟨p, hp, .inl ha⟩
theorem obRel_zero {os : List Ob} {x : Ob} (hx : os[0]? = some x) (ha : ¬ x.addr < 64) (h0 : ¬ owN x.slots.length = 0) : ∀ j, j < 1 → ¬ ObBad os j := by
  intro j hj
  have e : j = 0 := by omega
  subst e
  rintro ⟨o, ho, h⟩
  rw [hx] at ho; injection ho with ho; subst ho
  rcases h with h | h | ⟨j, p, h, _⟩
  · exact ha h
  · exact h0 h
  · omega
theorem obRel_succ {os : List Ob} {j : Nat} {x p : Ob} (ht : ∀ k, k < j + 1 → ¬ ObBad os k) (hx : os[j + 1]? = some x) (hp : os[j]? = some p) (ha : ¬ x.addr < 64) (h0 : ¬ owN x.slots.length = 0) (h1 : ¬ x.addr ≤ p.addr) (h2 : ¬ x.addr - p.addr < (owN p.slots.length : Int)) : ∀ k, k < j + 2 → ¬ ObBad os k := by
  intro k hk
  rcases Nat.lt_or_ge k (j + 1) with h | h
  · exact ht k h
  · have e : k = j + 1 := by omega
    subst e
    rintro ⟨o, ho, h⟩
    rw [hx] at ho; injection ho with ho; subst ho
    rcases h with h | h | ⟨j', p', h, hp', h3⟩
    · exact ha h
    · exact h0 h
    · have e : j' = j := by omega
      subst e
      rw [hp] at hp'; injection hp' with hp'; subst hp'
      rcases h3 with h3 | h3
      · exact h1 h3
      · exact h2 h3
theorem keepOb {w2 W : World} {a b c d e : Nat} {i j k l m : Nat} {v1 v2 v3 v4 v5 : Value} (h1 : w2.cell? ⟨a, i, none⟩ = some v1) (h2 : w2.cell? ⟨b, j, none⟩ = some v2) (h3 : w2.cell? ⟨c, k, none⟩ = some v3) (h4 : w2.cell? ⟨d, l, none⟩ = some v4) (h5 : w2.cell? ⟨e, m, none⟩ = some v5) (D : Chg [] w2 W) :
    W.cell? ⟨a, i, none⟩ = some v1 ∧ W.cell? ⟨b, j, none⟩ = some v2 ∧ W.cell? ⟨c, k, none⟩ = some v3 ∧ W.cell? ⟨d, l, none⟩ = some v4 ∧ W.cell? ⟨e, m, none⟩ = some v5 ∧ Chg [] w2 W :=
  ⟨D.cellv (lt_of_cell' h1) (by simp) h1, D.cellv (lt_of_cell' h2) (by simp) h2, D.cellv (lt_of_cell' h3) (by simp) h3, D.cellv (lt_of_cell' h4) (by simp) h4, D.cellv (lt_of_cell' h5) (by simp) h5, D⟩
def ObRel (w0 : World) (os : List Ob) (gk : Nat) (idx : Value) (w : World) : Prop :=
  ∃ i, gk + i = os.length + 1 ∧ i ≤ os.length ∧ idx = .int .i64 (i : Nat) ∧ (∀ j, j < i → ¬ ObBad os j) ∧ Chg [] w0 w
noncomputable def brks (V : Vw) (ps : Int) : List Bool := [brkLost V, brkOb V, brkTw V, brkPl V ps, brkWork V, brkWhite V, brkNum V, brkMk V]
def outN (bs : List Bool) (i : Nat) : List Int := ((List.range i).filter fun j => bs.getD j false).map fun (j : Nat) => (j : Int) + 1
theorem outN_yes {bs : List Bool} {i : Nat} (h : bs.getD i false = true) : outN bs (i + 1) = outN bs i ++ [(i : Int) + 1] := by
  unfold outN; rw [List.range_succ, List.filter_append, List.map_append]; simp only [List.filter_cons, h, if_true, List.filter_nil, List.map_cons, List.map_nil]
theorem outN_no {bs : List Bool} {i : Nat} (h : bs.getD i false = false) : outN bs (i + 1) = outN bs i := by
  unfold outN; rw [List.range_succ, List.filter_append, List.map_append]; simp only [List.filter_cons, h, List.filter_nil, List.map_nil, List.append_nil, Bool.false_eq_true, if_false]
theorem outN_len (bs : List Bool) (i : Nat) : (outN bs i).length ≤ i := by
  unfold outN
  rw [List.length_map]
  exact Nat.le_trans (List.length_filter_le _ _) (by simp)
def AllPost (V : Vw) (ps : Int) (w : World) (e : Ending) (w' : World) : Prop := NewI (outN (brks V ps) 8) w e w'
def AlRelV (w0 : World) (bs : List Bool) (gk : Nat) (v idx : Value) (w : World) : Prop :=
  ∃ i, gk + i = 9 ∧ i ≤ 8 ∧ idx = .int .i64 (i : Nat) ∧ OwnI 3 w v (outN bs i) ∧ Chg [] w0 w ∧ ∀ k ∈ fpv v, w0.heap.size ≤ k
theorem vw_to {w X : World} {v : Value} {V : Vw} (h : VwAt w w.heap.size v V) (c : Chg [] w X) : VwAt X X.heap.size v V := (h.chg c (Nat.le_refl _) (by simp)).mono c.size
end Go.Proofs.YtcpljjacamibeaaGreatDoor
