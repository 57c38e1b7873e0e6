/- The walk of treadmillref1.Put. -/
import Derived.Test.YtkocikpoagfonaaDoorZSl
import Derived.Deep.DeepCutAuto
import Derived.BigQuiet
namespace Go.Proofs.YtkocikpoagfonaaDoor
open Go.RowKit Go.Maps

theorem slty : SlTy Tryd.prog 32 3 := ⟨Tryd.underlying32, by kernel_rfl⟩
section
variable {P : Program} {T E : TypeId} {w w' : World} {v u : Value} {xs ys : List Int} {B : Nat}
theorem step_cat_sl {ops : Array Oper} {o : Oper} {a : Act} {K : Act → World → Prop} {Q : Exit → Act → World → Prop} {E' : Prop} (hgd : o.guard = none) (s x : Operand)
    (ho : o.op = .call { callee := .builtin .append, args := #[s, x], argTypes := #[T, T] }) (t : SlTy P T E) (hs : a.eval s = v) (h : OwnI E w v xs) (hx : a.eval x = u) (hu : SlI w B u ys) (hl : xs.length + ys.length ≤ 1000000000000)
    (hK : ∀ A' c' w', OwnI E w' (.slice A' (xs.length + ys.length) c') (xs ++ ys) → Stp (fpv v) (fpv (.slice A' (xs.length + ys.length) c')) w w' → K (a.put o.dst (.slice A' (xs.length + ys.length) c')) w') :
    if Region.wanted o (yielded ops a.tmps) = true then Oper.wp P o a w K Q else E' := by
  have hw : Region.wanted o (yielded ops a.tmps) = true := by simp [Region.wanted, hgd]
  rw [if_pos hw]
  obtain ⟨v', w', hr, h2, h3⟩ := run_cat_sl t o.type h hu hl
  obtain ⟨A', c', e⟩ := h2.slice
  rw [List.length_append] at e
  subst e
  unfold Oper.wp execOp
  simp only [ho, resolve, invoke, builtin, Sem.run_bind, Sem.run_pure, Result.andThen_ok, List.map_toArray, List.map_cons, List.map_nil, hs, hx, hr]
  exact hK A' c' w' h2 h3
theorem step_cat_n {ops : Array Oper} {o : Oper} {a : Act} {K : Act → World → Prop} {Q : Exit → Act → World → Prop} {E' : Prop} (hgd : o.guard = none) (s x : Operand)
    (ho : o.op = .call { callee := .builtin .append, args := #[s, x], argTypes := #[T, T] }) (t : SlTy P T E) (hs : a.eval s = v) (h : OwnI E w v xs) (hx : a.eval x = u) (hu : SlI w B u ys) (n : Nat) (hn : xs.length + ys.length = n) (hl : n ≤ 1000000000000)
    (hK : ∀ A' c' w', OwnI E w' (.slice A' n c') (xs ++ ys) → Stp (fpv v) (fpv (.slice A' n c')) w w' → K (a.put o.dst (.slice A' n c')) w') :
    if Region.wanted o (yielded ops a.tmps) = true then Oper.wp P o a w K Q else E' := by
  subst hn; exact step_cat_sl hgd s x ho t hs h hx hu hl hK
theorem OwnI.emptyAt {g : Nat} (hg : g = w.heap.size) : OwnI E (w.alloc (.cells #[] E)) (.slice (some ⟨g, 0, none⟩) 0 0) [] := by subst hg; exact OwnI.empty E w
theorem OwnI.drew (h : OwnI E w v xs) : OwnI E w.drew v xs := ⟨h.o⟩
end
theorem SlI.take {w : World} {B : Nat} {A : Option Addr} {n c c' i : Nat} {xs : List Int} (h : SlI w B (.slice A n c) xs) (hi : i ≤ xs.length) : SlI w B (.slice A i c') (xs.take i) :=
  ⟨⟨A, c', by rw [List.length_take, Nat.min_eq_left hi]⟩, by have := h.len; simp; omega, (fun A' n' cc e j x hx => by
    injection e with e1 e2 e3
    subst e1
    rw [List.getElem?_take] at hx
    split at hx
    · exact h.at_ _ _ _ rfl j x hx
    · cases hx), fun x hx => h.wf x (List.mem_of_mem_take hx)⟩
theorem SlI.drop {w : World} {B : Nat} {g n c c' i m : Nat} {xs : List Int} (h : SlI w B (.slice (some ⟨g, 0, none⟩) n c) xs) (_ : i ≤ xs.length) (hm : m = xs.length - i) : SlI w B (.slice (some ⟨g, i, none⟩) m c') (xs.drop i) :=
  ⟨⟨_, c', by rw [List.length_drop, hm]⟩, by have := h.len; simp; omega, (fun A' n' cc e j x hx => by
    injection e with e1 e2 e3
    rw [List.getElem?_drop] at hx
    obtain ⟨b, off, h1, h2, h3⟩ := h.at_ _ _ _ rfl (i + j) x hx
    injection h1 with h1
    injection h1 with h4 h5
    subst h4 h5
    exact ⟨g, i, e1.symm, h2, by rw [Nat.zero_add] at h3; exact h3⟩), fun x hx => h.wf x (List.mem_of_mem_drop hx)⟩
theorem fpv_some {k g n c : Nat} (h : k ∈ fpv (.slice (some ⟨g, 0, none⟩) n c)) : k = g := by simpa [fpv, Value.ownBlock, eq_comm] using h
theorem SlI.none_ (w : World) (B : Nat) (A : Option Addr) (c : Nat) : SlI w B (.slice A 0 c) [] := ⟨⟨A, c, rfl⟩, by simp, fun _ _ _ _ i x hx => by simp at hx, by simp⟩
theorem SlI.one {w : World} {g : Nat} {x : Int} (h : Blk w g 3 #[.int .i64 x]) (hw : WfI x) : SlI w w.heap.size (.slice (some ⟨g, 0, none⟩) 1 1) [x] :=
  ⟨⟨_, _, rfl⟩, (by simp [maxLen]), (fun A n c e i y hy => by
    injection e with e1 e2 e3
    cases i with
    | zero => have e : x = y := by simpa using hy
              subst e; exact ⟨g, 0, e1.symm, h.lt, h.cellv 0 rfl⟩
    | succ i => simp at hy), by intro y hy; simp at hy; subst hy; exact hw⟩
theorem OwnI.cap {E : TypeId} {w : World} {A : Option Addr} {n c : Nat} {xs : List Int} (h : OwnI E w (.slice A n c) xs) : xs.length ≤ c ∧ c ≤ 9223372036854775807 := by
  rcases h.o.2 with ⟨e, h0⟩ | ⟨g, cap, cur, e, _, _, hc, hm, _⟩
  · injection e with _ _ e; omega
  · injection e with _ _ e; unfold maxLen at hm; omega
def PutRel (xs : List Int) (x : Int) (idx : Value) : Prop := ∃ i, i ≤ xs.length ∧ idx = .int .i64 (i : Nat) ∧ ∀ j y, j < i → xs[j]? = some y → y < x
set_option maxHeartbeats 1600000 in
set_option maxRecDepth 100000 in
theorem put_ok (w : World) (v : Value) (xs : List Int) (x : Int) (h : OwnI 3 w v xs) (hw : ∀ y ∈ xs, WfI y) (hx : WfI x) (hl : xs.length ≤ 1000000) : Calls Tryd.prog 23 #[v, .int .i64 x] w (OncePost v (putL xs x) w) := by
  have hsl := h.sl hw (by unfold maxLen; omega)
  obtain ⟨A, c, rfl⟩ := h.slice
  have H := Lib.hid (And.intro h (And.intro hsl (And.intro hw hx))); clear h hsl hw hx
  go_enter Tryd.func23, Tryd.ntmps23
  go_wp2_with fail
  go_loop [5] (fun idx => PutRel xs x idx) (fun idx => xs.length - (intOf idx).toNat)
  case atStart => exact ⟨0, by omega, rfl, fun j y hj => by omega⟩
  case round =>
    obtain ⟨i, hin, rfl, hall⟩ := hrel
    by_cases e : i < xs.length
    · obtain ⟨y, hy⟩ : ∃ y, xs[i]? = some y := ⟨_, List.getElem?_eq_getElem e⟩
      obtain ⟨b1, rfl, c1, hb1, -⟩ := H.out.1.cell hy
      have hi' : (i : Int) < (xs.length : Int) := by omega
      have hi'' : decide (i < xs.length) = true := decide_eq_true e
      have HT := Lib.hid (And.intro hall (And.intro hy hb1)); clear hall hy hb1
      by_cases hyx : y < x
      · go_wp2_with fail
        go_round
        case rel => exact ⟨i + 1, by omega, by go_num, fun j z hj hz => by
          by_cases hji : j = i
          · subst hji; rw [HT.out.2.1] at hz; injection hz with hz; omega
          · exact HT.out.1 j z (by omega) hz⟩
        case measure => simp [intOf]; omega
      · have hyx' : decide (y < x) = false := decide_eq_false hyx
        by_cases hyq : y = x
        · have hq : (y == x) = true := by rw [beq_iff_eq]; exact hyq
          have HE := Lib.hid hyq; clear hyq
          go_wp2_with fail
          go_ret
          exact ⟨_, rfl, by rw [putL_old HT.out.1 (by rw [HT.out.2.1, HE.out])]; exact H.out.1, Stp.refl _ _⟩
        · have hq : (y == x) = false := by rw [beq_eq_false_iff_ne]; exact hyq
          have HE := Lib.hid (by omega : x < y); clear hyq
          go_upto_region 6 with fail
          have hin' : (i : Int) ≤ (xs.length : Int) := by omega
          have h0i : (0 : Int) ≤ (i : Int) := by omega
          have hcap := H.out.1.cap
          have hic : (i : Int) ≤ (c : Int) := by omega
          have hnc : (xs.length : Int) ≤ (c : Int) := by omega
          have hci : ¬ c = i := by omega
          clear hcap
          go_region_held3 (fun w' => Chg [] w w') (first | (go_keep; done) | assumption | exact Chg.refl [] w | exact (Chg.refl [] w).drew | exact Chg.alloc (by assumption) _ | exact (Chg.alloc (by assumption) _).drew | exact Chg.drew (by assumption))
            (first
              | (refine step_cat_n (by rfl) _ _ (by rfl) slty (by rfl) O2 (by rfl) ((H.out.2.1.chg D2 (Nat.le_refl _) (by simp)).drop hin rfl) (xs.length + 1) (by simp; omega) (by omega) ?_; intro A3 k3 w3 O3 S3; have D3 : Chg [] w w3 := Chg.new D2 S3.c F2; have F3 : ∀ k ∈ fpv (.slice A3 (xs.length + 1) k3), w.heap.size ≤ k := (fun k hk => by (rcases S3.f k hk with h1 | h1) <;> first | exact F2 k h1 | (have := D2.size; omega)))
              | (refine step_cat_n (by rfl) _ _ (by rfl) slty (by rfl) (by first | exact O1 | exact O1.drew | exact O1.alloc _ | exact (O1.alloc _).drew) (by rfl) (by first | exact SlI.one X1 H.out.2.2.2 | exact SlI.one (Blk.new _ _ _) H.out.2.2.2 | exact SlI.one (Blk.new _ _ _).drew H.out.2.2.2) (i + 1) (by simp; omega) (by omega) ?_; intro A2 k2 w2 O2 S2; have D2 : Chg [] w w2 := Chg.new ‹Chg [] w _› S2.c F1; have F2 : ∀ k ∈ fpv (.slice A2 (i + 1) k2), w.heap.size ≤ k := (fun k hk => by (rcases S2.f k hk with h1 | h1) <;> first | exact F1 k h1 | (have := D1.size; first | omega | (simp at h1; omega))))
              | (refine step_cat_n (by rfl) _ _ (by rfl) slty (by rfl) (by first | exact OwnI.empty _ _ | exact (OwnI.empty _ _).drew | exact (OwnI.emptyAt (by simp)).drew | exact OwnI.emptyAt (by simp) | exact (OwnI.empty _ _).alloc _ | exact ((OwnI.empty _ _).alloc _).drew) (by rfl) ((H.out.2.1.chg (by assumption : Chg [] w _) (Nat.le_refl _) (by simp)).take hin) i (by simp; omega) (by omega) ?_; intro A1 k1 w1 O1 S1; have D1 : Chg [] w w1 := Chg.new ‹Chg [] w _› S1.c (by intro k hk; have := fpv_some hk; omega); have F1 : ∀ k ∈ fpv (.slice A1 i k1), w.heap.size ≤ k := (fun k hk => by (rcases S1.f k hk with h1 | h1) <;> (first | (have := fpv_some h1; omega) | (simp at h1; omega))); (first | (first | have X1 := S1.c.blk (Blk.new _ 3 #[.int .i64 x]) (fun hm => absurd (fpv_some hm) (by simp)) | have X1 := S1.c.blk (Blk.new _ 3 #[.int .i64 x]).drew (fun hm => absurd (fpv_some hm) (by simp)) | have X1 := S1.c.blk ((Blk.new _ 3 #[.int .i64 x]).alloc _) (fun hm => absurd (fpv_some hm) (by simp)) | have X1 := S1.c.blk ((Blk.new _ 3 #[.int .i64 x]).alloc _).drew (fun hm => absurd (fpv_some hm) (by simp))) <;> (try simp only [World.size_alloc] at X1) | skip)))
          all_goals
            have HF := Lib.hid (And.intro O3 (And.intro D3 F3)); clear O3 D3 F3 O1 S1 D1 F1 O2 S2 D2 F2 S3
            go_wp2_with fail
            go_ret
            exact ⟨_, rfl, by rw [putL_new (by omega) HT.out.1 (fun z hz => by rw [HT.out.2.1] at hz; injection hz with hz; have := HE.out; omega)]; simpa using HF.out.1, ⟨HF.out.2.1.mono (by simp), fun k hk => .inr (HF.out.2.2 k hk)⟩⟩
    · obtain rfl : i = xs.length := by omega
      have hi' : ¬ (xs.length : Int) < (xs.length : Int) := by omega
      have HT := Lib.hid hall; clear hall e hin
      have hcap := H.out.1.cap
      have hnil : A = none → xs = [] ∧ c = 0 := fun e => by
        rcases H.out.1.o.2 with ⟨e1, h0⟩ | ⟨g, cap, cur, e1, _⟩
        · injection e1 with _ _ e3; exact ⟨List.eq_nil_of_length_eq_zero h0, e3⟩
        · injection e1 with e2; rw [e] at e2; cases e2
      have hsome : ∀ ad, A = some ad → ∃ g, ad = ⟨g, 0, none⟩ := fun ad e => by
        rcases H.out.1.o.2 with ⟨e1, h0⟩ | ⟨g, cap, cur, e1, _⟩
        · injection e1 with e2; rw [e] at e2; cases e2
        · injection e1 with e2; rw [e] at e2; injection e2 with e2; exact ⟨g, e2⟩
      cases A with
      | none =>
        obtain ⟨rfl, rfl⟩ := hnil rfl
        clear hnil hsome hcap
        go_upto_region 6 with fail
        go_region_held3 (fun w' => Chg [] w w') (first | (go_keep; done) | assumption | exact Chg.refl [] w | exact (Chg.refl [] w).drew | exact Chg.alloc (by assumption) _ | exact (Chg.alloc (by assumption) _).drew | exact Chg.drew (by assumption))
          (first
            | (refine step_cat_n (by rfl) _ _ (by rfl) slty (by rfl) O2 (by rfl) (by first | exact SlI.none_ _ w.heap.size _ _ | exact (by simp : 0 - 0 = 0) ▸ SlI.none_ _ w.heap.size _ _) (0 + 1) (by simp) (by omega) ?_; intro A3 k3 w3 O3 S3; have D3 : Chg [] w w3 := Chg.new D2 S3.c F2; have F3 : ∀ k ∈ fpv (.slice A3 (0 + 1) k3), w.heap.size ≤ k := (fun k hk => by (rcases S3.f k hk with h1 | h1) <;> first | exact F2 k h1 | (have := D2.size; omega)))
            | (refine step_cat_n (by rfl) _ _ (by rfl) slty (by rfl) (by first | exact O1 | exact O1.drew | exact O1.alloc _ | exact (O1.alloc _).drew) (by rfl) (by first | exact SlI.one X1 H.out.2.2.2 | exact SlI.one (Blk.new _ _ _) H.out.2.2.2 | exact SlI.one (Blk.new _ _ _).drew H.out.2.2.2) (0 + 1) (by simp) (by omega) ?_; intro A2 k2 w2 O2 S2; have D2 : Chg [] w w2 := Chg.new ‹Chg [] w _› S2.c F1; have F2 : ∀ k ∈ fpv (.slice A2 (0 + 1) k2), w.heap.size ≤ k := (fun k hk => by (rcases S2.f k hk with h1 | h1) <;> first | exact F1 k h1 | (have := D1.size; first | omega | (simp at h1; omega))))
            | (refine step_cat_n (by rfl) _ _ (by rfl) slty (by rfl) (by first | exact OwnI.empty _ _ | exact (OwnI.empty _ _).drew | exact (OwnI.emptyAt (by simp)).drew | exact OwnI.emptyAt (by simp) | exact (OwnI.empty _ _).alloc _ | exact ((OwnI.empty _ _).alloc _).drew) (by rfl) ((H.out.2.1.chg (by assumption : Chg [] w _) (Nat.le_refl _) (by simp)).take (Nat.le_refl _)) 0 (by simp) (by omega) ?_; intro A1 k1 w1 O1 S1; have D1 : Chg [] w w1 := Chg.new ‹Chg [] w _› S1.c (by intro k hk; have := fpv_some hk; omega); have F1 : ∀ k ∈ fpv (.slice A1 0 k1), w.heap.size ≤ k := (fun k hk => by (rcases S1.f k hk with h1 | h1) <;> (first | (have := fpv_some h1; omega) | (simp at h1; omega))); (first | (first | have X1 := S1.c.blk (Blk.new _ 3 #[.int .i64 x]) (fun hm => absurd (fpv_some hm) (by simp)) | have X1 := S1.c.blk (Blk.new _ 3 #[.int .i64 x]).drew (fun hm => absurd (fpv_some hm) (by simp)) | have X1 := S1.c.blk ((Blk.new _ 3 #[.int .i64 x]).alloc _) (fun hm => absurd (fpv_some hm) (by simp)) | have X1 := S1.c.blk ((Blk.new _ 3 #[.int .i64 x]).alloc _).drew (fun hm => absurd (fpv_some hm) (by simp))) <;> (try simp only [World.size_alloc] at X1) | skip)))
        all_goals
          have HF := Lib.hid (And.intro O3 (And.intro D3 F3)); clear O3 D3 F3 O1 S1 D1 F1 O2 S2 D2 F2 S3
          go_wp2_with fail
          go_ret
          exact ⟨_, rfl, by rw [putL_new (Nat.le_refl _) HT.out (fun z hz => by simp at hz)]; simpa using HF.out.1, ⟨HF.out.2.1.mono (by simp), fun k hk => .inr (HF.out.2.2 k hk)⟩⟩
      | some ad =>
        obtain ⟨g, rfl⟩ := hsome ad rfl
        clear hnil hsome
        have h0i : (0 : Int) ≤ (xs.length : Int) := by omega
        have hic : (xs.length : Int) ≤ (c : Int) := by omega
        by_cases hcn : c = xs.length
        · obtain rfl := hcn
          clear hcap
          go_upto_region 6 with fail
          go_region_held3 (fun w' => Chg [] w w') (first | (go_keep; done) | assumption | exact Chg.refl [] w | exact (Chg.refl [] w).drew | exact Chg.alloc (by assumption) _ | exact (Chg.alloc (by assumption) _).drew | exact Chg.drew (by assumption))
            (first
              | (refine step_cat_n (by rfl) _ _ (by rfl) slty (by rfl) O2 (by rfl) (by first | exact SlI.none_ _ w.heap.size _ _ | exact (by simp : xs.length - xs.length = 0) ▸ SlI.none_ _ w.heap.size _ _) (xs.length + 1) (by simp) (by omega) ?_; intro A3 k3 w3 O3 S3; have D3 : Chg [] w w3 := Chg.new D2 S3.c F2; have F3 : ∀ k ∈ fpv (.slice A3 (xs.length + 1) k3), w.heap.size ≤ k := (fun k hk => by (rcases S3.f k hk with h1 | h1) <;> first | exact F2 k h1 | (have := D2.size; omega)))
              | (refine step_cat_n (by rfl) _ _ (by rfl) slty (by rfl) (by first | exact O1 | exact O1.drew | exact O1.alloc _ | exact (O1.alloc _).drew) (by rfl) (by first | exact SlI.one X1 H.out.2.2.2 | exact SlI.one (Blk.new _ _ _) H.out.2.2.2 | exact SlI.one (Blk.new _ _ _).drew H.out.2.2.2) (xs.length + 1) (by simp) (by omega) ?_; intro A2 k2 w2 O2 S2; have D2 : Chg [] w w2 := Chg.new ‹Chg [] w _› S2.c F1; have F2 : ∀ k ∈ fpv (.slice A2 (xs.length + 1) k2), w.heap.size ≤ k := (fun k hk => by (rcases S2.f k hk with h1 | h1) <;> first | exact F1 k h1 | (have := D1.size; first | omega | (simp at h1; omega))))
              | (refine step_cat_n (by rfl) _ _ (by rfl) slty (by rfl) (by first | exact OwnI.empty _ _ | exact (OwnI.empty _ _).drew | exact (OwnI.emptyAt (by simp)).drew | exact OwnI.emptyAt (by simp) | exact (OwnI.empty _ _).alloc _ | exact ((OwnI.empty _ _).alloc _).drew) (by rfl) ((H.out.2.1.chg (by assumption : Chg [] w _) (Nat.le_refl _) (by simp)).take (Nat.le_refl _)) xs.length (by simp) (by omega) ?_; intro A1 k1 w1 O1 S1; have D1 : Chg [] w w1 := Chg.new ‹Chg [] w _› S1.c (by intro k hk; have := fpv_some hk; omega); have F1 : ∀ k ∈ fpv (.slice A1 xs.length k1), w.heap.size ≤ k := (fun k hk => by (rcases S1.f k hk with h1 | h1) <;> (first | (have := fpv_some h1; omega) | (simp at h1; omega))); (first | (first | have X1 := S1.c.blk (Blk.new _ 3 #[.int .i64 x]) (fun hm => absurd (fpv_some hm) (by simp)) | have X1 := S1.c.blk (Blk.new _ 3 #[.int .i64 x]).drew (fun hm => absurd (fpv_some hm) (by simp)) | have X1 := S1.c.blk ((Blk.new _ 3 #[.int .i64 x]).alloc _) (fun hm => absurd (fpv_some hm) (by simp)) | have X1 := S1.c.blk ((Blk.new _ 3 #[.int .i64 x]).alloc _).drew (fun hm => absurd (fpv_some hm) (by simp))) <;> (try simp only [World.size_alloc] at X1) | skip)))
          all_goals
            have HF := Lib.hid (And.intro O3 (And.intro D3 F3)); clear O3 D3 F3 O1 S1 D1 F1 O2 S2 D2 F2 S3
            go_wp2_with fail
            go_ret
            exact ⟨_, rfl, by rw [putL_new (Nat.le_refl _) HT.out (fun z hz => by simp at hz)]; simpa using HF.out.1, ⟨HF.out.2.1.mono (by simp), fun k hk => .inr (HF.out.2.2 k hk)⟩⟩
        · clear hcap
          go_upto_region 6 with fail
          go_region_held3 (fun w' => Chg [] w w') (first | (go_keep; done) | assumption | exact Chg.refl [] w | exact (Chg.refl [] w).drew | exact Chg.alloc (by assumption) _ | exact (Chg.alloc (by assumption) _).drew | exact Chg.drew (by assumption))
            (first
              | (refine step_cat_n (by rfl) _ _ (by rfl) slty (by rfl) O2 (by rfl) (by first | exact SlI.none_ _ w.heap.size _ _ | exact (by simp : xs.length - xs.length = 0) ▸ SlI.none_ _ w.heap.size _ _) (xs.length + 1) (by simp) (by omega) ?_; intro A3 k3 w3 O3 S3; have D3 : Chg [] w w3 := Chg.new D2 S3.c F2; have F3 : ∀ k ∈ fpv (.slice A3 (xs.length + 1) k3), w.heap.size ≤ k := (fun k hk => by (rcases S3.f k hk with h1 | h1) <;> first | exact F2 k h1 | (have := D2.size; omega)))
              | (refine step_cat_n (by rfl) _ _ (by rfl) slty (by rfl) (by first | exact O1 | exact O1.drew | exact O1.alloc _ | exact (O1.alloc _).drew) (by rfl) (by first | exact SlI.one X1 H.out.2.2.2 | exact SlI.one (Blk.new _ _ _) H.out.2.2.2 | exact SlI.one (Blk.new _ _ _).drew H.out.2.2.2) (xs.length + 1) (by simp) (by omega) ?_; intro A2 k2 w2 O2 S2; have D2 : Chg [] w w2 := Chg.new ‹Chg [] w _› S2.c F1; have F2 : ∀ k ∈ fpv (.slice A2 (xs.length + 1) k2), w.heap.size ≤ k := (fun k hk => by (rcases S2.f k hk with h1 | h1) <;> first | exact F1 k h1 | (have := D1.size; first | omega | (simp at h1; omega))))
              | (refine step_cat_n (by rfl) _ _ (by rfl) slty (by rfl) (by first | exact OwnI.empty _ _ | exact (OwnI.empty _ _).drew | exact (OwnI.emptyAt (by simp)).drew | exact OwnI.emptyAt (by simp) | exact (OwnI.empty _ _).alloc _ | exact ((OwnI.empty _ _).alloc _).drew) (by rfl) ((H.out.2.1.chg (by assumption : Chg [] w _) (Nat.le_refl _) (by simp)).take (Nat.le_refl _)) xs.length (by simp) (by omega) ?_; intro A1 k1 w1 O1 S1; have D1 : Chg [] w w1 := Chg.new ‹Chg [] w _› S1.c (by intro k hk; have := fpv_some hk; omega); have F1 : ∀ k ∈ fpv (.slice A1 xs.length k1), w.heap.size ≤ k := (fun k hk => by (rcases S1.f k hk with h1 | h1) <;> (first | (have := fpv_some h1; omega) | (simp at h1; omega))); (first | (first | have X1 := S1.c.blk (Blk.new _ 3 #[.int .i64 x]) (fun hm => absurd (fpv_some hm) (by simp)) | have X1 := S1.c.blk (Blk.new _ 3 #[.int .i64 x]).drew (fun hm => absurd (fpv_some hm) (by simp)) | have X1 := S1.c.blk ((Blk.new _ 3 #[.int .i64 x]).alloc _) (fun hm => absurd (fpv_some hm) (by simp)) | have X1 := S1.c.blk ((Blk.new _ 3 #[.int .i64 x]).alloc _).drew (fun hm => absurd (fpv_some hm) (by simp))) <;> (try simp only [World.size_alloc] at X1) | skip)))
          all_goals
            have HF := Lib.hid (And.intro O3 (And.intro D3 F3)); clear O3 D3 F3 O1 S1 D1 F1 O2 S2 D2 F2 S3
            go_wp2_with fail
            go_ret
            exact ⟨_, rfl, by rw [putL_new (Nat.le_refl _) HT.out (fun z hz => by simp at hz)]; simpa using HF.out.1, ⟨HF.out.2.1.mono (by simp), fun k hk => .inr (HF.out.2.2 k hk)⟩⟩
end Go.Proofs.YtkocikpoagfonaaDoor
