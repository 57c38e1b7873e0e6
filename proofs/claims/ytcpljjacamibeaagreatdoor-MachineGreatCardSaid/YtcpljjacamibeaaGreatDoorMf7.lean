/- Both machine and model, of a program: fresh, New. -/
import Derived.Test.YtcpljjacamibeaaGreatDoorMf5J
import Derived.Test.YtcpljjacamibeaaGreatDoorMe3J
import Derived.Test.YtcpljjacamibeaaGreatDoorMArJ
import Derived.Laws.IdiomStrings
namespace Go.Proofs.YtcpljjacamibeaaGreatDoor
set_option maxHeartbeats 16000000
set_option maxRecDepth 100000
open Go.RowKit Go.Maps
theorem conv_back (w : World) (bs : List Nat) (hb : ∀ x ∈ bs, x < 256) : ∃ A c w', (convert 9 73 (.string (strOfNums (bs.map fun n : Nat => (n : Int))))).run Tryz.prog w = .ok (.slice A bs.length c) w' ∧ RdV w' w'.heap.size (.slice A bs.length c) (u8s bs) ∧ Chg [] w w' := by
  have h := run_bytes_of_string (P := Tryz.prog) w 9 73 5 (strOfNums (bs.map fun n : Nat => (n : Int))) Tryz.underlying9 Tryz.underlying73 Tryz.underlying5
  have hs : (strOfNums (bs.map fun n : Nat => (n : Int))).size = bs.length := by rw [strOfNums_size, List.length_map]
  rw [hs] at h
  generalize hN : grownCap w bs.length 0 5 = N at h
  refine ⟨_, _, _, h, ⟨⟨_, _, by rw [u8s_len]⟩, (fun A m c e i y hy => ?_), u8s_one2 bs⟩, ((Chg.refl [] w).drew).alloc _⟩
  injection e with e1 e2 e3
  have hi : i < bs.length := by have := (List.getElem?_eq_some_iff.1 hy).1; rwa [u8s_len] at this
  refine ⟨w.heap.size, 0, e1.symm, by rw [World.size_alloc]; show w.heap.size < w.heap.size + 1; omega, ?_⟩
  have hd : i < (strOfNums (bs.map fun n : Nat => (n : Int))).data.size := by
    have : (strOfNums (bs.map fun n : Nat => (n : Int))).data.size = bs.length := hs
    omega
  have hx := bytesRow_at (strOfNums (bs.map fun n : Nat => (n : Int))) N i hd
  have hx2 : y = .int .u8 (bs[i] : Nat) := by
    have := u8s_at (List.getElem?_eq_getElem hi)
    exact (Option.some.inj (this.symm.trans hy)).symm
  have hval : (((strOfNums (bs.map fun n : Nat => (n : Int))).data[i]'hd).toNat : Int) = (bs[i] : Nat) := by
    have e5 : (strOfNums (bs.map fun n : Nat => (n : Int))).data[i]'hd = UInt8.ofNat bs[i] := by
      unfold strOfNums
      simp
    rw [e5]
    have h256 := hb bs[i] (List.getElem_mem hi)
    show ((UInt8.ofNat bs[i]).toNat : Int) = _
    rw [UInt8.toNat_ofNat']
    have : bs[i] % 2 ^ 8 = bs[i] := Nat.mod_eq_of_lt h256
    rw [this]
  rw [hval] at hx
  rw [hx2]
  have hcell : (World.alloc w.drew (.cells (bytesRow (strOfNums (bs.map fun n : Nat => (n : Int))) N) 5 ((bytesRow (strOfNums (bs.map fun n : Nat => (n : Int))) N).size, (bytesRow (strOfNums (bs.map fun n : Nat => (n : Int))) N).size + 1))).heap[w.heap.size]? = some (.cells (bytesRow (strOfNums (bs.map fun n : Nat => (n : Int))) N) 5 ((bytesRow (strOfNums (bs.map fun n : Nat => (n : Int))) N).size, (bytesRow (strOfNums (bs.map fun n : Nat => (n : Int))) N).size + 1)) := heap_alloc_new w.drew _
  rw [Nat.zero_add]
  unfold World.cell?
  rw [hcell]
  exact hx
structure NwX (B : Nat) (w : World) (G : Nat) (vf : Value) (gX gg gs gl : Nat) (vg : Value) : Prop where
  x : Blk w gX 71 (mdC G vf vg (.slice (some ⟨gl, 0, none⟩) G G) (.slice none 0 0) (.slice none 0 0) (fun _ => .slice none 0 0) 0)
  o : OwnV 86 w vg [.pointer (some ⟨gg, 0, none⟩)]
  g : Blk w gg 85 (mgC 1 0 0 0 (.slice (some ⟨gs, 0, none⟩) 16 16))
  s : Blk w gs 3 (zcells (.int .i64 0) 16)
  l : Blk w gl 3 (zcells (.int .i64 0) G)
  nX : B ≤ gX
  ng : B ≤ gg
  ns : B ≤ gs
  nl : B ≤ gl
  nv : ∀ k ∈ fpv vg, B ≤ k
  d1 : gl ≠ gs
  d2 : gX ∉ fpv vg
  d3 : gl ∉ fpv vg
  d4 : gg ∉ fpv vg
  d5 : gs ∉ fpv vg
theorem NwX.chg0 {B G gX gg gs gl : Nat} {w w' : World} {vf vg : Value} (h : NwX B w G vf gX gg gs gl vg) (c : Chg [] w w') : NwX B w' G vf gX gg gs gl vg :=
  ⟨c.blk h.x (by simp), h.o.chg0 c, c.blk h.g (by simp), c.blk h.s (by simp), c.blk h.l (by simp), h.nX, h.ng, h.ns, h.nl, h.nv, h.d1, h.d2, h.d3, h.d4, h.d5⟩
theorem NwX.low {B B' G gX gg gs gl : Nat} {w : World} {vf vg : Value} (h : NwX B w G vf gX gg gs gl vg) (hB : B' ≤ B) : NwX B' w G vf gX gg gs gl vg :=
  ⟨h.x, h.o, h.g, h.s, h.l, Nat.le_trans hB h.nX, Nat.le_trans hB h.ng, Nat.le_trans hB h.ns, Nat.le_trans hB h.nl, fun k hk => Nat.le_trans hB (h.nv k hk), h.d1, h.d2, h.d3, h.d4, h.d5⟩
theorem rmodel_nw (w : World) (G : Nat) (A : Option Addr) (n c : Nat) (hG : G ≤ 1000) : Calls Tryz.prog 19 #[.agg #[.int .i64 (G : Nat), .slice A n c]] w fun e w' => ∃ gX gg gs gl vg, e = .returned (.pointer (some ⟨gX, 0, none⟩)) ∧ NwX w.heap.size w' G (.slice A n c) gX gg gs gl vg ∧ Chg [] w w' :=
  (rmodel_ok w G A n c hG).mono fun e w' ⟨gX, gg, gs, gl, vg, he, x, o, g, s, l, nX, ng, ns, nl, nv, a1, a2, a3, a4, a5, a6, d2, d3, d4, d5, cc⟩ => ⟨gX, gg, gs, gl, vg, he, ⟨x, o, g, s, l, nX, ng, ns, nl, nv, a5, d2, d3, d4, d5⟩, cc⟩
def wwC (gm gX : Nat) (P wo : Int) (b1 b2 : Nat) (va : Value) : Array Value := #[.pointer (some ⟨gm, 0, none⟩), .pointer (some ⟨gX, 0, none⟩), .int .i64 P, .int .i64 wo, .float .f64 b1, .float .f64 b2, va, .bool false,
  .int .i64 0, .int .i64 0, .int .i64 0, .slice none 0 0, .slice none 0 0, .slice none 0 0, .int .i64 0, .int .i64 0, .int .i64 0, .int .i64 0, .int .i64 0, .int .i64 0, .bool false, .int .i64 0]
def FrS (P n G wo b1 b2 : Nat) (fs : List (List Ins)) (vf : Value) (w w' : World) (gW gA gX gg gs gl : Nat) (vg : Value) (p : MAt) (m : Mac) : Prop :=
  (∃ pct on part t g r, 0 < t ∧ m = spawnA { mk0m G fs (wo : Nat) pct on part n P with gT := t, gG := g, gR := r } 0 0 0) ∧ p.vq = .slice none 0 0 ∧ p.vtm = .slice none 0 0 ∧ p.vfr = .slice none 0 0 ∧ p.vco = .slice none 0 0 ∧ MM ⟨w, []⟩ w' p m ∧
  (∃ B, w.heap.size ≤ B ∧ (∀ k j, MF p m k j → j < B) ∧ NwX B w' G vf gX gg gs gl vg ∧ B ≤ gW ∧ B ≤ gA) ∧ Blk w' gW 45 (wwC p.gm gX P wo b1 b2 (.slice (some ⟨gA, 0, none⟩) 1 1)) ∧ Blk w' gA 3 #[.int .i64 0] ∧ gA ≠ gl ∧ gA ≠ gs
def FrPost (P n G wo b1 b2 : Nat) (fs : List (List Ins)) (vf : Value) (w : World) (e : Ending) (w' : World) : Prop :=
  ∃ gW gA gX gg gs gl vg p m, e = .returned (.pointer (some ⟨gW, 0, none⟩)) ∧ FrS P n G wo b1 b2 fs vf w w' gW gA gX gg gs gl vg p m
theorem MM.base0 {W0 W w : World} {p : MAt} {m : Mac} (M : MM ⟨W, []⟩ w p m) (c : Chg [] W0 W) : MM ⟨W0, []⟩ w p m := by
  refine ⟨c.trans M.c, fun k j h => .inr ?_, M.hi, M.ap, fun k => ?_⟩
  · rcases M.lo k j h with h | h
    · exact absurd h (by simp)
    · exact Nat.le_trans c.size h
  · cases k
    case heap => exact HpS.base (M.k .heap) (wE_chg c)
    case mach => exact M.k .mach
    case states => exact M.k .states
    case gsl => exact M.k .gsl
    case gor g => exact M.k (.gor g)
    case psl => exact M.k .psl
    case proc q => exact M.k (.proc q)
    case notes q => exact M.k (.notes q)
    case sched => exact M.k .sched
    case timers => exact M.k .timers
    case waits => exact M.k .waits
    case globs => exact M.k .globs
    case phases => exact M.k .phases
    case commits => exact M.k .commits
    case parked => exact M.k .parked
    case freed => exact M.k .freed
    case prog => exact M.k .prog
theorem enc_lt {G : Nat} {fs : List (List Ins)} (h : OkP G fs) : ∀ x ∈ encP G fs, x < 256 := by
  intro x hx
  unfold encP at hx
  have h1 := h.f1
  have h2 := h.g
  rcases List.mem_cons.1 hx with rfl | hx
  · omega
  · rcases List.mem_cons.1 hx with rfl | hx
    · omega
    · obtain ⟨l, hl, hx⟩ := List.mem_flatMap.1 hx
      obtain ⟨-, h4, h5⟩ := h.s l hl
      rcases List.mem_cons.1 hx with rfl | hx
      · omega
      · obtain ⟨i, hi, hx⟩ := List.mem_flatMap.1 hx
        obtain ⟨-, a1, a2, a3, a4⟩ := h5 i hi
        simp [encI] at hx
        rcases hx with rfl | rfl | rfl | rfl <;> assumption
theorem fresh_ok (w : World) (P n G wo b1 b2 : Nat) (A : Option Addr) (c : Nat) (vs : List Value) (fs : List (List Ins)) (R : PrR w w.heap.size (.slice A fs.length c) vs fs) (hok : OkP G fs) (hP1 : 1 ≤ P) (hP : P ≤ 64) (hn : 4 ≤ n) (hn2 : n ≤ 262144) (hwo : wo = n * 64) :
    Calls Tryz.prog 30 #[.agg #[.int .i64 (P : Nat), .int .i64 (wo : Nat), .float .f64 b1, .float .f64 b2], .agg #[.int .i64 (G : Nat), .slice A fs.length c]] w (FrPost P n G wo b1 b2 fs (.slice A fs.length c) w) := by
  have HR := Lib.hid R; clear R
  have HWO := Lib.hid hwo; clear hwo
  go_enter Tryz.func30, Tryz.ntmps30
  go_upto_region 1 with fail
  obtain ⟨w1, hw1⟩ : ∃ w1, w1 = (w.alloc (.cells #[.int .i64 (P : Nat), .int .i64 (wo : Nat), .float .f64 b1, .float .f64 b2] 24)).alloc (.cells #[.int .i64 (G : Nat), .slice A fs.length c] 30) := ⟨_, rfl⟩
  obtain ⟨gC, hgC⟩ : ∃ g, g = w.heap.size := ⟨_, rfl⟩
  obtain ⟨gP, hgP⟩ : ∃ g, g = w.heap.size + 1 := ⟨_, rfl⟩
  rw [← hw1, ← hgP, ← hgC]
  have BC : Blk w1 gC 24 #[.int .i64 (P : Nat), .int .i64 (wo : Nat), .float .f64 b1, .float .f64 b2] := by rw [hw1, hgC]; exact (Blk.new w _ _).alloc _
  have BP : Blk w1 gP 30 #[.int .i64 (G : Nat), .slice A fs.length c] := by
    rw [hw1, hgP]
    have h := Blk.new (w.alloc (.cells #[.int .i64 (P : Nat), .int .i64 (wo : Nat), .float .f64 b1, .float .f64 b2] 24)) 30 #[.int .i64 (G : Nat), .slice A fs.length c]
    rw [World.size_alloc] at h
    exact h
  have c01 : Chg [] w w1 := by rw [hw1]; exact ((Chg.refl [] w).alloc _).alloc _
  have p0 : w1.cell? ⟨gP, 0, none⟩ = some (.int .i64 (G : Nat)) := BP.cellv 0 rfl
  have p1 : w1.cell? ⟨gP, 1, none⟩ = some (.slice A fs.length c) := BP.cellv 1 rfl
  have R1 : PrR w1 w1.heap.size (.slice A fs.length c) vs fs := by
    have R1 := HR.out.chg0 c01 (Nat.le_refl _)
    exact ⟨R1.o.mono c01.size, R1.n, fun i u l h1 h2 => ⟨(R1.f i u l h1 h2).ex, fun A n c e j x hx => by
      obtain ⟨b, off, e1, e2, e3⟩ := (R1.f i u l h1 h2).at_ A n c e j x hx
      exact ⟨b, off, e1, Nat.lt_of_lt_of_le e2 c01.size, e3⟩⟩⟩
  have KE := rencode_ok w1 G _ vs fs R1 hok
  have H1 := Lib.hid (And.intro BC (And.intro BP (And.intro c01 KE))); clear BC BP c01 KE R1 hw1 hgP hgC
  go_wp2_with fail
  refine (H1.out.2.2.2).mono ?_
  rintro e w2 ⟨rfl, c12⟩
  have B2 := c12.blk H1.out.1 (by simp)
  have t0 : w2.cell? ⟨gC, 0, none⟩ = some (.int .i64 (P : Nat)) := B2.cellv 0 rfl
  have t1 : w2.cell? ⟨gC, 1, none⟩ = some (.int .i64 (wo : Nat)) := B2.cellv 1 rfl
  have t2 : w2.cell? ⟨gC, 2, none⟩ = some (.float .f64 b1) := B2.cellv 2 rfl
  have t3 : w2.cell? ⟨gC, 3, none⟩ = some (.float .f64 b2) := B2.cellv 3 rfl
  obtain ⟨st, hst⟩ : ∃ st, st = strOfNums ((encP G fs).map fun n : Nat => (n : Int)) := ⟨_, rfl⟩
  rw [← hst]
  obtain ⟨Ab, cb, w3, hcv, R3, c23⟩ := conv_back w2 (encP G fs) (enc_lt hok)
  rw [← hst] at hcv
  obtain ⟨nb, hnb⟩ : ∃ nb, nb = (encP G fs).length := ⟨_, rfl⟩
  rw [← hnb] at hcv R3
  have hlen : nb ≤ 100000 := by
    have := encT_len G fs (fun l hl => (hok.s l hl).2.1) fs.length (Nat.le_refl _)
    rw [encT_all] at this
    have h16 := hok.f1
    omega
  have KN := m_new w3 P n G wo b1 b2 _ (encP G fs) fs hP1 hP hn hn2 R3 (by rw [← hnb]; exact hlen) (enc_lt hok) (decP_enc hok) (by have := hok.g; omega) HWO.out
  have H2 := Lib.hid (And.intro B2 (And.intro (c12.blk H1.out.2.1 (by simp)) (And.intro (H1.out.2.2.1.trans c12) (And.intro c23 KN)))); clear B2 c12 c23 R3 KN p0 p1 hst hnb hlen
  go_wp2_with fail
  refine (H2.out.2.2.2.2).mono ?_
  rintro e w4 ⟨p, pct, on, part, t, g, r, rfl, ht0, hq, htm, hfr, hco, M⟩
  have ht := ht0.2.1.pos
  clear ht0
  have M4 := M.base0 (H2.out.2.2.1.trans H2.out.2.2.2.1)
  have c24 : Chg [] w2 w4 := H2.out.2.2.2.1.trans M.c
  obtain ⟨m, hm⟩ : ∃ m, m = spawnA { mk0m G fs (wo : Nat) pct on part n P with gT := t, gG := g, gR := r } 0 0 0 := ⟨_, rfl⟩
  rw [← hm] at M4
  have hmm : ∃ pct on part t g r, 0 < t ∧ m = spawnA { mk0m G fs (wo : Nat) pct on part n P with gT := t, gG := g, gR := r } 0 0 0 := ⟨pct, on, part, t, g, r, ht, hm⟩
  have B4 := c24.blk H2.out.1 (by simp)
  have P4 := c24.blk H2.out.2.1 (by simp)
  have t0 : w4.cell? ⟨gC, 0, none⟩ = some (.int .i64 (P : Nat)) := B4.cellv 0 rfl
  have t1 : w4.cell? ⟨gC, 1, none⟩ = some (.int .i64 (wo : Nat)) := B4.cellv 1 rfl
  have t2 : w4.cell? ⟨gC, 2, none⟩ = some (.float .f64 b1) := B4.cellv 2 rfl
  have t3 : w4.cell? ⟨gC, 3, none⟩ = some (.float .f64 b2) := B4.cellv 3 rfl
  have p0 : w4.cell? ⟨gP, 0, none⟩ = some (.int .i64 (G : Nat)) := P4.cellv 0 rfl
  have p1 : w4.cell? ⟨gP, 1, none⟩ = some (.slice A fs.length c) := P4.cellv 1 rfl
  have l0 := B4.lt
  have l1 := P4.lt
  have KX := fun w' => rmodel_nw w' G A fs.length c (by have := hok.g; omega)
  have H4 := Lib.hid (And.intro hmm (And.intro hq (And.intro htm (And.intro hfr (And.intro hco (And.intro M4 KX)))))); clear hmm hq htm hfr hco M4 KX hm ht M c24 B4 P4 hcv
  go_upto_region 5 with fail
  refine wp_region_takes (fuel := 5) 5 (fun w' => Chg [] w4 w') [0, 1, 3] (by kernel_rfl) (by kernel_rfl) (fun _ _ _ _ _ h => h) ((Chg.refl [] w4).drew) ?_
  simp only [List.filterMap_cons, List.filterMap_nil, qGa, qGb]
  iterate 3
    refine wpTake_step (fun K hK => ?_)
    rw [if_pos (by rfl)]
    refine ⟨?_, fun w' hS' => ?_, ?_⟩
    rotate_left 1
    focus
      have j0 := hS'.cellv l0 (by simp) t0
      have j1 := hS'.cellv l0 (by simp) t1
      have j2 := hS'.cellv l0 (by simp) t2
      have j3 := hS'.cellv l0 (by simp) t3
      have j4 := hS'.cellv l1 (by simp) p0
      have j5 := hS'.cellv l1 (by simp) p1
      go_simp
      try with_reducible rfl
      done
    simp only [Act.put, qSa, qSb, qSc]
    refine hK _ ?_
    clear hK K
  refine wpTake_nil ?_
  generalize hx0 : w4.drew = x0
  have D0 : Chg [] w4 x0 := by rw [← hx0]; exact (Chg.refl [] w4).drew
  clear hx0
  refine wpAnyS_ready (rs := [2, 4]) (by kernel_rfl) (by simp) ?_
  refine AllReadyS.cons (by simp only [qGc, qGa, qGb]; rfl) (fun K hK => ?_) ?_
  · rw [if_pos (by rfl)]
    go_simp
    go_at_call 19
    refine (H4.out.2.2.2.2.2.2 _).mono ?_
    rintro e x1 ⟨gX, gg, gs, gl, vg, rfl, NX, c1⟩
    dsimp only
    have D1 := D0.trans c1
    have NX := NX.low D0.size
    refine hK _ _ (D1) ?_
    clear hK K
    try simp only [Act.put, qSa, qSb, qSc]
    refine wpAnyS_ready (rs := [4]) (by kernel_rfl) (by simp) ?_
    refine AllReadyS.o (fun K hK => ?_)
    refine step_lit1 slvI28 rfl (by rfl) (by rfl) rfl ?_
    intro gA x2 BA c2 hgA
    have D2 := D1.trans c2
    have nA : w4.heap.size ≤ gA := by rw [hgA]; exact D1.size
    have hAl : gA ≠ gl := by rw [hgA]; have h2 := NX.l.lt; omega
    have hAs : gA ≠ gs := by rw [hgA]; have h2 := NX.s.lt; omega
    clear hgA
    have NX := NX.chg0 c2
    refine hK _ _ (D2) ?_
    clear hK K
    try simp only [Act.put, qSa, qSb, qSc]
    refine wpAnyS_tail 5 3 (by kernel_rfl) rfl ?_
    simp only [qDa, qDb]
    go_wp2_with fail
    go_ret
    have DA := D2.alloc (.cells (wwC p.gm gX P wo b1 b2 (.slice (some ⟨gA, 0, none⟩) 1 1)) 45)
    exact ⟨_, gA, gX, gg, gs, gl, vg, p, m, rfl, H4.out.1, H4.out.2.1, H4.out.2.2.1, H4.out.2.2.2.1, H4.out.2.2.2.2.1, H4.out.2.2.2.2.2.1.chg0 DA,
      ⟨w4.heap.size, H4.out.2.2.2.2.2.1.c.size, H4.out.2.2.2.2.2.1.hi, NX.chg0 ((Chg.refl [] _).alloc _), D2.size, nA⟩, Blk.new _ _ _, BA.alloc _, hAl, hAs⟩
  refine AllReadyS.o (fun K hK => ?_)
  refine step_lit1 slvI28 rfl (by rfl) (by rfl) rfl ?_
  intro gA x3 BA c3 hgA
  have D3 := D0.trans c3
  have nA : w4.heap.size ≤ gA := by rw [hgA]; exact D0.size
  clear hgA
  refine hK _ _ (D3) ?_
  clear hK K
  try simp only [Act.put, qSa, qSb, qSc]
  refine wpAnyS_ready (rs := [2]) (by kernel_rfl) (by simp) ?_
  refine AllReadyS.o (fun K hK => ?_)
  rw [if_pos (by rfl)]
  go_simp
  go_at_call 19
  refine (H4.out.2.2.2.2.2.2 _).mono ?_
  rintro e x4 ⟨gX, gg, gs, gl, vg, rfl, NX, c4⟩
  dsimp only
  have D4 := D3.trans c4
  have hAl : gA ≠ gl := by have h1 := NX.nl; have h2 := BA.lt; omega
  have hAs : gA ≠ gs := by have h1 := NX.ns; have h2 := BA.lt; omega
  have BA := c4.blk BA (by simp)
  have NX := NX.low D3.size
  refine hK _ _ (D4) ?_
  clear hK K
  try simp only [Act.put, qSa, qSb, qSc]
  refine wpAnyS_tail 5 3 (by kernel_rfl) rfl ?_
  simp only [qDa, qDb]
  go_wp2_with fail
  go_ret
  have DA := D4.alloc (.cells (wwC p.gm gX P wo b1 b2 (.slice (some ⟨gA, 0, none⟩) 1 1)) 45)
  exact ⟨_, gA, gX, gg, gs, gl, vg, p, m, rfl, H4.out.1, H4.out.2.1, H4.out.2.2.1, H4.out.2.2.2.1, H4.out.2.2.2.2.1, H4.out.2.2.2.2.2.1.chg0 DA,
    ⟨w4.heap.size, H4.out.2.2.2.2.2.1.c.size, H4.out.2.2.2.2.2.1.hi, NX.chg0 ((Chg.refl [] _).alloc _), D4.size, nA⟩, Blk.new _ _ _, BA.alloc _, hAl, hAs⟩
theorem PrR.up {w : World} {B B' : Nat} {v : Value} {vs : List Value} {fs : List (List Ins)} (h : PrR w B v vs fs) (hB : B ≤ B') : PrR w B' v vs fs :=
  ⟨h.o.mono hB, h.n, fun i u l h1 h2 => ⟨(h.f i u l h1 h2).ex, fun A n c e j x hx => by
    obtain ⟨b, off, e1, e2, e3⟩ := (h.f i u l h1 h2).at_ A n c e j x hx
    exact ⟨b, off, e1, Nat.lt_of_lt_of_le e2 hB, e3⟩⟩⟩
theorem FrPost.low {P n G wo b1 b2 : Nat} {fs : List (List Ins)} {vf : Value} {w0 w w' : World} {e : Ending} (c : Chg [] w0 w) (h : FrPost P n G wo b1 b2 fs vf w e w') : FrPost P n G wo b1 b2 fs vf w0 e w' := by
  obtain ⟨gW, gA, gX, gg, gs, gl, vg, p, m, he, h1, h2, h3, h4, h5, M, ⟨B, hB, k⟩, h6⟩ := h
  exact ⟨gW, gA, gX, gg, gs, gl, vg, p, m, he, h1, h2, h3, h4, h5, M.base0 c, ⟨B, Nat.le_trans c.size hB, k⟩, h6⟩
def BothPost (ps : Int) (G b1 b2 : Nat) (fs : List (List Ins)) (vf : Value) (w : World) (e : Ending) (w' : World) : Prop := ∃ P n : Nat, (ps = 0 → P = 1) ∧ 1 ≤ P ∧ P ≤ 6 ∧ 4 ≤ n ∧ n ≤ 19 ∧ FrPost P n G (n * 64) b1 b2 fs vf w e w'
theorem both_ok (w : World) (ps wo : Int) (G b1 b2 : Nat) (A : Option Addr) (c : Nat) (vs : List Value) (fs : List (List Ins)) (R : PrR w w.heap.size (.slice A fs.length c) vs fs) (hok : OkP G fs) (hsum : fs.length + sumL fs ≤ 2000) :
    Calls Tryz.prog 6 #[.agg #[.int .i64 ps, .int .i64 wo, .float .f64 b1, .float .f64 b2], .agg #[.int .i64 (G : Nat), .slice A fs.length c]] w (BothPost ps G b1 b2 fs (.slice A fs.length c) w) := by
  have HR := Lib.hid (And.intro R (And.intro hok hsum)); clear R hok hsum
  go_enter Tryz.func6, Tryz.ntmps6
  go_upto_region 1 with fail
  obtain ⟨w1, hw1⟩ : ∃ w1, w1 = (w.alloc (.cells #[.int .i64 ps, .int .i64 wo, .float .f64 b1, .float .f64 b2] 24)).alloc (.cells #[.int .i64 (G : Nat), .slice A fs.length c] 30) := ⟨_, rfl⟩
  obtain ⟨gC, hgC⟩ : ∃ g, g = w.heap.size := ⟨_, rfl⟩
  obtain ⟨gP, hgP⟩ : ∃ g, g = w.heap.size + 1 := ⟨_, rfl⟩
  rw [← hw1, ← hgP, ← hgC]
  have BC : Blk w1 gC 24 #[.int .i64 ps, .int .i64 wo, .float .f64 b1, .float .f64 b2] := by rw [hw1, hgC]; exact (Blk.new w _ _).alloc _
  have BP : Blk w1 gP 30 #[.int .i64 (G : Nat), .slice A fs.length c] := by
    rw [hw1, hgP]
    have h := Blk.new (w.alloc (.cells #[.int .i64 ps, .int .i64 wo, .float .f64 b1, .float .f64 b2] 24)) 30 #[.int .i64 (G : Nat), .slice A fs.length c]
    rw [World.size_alloc] at h
    exact h
  have c01 : Chg [] w w1 := by rw [hw1]; exact ((Chg.refl [] w).alloc _).alloc _
  have p0 : w1.cell? ⟨gP, 0, none⟩ = some (.int .i64 (G : Nat)) := BP.cellv 0 rfl
  have p1 : w1.cell? ⟨gP, 1, none⟩ = some (.slice A fs.length c) := BP.cellv 1 rfl
  have KG : ∀ w', Chg [] w w' → Calls Tryz.prog 28 #[.agg #[.int .i64 (G : Nat), .slice A fs.length c]] w' (NwPost (.bool false) w') := fun w' c' => great_ok w' G _ vs fs ((HR.out.1.chg0 c' (Nat.le_refl _)).up c'.size) HR.out.2.2
  have KM : ∀ w', Chg [] w w' → Calls Tryz.prog 29 #[.agg #[.int .i64 (G : Nat), .slice A fs.length c]] w' (NwPost (.int .i64 0) w') := fun w' c' => rmay_ok w' G _ vs fs ((HR.out.1.chg0 c' (Nat.le_refl _)).up c'.size) HR.out.2.1
  have H1 := Lib.hid (And.intro BC (And.intro BP (And.intro c01 (And.intro KG KM)))); clear BC BP c01 KG KM hw1 hgP hgC
  go_wp2_with fail
  refine (H1.out.2.2.2.1 w1 H1.out.2.2.1).mono ?_
  rintro e w2 ⟨rfl, c12⟩
  have P2 := c12.blk H1.out.2.1 (by simp)
  have p0 : w2.cell? ⟨gP, 0, none⟩ = some (.int .i64 (G : Nat)) := P2.cellv 0 rfl
  have p1 : w2.cell? ⟨gP, 1, none⟩ = some (.slice A fs.length c) := P2.cellv 1 rfl
  have H2 := Lib.hid (And.intro c12 P2); clear c12 P2
  go_wp2_with fail
  refine (H1.out.2.2.2.2 w2 (H1.out.2.2.1.trans H2.out.1)).mono ?_
  rintro e w3 ⟨rfl, c23⟩
  have c13 := H2.out.1.trans c23
  have C3 := c13.blk H1.out.1 (by simp)
  have P3 := c23.blk H2.out.2 (by simp)
  have p0 : w3.cell? ⟨gP, 0, none⟩ = some (.int .i64 (G : Nat)) := P3.cellv 0 rfl
  have p1 : w3.cell? ⟨gP, 1, none⟩ = some (.slice A fs.length c) := P3.cellv 1 rfl
  have t0 : w3.cell? ⟨gC, 0, none⟩ = some (.int .i64 ps) := C3.cellv 0 rfl
  have t1 : w3.cell? ⟨gC, 1, none⟩ = some (.int .i64 wo) := C3.cellv 1 rfl
  have t2 : w3.cell? ⟨gC, 2, none⟩ = some (.float .f64 b1) := C3.cellv 2 rfl
  have t3 : w3.cell? ⟨gC, 3, none⟩ = some (.float .f64 b2) := C3.cellv 3 rfl
  have l0 := C3.lt
  have l1 := P3.lt
  have KF := fun w' => fit_ok w' ps wo b1 b2
  have H3 := Lib.hid (And.intro (H1.out.2.2.1.trans c13) KF); clear c13 C3 P3 c23 KF
  go_upto_region 3 with fail
  refine wp_region_takes (fuel := 3) 3 (fun w' => Chg [] w3 w') [0, 2] (by kernel_rfl) (by kernel_rfl) (fun _ _ _ _ _ h => h) ((Chg.refl [] w3).drew) ?_
  simp only [List.filterMap_cons, List.filterMap_nil, qGa, qGb]
  iterate 2
    refine wpTake_step (fun K hK => ?_)
    rw [if_pos (by rfl)]
    refine ⟨?_, fun w' hS' => ?_, ?_⟩
    rotate_left 1
    focus
      have j0 := hS'.cellv l0 (by simp) t0
      have j1 := hS'.cellv l0 (by simp) t1
      have j2 := hS'.cellv l0 (by simp) t2
      have j3 := hS'.cellv l0 (by simp) t3
      have j4 := hS'.cellv l1 (by simp) p0
      have j5 := hS'.cellv l1 (by simp) p1
      go_simp
      try with_reducible rfl
      done
    simp only [Act.put, qSa, qSb, qSc]
    refine hK _ ?_
    clear hK K
  refine wpTake_nil ?_
  generalize hx0 : w3.drew = x0
  have D0 : Chg [] w3 x0 := by rw [← hx0]; exact (Chg.refl [] w3).drew
  clear hx0
  refine wpAnyS_ready (rs := [1]) (by kernel_rfl) (by simp) ?_
  refine AllReadyS.o (fun K hK => ?_)
  rw [if_pos (by rfl)]
  go_simp
  go_at_call 31
  refine (H3.out.2 _).mono ?_
  rintro e x1 ⟨P, n, hP0, hP1, hP6, hn4, hn19, rfl, c1⟩
  dsimp only
  have D1 := D0.trans c1
  refine hK _ _ (D1) ?_
  clear hK K
  try simp only [Act.put, qSa, qSb, qSc]
  refine wpAnyS_tail 3 2 (by kernel_rfl) rfl ?_
  simp only [qDa, qDb]
  have cw := H3.out.1.trans D1
  have KZ := fresh_ok _ P n G (n * 64) b1 b2 A c vs fs ((HR.out.1.chg0 cw (Nat.le_refl _)).up cw.size) HR.out.2.1 hP1 (by omega) hn4 (by omega) rfl
  have HZ := Lib.hid (And.intro cw KZ); clear cw KZ
  go_wp2_with fail
  refine (HZ.out.2).mono ?_
  intro e x9 hZ
  obtain ⟨gW, gA, gX, gg, gs, gl, vg, p, m, rfl, hF⟩ := hZ
  have HF := Lib.hid hF; clear hF
  go_wp2_with fail
  go_ret
  exact ⟨P, n, hP0, hP1, hP6, hn4, hn19, FrPost.low HZ.out.1 ⟨gW, gA, gX, gg, gs, gl, vg, p, m, rfl, HF.out⟩⟩
end Go.Proofs.YtcpljjacamibeaaGreatDoor
