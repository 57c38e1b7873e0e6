/- Package sched: Pick, where the queue in common and the P's own ring are empty. (Printed by wip/genmj3.py.) -/
/- Package machine: take, wherever the goroutine comes from, or nobody. (Printed by wip/genmj4.py.) -/
import Derived.Test.YtcpljjacamibeaaGreatDoorMg5J
import Derived.Laws.EntriesVeiled
import Derived.Test.YtcpljjacamibeaaGreatDoorMcEJ
namespace Go.Proofs.YtcpljjacamibeaaGreatDoor
set_option maxHeartbeats 16000000
set_option maxRecDepth 100000
open Go.RowKit Go.Maps
def PkRel2 (w0 : World) (gs gk gt gv g p : Nat) (tick vic : Int) (gf gr gq P : Nat) (vr vq : Value) (gp : Nat → Nat) (r : Nat → RgR) (com : List Int) (gn : Nat) (idx : Value) (w : World) : Prop :=
  Blk w gf 311 #[.func (Fn.func 208) #[] #[.pointer (some ⟨gt, 0, none⟩), .pointer (some ⟨gs, 0, none⟩)], .func (Fn.func 214) #[.pointer (some ⟨gp p, 0, none⟩)] #[],
    .func (Fn.func 211) #[] #[.pointer (some ⟨gs, 0, none⟩), .pointer (some ⟨gr, 0, none⟩)], .func (Fn.func 212) #[] #[.pointer (some ⟨gs, 0, none⟩), .pointer (some ⟨gv, 0, none⟩), .pointer (some ⟨gk, 0, none⟩), .pointer (some ⟨gr, 0, none⟩)]] ∧
  Blk w gs 100 #[.pointer (some ⟨g, 0, none⟩)] ∧ Blk w gk 3 #[.int .i64 (p : Nat)] ∧ Blk w gt 3 #[.int .i64 tick] ∧ Blk w gv 3 #[.int .i64 vic] ∧ Blk w gr 173 #[.pointer (some ⟨gp p, 0, none⟩)] ∧
  Chg [gq] w0 w ∧ IsSc w g gq P vr vq gp r com ∧ ((gn = 5 ∧ idx = .int .i64 0) ∨ (gn = 4 ∧ idx = .int .i64 1) ∨ (gn = 3 ∧ idx = .int .i64 2) ∨ (gn = 2 ∧ idx = .int .i64 3))
def PkFar (g gq P : Nat) (vr vq : Value) (gp : Nat → Nat) (r' : Nat → RgR) (com : List Int) (x : Int) (b : Bool) (T : List Nat) (w : World) (e : Ending) (w' : World) : Prop :=
  e = .returned (.tuple #[.int .i64 x, .bool b]) ∧ IsSc w' g gq P vr vq gp r' com ∧ Chg (gq :: T) w w'
section
variable {w : World} {g gq P : Nat} {vr vq : Value} {gp : Nat → Nat} {r : Nat → RgR} {com : List Int} (I : IsSc w g gq P vr vq gp r com)
include I
theorem sc_pick_far (hq : vq = .slice none 0 0) (p : Nat) (hp : p < P) (hP : P ≤ 64) (tick vic : Int) (ht : tick = 1 ∨ tick = 61) (hs : (r p).hs = false) (h0 : (r p).n = 0) (x : Int) (bb : Bool) (r2 : Nat → RgR) (T : List Nat) (hx : bb = false → x = 0)
    (K3 : ∀ (w' : World) (gs gv gk gr : Nat), IsSc w' g gq P vr vq gp r com → w'.cell? ⟨gs, 0, none⟩ = some (.pointer (some ⟨g, 0, none⟩)) → w'.cell? ⟨gv, 0, none⟩ = some (.int .i64 vic) → w'.cell? ⟨gk, 0, none⟩ = some (.int .i64 (p : Nat)) → w'.cell? ⟨gr, 0, none⟩ = some (.pointer (some ⟨gp p, 0, none⟩)) → (∀ q, q < P → gr ≠ gp q) →
      Calls Tryz.prog 212 #[.pointer (some ⟨gs, 0, none⟩), .pointer (some ⟨gv, 0, none⟩), .pointer (some ⟨gk, 0, none⟩), .pointer (some ⟨gr, 0, none⟩)] w' (Pk3Post g gq P vr vq gp r2 com x bb T w')) :
    Calls Tryz.prog 142 #[.pointer (some ⟨g, 0, none⟩), .int .i64 (p : Nat), .int .i64 tick, .int .i64 vic] w (PkFar g gq P vr vq gp r2 com x bb T w) := by
  have hmf : ∀ (fn : Fn) (first cap : Array Value) (w : World), (Instr.makeFunc fn first cap).run Tryz.prog w = .ok (.func fn first cap) w := fun _ _ _ _ => rfl
  obtain ⟨A, c, hv⟩ := I.o.slice
  rw [ptrs_len] at hv
  have HI := Lib.hid (And.intro I (And.intro hq (And.intro hv (And.intro hs h0)))); clear I hq hs h0
  have HK3 := Lib.hid K3; clear K3
  go_enter Tryz.func142, Tryz.ntmps142
  go_upto_region 1 with fail
  generalize hw1 : World.alloc (World.alloc (World.alloc (World.alloc w _) _) _) _ = w1
  have W1 : PkW w w.heap.size (w.heap.size + 1) (w.heap.size + 1 + 1) (w.heap.size + 1 + 1 + 1) g p tick vic w1 := by
    rw [← hw1]
    have b1 := Blk.new w 100 #[.pointer (some ⟨g, 0, none⟩)]
    have b2 := Blk.new (w.alloc (.cells #[.pointer (some ⟨g, 0, none⟩)] 100)) 3 #[.int .i64 (p : Nat)]
    have b3 := Blk.new ((w.alloc (.cells #[.pointer (some ⟨g, 0, none⟩)] 100)).alloc (.cells #[.int .i64 (p : Nat)] 3)) 3 #[.int .i64 tick]
    have b4 := Blk.new (((w.alloc (.cells #[.pointer (some ⟨g, 0, none⟩)] 100)).alloc (.cells #[.int .i64 (p : Nat)] 3)).alloc (.cells #[.int .i64 tick] 3)) 3 #[.int .i64 vic]
    simp only [World.size_alloc] at b2 b3 b4
    exact ⟨((b1.alloc _).alloc _).alloc _, (b2.alloc _).alloc _, b3.alloc _, b4, ((((Chg.refl [] w).alloc _).alloc _).alloc _).alloc _⟩
  clear hw1
  generalize w.heap.size + 1 + 1 + 1 = gv at W1 ⊢
  generalize w.heap.size + 1 + 1 = gt at W1 ⊢
  generalize w.heap.size + 1 = gk0 at W1 ⊢
  generalize w.heap.size = gs at W1 ⊢
  have s0 : w1.cell? ⟨gs, 0, none⟩ = some (.pointer (some ⟨g, 0, none⟩)) := W1.s.cellv 0 rfl
  have s1 : w1.cell? ⟨gk0, 0, none⟩ = some (.int .i64 (p : Nat)) := W1.p.cellv 0 rfl
  have I1 := HI.out.1.chg0 W1.c
  have c0 : w1.cell? ⟨g, 0, none⟩ = some vr := I1.b.cellv 0 rfl
  rw [hv] at c0
  have o := I1.o
  rw [hv] at o
  obtain ⟨b, hA, hc, -, -⟩ := o.cell (ptrs_at gp hp)
  subst hA
  have l0 := W1.s.lt
  have l1 := W1.p.lt
  have l2 := I1.b.lt
  have l3 := lt_of_cellM hc
  have d1 : (0 : Int) ≤ p := by omega
  have d2 : (p : Int) < P := by omega
  have H1 := Lib.hid (And.intro W1 I1); clear W1 I1 o hv
  go_wp2_with fail
  refine (sc_has H1.out.2 p hp).mono ?_
  rintro e w1 ⟨rfl, rfl⟩
  go_wp2_with fail
  refine wp_region_takes (fuel := 2) 8 (fun w' => Chg [] w1 w') [0, 1, 2, 3, 4, 5, 6] (by kernel_rfl) (by kernel_rfl) (fun _ _ _ _ _ h => h) ((Chg.refl [] w1).drew) ?_
  simp only [List.filterMap_cons, List.filterMap_nil, qGa, qGb]
  iterate 7
    refine wpTake_step (fun K hK => ?_)
    rw [if_pos (by rfl)]
    refine ⟨?_, fun w' hS' => ?_, ?_⟩
    rotate_left 1
    focus
      have y0 := hS'.cellv l0 (by simp) s0
      have y1 := hS'.cellv l1 (by simp) s1
      have y2 := hS'.cellv l2 (by simp) c0
      have y3 := hS'.cellv l3 (by simp) hc
      go_simp
      try with_reducible rfl
      done
    simp only [Act.put, qSa, qSb, qSc]
    refine hK _ ?_
    clear hK K
  refine wpTake_nil ?_
  generalize hx0 : w1.drew = x0
  have D0 : Chg [] w1 x0 := by rw [← hx0]; exact (Chg.refl [] w1).drew
  clear hx0
  refine wpAnyS_ready (rs := [7]) (by kernel_rfl) (by simp) ?_
  refine AllReadyS.o (fun K hK => ?_)
  rw [if_pos (by rfl)]
  go_simp
  refine hK _ _ ((D0.alloc _)) ?_
  clear hK K
  try simp only [Act.put, qSa, qSb, qSc]
  refine wpAnyS_tail 8 1 (by kernel_rfl) rfl ?_
  simp only [qDa, qDb]
  go_wp2_with fail
  obtain ⟨gr, hgr⟩ : ∃ gr, gr = x0.heap.size := ⟨_, rfl⟩
  obtain ⟨gf, hgf⟩ : ∃ gf, gf = x0.heap.size + 1 := ⟨_, rfl⟩
  rw [← hgf, ← hgr]
  generalize hx3 : World.alloc (World.alloc x0 _) _ = x3
  have F3 : Blk x3 gf 311 #[.func (Fn.func 208) #[] #[.pointer (some ⟨gt, 0, none⟩), .pointer (some ⟨gs, 0, none⟩)], .func (Fn.func 214) #[.pointer (some ⟨gp p, 0, none⟩)] #[],
      .func (Fn.func 211) #[] #[.pointer (some ⟨gs, 0, none⟩), .pointer (some ⟨gr, 0, none⟩)], .func (Fn.func 212) #[] #[.pointer (some ⟨gs, 0, none⟩), .pointer (some ⟨gv, 0, none⟩), .pointer (some ⟨gk0, 0, none⟩), .pointer (some ⟨gr, 0, none⟩)]] := by
    rw [← hx3, hgf, hgr]
    have h := Blk.new (x0.alloc (.cells #[.pointer (some ⟨gp p, 0, none⟩)] 173)) 311 #[.func (Fn.func 208) #[] #[.pointer (some ⟨gt, 0, none⟩), .pointer (some ⟨gs, 0, none⟩)], .func (Fn.func 214) #[.pointer (some ⟨gp p, 0, none⟩)] #[], .func (Fn.func 211) #[] #[.pointer (some ⟨gs, 0, none⟩), .pointer (some ⟨x0.heap.size, 0, none⟩)], .func (Fn.func 212) #[] #[.pointer (some ⟨gs, 0, none⟩), .pointer (some ⟨gv, 0, none⟩), .pointer (some ⟨gk0, 0, none⟩), .pointer (some ⟨x0.heap.size, 0, none⟩)]]
    rw [World.size_alloc] at h
    exact h
  have R3 : Blk x3 gr 173 #[.pointer (some ⟨gp p, 0, none⟩)] := by rw [← hx3, hgr]; exact (Blk.new x0 _ _).alloc _
  have D3 : Chg [] w1 x3 := by rw [← hx3]; exact (D0.alloc _).alloc _
  clear hx3 hgr hgf
  have W3 := H1.out.1.chg0 D3
  have H3 := Lib.hid (And.intro F3 (And.intro W3 (And.intro (H1.out.2.chg0 D3) R3))); clear F3 D3 D0 W3 R3
  go_loopg [39] 5 (fun gk idx wr => PkRel2 w gs gk0 gt gv g p tick vic gf gr gq P vr vq gp r com gk idx wr ∨ (gk = 1 ∧ idx = .int .i64 4 ∧ bb = false ∧ IsSc wr g gq P vr vq gp r2 com ∧ Chg (gq :: T) w wr))
  case atStart => exact .inl ⟨H3.out.1, H3.out.2.1.s, H3.out.2.1.p, H3.out.2.1.t, H3.out.2.1.v, H3.out.2.2.2, H3.out.2.1.c.mono (by simp), H3.out.2.2.1, .inl ⟨rfl, rfl⟩⟩
  case round =>
    rcases hrel with ⟨Bf, Bs, Bk, Bt, Bv, Br, cW, Ik, hk⟩ | ⟨rfl, rfl, rfl, Ik, cW⟩
    rotate_left 1
    · have HK := Lib.hid (And.intro Ik cW); clear Ik cW H3
      have hx0 := hx rfl
      subst hx0
      go_wp2_with fail
      go_ret2
      exact ⟨rfl, HK.out.1, HK.out.2⟩
    rcases hk with ⟨rfl, rfl⟩ | ⟨rfl, rfl⟩ | ⟨rfl, rfl⟩ | ⟨rfl, rfl⟩
    · have f0 := Bf.cellv 0 rfl
      have K := sc_fair0 Ik HI.out.2.1 gt gs tick ht (Bt.cellv 0 rfl) (Bs.cellv 0 rfl)
      have HK := Lib.hid (And.intro K (And.intro Bf (And.intro Bs (And.intro Bk (And.intro Bt (And.intro Bv (And.intro Br (And.intro cW Ik)))))))); clear K Bf Bs Bk Bt Bv Br cW Ik H3
      go_wp2_with fail
      refine HK.out.1.mono ?_
      rintro e wr ⟨rfl, rfl⟩
      go_wp2_with fail
      go_roundg 4
      case measure => omega
      case rel => exact .inl ⟨HK.out.2.1, HK.out.2.2.1, HK.out.2.2.2.1, HK.out.2.2.2.2.1, HK.out.2.2.2.2.2.1, HK.out.2.2.2.2.2.2.1, HK.out.2.2.2.2.2.2.2.1, HK.out.2.2.2.2.2.2.2.2, .inr (.inl ⟨rfl, rfl⟩)⟩
    · have f1 := Bf.cellv 1 rfl
      have K := rg_get0 wr (gp p) (r p) (Ik.r p hp) HI.out.2.2.2.1 HI.out.2.2.2.2
      have HK := Lib.hid (And.intro K (And.intro Bf (And.intro Bs (And.intro Bk (And.intro Bt (And.intro Bv (And.intro Br (And.intro cW Ik)))))))); clear K Bf Bs Bk Bt Bv Br cW Ik H3
      go_wp2_with fail
      refine HK.out.1.mono ?_
      rintro e w6 ⟨rfl, c6⟩
      have HC := Lib.hid c6; clear c6
      go_wp2_with fail
      go_roundg 3
      case measure => omega
      case rel => exact .inl ⟨HC.out.blk HK.out.2.1 (by simp), HC.out.blk HK.out.2.2.1 (by simp), HC.out.blk HK.out.2.2.2.1 (by simp), HC.out.blk HK.out.2.2.2.2.1 (by simp), HC.out.blk HK.out.2.2.2.2.2.1 (by simp), HC.out.blk HK.out.2.2.2.2.2.2.1 (by simp), HK.out.2.2.2.2.2.2.2.1.trans (HC.out.mono (by simp)), HK.out.2.2.2.2.2.2.2.2.chg0 HC.out, .inr (.inr (.inl ⟨rfl, rfl⟩))⟩
    · have f2 := Bf.cellv 2 rfl
      have K := sc_part0 Ik HI.out.2.1 (by omega) hP gs gr gr (Bs.cellv 0 rfl)
      have HK := Lib.hid (And.intro K (And.intro Bf (And.intro Bs (And.intro Bk (And.intro Bt (And.intro Bv (And.intro Br (And.intro cW Ik)))))))); clear K Bf Bs Bk Bt Bv Br cW Ik H3
      go_wp2_with fail
      refine HK.out.1.mono ?_
      rintro e w6 ⟨rfl, I6, c6⟩
      have nq : ∀ {tt : TypeId} {cs : Array Value} {g' : Nat}, Blk wr g' tt cs → 267 ≠ tt → g' ∉ [gq] := fun hb hn hm => HK.out.2.2.2.2.2.2.2.2.q.ne_ hb hn (by simpa using (List.mem_singleton.1 hm).symm)
      have C : Blk w6 gf _ _ ∧ Blk w6 gs _ _ ∧ Blk w6 gk0 _ _ ∧ Blk w6 gt _ _ ∧ Blk w6 gv _ _ ∧ Blk w6 gr _ _ := ⟨c6.blk HK.out.2.1 (nq HK.out.2.1 (by decide)), c6.blk HK.out.2.2.1 (nq HK.out.2.2.1 (by decide)), c6.blk HK.out.2.2.2.1 (nq HK.out.2.2.2.1 (by decide)), c6.blk HK.out.2.2.2.2.1 (nq HK.out.2.2.2.2.1 (by decide)), c6.blk HK.out.2.2.2.2.2.1 (nq HK.out.2.2.2.2.2.1 (by decide)), c6.blk HK.out.2.2.2.2.2.2.1 (nq HK.out.2.2.2.2.2.2.1 (by decide))⟩
      have HC := Lib.hid (And.intro C (And.intro c6 I6)); clear c6 C I6 nq
      go_wp2_with fail
      go_roundg 2
      case measure => omega
      case rel => exact .inl ⟨HC.out.1.1, HC.out.1.2.1, HC.out.1.2.2.1, HC.out.1.2.2.2.1, HC.out.1.2.2.2.2.1, HC.out.1.2.2.2.2.2, HK.out.2.2.2.2.2.2.2.1.trans HC.out.2.1, HC.out.2.2, .inr (.inr (.inr ⟨rfl, rfl⟩))⟩
    · have f3 := Bf.cellv 3 rfl
      have K := HK3.out wr gs gv gk0 gr Ik (Bs.cellv 0 rfl) (Bv.cellv 0 rfl) (Bk.cellv 0 rfl) (Br.cellv 0 rfl) (fun q hq => Br.ne_ (Ik.r q hq) (by decide))
      have HK := Lib.hid (And.intro K cW); clear K Bf Bs Bk Bt Bv Br cW Ik H3
      cases bb with
      | true =>
        go_wp2_with fail
        refine HK.out.1.mono ?_
        rintro e w6 ⟨rfl, I6, c6⟩
        have HC := Lib.hid (And.intro I6 c6); clear c6 I6
        go_wp2_with fail
        go_ret2
        exact ⟨rfl, HC.out.1, (HK.out.2.mono (by simp)).trans (HC.out.2.mono (fun k hk => .inl (List.mem_cons_of_mem _ hk)))⟩
      | false =>
        go_wp2_with fail
        refine HK.out.1.mono ?_
        rintro e w6 ⟨rfl, I6, c6⟩
        have HC := Lib.hid (And.intro I6 c6); clear c6 I6
        go_wp2_with fail
        go_roundg 1
        case measure => omega
        case rel => exact .inr ⟨rfl, rfl, by trivial, HC.out.1, (HK.out.2.mono (by simp)).trans (HC.out.2.mono (fun k hk => .inl (List.mem_cons_of_mem _ hk)))⟩
end
def takeG (m : Mac) (q g : Nat) (r2 : Nat → RgR) : Mac := { m with ps := updV m.ps q { m.ps q with g := (g : Nat), row := 0, picks := (m.ps q).picks + 1 }, rg := r2, sts := m.sts.set g 2, gs := updV m.gs g { m.gs g with p := (q : Nat) } }
def takeN (m : Mac) (q : Nat) (r2 : Nat → RgR) : Mac := { m with ps := updV m.ps q { m.ps q with picks := (m.ps q).picks + 1 }, rg := r2 }
def PkK (p : MAt) (m : Mac) (q : Nat) (vic : Int) (r2 : Nat → RgR) (x : Int) (bb : Bool) : Prop := ∃ T : List Nat, (∀ j ∈ T, ∃ k, k < m.np ∧ j = p.gr k) ∧ ∀ w', IsSc w' p.gsd p.gq m.np p.vr p.vq p.gr m.rg m.com → Calls Tryz.prog 142 #[.pointer (some ⟨p.gsd, 0, none⟩), .int .i64 (q : Nat), .int .i64 61, .int .i64 vic] w' (PkFar p.gsd p.gq m.np p.vr p.vq p.gr r2 m.com x bb T w')
section
variable {W : Bs} {w : World} {p : MAt} {m : Mac} (M : MM W w p m)
include M
theorem m_take_some (q g : Nat) (vic : Int) (hq : q < m.np) (h0 : m.ph.ph = 0) (pk : Nat) (hpk : (m.ps q).picks = pk) (bpk : pk ≤ 1000000) (r2 : Nat → RgR) (hPk : PkK p m q vic r2 (g : Nat) true) (hgn : g < m.ng) (hst : m.sts[g]? = some 1) (hsl : m.sts.length ≤ 1000000) :
    Calls Tryz.prog 86 #[.pointer (some ⟨p.gm, 0, none⟩), .int .i64 (q : Nat), .int .i64 vic] w (fun e w' => e = .returned (.tuple #[]) ∧ MM W w' p (takeG m q g r2)) := by
  obtain ⟨b, cap, c9, hps⟩ := M.psl
  obtain ⟨hv, hbq, hbl⟩ := hps q hq
  rw [hv] at c9
  have e1 : (0 : Int) ≤ q := by omega
  have e2 : (q : Int) < (m.np : Int) := by omega
  have k2 : w.cell? ⟨p.bp q, 2, none⟩ = some (.int .i64 (pk : Nat)) := by rw [← hpk]; exact (M.pb hq).cellv 2 rfl
  have f2 := (M.pb hq).frozen 2
  have HM := Lib.hid M
  clear hps hv M
  go_enter Tryz.func86, Tryz.ntmps86
  go_upto_region 3 with fail
  obtain ⟨w1, hw1⟩ : ∃ w1, w1 = w.setCell ⟨p.bp q, 2, none⟩ (.int .i64 ((pk : Int) + 1)) := ⟨_, rfl⟩
  rw [← hw1]
  have M1 : MM W w1 p { m with ps := updV m.ps q { m.ps q with picks := (m.ps q).picks + 1 } } := by
    rw [hw1, ← hpk]
    exact HM.out.pset hq 2 _ _ rfl
  obtain ⟨m1, hm1⟩ : ∃ m1, m1 = { m with ps := updV m.ps q { m.ps q with picks := (m.ps q).picks + 1 } } := ⟨_, rfl⟩
  rw [← hm1] at M1
  have x1 : m1.ps q = { m.ps q with picks := (m.ps q).picks + 1 } := by rw [hm1]; exact updV_same _ _ _
  have k2 : w1.cell? ⟨p.bp q, 2, none⟩ = some (.int .i64 ((pk : Int) + 1)) := by
    have h := (M1.pb (q := q) (by rw [hm1]; exact hq)).cellv 2 (show (prcC (m1.ps q) (p.vsc q) (p.bn q))[2]? = some (.int .i64 ((m1.ps q).picks)) from rfl)
    rw [x1] at h
    rw [h]
    show some (Value.int .i64 ((m.ps q).picks + 1)) = _
    rw [hpk]
  have c15 : w1.cell? ⟨p.gm, 15, none⟩ = some (.pointer (some ⟨p.gph, 0, none⟩)) := M1.mb.cellv 15 rfl
  have c10 : w1.cell? ⟨p.gm, 10, none⟩ = some (.pointer (some ⟨p.gsd, 0, none⟩)) := M1.mb.cellv 10 rfl
  have c7 : w1.cell? ⟨p.gm, 7, none⟩ = some (.pointer (some ⟨p.gst, 0, none⟩)) := M1.mb.cellv 7 rfl
  have KP := ph_phase_ok p.gph p.bsd m1.ph w1 M1.ph
  have hm1ph : m1.ph = m.ph := by rw [hm1]
  rw [hm1ph, h0] at KP
  obtain ⟨T, hT, KS0⟩ := hPk
  have KS := KS0 w1 (by have h := M1.sc; rw [hm1] at h; exact h)
  have H1 := Lib.hid (And.intro M1 (And.intro KP (And.intro KS (And.intro hm1 hT))))
  clear M1 KP KS hw1 KS0 hT c9 hbq hbl f2 hm1ph x1
  by_cases hpar : ((pk : Int) + 1) % 2 = 0
  · have d1 : (((pk : Int) + 1) % 2 == 0) = true := by rw [beq_iff_eq]; exact hpar
    go_wp2_with fail
    clear d1 hpar k2 c15
    refine H1.out.2.2.1.mono ?_
    rintro e w2 ⟨rfl, I2, C2⟩
    have hS : ∀ j ∈ p.gq :: T, MF p m1 .sched j := fun j hj => by
      rcases List.mem_cons.1 hj with e | e
      · exact .inr (.inl e)
      · obtain ⟨k, hk, ek⟩ := H1.out.2.2.2.2 j e
        exact .inr (.inr (.inr (.inr ⟨k, by rw [H1.out.2.2.2.1]; exact hk, ek⟩)))
    have M2 := H1.out.1.scT (r' := r2) (com' := m1.com) (vq' := p.vq) (by rw [H1.out.2.2.2.1]; exact I2) C2 (fun j hj => .inl (hS j hj)) (fun j hj => .inl hj)
    have Cl := C2.blk (by exact H1.out.1.mb) (fun hm => absurd (H1.out.1.ap .mach .sched p.gm rfl (hS _ hm)) (by simp))
    have c7' : w2.cell? ⟨p.gm, 7, none⟩ = some (.pointer (some ⟨p.gst, 0, none⟩)) := Cl.cellv 7 rfl
    have H2 := Lib.hid M2; clear M2 I2 C2 Cl c10 c7 hS
    go_wp2_with fail
    obtain ⟨m2, hm2⟩ : ∃ m2, m2 = { m1 with rg := r2, com := m1.com } := ⟨_, rfl⟩
    have M2 : MM W w2 p m2 := by rw [hm2]; exact H2.out
    have KM := st_move w2 p.gst p.vst m2.sts M2.st g 1 2 (by rw [hm2, H1.out.2.2.2.1]; exact hst) (.inl ⟨rfl, rfl⟩) (by rw [hm2, H1.out.2.2.2.1]; exact hsl)
    refine KM.mono ?_
    rintro e w3 ⟨rfl, I3, S3⟩
    have M3 := M2.stT I3 rfl S3
    obtain ⟨m3, hm3⟩ : ∃ m3, m3 = { m2 with sts := m2.sts.set g ((2 : Nat) : Int) } := ⟨_, rfl⟩
    rw [← hm3] at M3
    have hgn3 : g < m3.ng := by rw [hm3, hm2, H1.out.2.2.2.1]; exact hgn
    have hq3 : q < m3.np := by rw [hm3, hm2, H1.out.2.2.2.1]; exact hq
    obtain ⟨bb, cap2, c8, hgs⟩ := M3.gsl
    obtain ⟨hv8, hbg, -⟩ := hgs g hgn3
    rw [hv8] at c8
    have z0 := (M3.pb hq3).cellv 0 rfl
    have z1 := (M3.pb hq3).cellv 1 rfl
    have y0 := (M3.pb hq3).frozen 0
    have y1 := (M3.pb hq3).frozen 1
    have z2 := (M3.gb hgn3).cellv 19 (gorC_19 _)
    have y2 := (M3.gb hgn3).frozen 19
    have n1 : ¬ p.bg g = p.bp q := (M3.gb hgn3).ne_ (M3.pb hq3) (by decide)
    have n2 : ¬ p.bp q = p.bg g := fun e => n1 e.symm
    have u1 : (0 : Int) ≤ (g : Int) := by omega
    have u2 : (g : Int) < (m3.ng : Int) := by omega
    have H3 := Lib.hid (And.intro M3 (And.intro hm3 hm2)); clear M3 I3 S3 KM M2 hgs hv8 hm3 hm2
    go_wp2_with fail
    go_end0
    have M4 := ((H3.out.1.pset hq3 0 (.int .i64 (g : Nat)) { m3.ps q with g := (g : Nat) } rfl).pset (q := q) hq3 1 (.int .i64 0) { m3.ps q with g := (g : Nat), row := 0 } (by show (prcC (updV m3.ps q _ q) _ _).setIfInBounds 1 _ = _; rw [updV_same]; rfl)).gset (g := g) hgn3 19 (.int .i64 (q : Nat)) { m3.gs g with p := (q : Nat) } rfl
    refine ⟨rfl, ?_⟩
    have h := M4
    rw [H3.out.2.1, H3.out.2.2, H1.out.2.2.2.1] at h
    simp only [updV_same, updV_updV] at h
    exact h
  · have d1 : (((pk : Int) + 1) % 2 == 0) = false := by rw [beq_eq_false_iff_ne]; exact hpar
    go_wp2_with fail
    refine H1.out.2.1.mono ?_
    rintro e w1 ⟨rfl, rfl⟩
    go_wp2_with fail
    clear d1 hpar k2 c15
    refine H1.out.2.2.1.mono ?_
    rintro e w2 ⟨rfl, I2, C2⟩
    have hS : ∀ j ∈ p.gq :: T, MF p m1 .sched j := fun j hj => by
      rcases List.mem_cons.1 hj with e | e
      · exact .inr (.inl e)
      · obtain ⟨k, hk, ek⟩ := H1.out.2.2.2.2 j e
        exact .inr (.inr (.inr (.inr ⟨k, by rw [H1.out.2.2.2.1]; exact hk, ek⟩)))
    have M2 := H1.out.1.scT (r' := r2) (com' := m1.com) (vq' := p.vq) (by rw [H1.out.2.2.2.1]; exact I2) C2 (fun j hj => .inl (hS j hj)) (fun j hj => .inl hj)
    have Cl := C2.blk (by exact H1.out.1.mb) (fun hm => absurd (H1.out.1.ap .mach .sched p.gm rfl (hS _ hm)) (by simp))
    have c7' : w2.cell? ⟨p.gm, 7, none⟩ = some (.pointer (some ⟨p.gst, 0, none⟩)) := Cl.cellv 7 rfl
    have H2 := Lib.hid M2; clear M2 I2 C2 Cl c10 c7 hS
    go_wp2_with fail
    obtain ⟨m2, hm2⟩ : ∃ m2, m2 = { m1 with rg := r2, com := m1.com } := ⟨_, rfl⟩
    have M2 : MM W w2 p m2 := by rw [hm2]; exact H2.out
    have KM := st_move w2 p.gst p.vst m2.sts M2.st g 1 2 (by rw [hm2, H1.out.2.2.2.1]; exact hst) (.inl ⟨rfl, rfl⟩) (by rw [hm2, H1.out.2.2.2.1]; exact hsl)
    refine KM.mono ?_
    rintro e w3 ⟨rfl, I3, S3⟩
    have M3 := M2.stT I3 rfl S3
    obtain ⟨m3, hm3⟩ : ∃ m3, m3 = { m2 with sts := m2.sts.set g ((2 : Nat) : Int) } := ⟨_, rfl⟩
    rw [← hm3] at M3
    have hgn3 : g < m3.ng := by rw [hm3, hm2, H1.out.2.2.2.1]; exact hgn
    have hq3 : q < m3.np := by rw [hm3, hm2, H1.out.2.2.2.1]; exact hq
    obtain ⟨bb, cap2, c8, hgs⟩ := M3.gsl
    obtain ⟨hv8, hbg, -⟩ := hgs g hgn3
    rw [hv8] at c8
    have z0 := (M3.pb hq3).cellv 0 rfl
    have z1 := (M3.pb hq3).cellv 1 rfl
    have y0 := (M3.pb hq3).frozen 0
    have y1 := (M3.pb hq3).frozen 1
    have z2 := (M3.gb hgn3).cellv 19 (gorC_19 _)
    have y2 := (M3.gb hgn3).frozen 19
    have n1 : ¬ p.bg g = p.bp q := (M3.gb hgn3).ne_ (M3.pb hq3) (by decide)
    have n2 : ¬ p.bp q = p.bg g := fun e => n1 e.symm
    have u1 : (0 : Int) ≤ (g : Int) := by omega
    have u2 : (g : Int) < (m3.ng : Int) := by omega
    have H3 := Lib.hid (And.intro M3 (And.intro hm3 hm2)); clear M3 I3 S3 KM M2 hgs hv8 hm3 hm2
    go_wp2_with fail
    go_end0
    have M4 := ((H3.out.1.pset hq3 0 (.int .i64 (g : Nat)) { m3.ps q with g := (g : Nat) } rfl).pset (q := q) hq3 1 (.int .i64 0) { m3.ps q with g := (g : Nat), row := 0 } (by show (prcC (updV m3.ps q _ q) _ _).setIfInBounds 1 _ = _; rw [updV_same]; rfl)).gset (g := g) hgn3 19 (.int .i64 (q : Nat)) { m3.gs g with p := (q : Nat) } rfl
    refine ⟨rfl, ?_⟩
    have h := M4
    rw [H3.out.2.1, H3.out.2.2, H1.out.2.2.2.1] at h
    simp only [updV_same, updV_updV] at h
    exact h
theorem m_take_none (q : Nat) (vic : Int) (hq : q < m.np) (h0 : m.ph.ph = 0) (pk : Nat) (hpk : (m.ps q).picks = pk) (bpk : pk ≤ 1000000) (r2 : Nat → RgR) (hPk : PkK p m q vic r2 0 false) :
    Calls Tryz.prog 86 #[.pointer (some ⟨p.gm, 0, none⟩), .int .i64 (q : Nat), .int .i64 vic] w (fun e w' => e = .returned (.tuple #[]) ∧ MM W w' p (takeN m q r2)) := by
  obtain ⟨b, cap, c9, hps⟩ := M.psl
  obtain ⟨hv, hbq, hbl⟩ := hps q hq
  rw [hv] at c9
  have e1 : (0 : Int) ≤ q := by omega
  have e2 : (q : Int) < (m.np : Int) := by omega
  have k2 : w.cell? ⟨p.bp q, 2, none⟩ = some (.int .i64 (pk : Nat)) := by rw [← hpk]; exact (M.pb hq).cellv 2 rfl
  have f2 := (M.pb hq).frozen 2
  have HM := Lib.hid M
  clear hps hv M
  go_enter Tryz.func86, Tryz.ntmps86
  go_upto_region 3 with fail
  obtain ⟨w1, hw1⟩ : ∃ w1, w1 = w.setCell ⟨p.bp q, 2, none⟩ (.int .i64 ((pk : Int) + 1)) := ⟨_, rfl⟩
  rw [← hw1]
  have M1 : MM W w1 p { m with ps := updV m.ps q { m.ps q with picks := (m.ps q).picks + 1 } } := by
    rw [hw1, ← hpk]
    exact HM.out.pset hq 2 _ _ rfl
  obtain ⟨m1, hm1⟩ : ∃ m1, m1 = { m with ps := updV m.ps q { m.ps q with picks := (m.ps q).picks + 1 } } := ⟨_, rfl⟩
  rw [← hm1] at M1
  have x1 : m1.ps q = { m.ps q with picks := (m.ps q).picks + 1 } := by rw [hm1]; exact updV_same _ _ _
  have k2 : w1.cell? ⟨p.bp q, 2, none⟩ = some (.int .i64 ((pk : Int) + 1)) := by
    have h := (M1.pb (q := q) (by rw [hm1]; exact hq)).cellv 2 (show (prcC (m1.ps q) (p.vsc q) (p.bn q))[2]? = some (.int .i64 ((m1.ps q).picks)) from rfl)
    rw [x1] at h
    rw [h]
    show some (Value.int .i64 ((m.ps q).picks + 1)) = _
    rw [hpk]
  have c15 : w1.cell? ⟨p.gm, 15, none⟩ = some (.pointer (some ⟨p.gph, 0, none⟩)) := M1.mb.cellv 15 rfl
  have c10 : w1.cell? ⟨p.gm, 10, none⟩ = some (.pointer (some ⟨p.gsd, 0, none⟩)) := M1.mb.cellv 10 rfl
  have c7 : w1.cell? ⟨p.gm, 7, none⟩ = some (.pointer (some ⟨p.gst, 0, none⟩)) := M1.mb.cellv 7 rfl
  have KP := ph_phase_ok p.gph p.bsd m1.ph w1 M1.ph
  have hm1ph : m1.ph = m.ph := by rw [hm1]
  rw [hm1ph, h0] at KP
  obtain ⟨T, hT, KS0⟩ := hPk
  have KS := KS0 w1 (by have h := M1.sc; rw [hm1] at h; exact h)
  have H1 := Lib.hid (And.intro M1 (And.intro KP (And.intro KS (And.intro hm1 hT))))
  clear M1 KP KS hw1 KS0 hT c9 hbq hbl f2 hm1ph x1
  by_cases hpar : ((pk : Int) + 1) % 2 = 0
  · have d1 : (((pk : Int) + 1) % 2 == 0) = true := by rw [beq_iff_eq]; exact hpar
    go_wp2_with fail
    clear d1 hpar k2 c15
    refine H1.out.2.2.1.mono ?_
    rintro e w2 ⟨rfl, I2, C2⟩
    have hS : ∀ j ∈ p.gq :: T, MF p m1 .sched j := fun j hj => by
      rcases List.mem_cons.1 hj with e | e
      · exact .inr (.inl e)
      · obtain ⟨k, hk, ek⟩ := H1.out.2.2.2.2 j e
        exact .inr (.inr (.inr (.inr ⟨k, by rw [H1.out.2.2.2.1]; exact hk, ek⟩)))
    have M2 := H1.out.1.scT (r' := r2) (com' := m1.com) (vq' := p.vq) (by rw [H1.out.2.2.2.1]; exact I2) C2 (fun j hj => .inl (hS j hj)) (fun j hj => .inl hj)
    have H2 := Lib.hid M2; clear M2 I2 C2 hS c10 c7
    go_wp2_with fail
    refine ⟨rfl, _, results_none rfl _ _ _, rfl, ?_⟩
    have h := H2.out
    rw [H1.out.2.2.2.1] at h
    exact h
  · have d1 : (((pk : Int) + 1) % 2 == 0) = false := by rw [beq_eq_false_iff_ne]; exact hpar
    go_wp2_with fail
    refine H1.out.2.1.mono ?_
    rintro e w1 ⟨rfl, rfl⟩
    go_wp2_with fail
    clear d1 hpar k2 c15
    refine H1.out.2.2.1.mono ?_
    rintro e w2 ⟨rfl, I2, C2⟩
    have hS : ∀ j ∈ p.gq :: T, MF p m1 .sched j := fun j hj => by
      rcases List.mem_cons.1 hj with e | e
      · exact .inr (.inl e)
      · obtain ⟨k, hk, ek⟩ := H1.out.2.2.2.2 j e
        exact .inr (.inr (.inr (.inr ⟨k, by rw [H1.out.2.2.2.1]; exact hk, ek⟩)))
    have M2 := H1.out.1.scT (r' := r2) (com' := m1.com) (vq' := p.vq) (by rw [H1.out.2.2.2.1]; exact I2) C2 (fun j hj => .inl (hS j hj)) (fun j hj => .inl hj)
    have H2 := Lib.hid M2; clear M2 I2 C2 hS c10 c7
    go_wp2_with fail
    refine ⟨rfl, _, results_none rfl _ _ _, rfl, ?_⟩
    have h := H2.out
    rw [H1.out.2.2.2.1] at h
    exact h
end
end Go.Proofs.YtcpljjacamibeaaGreatDoor
