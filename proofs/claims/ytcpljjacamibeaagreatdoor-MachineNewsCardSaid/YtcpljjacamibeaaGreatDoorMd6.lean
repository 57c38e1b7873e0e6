/- Package machine: commit's inner function: exit. -/
import Derived.Test.YtcpljjacamibeaaGreatDoorMcEJ
import Derived.Test.YtcpljjacamibeaaGreatDoorMcN
namespace Go.Proofs.YtcpljjacamibeaaGreatDoor
set_option maxHeartbeats 16000000
set_option maxRecDepth 100000
open Go.RowKit Go.Maps
theorem run_tf_nil (w : World) : (Instr.typeAssert .nilIface 20 317 true).run Tryz.prog w = .ok (.tuple #[.agg #[], .bool false]) w := by kernel_rfl
theorem tm12 (a b r t g o p : Value) : (#[a, b] ++ (((((((Array.replicate 10 undef).setIfInBounds 3 r).setIfInBounds 4 t).setIfInBounds 2 t).setIfInBounds 5 g).setIfInBounds 6 o).setIfInBounds 0 p).setIfInBounds 1 o) = #[a, b, p, o, t, r, t, g, o, undef, undef, undef] := by
  rw [← Array.toList_inj]
  simp only [Array.toList_append, Array.toList_setIfInBounds, Array.toList_replicate]
  rfl
theorem cm_catch_idle (w : World) (a b : Addr) : CallsD Tryz.prog 224 #[.pointer (some a), .pointer (some b)] .returning w fun e u' w' => e = .returned (.tuple #[]) ∧ u' = .returning ∧ Chg [] w w' := by
  refine callsD_of_wpS Tryz.func224 rfl fun c₀ cs hu => ?_
  apply wpS_seq
  apply wpS_region
  simp [wpOpsS, go_sem, recoverD, hu, run_tf_nil, Tryz.ntmps224, Exit.thenS]
  rw [tm12]
  refine wpS_of_wp ?_
  go_wp2_with fail
  cases c₀
  simp_all [bodyPostS, results, Tryz.results224]
  exact (Chg.refl [] w).alloc _
structure CmW (w0 : World) (gC gT gI gA gY gM gp gg : Nat) (c : ComA) (tov : Int) (i : Ins) (addr : Int) (yb gm : Nat) (q g : Nat) (w : World) : Prop where
  C : Blk w gC 59 (comC c).toArray
  T : Blk w gT 3 #[.int .i64 tov]
  I : Blk w gI 33 #[.int .i64 (i.o : Nat), .int .i64 (i.a : Nat), .int .i64 (i.b : Nat), .int .i64 (i.c : Nat)]
  A : Blk w gA 3 #[.int .i64 addr]
  Y : Blk w gY 115 #[.pointer (some ⟨yb, 0, none⟩)]
  M : Blk w gM 35 #[.pointer (some ⟨gm, 0, none⟩)]
  p : Blk w gp 3 #[.int .i64 (q : Nat)]
  g : Blk w gg 3 #[.int .i64 (g : Nat)]
  n : ∀ k ∈ [gC, gT, gI, gA, gY, gM, gp, gg], w0.heap.size ≤ k
  d : [gT, gA, gp, gg].Nodup
section
variable {w0 w w' : World} {gC gT gI gA gY gM gp gg : Nat} {c : ComA} {tov : Int} {i : Ins} {addr : Int} {yb gm q g : Nat}
theorem CmW.far {S : List Nat} (K : CmW w0 gC gT gI gA gY gM gp gg c tov i addr yb gm q g w) (h : Chg S w w') (hn : ∀ k ∈ [gC, gT, gI, gA, gY, gM, gp, gg], k ∉ S) : CmW w0 gC gT gI gA gY gM gp gg c tov i addr yb gm q g w' :=
  ⟨h.blk K.C (hn _ (by simp)), h.blk K.T (hn _ (by simp)), h.blk K.I (hn _ (by simp)), h.blk K.A (hn _ (by simp)), h.blk K.Y (hn _ (by simp)), h.blk K.M (hn _ (by simp)), h.blk K.p (hn _ (by simp)), h.blk K.g (hn _ (by simp)), K.n, K.d⟩
theorem CmW.toS (K : CmW w0 gC gT gI gA gY gM gp gg c tov i addr yb gm q g w) (x : Int) : CmW w0 gC gT gI gA gY gM gp gg c x i addr yb gm q g (w.setCell ⟨gT, 0, none⟩ (.int .i64 x)) := by
  have d := K.d
  simp only [List.nodup_cons, List.mem_cons, List.not_mem_nil, or_false, not_or] at d
  exact ⟨K.C.far (p := ⟨gT, 0, none⟩) (K.C.ne_ K.T (by decide)) _, K.T.setv 0 _ rfl, K.I.far (p := ⟨gT, 0, none⟩) (K.I.ne_ K.T (by decide)) _, K.A.far (p := ⟨gT, 0, none⟩) (Ne.symm d.1.1) _, K.Y.far (p := ⟨gT, 0, none⟩) (K.Y.ne_ K.T (by decide)) _, K.M.far (p := ⟨gT, 0, none⟩) (K.M.ne_ K.T (by decide)) _, K.p.far (p := ⟨gT, 0, none⟩) (Ne.symm d.1.2.1) _, K.g.far (p := ⟨gT, 0, none⟩) (Ne.symm d.1.2.2) _, K.n, K.d⟩
theorem cm_exit (K : CmW w0 gC gT gI gA gY gM gp gg c tov i addr yb gm q g w) (hi : i.o = 0) :
    Calls Tryz.prog 223 #[.pointer (some ⟨gC, 0, none⟩), .pointer (some ⟨gT, 0, none⟩), .pointer (some ⟨gI, 0, none⟩), .pointer (some ⟨gA, 0, none⟩), .pointer (some ⟨gY, 0, none⟩), .pointer (some ⟨gM, 0, none⟩), .pointer (some ⟨gp, 0, none⟩), .pointer (some ⟨gg, 0, none⟩)] w
      (fun e w' => e = .returned (.tuple #[]) ∧ CmW w0 gC gT gI gA gY gM gp gg c 5 i addr yb gm q g w' ∧ Chg [gT] w w') := by
  have hmf : ∀ (fn : Fn) (first cap : Array Value) (w : World), (Instr.makeFunc fn first cap).run Tryz.prog w = .ok (.func fn first cap) w := fun _ _ _ _ => rfl
  have i0 : w.cell? ⟨gI, 0, none⟩ = some (.int .i64 0) := by
    have h : w.cell? ⟨gI, 0, none⟩ = some (.int .i64 (i.o : Nat)) := K.I.cellv 0 rfl
    rw [hi] at h; exact h
  have t0 : w.cell? ⟨gT, 0, none⟩ = some (.int .i64 tov) := K.T.cellv 0 rfl
  have ft := K.T.frozen 0
  have HK := Lib.hid K; clear K
  go_enter_defers Tryz.func223, Tryz.ntmps223
  go_wp2_with fail
  refine leaves_cons (f := 224) (args := #[.pointer (some ⟨gC, 0, none⟩), .pointer (some ⟨gT, 0, none⟩)]) (by simp) (by simp [go_sem]) ?_
  refine (cm_catch_idle _ _ _).mono ?_
  rintro e u' w'' ⟨rfl, rfl, c⟩
  show Leaves _ _ _ _ [] .returning w''
  exact ⟨_, results_none rfl _ _ _, rfl, (HK.out.toS 5).far c (by simp), ((Chg.refl [gT] w).setCell (.inl (by simp)) _).trans (c.mono (by simp))⟩
end
end Go.Proofs.YtcpljjacamibeaaGreatDoor
