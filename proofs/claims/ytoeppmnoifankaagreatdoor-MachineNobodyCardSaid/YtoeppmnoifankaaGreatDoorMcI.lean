/- Package code: the reader's next byte. -/
import Derived.Test.YtoeppmnoifankaaGreatDoorMcF
namespace Go.Proofs.YtoeppmnoifankaaGreatDoor
open Go.RowKit Go.Maps

def u8s (bs : List Nat) : List Value := bs.map fun x => Value.int .u8 (x : Nat)
theorem u8s_at {bs : List Nat} {i x : Nat} (h : bs[i]? = some x) : (u8s bs)[i]? = some (.int .u8 (x : Nat)) := by unfold u8s; simp [h]
theorem u8s_len (bs : List Nat) : (u8s bs).length = bs.length := by unfold u8s; simp
def rdC (vb : Value) (a : Nat) : Array Value := #[vb, .int .i64 (a : Nat)]
def badV (k : Nat) : List PanicEntry := [{ v := .iface 226 (.agg #[.int .i64 (k : Nat)]), recovered := false }]
def NxPost (g : Nat) (vb : Value) (bs : List Nat) (a lo hi : Nat) (w : World) (e : Ending) (w' : World) : Prop :=
  (∃ x, rdN bs a lo hi = .ok x ∧ e = .returned (.int .i64 (x : Nat)) ∧ Blk w' g 230 (rdC vb (a + 1)) ∧ Chg [g] w w') ∨ (∃ k, rdN bs a lo hi = .error k ∧ e = .panicked (badV k) ∧ Chg [g] w w')
section
variable {w : World} {g B : Nat} {vb : Value} {bs : List Nat} {a : Nat} (hB : Blk w g 230 (rdC vb a)) (R : RdV w B vb (u8s bs)) (hl : bs.length ≤ 100000) (hb : ∀ x ∈ bs, x < 256)
include hB R hl hb
set_option maxHeartbeats 1600000 in
set_option maxRecDepth 100000 in
theorem cd_next (lo hi : Nat) (ha : a ≤ bs.length) : Calls Tryz.prog 128 #[.pointer (some ⟨g, 0, none⟩), .int .i64 (lo : Nat), .int .i64 (hi : Nat)] w (NxPost g vb bs a lo hi w) := by
  obtain ⟨A, c, hv⟩ := R.ex
  rw [u8s_len] at hv
  have c0 : w.cell? ⟨g, 0, none⟩ = some vb := hB.cellv 0 rfl
  rw [hv] at c0
  have c1 : w.cell? ⟨g, 1, none⟩ = some (.int .i64 (a : Nat)) := hB.cellv 1 rfl
  have f1 := hB.frozen 1
  by_cases h : a < bs.length
  · obtain ⟨x, hx⟩ : ∃ x, bs[a]? = some x := ⟨bs[a], List.getElem?_eq_getElem h⟩
    have hx6 : x < 256 := hb x (List.mem_of_getElem? hx)
    have ex : bs.getD a 0 = x := by rw [List.getD_eq_getElem?_getD, hx]; rfl
    obtain ⟨bb, off, hA, -, ca⟩ := R.at_ A _ c hv a _ (u8s_at hx)
    subst hA
    have d1 : ¬ ((a : Int) ≥ (bs.length : Int)) := by omega
    have d2 : (a : Int) < (bs.length : Int) := by omega
    have d3 : (0 : Int) ≤ a := by omega
    have d4 : decide ((a : Int) ≥ (bs.length : Int)) = false := decide_eq_false d1
    have d5 : decide (bs.length ≤ a) = false := decide_eq_false (by omega)
    have HR := Lib.hid (And.intro hB (And.intro hx ex)); clear hB hx ex R hb hv
    go_enter Tryz.func128, Tryz.ntmps128
    go_wp2_with fail
    go_quiet (fail)
    go_wp2_with fail
    go_quiet (fail)
    generalize hw2 : (World.drewN _ nq) = w2
    have B2 : Blk w2 g 230 (rdC vb a) := by rw [← hw2]; exact HR.out.1
    have D2 : Chg [] w w2 := by rw [← hw2]; exact ((Chg.refl [] w).drewN _).drewN _
    have c1 : w2.cell? ⟨g, 1, none⟩ = some (.int .i64 (a : Nat)) := B2.cellv 1 rfl
    have f1 := B2.frozen 1
    clear hw2
    have HD := Lib.hid (And.intro B2 D2); clear B2 D2
    by_cases h1 : x < lo
    · have e1 : decide ((x : Int) < (lo : Int)) = true := decide_eq_true (by omega)
      have e2 : (x : Int) < (lo : Int) := by omega
      go_wp2_with fail
      exact ⟨rfl, .inr ⟨a, by unfold rdN; rw [if_neg (by omega), HR.out.2.2, if_pos (.inl h1)], rfl, HD.out.2.mono (by simp)⟩⟩
    · have e1 : decide ((x : Int) < (lo : Int)) = false := decide_eq_false (by omega)
      have e2 : ¬ (x : Int) < (lo : Int) := by omega
      by_cases h2 : hi < x
      · have e3 : decide ((x : Int) > (hi : Int)) = true := decide_eq_true (by omega)
        have e4 : (x : Int) > (hi : Int) := by omega
        go_wp2_with fail
        exact ⟨rfl, .inr ⟨a, by unfold rdN; rw [if_neg (by omega), HR.out.2.2, if_pos (.inr h2)], rfl, HD.out.2.mono (by simp)⟩⟩
      · have e3 : decide ((x : Int) > (hi : Int)) = false := decide_eq_false (by omega)
        have e4 : ¬ (x : Int) > (hi : Int) := by omega
        go_wp2_with fail
        go_ret
        exact .inl ⟨x, by unfold rdN; rw [if_neg (by omega), HR.out.2.2, if_neg (by omega)], rfl, HD.out.1.setv 1 _ rfl, (HD.out.2.mono (by simp)).trans ((Chg.refl [g] w2).setCell (.inl (by simp)) _)⟩
  · have h : bs.length ≤ a := by omega
    have er : rdN bs a lo hi = .error bs.length := by unfold rdN; rw [if_pos h]
    have d1 : (a : Int) ≥ (bs.length : Int) := by omega
    have d4 : decide ((a : Int) ≥ (bs.length : Int)) = true := decide_eq_true d1
    have d5 : decide (bs.length ≤ a) = true := decide_eq_true h
    clear hB R hb hv
    go_enter Tryz.func128, Tryz.ntmps128
    go_wp2_with fail
    go_quiet (fail)
    go_wp2_with fail
    exact ⟨rfl, .inr ⟨_, er, rfl, ((Chg.refl [g] w).drewN _)⟩⟩
end
end Go.Proofs.YtoeppmnoifankaaGreatDoor
