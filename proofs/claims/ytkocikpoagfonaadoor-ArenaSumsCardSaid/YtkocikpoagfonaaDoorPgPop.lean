/- container/heap.Pop over bySize. -/
import Derived.Test.YtkocikpoagfonaaDoorPgUp
namespace Go.Proofs.YtkocikpoagfonaaDoor
open Go.RowKit

def Swap0Post (w : World) (v : Value) (n m : Nat) (x : R) (e : Ending) (w' : World) : Prop :=
  e = .returned (.tuple #[]) ∧ ∃ L : List R, L.length = m ∧ L[n]? = some x ∧ w'.ownsRow 0 73 2 v L.length (rc L) ∧ Chg (fpv v) w w'
theorem swap0_ok (w : World) (v : Value) (l : List R) (n : Nat) (x : R) (o : w.ownsRow 0 73 2 v l.length (rc l)) (hl : l.length = n + 1) (hx : l[0]? = some x) :
    Calls Tryd.prog 121 #[v, .int .i64 0, .int .i64 n] w (Swap0Post w v n l.length x) := by
  rcases Nat.eq_zero_or_pos n with h0 | h0
  · subst h0
    exact (swap_same w v l 0 o (by omega)).mono fun e w' ⟨he, ho, hc⟩ => ⟨he, l, rfl, hx, ho, hc⟩
  · refine (swap_ok w v l 0 n o (by omega) (by omega) (by omega)).mono fun e w' ⟨he, ho, hc⟩ => ⟨he, _, swapR_len _ _ _ _ _, ?_, by rw [swapR_len]; exact ho, hc⟩
    have h1 : l[0]'(by omega) = x := by rw [List.getElem?_eq_getElem (by omega)] at hx; simpa using hx
    unfold swapR
    rw [List.getElem?_set_self (by simp; omega), h1]

set_option maxHeartbeats 1600000 in
theorem hpop_ok (w : World) (h : Nat) (v : Value) (L : List R) (n : Nat) (x : R) (I : IsBy w h v L) (hl : L.length = n + 1) (hx : L[0]? = some x) (hm : n ≤ 1000000) :
    Calls Tryd.prog 50 #[.iface 78 (.pointer (some ⟨h, 0, none⟩))] w (PopPost h v x w) := by
  obtain ⟨A, c, rfl⟩ : ∃ A c, v = .slice A (n + 1) c := by
    obtain ⟨g, cap, _, e, _⟩ := own_open I.o (by omega)
    rw [hl] at e
    exact ⟨_, _, e⟩
  have c0 := I.b.cellv 0 rfl
  have hm1 := fun fuel => m_len fuel ⟨h, 0, none⟩ w _ c0
  have hm2 := fun fuel => m_swap fuel ⟨h, 0, none⟩ w _ c0
  have hm3 := m_pop
  have HS := Lib.hid (swap0_ok w _ L n x I.o hl hx)
  have H := Lib.hid (And.intro I hl); clear I hl hx
  go_enter Tryd.func50, Tryd.ntmps50
  go_wp2_with fail
  refine (len_ok _ _ _ _).mono ?_
  rintro e w2 ⟨rfl, rfl⟩
  go_wp2_with fail
  refine HS.out.mono ?_
  rintro e w2 ⟨rfl, L2, hl2, hx2, ho2, hc2⟩
  have I2 := H.out.1.step hc2 ho2
  have H2 := Lib.hid (And.intro hl2 (And.intro hx2 (And.intro hc2 I2))); clear hl2 hx2 ho2 hc2 I2
  have HD := Lib.hid (down_ok w2 h _ L2 n H2.out.2.2.2 (by rw [H2.out.1, H.out.2]; omega) (by rw [H2.out.1, H.out.2]; omega))
  go_wp2_with fail
  refine HD.out.mono ?_
  rintro e w3 ⟨q, L3, rfl, hl3, hy3, I3, hc3⟩
  have HP := Lib.hid (pop_ok w3 h _ L3 n x I3 (by rw [hl3, H2.out.1, H.out.2]) (hy3.trans H2.out.2.1) hm)
  have HC := Lib.hid (H2.out.2.2.1.trans hc3); clear hl3 hy3 I3 hc3
  go_wp2_with fail
  refine HP.out.mono ?_
  rintro e w4 ⟨rfl, hc4⟩
  have HC4 := Lib.hid hc4; clear hc4
  go_wp2_with fail
  go_ret
  exact ⟨rfl, (HC.out.mono (fun k hk => .inl (List.mem_cons_of_mem _ hk))).trans HC4.out⟩
end Go.Proofs.YtkocikpoagfonaaDoor
