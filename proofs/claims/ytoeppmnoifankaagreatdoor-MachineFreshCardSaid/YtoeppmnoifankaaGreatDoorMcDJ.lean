/- Scripts as data: how bytes are read, where they are wrong; a program's bytes read as the program. No program in sight. -/
/- A script in memory. -/
import Derived.Test.YtoeppmnoifankaaGreatDoorMcOJ
namespace Go.Proofs.YtoeppmnoifankaaGreatDoor
open Go.RowKit

/-- The next byte, in its bounds; else where it is wrong. -/
def rdN (bs : List Nat) (at_ lo hi : Nat) : Except Nat Nat :=
  if bs.length ≤ at_ then .error bs.length else if bs.getD at_ 0 < lo ∨ hi < bs.getD at_ 0 then .error at_ else .ok (bs.getD at_ 0)
def insL (v : List Nat) : Ins := ⟨v.getD 0 0, v.getD 1 0, v.getD 2 0, v.getD 3 0⟩
def wrI (G F S : Nat) (i : Ins) : Int := wrongP G F S i.o i.a i.b i.c
/-- An instruction, part by part. -/
def insGo (G F S : Nat) (bs : List Nat) (a0 : Nat) : Nat → List Nat → Except Nat Ins
  | 0, v => .ok (insL v)
  | n + 1, v => if bs.length ≤ a0 + v.length then .error bs.length else
    if 0 ≤ wrI G F S (insL (v ++ [bs.getD (a0 + v.length) 0])) ∧ wrI G F S (insL (v ++ [bs.getD (a0 + v.length) 0])) ≤ (v.length : Int) then .error (a0 + (wrI G F S (insL (v ++ [bs.getD (a0 + v.length) 0]))).toNat)
    else insGo G F S bs a0 n (v ++ [bs.getD (a0 + v.length) 0])
def codGo (G F S : Nat) (bs : List Nat) : Nat → Nat → List Ins → Except Nat (List Ins × Nat)
  | 0, a, l => .ok (l, a)
  | n + 1, a, l => match insGo G F S bs a 4 [] with
    | .error k => .error k
    | .ok i => codGo G F S bs n (a + 4) (l ++ [i])
def funGo (G F : Nat) (bs : List Nat) : Nat → Nat → List (List Ins) → Except Nat (List (List Ins) × Nat)
  | 0, a, l => .ok (l, a)
  | n + 1, a, l => match rdN bs a 1 64 with
    | .error k => .error k
    | .ok S => match codGo G F S bs S (a + 1) [] with
      | .error k => .error k
      | .ok (f, a') => funGo G F bs n a' (l ++ [f])
/-- The program of bytes; else where they are wrong. -/
def decP (bs : List Nat) : Except Nat (Nat × List (List Ins)) :=
  match rdN bs 0 1 16 with
  | .error k => .error k
  | .ok F => match rdN bs 1 0 32 with
    | .error k => .error k
    | .ok G => match funGo G F bs F 2 [] with
      | .error k => .error k
      | .ok (fs, a) => if a < bs.length then .error a else .ok (G, fs)
section
variable {G F S : Nat}
theorem rdN_ok {bs : List Nat} {a lo hi v : Nat} (h : bs[a]? = some v) (h1 : lo ≤ v) (h2 : v ≤ hi) : rdN bs a lo hi = .ok v := by
  have hl := (List.getElem?_eq_some_iff.1 h).1
  have e : bs.getD a 0 = v := by rw [List.getD_eq_getElem?_getD, h]; rfl
  unfold rdN
  rw [if_neg (by omega), e, if_neg (by omega)]
theorem insGo_ok {i : Ins} (h : okIns G F S i) (bs : List Nat) (a : Nat) (hb : ∀ j v, (encI i)[j]? = some v → bs[a + j]? = some v) : insGo G F S bs a 4 [] = .ok i := by
  obtain ⟨hw, -⟩ := h
  obtain ⟨w1, w2, w3⟩ := wrongP_parts hw
  have g : ∀ j v, (encI i)[j]? = some v → bs.getD (a + j) 0 = v ∧ ¬ bs.length ≤ a + j := fun j v hv => by
    have := hb j v hv
    refine ⟨by rw [List.getD_eq_getElem?_getD, this]; rfl, ?_⟩
    have := (List.getElem?_eq_some_iff.1 this).1
    omega
  obtain ⟨g0, l0⟩ := g 0 i.o rfl
  obtain ⟨g1, l1⟩ := g 1 i.a rfl
  obtain ⟨g2, l2⟩ := g 2 i.b rfl
  obtain ⟨g3, l3⟩ := g 3 i.c rfl
  have e0 : insL [i.o] = ⟨i.o, 0, 0, 0⟩ := rfl
  have e1 : insL [i.o, i.a] = ⟨i.o, i.a, 0, 0⟩ := rfl
  have e2 : insL [i.o, i.a, i.b] = ⟨i.o, i.a, i.b, 0⟩ := rfl
  have e3 : insL [i.o, i.a, i.b, i.c] = i := rfl
  have n0 : ¬ (0 ≤ wrI G F S ⟨i.o, 0, 0, 0⟩ ∧ wrI G F S ⟨i.o, 0, 0, 0⟩ ≤ ((0 : Nat) : Int)) := fun ⟨h0, h1⟩ => by have := w1 h0; unfold wrI at h1; simp only at h1; omega
  have n1 : ¬ (0 ≤ wrI G F S ⟨i.o, i.a, 0, 0⟩ ∧ wrI G F S ⟨i.o, i.a, 0, 0⟩ ≤ ((1 : Nat) : Int)) := fun ⟨h0, h1⟩ => by have := w2 h0; unfold wrI at h1; simp only at h1; omega
  have n2 : ¬ (0 ≤ wrI G F S ⟨i.o, i.a, i.b, 0⟩ ∧ wrI G F S ⟨i.o, i.a, i.b, 0⟩ ≤ ((2 : Nat) : Int)) := fun ⟨h0, h1⟩ => by have := w3 h0; unfold wrI at h1; simp only at h1; omega
  have n3 : ¬ (0 ≤ wrI G F S i ∧ wrI G F S i ≤ ((3 : Nat) : Int)) := fun ⟨h0, h1⟩ => by unfold wrI at h0; omega
  rw [insGo, if_neg (by simpa using l0)]
  simp only [List.nil_append, List.length_nil, g0, e0]
  rw [if_neg n0, insGo, if_neg (by simpa using l1)]
  simp only [List.cons_append, List.nil_append, List.length_cons, List.length_nil, g1, e1]
  rw [if_neg n1, insGo, if_neg (by simpa using l2)]
  simp only [List.cons_append, List.nil_append, List.length_cons, List.length_nil, g2, e2]
  rw [if_neg n2, insGo, if_neg (by simpa using l3)]
  simp only [List.cons_append, List.nil_append, List.length_cons, List.length_nil, g3, e3]
  rw [if_neg n3, insGo, e3]
theorem codGo_ok (bs : List Nat) : ∀ (l : List Ins) (a : Nat) (l0 : List Ins), (∀ i ∈ l, okIns G F S i) → (∀ j v, (l.flatMap encI)[j]? = some v → bs[a + j]? = some v) → codGo G F S bs l.length a l0 = .ok (l0 ++ l, a + 4 * l.length)
  | [], a, l0, _, _ => by simp [codGo]
  | i :: l, a, l0, h, hb => by
    rw [List.length_cons, codGo, insGo_ok (h i (by simp)) bs a (fun j v hv => hb j v (by
      rw [List.flatMap_cons, List.getElem?_append_left (List.getElem?_eq_some_iff.1 hv).1]; exact hv))]
    show codGo G F S bs l.length (a + 4) (l0 ++ [i]) = _
    rw [codGo_ok bs l (a + 4) (l0 ++ [i]) (fun x hx => h x (by simp [hx])) (fun j v hv => by
      have := hb (4 + j) v (by
        rw [List.flatMap_cons, List.getElem?_append_right (by show (encI i).length ≤ _; simp [encI])]
        rw [show 4 + j - (encI i).length = j by simp [encI]]; exact hv)
      rwa [show a + 4 + j = a + (4 + j) by omega])]
    congr 2
    · simp
    · omega
theorem encF_len (l : List Ins) : (encF l).length = 1 + 4 * l.length := by
  unfold encF
  rw [List.length_cons]
  have : (l.flatMap encI).length = 4 * l.length := by
    induction l with
    | nil => rfl
    | cons i l ih => rw [List.flatMap_cons, List.length_append, ih]; simp [encI]; omega
  omega
theorem funGo_ok (bs : List Nat) : ∀ (fs : List (List Ins)) (a : Nat) (l0 : List (List Ins)), (∀ l ∈ fs, 1 ≤ l.length ∧ l.length ≤ 64 ∧ ∀ i ∈ l, okIns G F l.length i) → (∀ j v, (fs.flatMap encF)[j]? = some v → bs[a + j]? = some v) → funGo G F bs fs.length a l0 = .ok (l0 ++ fs, a + (fs.flatMap encF).length)
  | [], a, l0, _, _ => by simp [funGo]
  | l :: fs, a, l0, h, hb => by
    obtain ⟨h1, h2, h3⟩ := h l (by simp)
    have hb1 : ∀ j v, (encF l)[j]? = some v → bs[a + j]? = some v := fun j v hv => hb j v (by
      rw [List.flatMap_cons, List.getElem?_append_left (List.getElem?_eq_some_iff.1 hv).1]; exact hv)
    have r1 : rdN bs a 1 64 = .ok l.length := rdN_ok (by have := hb1 0 l.length rfl; rwa [Nat.add_zero] at this) h1 h2
    have r2 := codGo_ok (G := G) (F := F) (S := l.length) bs l (a + 1) [] h3 (fun j v hv => by
      have := hb1 (1 + j) v (by unfold encF; rw [Nat.add_comm 1 j, List.getElem?_cons_succ]; exact hv)
      rwa [show a + 1 + j = a + (1 + j) by omega])
    rw [List.length_cons, funGo]
    simp only [r1, r2]
    have hl := encF_len l
    rw [funGo_ok bs fs (a + 1 + 4 * l.length) _ (fun x hx => h x (by simp [hx])) (fun j v hv => by
      have := hb ((encF l).length + j) v (by
        rw [List.flatMap_cons, List.getElem?_append_right (by omega), Nat.add_sub_cancel_left]; exact hv)
      rwa [show a + 1 + 4 * l.length + j = a + ((encF l).length + j) by omega])]
    congr 2
    · simp
    · rw [List.flatMap_cons, List.length_append]; omega
theorem decP_enc {fs : List (List Ins)} (h : OkP G fs) : decP (encP G fs) = .ok (G, fs) := by
  have r1 : rdN (encP G fs) 0 1 16 = .ok fs.length := rdN_ok rfl h.f0 h.f1
  have r2 : rdN (encP G fs) 1 0 32 = .ok G := rdN_ok rfl (Nat.zero_le _) h.g
  have r3 := funGo_ok (G := G) (F := fs.length) (encP G fs) fs 2 [] h.s (fun j v hv => by
    unfold encP
    rw [show 2 + j = j + 1 + 1 by omega, List.getElem?_cons_succ, List.getElem?_cons_succ]; exact hv)
  unfold decP
  simp only [r1, r2, r3]
  rw [if_neg (by unfold encP; simp only [List.length_cons]; omega), List.nil_append]
end
end Go.Proofs.YtoeppmnoifankaaGreatDoor
namespace Go.Proofs.YtoeppmnoifankaaGreatDoor
open Go.RowKit Go.Maps

def insC (i : Ins) : List Value := [.int .i64 (i.o : Nat), .int .i64 (i.a : Nat), .int .i64 (i.b : Nat), .int .i64 (i.c : Nat)]
theorem insC_len (i : Ins) : (insC i).length = 4 := rfl
theorem insC_one (i : Ins) : ∀ u ∈ insC i, u.oneCell' = true := by
  intro u hu
  simp [insC] at hu
  rcases hu with rfl | rfl | rfl | rfl <;> rfl
/-- A script: each function's instructions. -/
structure IsFn (w : World) (v : Value) (vf : Nat → Value) (fs : List (List Ins)) : Prop where
  o : OwnV 34 w v ((List.range fs.length).map vf)
  f : ∀ i l, fs[i]? = some l → OwnG insC 4 33 w (vf i) l
def FnF (v : Value) (vf : Nat → Value) (n : Nat) (k : Nat) : Prop := k ∈ fpv v ∨ ∃ i, i < n ∧ k ∈ fpv (vf i)
end Go.Proofs.YtoeppmnoifankaaGreatDoor
