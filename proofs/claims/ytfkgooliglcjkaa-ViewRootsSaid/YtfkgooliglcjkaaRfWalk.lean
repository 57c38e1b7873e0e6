/- The walk of the document's walk: places that are reached, names that are lost. -/
import Derived.Test.YtfkgooliglcjkaaRfPut
import Derived.Test.YtfkgooliglcjkaaVwWalk
namespace Go.Proofs.Ytfkgooliglcjkaa
open Go.RowKit Go.Maps

/-- The first places, and 1, of the last n objects. -/
def ltF (os : List Ob) (j : Nat) (a : Int) : Option Int := ((os.drop j).findIdx? fun o => o.addr == a).map fun k => ((k + j + 1 : Nat) : Int)
theorem ltF_all (os : List Ob) : ltF os os.length = fun _ => none := by funext a; simp [ltF]
theorem ltF_succ {os : List Ob} {j : Nat} {o : Ob} (h : os[j]? = some o) (a : Int) : putF (ltF os (j + 1)) o.addr ((j : Int) + 1) a = ltF os j a := by
  obtain ⟨hj, rfl⟩ := List.getElem?_eq_some_iff.1 h
  unfold putF ltF
  rw [List.drop_eq_getElem_cons hj, List.findIdx?_cons]
  by_cases e : a = os[j].addr
  · subst e
    simp
  · rw [if_neg e, if_neg (by simp; exact fun h => e h.symm)]
    cases (os.drop (j + 1)).findIdx? fun o => o.addr == a with
    | none => rfl
    | some k => simp; omega
def atG (V : Vw) (a : Int) : Option Int := (V.at_ a).map fun k => ((k + 1 : Nat) : Int)
theorem ltF_zero (V : Vw) : ltF V.objects 0 = atG V := by funext a; simp [ltF, atG, Vw.at_]
/-- Which places are in a list. -/
def insA (n : Nat) (l : List Nat) : Array Value := ((List.range n).map fun p => Value.bool (decide (p ∈ l))).toArray
theorem insA_nil (n : Nat) : zcells (.bool false) n = insA n [] := by
  unfold insA
  rw [zcells_list]
  simp [List.map_const']
theorem insA_get {n : Nat} {l : List Nat} {p : Nat} (h : p < n) : (insA n l)[p]? = some (.bool (decide (p ∈ l))) := by simp [insA, h]
theorem insA_put {n : Nat} {l : List Nat} {p : Nat} (h : p < n) : (insA n l).setIfInBounds p (.bool true) = insA n (l ++ [p]) := by
  apply Array.ext_getElem?
  intro i
  by_cases hi : i < n
  · rw [insA_get hi]
    by_cases e : p = i
    · subst e
      simp [insA, h]
    · rw [Array.getElem?_setIfInBounds_ne e, insA_get hi]
      have : (i ∈ l ++ [p]) = (i ∈ l) := by simp [Ne.symm e]
      simp only [this]
  · simp [insA, hi]
def plI (l : List Nat) : List Int := l.map fun (p : Nat) => (p : Int)
theorem plI_snoc (l : List Nat) (p : Nat) : plI (l ++ [p]) = plI l ++ [(p : Int)] := by simp [plI]
theorem plI_len (l : List Nat) : (plI l).length = l.length := by simp [plI]
theorem plI_get {l : List Nat} {i p : Nat} (h : l[i]? = some p) : (plI l)[i]? = some (p : Int) := by simp [plI, h]
/-- A list of names that stays readable while marks are set. -/
def Nms (w0 : World) (bI : Nat) (v : Value) (xs : List Int) : Prop := ∀ w, Chg [bI] w0 w → SlI w w.heap.size v xs
structure RwM (w0 : World) (V : Vw) (bI : Nat) (P : Int → Prop) (l : List Nat) (lost : List Int) (v7 v8 : Value) (w : World) : Prop where
  c : Chg [bI] w0 w
  i : Blk w bI 4 (insA V.objects.length l)
  L : RwL V P l lost
  o7 : OwnI 3 w v7 (plI l)
  o8 : OwnI 3 w v8 lost
  f7 : ∀ k ∈ fpv v7, w0.heap.size ≤ k
  f8 : ∀ k ∈ fpv v8, w0.heap.size ≤ k
  d : ∀ k ∈ fpv v7, k ∉ fpv v8
section
variable {w0 w w' : World} {V : Vw} {bI : Nat} {P Q : Int → Prop} {l : List Nat} {lost : List Int} {v7 v8 v' : Value} {x : Int} {p : Nat}
theorem Chg.newB {T : List Nat} {S : List Nat} {a w w' : World} (h : Chg S a w) (c : Chg T w w') (hT : ∀ k ∈ T, a.heap.size ≤ k) : Chg S a w' :=
  ⟨c.os.trans h.os, c.tape.trans h.tape, c.output.trans h.output, Nat.le_trans h.size c.size, fun k hk hn =>
    (c.block k (Nat.lt_of_lt_of_le hk h.size) (fun hm => by have := hT k hm; omega)).trans (h.block k hk hn)⟩
theorem RwM.law (M : RwM w0 V bI P l lost v7 v8 w) (h : RwL V Q l lost) : RwM w0 V bI Q l lost v7 v8 w := ⟨M.c, M.i, h, M.o7, M.o8, M.f7, M.f8, M.d⟩
theorem RwM.drew (M : RwM w0 V bI P l lost v7 v8 w) (n : Nat) : RwM w0 V bI P l lost v7 v8 (w.drewN n) := ⟨M.c.drewN n, M.i, M.L, M.o7.drewN n, M.o8.drewN n, M.f7, M.f8, M.d⟩
theorem RwM.put {lost' : List Int} (M : RwM w0 V bI P l lost v7 v8 w) (h : RwL V Q l lost') (O : OwnI 3 w' v' lost') (S : Stp (fpv v8) (fpv v') w w') : RwM w0 V bI Q l lost' v7 v' w' := by
  refine ⟨M.c.newB S.c M.f8, S.c.blk M.i (M.o8.ne_blk M.i (by decide)), h, M.o7.chg S.c M.d, O, M.f7, fun k hk => ?_, fun k hk hm => ?_⟩
  · rcases S.f k hk with h1 | h1
    · exact M.f8 k h1
    · exact Nat.le_trans M.c.size h1
  · rcases S.f k hm with h1 | h1
    · exact M.d k hk h1
    · have := M.o7.lt hk; omega
theorem RwM.mark (M : RwM w0 V bI P l lost v7 v8 w) (hp : p < V.objects.length) : w.cell? ⟨bI, p, none⟩ = some (.bool (decide (p ∈ l))) ∧ w.frozen? ⟨bI, p, none⟩ = false := ⟨M.i.cellv p (insA_get hp), M.i.frozen p⟩
theorem RwM.new (M : RwM w0 V bI P l lost v7 v8 w) (hp : p < V.objects.length) (h : RwL V Q (l ++ [p]) lost) (O : OwnI 3 w' v' (plI (l ++ [p]))) (S : Stp (fpv v7) (fpv v') (w.setCell ⟨bI, p, none⟩ (.bool true)) w') : RwM w0 V bI Q (l ++ [p]) lost v' v8 w' := by
  have c1 : Chg [bI] w (w.setCell ⟨bI, p, none⟩ (.bool true)) := (Chg.refl [bI] w).setCell (.inl (by simp)) _
  have i1 : Blk (w.setCell ⟨bI, p, none⟩ (.bool true)) bI 4 (insA V.objects.length (l ++ [p])) := M.i.setv p _ (insA_put hp)
  have q8 : OwnI 3 (w.setCell ⟨bI, p, none⟩ (.bool true)) v8 lost := M.o8.chg c1 (fun k hk hm => by have := only1 hm; subst this; exact M.o8.ne_blk M.i (by decide) hk)
  have q7 : OwnI 3 (w.setCell ⟨bI, p, none⟩ (.bool true)) v7 (plI l) := M.o7.chg c1 (fun k hk hm => by have := only1 hm; subst this; exact M.o7.ne_blk M.i (by decide) hk)
  refine ⟨(M.c.trans c1).newB S.c M.f7, S.c.blk i1 (q7.ne_blk i1 (by decide)), h, O, q8.chg S.c (fun k hk hm => M.d k hm hk), fun k hk => ?_, M.f8, fun k hk hm => ?_⟩
  · rcases S.f k hk with h1 | h1
    · exact M.f7 k h1
    · exact Nat.le_trans (Nat.le_trans M.c.size c1.size) h1
  · rcases S.f k hk with h1 | h1
    · exact M.d k h1 hm
    · have := q8.lt hm; omega
theorem RwM.own7 (M : RwM w0 V bI P l lost v7 v8 w) : OwnI 3 (w.setCell ⟨bI, p, none⟩ (.bool true)) v7 (plI l) := M.o7.chg ((Chg.refl [bI] w).setCell (.inl (by simp)) _) (fun k hk hm => by have := only1 hm; subst this; exact M.o7.ne_blk M.i (by decide) hk)
theorem nodup_lt {n : Nat} : ∀ {l : List Nat}, l.Nodup → (∀ p ∈ l, p < n) → l.length ≤ n := fun {l} h hl => by
  have h1 : (plI l).Nodup := by
    unfold plI List.Nodup
    rw [List.pairwise_map]
    exact h.imp fun {a b} hab e => hab (by omega)
  have h2 := nodup_le (l := plI l) (m := plI (List.range n)) h1 (fun x hx => by
    obtain ⟨p, hp, rfl⟩ := List.mem_map.1 hx
    exact List.mem_map.2 ⟨p, List.mem_range.2 (hl p hp), rfl⟩)
  rw [plI_len, plI_len, List.length_range] at h2
  exact h2
theorem RwL.lt (h : RwL V P l lost) : ∀ p ∈ l, p < V.objects.length := fun p hp => by
  obtain ⟨a, _, e⟩ := h.so p hp
  obtain ⟨o, ho, _⟩ := at_lt e
  exact (List.getElem?_eq_some_iff.1 ho).1
theorem RwL.len (h : RwL V P l lost) : l.length ≤ V.objects.length := nodup_lt h.nd h.lt
theorem RwL.lostLen (h : RwL V P l lost) : lost.length ≤ V.names.length := nodup_le (h.lr.imp fun {a b} hab => by omega) fun x hx => (h.ls x hx).1.named
end
def RwPost (V : Vw) (w : World) (e : Ending) (w' : World) : Prop :=
  ∃ v7 v8 l lost, e = .returned (.tuple #[v7, v8]) ∧ IsPls V l ∧ IsLost V lost ∧ OwnI 3 w' v7 (plI l) ∧ OwnI 3 w' v8 lost ∧ Chg [] w w' ∧ (∀ k ∈ fpv v7, w.heap.size ≤ k) ∧ (∀ k ∈ fpv v8, w.heap.size ≤ k)
def Rw1Rel (w0 : World) (os : List Ob) (bV bA : Nat) (cV : Array Value) (gk : Nat) (idx : Value) (w : World) : Prop :=
  ∃ j, gk = j + 1 ∧ j ≤ os.length ∧ idx = .int .i64 ((j : Int) - 1) ∧ IMap Try.prog 3 w bA (os.length - j) (ltF os j) ∧ Blk w bV 26 cV ∧ Chg [] w0 w
def Rw2Rel (w0 : World) (V : Vw) (bI : Nat) (gk : Nat) (v7 v8 v9 idx : Value) (w : World) : Prop :=
  ∃ k l lost names P, gk + k = V.objects.length + 1 ∧ k ≤ l.length ∧ idx = .int .i64 (k : Nat) ∧ Nms w0 bI v9 names ∧ names.length ≤ 1000000 ∧ (∀ x ∈ names, x ≠ 0 → Rch V x) ∧ RwM w0 V bI P l lost v7 v8 w ∧
    (∀ x ∈ V.said, x ≠ 0 → P x ∨ x ∈ names) ∧ (∀ j p o, j < k → l[j]? = some p → V.objects[p]? = some o → ∀ x ∈ o.slots, x ≠ 0 → P x ∨ x ∈ names)
def Rw3Rel (w0 : World) (V : Vw) (bI : Nat) (P : Int → Prop) (l0 : List Nat) (names : List Int) (gk : Nat) (v7 v8 idx : Value) (w : World) : Prop :=
  ∃ i l lost ext, gk + i = names.length + 1 ∧ i ≤ names.length ∧ idx = .int .i64 (i : Nat) ∧ l = l0 ++ ext ∧ RwM w0 V bI (fun y => P y ∨ y ∈ names.take i) l lost v7 v8 w
end Go.Proofs.Ytfkgooliglcjkaa
