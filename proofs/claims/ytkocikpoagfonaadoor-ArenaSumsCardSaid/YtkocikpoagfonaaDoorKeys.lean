/- The keys of a map that is owned; lists that rise. Plain theorems. -/
import Derived.Test.YtkocikpoagfonaaDoorVMap
import Derived.Test.YtkocikpoagfonaaDoorZSl
import Derived.Lib.SlKeysI
import Derived.Maps.Range
namespace Go.Proofs.YtkocikpoagfonaaDoor
open Go.RowKit Go.Maps

theorem VMap.keys {P : Program} {K : TypeId} {w : World} {b n : Nat} {f : Int → Option Value} (h : VMap P K w b n f) (hK : P.underlying K = some (.int .i64)) :
    ∃ D : DataW Value, w.ownsMap P K heldE b n D ∧ Maps.size D ≤ n ∧ ∀ ss : List Int, ss.Perm (intKeys D) → ss.Nodup ∧ ∀ x, x ∈ ss ↔ (f x).isSome = true := by
  obtain ⟨D, ho, hm, hf⟩ := h.ex
  refine ⟨D, ho, ho.size_le, fun ss hs => ?_⟩
  obtain ⟨es, hD, hpw, _⟩ := ho.entries (int_keyed hK)
  obtain ⟨es', hD', hko⟩ := ho.keysOf
  obtain rfl : es = es' := by rw [hD] at hD'; simpa using hD'
  subst hD
  have hk : ∀ p ∈ es, ∃ x, p.1 = .int .i64 x := fun p hp => by
    obtain ⟨v, hv⟩ := hko p hp
    obtain ⟨x, _, hx, _⟩ := Maps.keyOf_i64 hK hv
    exact ⟨x, hx⟩
  refine ⟨hs.nodup_iff.2 ?_, fun x => ?_⟩
  · show (es.map fun p => Go.intOf p.1).Nodup
    refine List.pairwise_map.2 (hpw.imp_of_mem fun {p q} hp' hq' hne e => hne ?_)
    obtain ⟨a, ha⟩ := hk p hp'
    obtain ⟨b, hb⟩ := hk q hq'
    rw [ha, hb] at e ⊢
    exact congrArg _ e
  · rw [hs.mem_iff, ← (hf x).1, has_eq, List.any_eq_true]
    show x ∈ es.map (fun p => Go.intOf p.1) ↔ _
    rw [List.mem_map]
    constructor
    · rintro ⟨p, hp', rfl⟩
      obtain ⟨a, ha⟩ := hk p hp'
      exact ⟨p, hp', by rw [ha]; simp [Lit.sameKey, Go.intOf]⟩
    · rintro ⟨p, hp', hs'⟩
      obtain ⟨a, ha⟩ := hk p hp'
      rw [ha] at hs'
      exact ⟨p, hp', by rw [ha]; simpa [Lit.sameKey, Go.intOf] using hs'⟩
end Go.Proofs.YtkocikpoagfonaaDoor
