/-
  Cutting a slice; its length.
-/
import Derived.Test.YtnjgddckejpddaaGreatDoorClone
namespace Go.Proofs.YtnjgddckejpddaaGreatDoor
open Go.RowKit
namespace Sep

theorem View.below {sz : Nat} {w w' : World} {v : Value} {n : Nat} {xs : List Value} (h : View sz w v n xs) (hb : Below w.heap.size w w') : View sz w' v n xs := by
  obtain ⟨hl, a, c, rfl, hn, hc, hx, h0⟩ := h
  refine ⟨hl, a, c, rfl, hn, hc, fun j u hu => ?_, h0⟩
  obtain ⟨ad, ha, hu'⟩ := hx j u hu
  exact ⟨ad, ha, (hb.cell (World.block_lt_of_cell? _ _ hu')).trans hu'⟩

theorem View.len_run {P : Program} {t e : TypeId} (ht : P.underlying t = some (.slice e)) {sz : Nat} {w : World} {v : Value} {n : Nat} {xs : List Value} (h : View sz w v n xs) (ty : TypeId) (W : World) :
    (Builtin.len_ #[t] ty #[v]).run P W = .ok (.int .i64 n) W := by
  obtain ⟨_, a, c, rfl, _⟩ := h
  simp [Builtin.len_, run_underlying ht, goInt]

/-- v[k:] -/
theorem View.drop {P : Program} {t e : TypeId} (ht : P.underlying t = some (.slice e)) {sz : Nat} (hs : ∃ i, P.info? e = some i ∧ i.size = sz) {w : World} {v : Value} {n : Nat} {xs : List Value} (h : View sz w v n xs) (k : Nat) (hk : k ≤ n) :
    ∃ v', (∀ W : World, (Instr.slice t v (some (.int .i64 k)) none none).run P W = .ok v' W) ∧ View sz w v' (n - k) (xs.drop (k * sz)) := by
  obtain ⟨i, hi, hsz⟩ := hs
  obtain ⟨hl, a, c, rfl, hn, hc, hx, h0⟩ := h
  refine ⟨.slice (if c = k then a else a.map (·.add (k * sz))) (n - k) (c - k), fun W => ?_, ?_⟩
  · have hkn : (0 : Int) ≤ k ∧ (k : Int) ≤ n := by omega
    simp [Instr.slice, run_underlying ht, Instr.sliceBounds, Instr.sliceBound, asIntOf, sizeOf, typeInfo, hi, hsz, hkn]
    intro h; omega
  · refine ⟨by rw [List.length_drop, hl, Nat.sub_mul], _, _, rfl, by omega, by omega, fun j u hu => ?_, fun h => ?_⟩
    · rw [List.getElem?_drop] at hu
      obtain ⟨ad, ha, hu'⟩ := hx _ u hu
      subst ha
      by_cases hck : c = k
      · have : n = k := by omega
        have hlen : xs.length ≤ k * sz + j := by rw [hl, this]; omega
        rw [List.getElem?_eq_none hlen] at hu; cases hu
      · exact ⟨ad.add (k * sz), by simp [hck], by rw [add_add]; exact hu'⟩
    · by_cases hck : c = k
      · omega
      · simp only [hck, if_false, Option.map_eq_none_iff] at h
        have := h0 h; omega

end Sep
end Go.Proofs.YtnjgddckejpddaaGreatDoor
