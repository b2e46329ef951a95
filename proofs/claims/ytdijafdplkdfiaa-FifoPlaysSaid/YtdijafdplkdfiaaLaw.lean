/- What a slice of int64 that came in is to a law of layer 13. Conditions: none. -/
import Derived.Test.YtdijafdplkdfiaaShown
namespace Go.Proofs.Ytdijafdplkdfiaa
set_option linter.unusedVariables false
open Go.RowKit
theorem preI {w : World} {a0 : Option Addr} {len0 cap0 : Nat} {z0 : List Int} (w0 : IsRow .i64 w a0 len0 cap0 z0) :
    ∃ zs : List Int, zs.length = len0 ∧ Ints w.heap.size w (.slice a0 len0 cap0) zs ∧ len0 ≤ 9223372036854775807 ∧ ∀ j, -9223372036854775808 ≤ zat zs j ∧ zat zs j ≤ 9223372036854775807 := by
  obtain ⟨h1, h2⟩ := w0.ints (Nat.le_refl _)
  have hc := w0.cap
  refine ⟨_, h2, h1, by omega, fun j => ?_⟩
  rcases w0 with ⟨rfl, rfl, rfl, rfl⟩ | ⟨x, rfl, k1, k2, k3, k4, k5⟩
  · simp [zat]
  · by_cases hj : j < len0
    · have hm : z0[j]'(by omega) ∈ z0 := List.getElem_mem _
      have := bounds_i64 (k5 _ hm)
      have e : zat (z0.take len0) j = z0[j]'(by omega) := by
        unfold zat; rw [List.getElem?_take, if_pos hj, List.getElem?_eq_getElem (by omega)]; rfl
      rw [e]; omega
    · have e : zat (z0.take len0) j = 0 := by
        unfold zat; rw [List.getElem?_take, if_neg hj]; rfl
      rw [e]; omega
theorem want_ge {n s : Int} (h : 0 < n) (hs : 1 ≤ s) : n ≤ wantI n s := by
  have hno : ¬ (n ≤ 0 ∨ s < 1) := by omega
  have h1 : 0 ≤ -(n % s) % s := Int.emod_nonneg _ (by omega)
  unfold wantI
  rw [if_neg hno]
  split <;> omega
end Go.Proofs.Ytdijafdplkdfiaa
