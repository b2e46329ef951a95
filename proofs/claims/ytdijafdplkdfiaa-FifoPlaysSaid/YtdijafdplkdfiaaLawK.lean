/- Slices of other whole numbers that came in, and what laws of lines need. Conditions: none. -/
import Derived.Test.YtdijafdplkdfiaaLaw
namespace Go.Proofs.Ytdijafdplkdfiaa
set_option linter.unusedVariables false
open Go.RowKit
/-- The slice value reads as zs of kind k, in a block below n₀. -/
def IntsK (k : IntKind) (n₀ : Nat) (W : World) (sv : Value) (zs : List Int) : Prop :=
  ((∃ a cap, sv = .slice a 0 cap) ∧ zs = []) ∨ ∃ b off cap, sv = .slice (some ⟨b, off, none⟩) zs.length cap ∧ b < n₀ ∧ ∀ j, j < zs.length → W.cell? ⟨b, off + j, none⟩ = some (.int k (zat zs j))
theorem IntsK.next {k : IntKind} {A B : World} (h : Below A.heap.size A B) {sv : Value} {zs : List Int} : IntsK k A.heap.size A sv zs → IntsK k B.heap.size B sv zs
  | .inl e => .inl e
  | .inr ⟨b, off, cap, e, hb, hc⟩ => .inr ⟨b, off, cap, e, Nat.lt_of_lt_of_le hb h.size, fun j hj => (h.cell (p := ⟨b, off + j, none⟩) hb).trans (hc j hj)⟩
theorem IntsK.cells {k : IntKind} {n₀ : Nat} {W : World} {a : Option Addr} {n cap : Nat} {zs : List Int} (h : IntsK k n₀ W (.slice a n cap) zs) {p : Nat} (hp : p < zs.length) :
    ∃ b off, a = some ⟨b, off, none⟩ ∧ b < n₀ ∧ ∀ j, j < zs.length → W.cell? ⟨b, off + j, none⟩ = some (.int k (zat zs j)) := by
  rcases h with ⟨_, rfl⟩ | ⟨b, off, c, h1, hb, hc⟩
  · simp at hp
  · simp only [Value.slice.injEq] at h1
    exact ⟨b, off, h1.1, hb, hc⟩
theorem preK {k : IntKind} {w : World} {a : Option Addr} {len cap : Nat} {zs : List Int} (h : IsRow k w a len cap zs) :
    ∃ xs : List Int, xs.length = len ∧ IntsK k w.heap.size w (.slice a len cap) xs ∧ len ≤ 9223372036854775807 ∧ ∀ j, j < xs.length → (Lit.int k (zat xs j)).wf = true := by
  rcases h with ⟨rfl, rfl, rfl, rfl⟩ | ⟨x, rfl, h1, h2, h3, h4, h5⟩
  · exact ⟨[], rfl, .inl ⟨⟨_, _, rfl⟩, rfl⟩, by omega, fun j hj => by simp at hj⟩
  · have hl : (zs.take len).length = len := by simp; omega
    have hz : ∀ j, j < len → zat (zs.take len) j = zs.getD j 0 := fun j hj => by simp [zat, hj]
    refine ⟨zs.take len, hl, ?_, by unfold maxLen at h2; omega, fun j hj => ?_⟩
    · by_cases h0 : len = 0
      · subst h0
        exact .inl ⟨⟨_, _, rfl⟩, by simp⟩
      · obtain ⟨b, off, spot⟩ := x
        have hc := h4 0 (by omega)
        have hspot : spot = none := by simpa [Addr.add] using World.cell?_spot hc
        subst hspot
        refine .inr ⟨b, off, cap, by rw [hl], ?_, fun j hj => ?_⟩
        · have := World.block_lt_of_cell? w _ hc
          simpa [Addr.add] using this
        · rw [hl] at hj
          have := h4 j (by omega)
          rw [addr_add] at this
          rw [this, hz j hj]
    · rw [hl] at hj
      rw [hz j hj]
      refine h5 _ ?_
      rw [show zs.getD j 0 = zs[j]'(by omega) from by simp [List.getD, List.getElem?_eq_getElem (show j < zs.length by omega)]]
      exact List.getElem_mem _
/-- Who gets something, and leaves something, gets what it wants: a whole number of slices, the least one that is enough. -/
theorem want_slices {n s : Int} (h0 : 0 ≤ n) (hn : n ≤ 4294967295) (hs : 1 ≤ s) (hs2 : s ≤ 65535) : wantI n s % s = 0 ∧ n ≤ wantI n s ∧ wantI n s - n < s := by
  by_cases h : 0 < n
  · have hno : ¬ (n ≤ 0 ∨ s < 1) := by omega
    obtain ⟨q, r, p1, p2, p3, p4, p5, p6, p7, p8⟩ := want_parts h hs
    have hov : ¬ top63 - -(n % s) % s < n := by
      have : -(n % s) % s < s := Int.emod_lt_of_pos _ (by omega)
      unfold top63; omega
    rw [want_in hno hov]
    have e : ∀ m : Int, (q * s + m * s) % s = 0 := fun m => by rw [← Int.add_mul, Int.mul_emod_left]
    rcases p8 with ⟨r0, m0⟩ | ⟨r0, m0⟩
    · rw [m0]
      have := e 0
      rw [Int.zero_mul] at this
      refine ⟨?_, by omega, by omega⟩
      rw [show n + 0 = q * s + 0 by omega]; exact this
    · rw [m0]
      have := e 1
      rw [Int.one_mul] at this
      refine ⟨?_, by omega, by omega⟩
      rw [show n + (s - r) = q * s + s by omega]; exact this
  · rw [want_no (.inl (by omega))]
    exact ⟨by simp, by omega, by omega⟩
end Go.Proofs.Ytdijafdplkdfiaa
