/- What the laws of loads share: the head of all statements returns true, and a slice that came in, cut to a hundred, reads as a list of numbers. Conditions: those of a slice of integers that came in. -/
import Derived.Test.YtigpcjikdpknnaaRef
import Derived.OpenShut
namespace Go.Proofs.Ytigpcjikdpknnaa
set_option linter.unusedVariables false
open Go.RowKit

/-- WHAT THE WALK IS TOLD OF A SLICE OF INTEGERS THAT CAME IN. -/
def IsRow (k : IntKind) (w : World) (a : Option Addr) (len cap : Nat) (zs : List Int) : Prop :=
  (a = none ∧ len = 0 ∧ cap = 0 ∧ zs = []) ∨
  ∃ x, a = some x ∧ len ≤ cap ∧ cap ≤ maxLen ∧ zs.length = cap ∧ (∀ i, i < zs.length → w.cell? (x.add i) = some (.int k (zs.getD i 0))) ∧ ∀ n ∈ zs, (Lit.int k n).wf = true

theorem IsRow.few {w : World} {a : Option Addr} {len cap : Nat} {zs : List Int} (h : IsRow .u64 w a len cap zs) : len ≤ cap ∧ cap ≤ 9223372036854775807 ∧ (a = none → len = 0) := by
  rcases h with ⟨rfl, rfl, rfl, rfl⟩ | ⟨x, rfl, h1, h2, _⟩
  · exact ⟨by omega, by omega, fun _ => rfl⟩
  · exact ⟨h1, by unfold maxLen at h2; omega, fun h => by cases h⟩
theorem IsRow.ints {w : World} {a : Option Addr} {len cap : Nat} {zs : List Int} (h : IsRow .u64 w a len cap zs) {n : Nat} (hn : n ≤ len) : Ints w.heap.size w (.slice a n cap) (zs.take n) ∧ (zs.take n).length = n ∧ ∀ p, 0 ≤ zat (zs.take n) p ∧ zat (zs.take n) p < 18446744073709551616 := by
  rcases h with ⟨rfl, rfl, rfl, rfl⟩ | ⟨x, rfl, h1, h2, h3, h4, h5⟩
  · obtain rfl : n = 0 := by omega
    exact ⟨.inl ⟨⟨_, _, rfl⟩, rfl⟩, rfl, fun p => by simp [zat]⟩
  · have hl : (zs.take n).length = n := by simp; omega
    refine ⟨?_, hl, fun p => ?_⟩
    · by_cases h0 : n = 0
      · subst h0
        exact .inl ⟨⟨_, _, rfl⟩, by simp⟩
      · obtain ⟨b, off, spot⟩ := x
        have hc := h4 0 (by omega)
        have hspot : spot = none := by simpa [Addr.add] using World.cell?_spot hc
        subst hspot
        refine .inr ⟨b, off, cap, by rw [hl], ?_, fun j hj => ?_⟩
        · have := World.block_lt_of_cell? w _ hc
          simpa [Addr.add] using this
        · have := h4 j (by omega)
          rw [hl] at hj
          have ea : (⟨b, off, none⟩ : Addr).add j = ⟨b, off + j, none⟩ := by
            by_cases e : j = 0
            · subst e; simp [Addr.add]
            · simp [Addr.add, e]
          rw [ea] at this
          rw [this]; simp [zat, hj]
    · by_cases hp : p < n
      · have hm : zs[p]'(by omega) ∈ zs := List.getElem_mem _
        have := bounds_u64 (h5 _ hm)
        have e : zat (zs.take n) p = zs[p]'(by omega) := by
          unfold zat; rw [List.getElem?_take, if_pos hp, List.getElem?_eq_getElem (by omega)]; rfl
        rw [e]; omega
      · have e : zat (zs.take n) p = 0 := by
          unfold zat; rw [List.getElem?_take, if_neg hp]; rfl
        rw [e]; omega

theorem Ints.new4 (w : World) (x y z u : Int) : Ints (w.heap.size + 1) (w.alloc (.cells #[.int .u64 x, .int .u64 y, .int .u64 z, .int .u64 u] 23)) (.slice (some ⟨w.heap.size, 0, none⟩) 4 4) [x, y, z, u] :=
  .inr ⟨w.heap.size, 0, 4, rfl, by omega, fun j hj => by
    have h : j = 0 ∨ j = 1 ∨ j = 2 ∨ j = 3 := by simp at hj; omega
    rcases h with rfl | rfl | rfl | rfl <;> simp [zat]⟩
theorem nx0 {A B : World} (h : Below A.heap.size A B) {sv : Value} {zs : List Int} (hI : Ints A.heap.size A sv zs) : Ints B.heap.size B sv zs := Ints.next h hI
theorem nx {A B C : World} (h : Below A.heap.size A B) (k : Below B.heap.size B C) : Below A.heap.size A C := h.trans (k.mono h.size)
/-- The head of all statements. -/
theorem shown_any (w : World) : Calls Try.prog 15 #[] w fun e w' => e = .returned (.bool true) ∧ Below w.heap.size w w' := by
  have e1 : busiest [3, 7, 7, 0] 1 15 = 2 := by decide +kernel
  have e2 : least [3, 7, 7, 0] 15 = 3 := by decide +kernel
  have e3 : idle0 [3, 7, 7, 0] 15 = 3 := by decide +kernel
  have E1 := Lib.hid e1
  have E2 := Lib.hid e2
  have E3 := Lib.hid e3
  have HI := Lib.hid (Ints.new4 w 3 7 7 0)
  have hb0 : Below w.heap.size w (w.alloc (.cells #[.int .u64 3, .int .u64 7, .int .u64 7, .int .u64 0] 23)) := (Below.refl _ w).alloc (Nat.le_refl _) _
  have hs0 : (w.alloc (.cells #[.int .u64 3, .int .u64 7, .int .u64 7, .int .u64 0] 23)).heap.size = w.heap.size + 1 := by simp
  have HS := Lib.hid hs0
  clear e1 e2 e3 hs0
  go_enter Try.func15, Try.ntmps15
  go_wp2_with fail
  generalize w.alloc (.cells #[.int .u64 3, .int .u64 7, .int .u64 7, .int .u64 0] 23) = W at hb0 HI HS ⊢
  refine (busiest_any _ _ _ [3, 7, 7, 0] 1 15 W (by rw [HS.out]; exact HI.out) (by decide)).mono ?_
  rintro e w1 ⟨rfl, hb1⟩
  have HI1 := Lib.hid (HI.out.below (hb1.mono (by rw [HS.out]; exact Nat.le_refl _)))
  have hs1 : w.heap.size + 1 ≤ w1.heap.size := by have := hb1.size; have := HS.out; omega
  rw [E1.out]
  go_wp2_with fail
  refine (least_any _ _ _ [3, 7, 7, 0] 15 w1 (HI1.out.grow hs1) (by decide)).mono ?_
  rintro e w2 ⟨rfl, hb2⟩
  rw [E2.out]
  have HI2 := Lib.hid (HI1.out.below (hb2.mono hs1))
  have hs2 : w.heap.size + 1 ≤ w2.heap.size := by have := hb2.size; omega
  go_wp2_with fail
  refine (idle0_any _ _ _ [3, 7, 7, 0] 15 w2 (HI2.out.grow hs2) (by decide)).mono ?_
  rintro e w3 ⟨rfl, hb3⟩
  rw [E3.out]
  go_wp2
  go_ret
  exact ⟨rfl, hb0.trans ((hb1.mono (by have := HS.out; omega)).trans ((hb2.mono (by omega)).trans (hb3.mono (by omega))))⟩
end Go.Proofs.Ytigpcjikdpknnaa
