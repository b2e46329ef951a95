/- Plain words on the parts of a set: those below a number, the others, how many, the first; and on ranges. No condition. -/
import Derived.Test.YtdbhdjjepgdomaaDoorMaskLists
import Derived.Test.YtdbhdjjepgdomaaDoorMaskText
namespace Go.Proofs.YtdbhdjjepgdomaaDoor
set_option linter.unusedVariables false
open Go.RowKit
theorem only_bit {m : Nat} (hm : m < 18446744073709551616) (n : Int) (q : Nat) : (onlyN m n).testBit q = (decide ((q : Int) < n) && m.testBit q) := by
  unfold onlyN
  by_cases g1 : n ≤ 0
  · rw [if_pos g1, Nat.zero_testBit]
    have : decide ((q : Int) < n) = false := by simp; omega
    rw [this]; rfl
  · rw [if_neg g1]
    by_cases g2 : 64 ≤ n
    · rw [if_pos g2]
      by_cases h : q < 64
      · have : decide ((q : Int) < n) = true := by simp; omega
        rw [this]; rfl
      · rw [high_bit hm (by omega)]; simp
    · rw [if_neg g2, Nat.testBit_mod_two_pow]
      congr 1
      rw [Bool.eq_iff_iff]; simp
theorem only_lt {m : Nat} (hm : m < 18446744073709551616) (n : Int) : onlyN m n < 18446744073709551616 := by
  unfold onlyN
  split
  · decide
  · split
    · exact hm
    · exact Nat.lt_of_le_of_lt (Nat.mod_le _ _) hm
/-- The others. -/
def restN (m : Nat) (n : Int) : Nat := m &&& (18446744073709551615 - onlyN m n)
theorem rest_lt {m : Nat} (hm : m < 18446744073709551616) (n : Int) : restN m n < 18446744073709551616 := Nat.lt_of_le_of_lt Nat.and_le_left hm
theorem rest_bit {m : Nat} (hm : m < 18446744073709551616) (n : Int) (q : Nat) : (restN m n).testBit q = (m.testBit q && !decide ((q : Int) < n)) := by
  unfold restN
  have e : 18446744073709551615 - onlyN m n = 2 ^ 64 - (onlyN m n + 1) := by have : (2 : Nat) ^ 64 = 18446744073709551616 := rfl; omega
  rw [Nat.testBit_and, e, Nat.testBit_two_pow_sub_succ (show onlyN m n < 2 ^ 64 from only_lt hm n), only_bit hm]
  by_cases h : q < 64
  · cases m.testBit q <;> simp [h]
  · rw [high_bit hm (by omega)]; rfl
theorem filter_two {P Q R : Nat → Bool} (l : List Nat) (h : ∀ q, R q = (P q || Q q) ∧ (P q = true → Q q = false)) : (l.filter P).length + (l.filter Q).length = (l.filter R).length := by
  induction l with
  | nil => rfl
  | cons q l ih =>
    have := h q
    rw [List.filter_cons, List.filter_cons, List.filter_cons]
    cases hp : P q <;> cases hq : Q q <;> simp_all <;> omega
theorem cnt_parts {m : Nat} (hm : m < 18446744073709551616) (n : Int) : cnt (onlyN m n) + cnt (restN m n) = cnt m := by
  unfold cnt bitsL
  refine filter_two _ fun q => ⟨?_, fun h => ?_⟩
  · rw [only_bit hm, rest_bit hm]; cases m.testBit q <;> cases decide ((q : Int) < n) <;> rfl
  · rw [only_bit hm] at h; rw [rest_bit hm]; simp at h ⊢; intro _; exact h.1
theorem rat_bits {m i : Nat} (h : i < (bitsI m).length) : ∃ q : Nat, q < 64 ∧ rat (bitsI m) i = (q : Int) ∧ m.testBit q = true := by
  have hm := List.getElem_mem h
  have : rat (bitsI m) i = (bitsI m)[i] := by unfold rat; rw [List.getElem?_eq_getElem h]; rfl
  rw [this]
  unfold bitsI bitsTo at hm ⊢
  obtain ⟨q, hq, e⟩ := List.mem_map.1 hm
  obtain ⟨h1, h2⟩ := List.mem_filter.1 hq
  exact ⟨q, List.mem_range.1 h1, e.symm, h2⟩
theorem bits_first {m : Nat} (hm : m < 18446744073709551616) (h0 : m ≠ 0) : rat (bitsI m) 0 = (Lib.ctz 64 m : Int) ∧ 0 < (bitsI m).length := by
  obtain ⟨h1, h2, h3⟩ := ctz_bits h0 (show m < 2 ^ 64 from hm)
  have := filter_first (P := fun p => m.testBit p) (Q := fun p => decide (Lib.ctz 64 m < p) && m.testBit p) h2 h3 (fun p => rfl) 64 h1
  unfold bitsI bitsTo
  rw [this]
  exact ⟨rfl, by simp⟩
theorem bits_zero : bitsI 0 = [] := by decide +kernel
theorem first_list {m : Nat} (hm : m < 18446744073709551616) : firstI m = if 0 < (bitsI m).length then rat (bitsI m) 0 else -1 := by
  by_cases h0 : m = 0
  · subst h0; rw [bits_zero]; rfl
  · obtain ⟨h1, h2⟩ := bits_first hm h0
    rw [if_pos h2, h1]
    exact if_neg h0
theorem first_low {m : Nat} (hm : m < 18446744073709551616) (n : Int) (h : 0 < (bitsI (onlyN m n)).length) : firstI m = rat (bitsI (onlyN m n)) 0 := by
  have h0 : onlyN m n ≠ 0 := fun e => by rw [e, bits_zero] at h; simp at h
  have hl := only_lt hm n
  obtain ⟨a1, _⟩ := bits_first hl h0
  obtain ⟨b1, b2, b3⟩ := ctz_bits h0 (show onlyN m n < 2 ^ 64 from hl)
  rw [only_bit hm] at b2
  simp at b2
  have hm0 : m ≠ 0 := fun e => by rw [e] at b2; simp at b2
  obtain ⟨c1, c2, c3⟩ := ctz_bits hm0 (show m < 2 ^ 64 from hm)
  have : Lib.ctz 64 m = Lib.ctz 64 (onlyN m n) := by
    rcases Nat.lt_trichotomy (Lib.ctz 64 m) (Lib.ctz 64 (onlyN m n)) with g | g | g
    · have := b3 _ g
      rw [only_bit hm, c2] at this
      simp at this
      omega
    · exact g
    · rw [c3 _ g] at b2; simp at b2
  rw [a1, ← this]
  exact if_neg hm0
/-! ### Ranges -/
theorem parse_range {x y : Nat} (hx : x < 100) (hy : y < 100) : parseL (figL x ++ 45 :: figL y) = if beyond x y = true then (0, 1) else (span x y, 0) := by
  have f1 := figL_in x hx
  have f2 := figL_in y hy
  have hp : partL (figL x ++ 45 :: figL y) = some (x, y) := by
    unfold partL
    rw [splitL_of (c := 45) fun q hq => by have := f1 q hq; omega]
    show ((numberL (figL x)).bind fun n => (numberL (figL y)).map fun m => (n, m)) = _
    rw [number_figL hx, number_figL hy]
    rfl
  have hs : splitL 44 (figL x ++ 45 :: figL y) = (figL x ++ 45 :: figL y, none) := splitL_of_not fun q hq => by
    rcases List.mem_append.1 hq with hq | hq
    · have := f1 q hq; omega
    · rcases List.mem_cons.1 hq with rfl | hq
      · decide
      · have := f2 q hq; omega
  rw [parseL_from (by simp)]
  rcases parse_last 0 false (l := figL x ++ 45 :: figL y) (by rw [hs]) with ⟨g1, _⟩ | ⟨n, m, g1, _, _, g4⟩
  · rw [hs] at g1; rw [hp] at g1; cases g1
  · rw [hs] at g1
    simp only [hp, Option.some.injEq, Prod.mk.injEq] at g1
    obtain ⟨rfl, rfl⟩ := g1
    rw [g4, Bool.false_or, Nat.zero_or]
theorem parse_zero {x : Nat} (hx : x < 100) : parseL (48 :: figL x) = (0, 11) := by
  have := (by decide +kernel : ∀ n : Fin 100, parseL (48 :: figL n.val) = (0, 11)) ⟨x, hx⟩
  exact this
theorem parse_64 : parseL [54, 52] = (0, 1) := by decide +kernel
theorem span_facts : ∀ x y : Fin 64, x.val ≤ y.val → cnt (span x.val y.val) = y.val - x.val + 1 ∧ firstI (span x.val y.val) = (x.val : Int) := by decide +kernel
theorem span_has {x y : Nat} (h : x ≤ y) (hy : y < 64) : hasB (span x y) (y : Int) = true := by rw [hasB_nat hy, span_bit]; simp; omega
theorem count_quiet (x L : Nat) (hx : x < 18446744073709551616) (h : L = cnt x) (w : World) : ∀ k, Calls Tryd.prog 15 #[.int .u64 (x : Int)] (w.drewN k) fun e w'' => e = .returned (.int .i64 (L : Int)) ∧ ∃ j, w'' = w.drewN j := fun k => by
  subst h
  exact (count_any x hx (w.drewN k)).mono fun e w' h => ⟨h.1, k, h.2.symm⟩
theorem first_quiet (x : Nat) (L : Int) (hx : x < 18446744073709551616) (h : L = firstI x) (w : World) (hT : Tab64 w) : ∀ k, Calls Tryd.prog 16 #[.int .u64 (x : Int)] (w.drewN k) fun e w'' => e = .returned (.int .i64 L) ∧ ∃ j, w'' = w.drewN j := fun k => by
  subst h
  exact (first_any x hx (w.drewN k) hT).mono fun e w' h => ⟨h.1, k, h.2.symm⟩
end Go.Proofs.YtdbhdjjepgdomaaDoor
