/- Plain words on a set's runs, one by one: the lowest number, how far its run goes, and what is left. No condition. -/
import Derived.Test.YtdbhdjjepgdomaaDoorMaskRuns
import Derived.Lib.TrailingZeros
import Derived.Lib.ItoaNum
import Derived.Laws.BitsAllLaws
namespace Go.Proofs.YtdbhdjjepgdomaaDoor
set_option linter.unusedVariables false
theorem ctz_bits {n x : Nat} (h0 : x ≠ 0) (h : x < 2 ^ n) : Lib.ctz n x < n ∧ x.testBit (Lib.ctz n x) = true ∧ ∀ i, i < Lib.ctz n x → x.testBit i = false := by
  unfold Lib.ctz
  rw [if_neg h0]
  obtain ⟨m, hm, hk⟩ := Lib.ctzFrom_spec n x (by omega) h
  generalize Lib.ctzFrom n x = k at hm hk
  refine ⟨hk, ?_, fun i hi => ?_⟩
  · rw [hm, Nat.mul_comm, Nat.testBit_mul_two_pow]
    simp
  · rw [hm, Nat.mul_comm, Nat.testBit_mul_two_pow]
    simp
    omega
/-- What a run takes away. -/
def gone (n f : Nat) : Nat := (2 ^ n - 1) * 2 ^ f
theorem gone_bit (n f i : Nat) : (gone n f).testBit i = (decide (f ≤ i) && decide (i < f + n)) := by
  unfold gone
  rw [Nat.testBit_mul_two_pow, Nat.testBit_two_pow_sub_one, Bool.eq_iff_iff]
  simp
  omega
theorem gone_lt {n f : Nat} (h : f + n ≤ 64) : gone n f < 18446744073709551616 := by
  refine Nat.lt_of_lt_of_le (?_ : gone n f < 2 ^ (f + n)) (Nat.pow_le_pow_right (by omega) h)
  unfold gone
  have h1 : 0 < 2 ^ n := Nat.two_pow_pos n
  have h2 : 0 < 2 ^ f := Nat.two_pow_pos f
  rw [Nat.pow_add, Nat.mul_comm (2 ^ f)]
  exact Nat.mul_lt_mul_of_pos_right (by omega) h2
theorem filter_first {P Q : Nat → Bool} {f : Nat} (hf : P f = true) (hlo : ∀ p, p < f → P p = false) (hQ : ∀ p, Q p = (decide (f < p) && P p)) : ∀ n, f < n → (List.range n).filter P = f :: (List.range n).filter Q := by
  intro n
  induction n with
  | zero => intro h; omega
  | succ n ih =>
    intro h
    rw [List.range_succ, List.filter_append, List.filter_append]
    by_cases e : f = n
    · subst e
      have h1 : (List.range f).filter P = [] := List.filter_eq_nil_iff.2 fun p hp => by rw [hlo p (List.mem_range.1 hp)]; decide
      have h2 : (List.range f).filter Q = [] := List.filter_eq_nil_iff.2 fun p hp => by rw [hQ, hlo p (List.mem_range.1 hp)]; simp
      rw [h1, h2]
      simp [hf, hQ]
    · rw [ih (by omega)]
      have : Q n = P n := by rw [hQ]; simp; omega
      simp [List.filter_cons, this]
/-- The first run of a set, and the rest. -/
structure Step (m f n m' : Nat) : Prop where
  f64 : f < 64
  n0 : 0 < n
  fn : f + n ≤ 64
  ende : endOf m f = f + n - 1
  runs : starts m = f :: starts m'
  segs : (starts m).map (seg m) = seg m f :: (starts m').map (seg m')
  lt : m' < m
theorem step_of {m f n m' : Nat} (hm : m < 18446744073709551616) (hf : f < 64) (hn : 0 < n) (hfn : f + n ≤ 64) (h1 : ∀ i, f ≤ i → i < f + n → m.testBit i = true) (h2 : m.testBit (f + n) = false) (h3 : ∀ i, i < f → m.testBit i = false) (h4 : ∀ i, m'.testBit i = (m.testBit i && !(gone n f).testBit i)) : Step m f n m' := by
  have hb : m.testBit f = true := h1 f (Nat.le_refl _) (by omega)
  have he : endOf m f = f + n - 1 := endOf_eq hm (by omega) (fun q g1 g2 => h1 q g1 (by omega)) (by rw [show f + n - 1 + 1 = f + n by omega]; exact h2)
  have h5 : ∀ i, m'.testBit i = (decide (f + n ≤ i) && m.testBit i) := fun i => by
    rw [h4, gone_bit]
    by_cases g : i < f
    · rw [h3 i g]; simp
    · by_cases g2 : i < f + n
      · rw [h1 i (by omega) g2]
        have e1 : decide (f ≤ i) = true := by simp; omega
        have e2 : decide (i < f + n) = true := by simp; omega
        have e3 : decide (f + n ≤ i) = false := by simp; omega
        rw [e1, e2, e3]; rfl
      · have e2 : decide (i < f + n) = false := by simp; omega
        have e3 : decide (f + n ≤ i) = true := by simp; omega
        rw [e2, e3]; simp
  have hle : m' < 18446744073709551616 := by
    refine Nat.lt_pow_two_of_testBit (n := 64) _ fun i hi => ?_
    rw [h5, high_bit hm hi, Bool.and_false]
  have hst : ∀ p, startB m' p = (decide (f < p) && startB m p) := fun p => by
    unfold startB
    rw [h5, h5]
    by_cases g : p ≤ f
    · have g1 : decide (f + n ≤ p) = false := by simp; omega
      have g2 : decide (f < p) = false := by simp; omega
      rw [g1, g2]; rfl
    · by_cases g2 : p < f + n
      · have g1 : decide (f + n ≤ p) = false := by simp; omega
        rw [g1, h1 (p - 1) (by omega) (by omega)]
        have : (p == 0) = false := by simp; omega
        rw [this]; simp
      · by_cases g3 : p = f + n
        · rw [g3, h2]; simp
        · have g1 : decide (f + n ≤ p) = true := by simp; omega
          have g4 : decide (f + n ≤ p - 1) = true := by simp; omega
          have g5 : decide (f < p) = true := by simp; omega
          rw [g1, g4, g5]; simp
  have hsf : startB m f = true := by
    unfold startB
    rw [hb]
    by_cases e : f = 0
    · simp [e]
    · rw [h3 (f - 1) (by omega)]; simp
  have hss : starts m = f :: starts m' := filter_first hsf (fun p hp => by unfold startB; rw [h3 p hp]; rfl) hst 64 hf
  refine ⟨hf, hn, hfn, he, hss, ?_, ?_⟩
  · rw [hss, List.map_cons]
    congr 1
    refine List.map_congr_left fun p hp => ?_
    have hp2 := (mem_starts.1 hp).2
    rw [hst] at hp2
    simp at hp2
    have hpb := starts_bit p hp
    rw [h5] at hpb
    simp at hpb
    obtain ⟨g1, g2, g3, g4⟩ := endOf_spec hm hpb.2
    have : endOf m' p = endOf m p := endOf_eq hle g1 (fun q q1 q2 => by rw [h5, g3 q q1 q2]; simp; omega) (by rw [h5, g4, Bool.and_false])
    unfold seg
    rw [this]
  · have hne : m' ≠ m := fun e => by have := h5 f; rw [e, hb] at this; simp at this; omega
    have hle2 : m' ≤ m := by
      have : m' = m' &&& m := Nat.eq_of_testBit_eq fun i => by rw [Nat.testBit_and, h5]; cases m.testBit i <;> simp
      rw [this]; exact Nat.and_le_right
    omega
/-- How the program finds it. -/
theorem step_ctz {m : Nat} (hm : m < 18446744073709551616) (h0 : m ≠ 0) : Step m (Lib.ctz 64 m) (Lib.ctz 64 (18446744073709551615 - m / 2 ^ Lib.ctz 64 m)) (m &&& (18446744073709551615 - gone (Lib.ctz 64 (18446744073709551615 - m / 2 ^ Lib.ctz 64 m)) (Lib.ctz 64 m))) := by
  obtain ⟨hf, hb, hlo⟩ := ctz_bits h0 (show m < 2 ^ 64 from hm)
  generalize Lib.ctz 64 m = f at hf hb hlo
  have hy : m / 2 ^ f < 2 ^ 64 := Nat.lt_of_le_of_lt (Nat.div_le_self _ _) hm
  have hyb : ∀ i, (m / 2 ^ f).testBit i = m.testBit (f + i) := fun i => by rw [Nat.testBit_div_two_pow, Nat.add_comm]
  have hxb : ∀ i, (18446744073709551615 - m / 2 ^ f).testBit i = (decide (i < 64) && !m.testBit (f + i)) := fun i => by
    have e : 18446744073709551615 - m / 2 ^ f = 2 ^ 64 - (m / 2 ^ f + 1) := by have : (2 : Nat) ^ 64 = 18446744073709551616 := rfl; omega
    rw [e, Nat.testBit_two_pow_sub_succ hy, hyb]
  have key : 0 < Lib.ctz 64 (18446744073709551615 - m / 2 ^ f) ∧ f + Lib.ctz 64 (18446744073709551615 - m / 2 ^ f) ≤ 64 ∧ (∀ i, i < Lib.ctz 64 (18446744073709551615 - m / 2 ^ f) → m.testBit (f + i) = true) ∧ m.testBit (f + Lib.ctz 64 (18446744073709551615 - m / 2 ^ f)) = false := by
    by_cases hz : 18446744073709551615 - m / 2 ^ f = 0
    · rw [hz]
      have hall : ∀ i, i < 64 → m.testBit (f + i) = true := fun i hi => by have := hxb i; rw [hz] at this; simp at this; exact this hi
      have hf0 : f = 0 := by
        rcases Nat.eq_zero_or_pos f with h | h
        · exact h
        · have := hall 63 (by omega); rw [high_bit hm (by omega)] at this; cases this
      subst hf0
      refine ⟨by decide, by decide, fun i hi => hall i hi, ?_⟩
      exact high_bit hm (by decide)
    · obtain ⟨g1, g2, g3⟩ := ctz_bits hz (show 18446744073709551615 - m / 2 ^ f < 2 ^ 64 from Nat.lt_of_le_of_lt (Nat.sub_le _ _) (by decide))
      generalize Lib.ctz 64 (18446744073709551615 - m / 2 ^ f) = n at g1 g2 g3
      have h1 : ∀ i, i < n → m.testBit (f + i) = true := fun i hi => by have := g3 i hi; rw [hxb] at this; simp at this; exact this (by omega)
      rw [hxb] at g2
      simp at g2
      refine ⟨?_, ?_, h1, g2.2⟩
      · rcases Nat.eq_zero_or_pos n with h | h
        · subst h; rw [Nat.add_zero, hb] at g2; simp at g2
        · exact h
      · rcases Nat.lt_or_ge 64 (f + n) with h | h
        · have := h1 (n - 1) (by omega); rw [high_bit hm (by omega)] at this; cases this
        · exact h
  generalize Lib.ctz 64 (18446744073709551615 - m / 2 ^ f) = n at key
  obtain ⟨k1, k2, k3, k4⟩ := key
  refine step_of hm hf k1 k2 (fun i g1 g2 => by have := k3 (i - f) (by omega); rw [show f + (i - f) = i by omega] at this; exact this) k4 hlo fun i => ?_
  rw [Nat.testBit_and]
  have e : 18446744073709551615 - gone n f = 2 ^ 64 - (gone n f + 1) := by have : (2 : Nat) ^ 64 = 18446744073709551616 := rfl; omega
  rw [e, Nat.testBit_two_pow_sub_succ (gone_lt k2)]
  by_cases h : i < 64
  · simp [h]
  · rw [high_bit hm (by omega)]; rfl
theorem dec_figL {n : Nat} (h : n < 100) : (Lib.decDigits n).map UInt8.toNat = figL n := by
  have := (by decide +kernel : ∀ n : Fin 100, (Lib.decDigits n.val).map UInt8.toNat = figL n.val) ⟨n, h⟩
  exact this
end Go.Proofs.YtdbhdjjepgdomaaDoor
