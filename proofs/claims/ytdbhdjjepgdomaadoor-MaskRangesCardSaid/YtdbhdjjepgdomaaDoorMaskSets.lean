/- Sets of numbers below 64, the program's functions and the document's: whether one is in it, the first, those below one, all from one to another. Conditions: as each says. -/
import Derived.Test.YtdbhdjjepgdomaaDoorMaskScan
import Derived.Test.YtdbhdjjepgdomaaDoorTz
import Derived.Test.YtdbhdjjepgdomaaDoorOnes
import Derived.Deep.Cut
import Derived.Outline
namespace Go.Proofs.YtdbhdjjepgdomaaDoor
set_option linter.unusedVariables false
open Go.RowKit
def hasB (m : Nat) (p : Int) : Bool := decide (0 ≤ p) && (decide (p < 64) && m.testBit p.toNat)
theorem hasB_low {m : Nat} {p : Int} (h : p < 0) : hasB m p = false := by unfold hasB; simp; omega
theorem hasB_high {m : Nat} {p : Int} (h : 64 ≤ p) : hasB m p = false := by unfold hasB; simp; omega
theorem hasB_nat {m k : Nat} (h : k < 64) : hasB m (k : Int) = m.testBit k := by unfold hasB; simp; omega
theorem bit_and {m k : Nat} (hm : m < 18446744073709551616) : (bits BinOp.and IntKind.u64 ((m : Int) / 2 ^ k) 1 == 1) = m.testBit k := by
  have h1 : ((m : Int) / 2 ^ k) = ((m / 2 ^ k : Nat) : Int) := by simp
  rw [h1, show (1 : Int) = ((1 : Nat) : Int) from rfl, u64_and_nat _ _ (Nat.lt_of_le_of_lt (Nat.div_le_self _ _) hm) (by decide), Nat.and_one_is_mod, Nat.testBit_eq_decide_div_mod_eq]
  rw [Bool.eq_iff_iff]
  simp
  omega
set_option maxHeartbeats 1000000 in
theorem has_any (m : Nat) (hm : m < 18446744073709551616) (p : Int) (w : World) (h1 : -9223372036854775808 ≤ p) (h2 : p ≤ 9223372036854775807) :
    Calls Tryd.prog 17 #[.int .u64 (m : Int), .int .i64 p] w fun e w' => e = .returned (.bool (hasB m p)) ∧ w = w' := by
  by_cases h0 : 0 ≤ p
  · by_cases h64 : p < 64
    · obtain ⟨k, rfl⟩ := Int.eq_ofNat_of_zero_le h0
      have HB := Lib.hid ((hasB_nat (m := m) (k := k) (by omega)).trans (bit_and hm).symm)
      go_enter Tryd.func17, Tryd.ntmps17
      go_wp2
      go_ret
      exact ⟨by rw [HB.out]; rfl, rfl⟩
    · have HB := Lib.hid (hasB_high (m := m) (p := p) (by omega))
      go_enter Tryd.func17, Tryd.ntmps17
      go_wp2
      go_ret
      exact ⟨by rw [HB.out]; rfl, rfl⟩
  · have HB := Lib.hid (hasB_low (m := m) (p := p) (by omega))
    go_enter Tryd.func17, Tryd.ntmps17
    go_wp2
    go_ret
    exact ⟨by rw [HB.out]; rfl, rfl⟩
theorem half_pow (m k : Nat) : m / 2 ^ k / 2 = m / 2 ^ (k + 1) := by
  rw [Nat.pow_succ, ← Nat.div_div_eq_div_mul]
theorem bit_mod {m k M : Nat} (h : M = m / 2 ^ k) : ((M : Int) % 2 == 1) = m.testBit k := by
  rw [Nat.testBit_eq_decide_div_mod_eq, ← h, Bool.eq_iff_iff]
  rw [beq_iff_eq, decide_eq_true_eq]
  omega
set_option maxHeartbeats 1000000 in
theorem refHas_any (m : Nat) (hm : m < 18446744073709551616) (p : Int) (w : World) (h1 : -9223372036854775808 ≤ p) (h2 : p ≤ 9223372036854775807) :
    Calls Tryd.prog 22 #[.int .u64 (m : Int), .int .i64 p] w fun e w' => e = .returned (.bool (hasB m p)) ∧ w = w' := by
  go_enter Tryd.func22, Tryd.ntmps22
  go_wp2_with fail
  go_loop [0, 5] (fun vm vi => ∃ k M : Nat, k ≤ 64 ∧ (k = 0 ∨ (k : Int) ≤ p) ∧ vi = .int .i64 k ∧ vm = .int .u64 (M : Int) ∧ M = m / 2 ^ k) (fun _ vi => 64 - (intOf vi).toNat)
  case atStart => exact ⟨0, m, by omega, .inl rfl, rfl, rfl, by simp⟩
  case round =>
    obtain ⟨k, M, hk, hkp, rfl, rfl, hM⟩ := hrel
    have hlt : M < 18446744073709551616 := by rw [hM]; exact Nat.lt_of_le_of_lt (Nat.div_le_self _ _) hm
    have HM := Lib.hid hM
    clear hM
    by_cases g1 : (k : Int) < p
    · by_cases g2 : k < 64
      · have g3 : (k : Int) < 64 := by omega
        go_wp2
        go_round
        case rel => exact ⟨k + 1, M / 2, by omega, .inr (by omega), by go_num, by go_num, by rw [HM.out, half_pow]⟩
        case measure => simp [intOf]; omega
      · have g3 : ¬ (k : Int) < 64 := by omega
        have g4 : ¬ p < 64 := by omega
        have g5 : (0 : Int) ≤ p := by omega
        have HB := Lib.hid (hasB_high (m := m) (p := p) (by omega))
        go_wp2
        go_ret
        exact ⟨by rw [HB.out]; rfl, rfl⟩
    · by_cases g5 : (0 : Int) ≤ p
      · obtain ⟨q, rfl⟩ := Int.eq_ofNat_of_zero_le g5
        obtain rfl : q = k := by omega
        by_cases g2 : q < 64
        · have g3 : (q : Int) < 64 := by omega
          have HB := Lib.hid ((hasB_nat (m := m) (k := q) g2).trans (bit_mod HM.out).symm)
          go_wp2
          go_ret
          exact ⟨by rw [HB.out]; rfl, rfl⟩
        · have g3 : ¬ (q : Int) < 64 := by omega
          have HB := Lib.hid (hasB_high (m := m) (p := (q : Int)) (by omega))
          go_wp2
          go_ret
          exact ⟨by rw [HB.out]; rfl, rfl⟩
      · have HB := Lib.hid (hasB_low (m := m) (p := p) (by omega))
        go_wp2
        go_ret
        exact ⟨by rw [HB.out]; rfl, rfl⟩
def firstI (m : Nat) : Int := if m = 0 then -1 else (Lib.ctz 64 m : Int)
theorem first_any (m : Nat) (hm : m < 18446744073709551616) (w : World) (hT : Tab64 w) :
    Calls Tryd.prog 16 #[.int .u64 (m : Int)] w fun e w' => e = .returned (.int .i64 (firstI m)) ∧ w = w' := by
  have HT := Lib.hid hT
  clear hT
  by_cases h0 : m = 0
  · have HF := Lib.hid (show firstI m = -1 from if_pos h0)
    have h1 : ((m : Int) == 0) = true := by simp; omega
    clear h0
    go_enter Tryd.func16, Tryd.ntmps16
    go_wp2
    go_ret
    exact ⟨by rw [HF.out]; rfl, rfl⟩
  · have HF := Lib.hid (show firstI m = (Lib.ctz 64 m : Int) from if_neg h0)
    have h1 : ((m : Int) == 0) = false := by simp; omega
    clear h0
    go_enter Tryd.func16, Tryd.ntmps16
    go_wp2_with fail
    refine (tz_any m hm _ HT.out).mono ?_
    rintro e w' ⟨rfl, rfl⟩
    go_wp2
    go_ret
    exact ⟨by rw [HF.out]; rfl, rfl⟩
theorem count_any (m : Nat) (hm : m < 18446744073709551616) (w : World) :
    Calls Tryd.prog 15 #[.int .u64 (m : Int)] w fun e w' => e = .returned (.int .i64 (cnt m)) ∧ w = w' := by
  go_enter Tryd.func15, Tryd.ntmps15
  go_wp2_with fail
  refine (ones_any m hm _).mono ?_
  rintro e w' ⟨rfl, rfl⟩
  go_wp2
  go_ret
  exact ⟨rfl, rfl⟩
/-- Those below n. -/
def onlyN (m : Nat) (n : Int) : Nat := if n ≤ 0 then 0 else if 64 ≤ n then m else m % 2 ^ n.toNat
theorem span_zero (m n : Nat) : m &&& span 0 n = if 64 ≤ n + 1 then m % 2 ^ 64 else m % 2 ^ (n + 1) := by
  refine Nat.eq_of_testBit_eq fun q => ?_
  rw [Nat.testBit_and, span_bit]
  split
  · rw [Nat.testBit_mod_two_pow, Bool.eq_iff_iff]; cases m.testBit q <;> simp <;> omega
  · rw [Nat.testBit_mod_two_pow, Bool.eq_iff_iff]; cases m.testBit q <;> simp <;> omega
theorem low_bits {m k : Nat} (hm : m < 18446744073709551616) (hk : k < 64) : bits .and .u64 (m : Int) (IntKind.u64.wrap (IntKind.u64.wrap (2 ^ k) - 1)) = ((m % 2 ^ k : Nat) : Int) := by
  have e : (2 : Int) ^ k = ((2 ^ k : Nat) : Int) := by simp
  have hlt : 2 ^ k < 18446744073709551616 := (Nat.pow_lt_pow_right (by decide) hk : 2 ^ k < 2 ^ 64)
  have hpos : 0 < 2 ^ k := Nat.two_pow_pos k
  have h1 : IntKind.u64.wrap (IntKind.u64.wrap (2 ^ k) - 1) = ((2 ^ k - 1 : Nat) : Int) := by
    rw [IntKind.wrap_u64, IntKind.wrap_u64, e]
    generalize 2 ^ k = X at hlt hpos
    omega
  rw [h1, u64_and_nat _ _ hm (by omega), Nat.and_two_pow_sub_one_eq_mod]
theorem set_step {a b k M O : Nat} (hM : M = spanTo a b k) (hO : O = 2 ^ k % 18446744073709551616) (hk : k < 64) :
    M + O < 18446744073709551616 ∧ O < 18446744073709551616 ∧ ((a ≤ k ∧ k ≤ b) → M + O = spanTo a b (k + 1)) ∧ (¬ (a ≤ k ∧ k ≤ b) → M = spanTo a b (k + 1)) ∧ 2 * O % 18446744073709551616 = 2 ^ (k + 1) % 18446744073709551616 := by
  have hlt : 2 ^ k < 18446744073709551616 := (Nat.pow_lt_pow_right (by decide) hk : 2 ^ k < 2 ^ 64)
  have hO' : O = 2 ^ k := by rw [hO, Nat.mod_eq_of_lt hlt]
  have hs := spanTo_lt a b k
  have hle : 2 ^ (k + 1) ≤ 18446744073709551616 := (Nat.pow_le_pow_right (by decide) (by omega) : 2 ^ (k + 1) ≤ 2 ^ 64)
  have hp : 2 ^ (k + 1) = 2 ^ k + 2 ^ k := by rw [Nat.pow_succ]; omega
  subst hM
  rw [hO']
  refine ⟨by omega, hlt, fun h => by rw [spanTo, if_pos h], fun h => by rw [spanTo, if_neg h, Nat.add_zero], by rw [hp, Nat.two_mul]⟩
set_option maxHeartbeats 1000000 in
theorem only_any (m : Nat) (hm : m < 18446744073709551616) (n : Int) (w : World) (h1 : -9223372036854775808 ≤ n) (h2 : n ≤ 9223372036854775807) :
    Calls Tryd.prog 23 #[.int .u64 (m : Int), .int .i64 n] w fun e w' => e = .returned (.int .u64 (onlyN m n : Nat)) ∧ w = w' := by
  by_cases g1 : n ≤ 0
  · have HO := Lib.hid (show onlyN m n = 0 from if_pos g1)
    go_enter Tryd.func23, Tryd.ntmps23
    go_wp2
    go_ret
    exact ⟨by rw [HO.out]; rfl, rfl⟩
  · by_cases g2 : 64 ≤ n
    · have HO := Lib.hid (show onlyN m n = m by unfold onlyN; rw [if_neg g1, if_pos g2])
      go_enter Tryd.func23, Tryd.ntmps23
      go_wp2
      go_ret
      exact ⟨by rw [HO.out]; rfl, rfl⟩
    · obtain ⟨k, rfl⟩ := Int.eq_ofNat_of_zero_le (show 0 ≤ n by omega)
      have HO := Lib.hid (show onlyN m (k : Int) = m % 2 ^ k by unfold onlyN; rw [if_neg g1, if_neg g2]; rfl)
      have HV := Lib.hid (low_bits (m := m) (k := k) hm (by omega))
      go_enter Tryd.func23, Tryd.ntmps23
      go_wp2
      go_ret
      exact ⟨by rw [HO.out, ← HV.out]; rfl, rfl⟩
set_option maxHeartbeats 1000000 in
theorem set_any (a b : Nat) (w : World) (ha : a < 9223372036854775808) (hb : b < 9223372036854775808) :
    Calls Tryd.prog 35 #[.int .i64 (a : Int), .int .i64 (b : Int)] w fun e w' => e = .returned (.int .u64 (span a b : Nat)) ∧ w = w' := by
  go_enter Tryd.func35, Tryd.ntmps35
  go_wp2_with fail
  go_loop [5, 6, 7] (fun vm vo vp => ∃ k M O : Nat, k ≤ 64 ∧ vp = .int .i64 k ∧ vm = .int .u64 (M : Int) ∧ vo = .int .u64 (O : Int) ∧ M = spanTo a b k ∧ O = 2 ^ k % 18446744073709551616) (fun _ _ vp => 64 - (intOf vp).toNat)
  case atStart => exact ⟨0, 0, 1, by omega, rfl, rfl, rfl, rfl, rfl⟩
  case round =>
    obtain ⟨k, M, O, hk, rfl, rfl, rfl, hM, hO⟩ := hrel
    by_cases g1 : k < 64
    · have g2 : (k : Int) < 64 := by omega
      obtain ⟨s1, s2, s3, s4, s5⟩ := set_step hM hO g1
      have HM := Lib.hid hM
      have HO := Lib.hid hO
      have HS3 := Lib.hid s3
      have HS4 := Lib.hid s4
      have HS5 := Lib.hid s5
      clear hM hO s3 s4 s5
      by_cases g3 : a ≤ k
      · have g4 : (a : Int) ≤ (k : Int) := by omega
        by_cases g5 : k ≤ b
        · have g6 : (k : Int) ≤ (b : Int) := by omega
          go_wp2
          go_round
          case rel => exact ⟨k + 1, M + O, 2 * O % 18446744073709551616, by omega, by go_num, by go_num, by rw [IntKind.wrap_u64]; go_num, HS3.out ⟨g3, g5⟩, HS5.out⟩
          case measure => simp [intOf]; omega
        · have g6 : ¬ (k : Int) ≤ (b : Int) := by omega
          go_wp2
          go_round
          case rel => exact ⟨k + 1, M, 2 * O % 18446744073709551616, by omega, by go_num, by go_num, by rw [IntKind.wrap_u64]; go_num, HS4.out (by omega), HS5.out⟩
          case measure => simp [intOf]; omega
      · have g4 : ¬ (a : Int) ≤ (k : Int) := by omega
        go_wp2
        go_round
        case rel => exact ⟨k + 1, M, 2 * O % 18446744073709551616, by omega, by go_num, by go_num, by rw [IntKind.wrap_u64]; go_num, HS4.out (by omega), HS5.out⟩
        case measure => simp [intOf]; omega
    · have g2 : ¬ (k : Int) < 64 := by omega
      obtain rfl : k = 64 := by omega
      have HM := Lib.hid (show M = span a b from hM)
      clear hM hO
      go_wp2
      go_ret
      exact ⟨by rw [HM.out]; rfl, rfl⟩
theorem only_span {m : Nat} (hm : m < 18446744073709551616) {n : Int} (hn : 0 < n) : m &&& span 0 (n - 1).toNat = onlyN m n := by
  rw [span_zero]
  unfold onlyN
  rw [if_neg (show ¬ n ≤ 0 by omega)]
  by_cases g : 64 ≤ n
  · rw [if_pos (show 64 ≤ (n - 1).toNat + 1 by omega), if_pos g]; exact Nat.mod_eq_of_lt hm
  · rw [if_neg (show ¬ 64 ≤ (n - 1).toNat + 1 by omega), if_neg g, show (n - 1).toNat + 1 = n.toNat by omega]
set_option maxHeartbeats 1000000 in
theorem refOnly_any (m : Nat) (hm : m < 18446744073709551616) (n : Int) (w : World) (h1 : -9223372036854775808 ≤ n) (h2 : n ≤ 9223372036854775807) :
    Calls Tryd.prog 24 #[.int .u64 (m : Int), .int .i64 n] w fun e w' => e = .returned (.int .u64 (onlyN m n : Nat)) ∧ w = w' := by
  by_cases g1 : n < 1
  · have HO := Lib.hid (show onlyN m n = 0 from if_pos (by omega))
    go_enter Tryd.func24, Tryd.ntmps24
    go_wp2
    go_ret
    exact ⟨by rw [HO.out]; rfl, rfl⟩
  · have HO := Lib.hid (only_span (m := m) hm (n := n) (by omega))
    obtain ⟨k, hk⟩ := Int.eq_ofNat_of_zero_le (show 0 ≤ n - 1 by omega)
    have HK := Lib.hid hk
    have hk9 : k < 9223372036854775808 := by omega
    have HA := Lib.hid (u64_and_nat m (span 0 k) hm (span_lt 0 k))
    have HS := Lib.hid (show (n - 1).toNat = k by omega)
    clear hk
    go_enter Tryd.func24, Tryd.ntmps24
    go_wp2_with fail
    rw [HK.out]
    refine (set_any 0 k _ (by decide) hk9).mono ?_
    rintro e w' ⟨rfl, rfl⟩
    go_wp2
    go_ret
    exact ⟨by rw [← HO.out, HS.out, ← HA.out]; rfl, rfl⟩
theorem join_any (a b : Nat) (ha : a < 18446744073709551616) (hb : b < 18446744073709551616) (w : World) :
    Calls Tryd.prog 29 #[.int .u64 (a : Int), .int .u64 (b : Int)] w fun e w' => e = .returned (.int .u64 (a ||| b : Nat)) ∧ w = w' := by
  have HA := Lib.hid (u64_or_nat a b ha hb)
  go_enter Tryd.func29, Tryd.ntmps29
  go_wp2
  go_ret
  exact ⟨by rw [← HA.out]; rfl, rfl⟩
end Go.Proofs.YtdbhdjjepgdomaaDoor
