/- Plain words on how many bits a number has: sums of neighbours, wider and wider. No condition. -/
import Derived.WalkKit
import Derived.Laws.BitsAllLaws
namespace Go.Proofs.YtdbhdjjepgdomaaDoor
set_option linter.unusedVariables false
open Go.RowKit
/-- The digits' sum, k digits of w bits. -/
def tot (w : Nat) : Nat → Nat → Nat
  | 0, _ => 0
  | k + 1, y => y % 2 ^ w + tot w k (y / 2 ^ w)
/-- Two neighbours together, k pairs. -/
def sw (w : Nat) : Nat → Nat → Nat
  | 0, _ => 0
  | k + 1, y => 2 ^ (2 * w) * sw w k (y / 2 ^ (2 * w)) + (y % 2 ^ w + y / 2 ^ w % 2 ^ w)
/-- The mask of each second digit. -/
def mk (w : Nat) : Nat → Nat
  | 0 => 0
  | k + 1 => 2 ^ (2 * w) * mk w k + (2 ^ w - 1)
theorem and_split (w a b c d : Nat) (hb : b < 2 ^ w) (hd : d < 2 ^ w) : (2 ^ w * a + b) &&& (2 ^ w * c + d) = 2 ^ w * (a &&& c) + (b &&& d) := by
  have hp : 0 < 2 ^ w := Nat.two_pow_pos w
  have q1 : (2 ^ w * a + b) / 2 ^ w = a := by rw [Nat.mul_add_div hp, Nat.div_eq_of_lt hb, Nat.add_zero]
  have q2 : (2 ^ w * c + d) / 2 ^ w = c := by rw [Nat.mul_add_div hp, Nat.div_eq_of_lt hd, Nat.add_zero]
  have r1 : (2 ^ w * a + b) % 2 ^ w = b := by rw [Nat.mul_add_mod, Nat.mod_eq_of_lt hb]
  have r2 : (2 ^ w * c + d) % 2 ^ w = d := by rw [Nat.mul_add_mod, Nat.mod_eq_of_lt hd]
  have h := Nat.div_add_mod ((2 ^ w * a + b) &&& (2 ^ w * c + d)) (2 ^ w)
  rw [Nat.and_div_two_pow, Nat.and_mod_two_pow, q1, q2, r1, r2] at h
  exact h.symm
theorem two_w (w : Nat) : 2 ^ (2 * w) = 2 ^ w * 2 ^ w := by rw [Nat.two_mul, Nat.pow_add]
theorem and_low {w x : Nat} (h : x < 2 ^ w) : x &&& (2 ^ w - 1) = x := by rw [Nat.and_two_pow_sub_one_eq_mod, Nat.mod_eq_of_lt h]
theorem low_and (w e d : Nat) (hd : d < 2 ^ w) : (2 ^ w * e + d) &&& (2 ^ w - 1) = d := by rw [Nat.and_two_pow_sub_one_eq_mod, Nat.mul_add_mod, Nat.mod_eq_of_lt hd]
/-- A number by its first pair. -/
theorem pair_eq (w y : Nat) : y = 2 ^ (2 * w) * (y / 2 ^ (2 * w)) + (2 ^ w * (y / 2 ^ w % 2 ^ w) + y % 2 ^ w) := by
  have h1 := Nat.div_add_mod y (2 ^ w)
  have h2 := Nat.div_add_mod (y / 2 ^ w) (2 ^ w)
  rw [Nat.div_div_eq_div_mul, ← two_w] at h2
  have h3 : 2 ^ w * (y / 2 ^ w) = 2 ^ (2 * w) * (y / 2 ^ (2 * w)) + 2 ^ w * (y / 2 ^ w % 2 ^ w) := by
    conv => lhs; rw [← h2]
    rw [Nat.mul_add, two_w, Nat.mul_assoc]
  omega
theorem pair_lt (w a b : Nat) (ha : a < 2 ^ w) (hb : b < 2 ^ w) : 2 ^ w * a + b < 2 ^ (2 * w) := by
  rw [two_w]
  have : 2 ^ w * (a + 1) ≤ 2 ^ w * 2 ^ w := Nat.mul_le_mul_left _ ha
  rw [Nat.mul_add] at this
  omega
theorem and_mk (w k y : Nat) : y &&& mk w (k + 1) = 2 ^ (2 * w) * (y / 2 ^ (2 * w) &&& mk w k) + y % 2 ^ w := by
  have hp : 0 < 2 ^ w := Nat.two_pow_pos w
  have hd := Nat.mod_lt y hp
  have hd1 := Nat.mod_lt (y / 2 ^ w) hp
  have hm : 2 ^ w - 1 < 2 ^ (2 * w) := by
    have := Nat.pow_le_pow_right (n := 2) (by decide) (show w ≤ 2 * w by omega)
    omega
  conv => lhs; rw [pair_eq w y]
  rw [mk, and_split (2 * w) _ _ _ _ (pair_lt w _ _ hd1 hd) hm, low_and w _ _ hd]
theorem half_div (w y : Nat) : y / 2 ^ w / 2 ^ (2 * w) = y / 2 ^ (2 * w) / 2 ^ w := by rw [Nat.div_div_eq_div_mul, Nat.div_div_eq_div_mul, Nat.mul_comm]
theorem sw_eq (w k y : Nat) : (y / 2 ^ w &&& mk w k) + (y &&& mk w k) = sw w k y := by
  induction k generalizing y with
  | zero => simp [mk, sw]
  | succ k ih =>
    rw [and_mk, and_mk, sw, ← ih, half_div, Nat.mul_add]
    omega
/-- Digits of w bits, each c at most. -/
def Dg (w c : Nat) : Nat → Nat → Prop
  | 0, y => y = 0
  | k + 1, y => y % 2 ^ w ≤ c ∧ Dg w c k (y / 2 ^ w)
theorem sw_mod {w k y : Nat} (hw : 1 ≤ w) : sw w (k + 1) y % 2 ^ (2 * w) = y % 2 ^ w + y / 2 ^ w % 2 ^ w ∧ sw w (k + 1) y / 2 ^ (2 * w) = sw w k (y / 2 ^ (2 * w)) := by
  have hp : 0 < 2 ^ w := Nat.two_pow_pos w
  have hd := Nat.mod_lt y hp
  have hd1 := Nat.mod_lt (y / 2 ^ w) hp
  have h2 : 2 ≤ 2 ^ w := Nat.pow_le_pow_right (n := 2) (by decide) hw
  have hlt : y % 2 ^ w + y / 2 ^ w % 2 ^ w < 2 ^ (2 * w) := by
    rw [two_w]
    have : 2 * 2 ^ w ≤ 2 ^ w * 2 ^ w := Nat.mul_le_mul_right _ h2
    omega
  rw [sw]
  exact ⟨by rw [Nat.mul_add_mod, Nat.mod_eq_of_lt hlt], by rw [Nat.mul_add_div (Nat.two_pow_pos _), Nat.div_eq_of_lt hlt, Nat.add_zero]⟩
theorem tot_sw {w : Nat} (hw : 1 ≤ w) (k y : Nat) : tot (2 * w) k (sw w k y) = tot w (2 * k) y := by
  induction k generalizing y with
  | zero => rfl
  | succ k ih =>
    obtain ⟨h1, h2⟩ := sw_mod (k := k) (y := y) hw
    rw [tot, h1, h2, ih, show 2 * (k + 1) = 2 * k + 1 + 1 by omega, tot, tot, Nat.div_div_eq_div_mul, ← two_w]
    omega
theorem dg_sw {w c k y : Nat} (hw : 1 ≤ w) (h : Dg w c (2 * k) y) : Dg (2 * w) (2 * c) k (sw w k y) := by
  induction k generalizing y with
  | zero => rfl
  | succ k ih =>
    obtain ⟨h1, h2⟩ := sw_mod (k := k) (y := y) hw
    rw [show 2 * (k + 1) = 2 * k + 1 + 1 by omega] at h
    obtain ⟨g1, g2, g3⟩ := h
    rw [Nat.div_div_eq_div_mul, ← two_w] at g3
    refine ⟨by rw [h1]; omega, by rw [h2]; exact ih g3⟩
theorem dg_bits {k y : Nat} (h : y < 2 ^ k) : Dg 1 1 k y := by
  induction k generalizing y with
  | zero => simp at h; exact h
  | succ k ih => exact ⟨by simp; omega, ih (by rw [Nat.pow_succ] at h; simp; omega)⟩
theorem dg_lt {w c k y : Nat} (h : Dg w c k y) : y < 2 ^ (w * k) := by
  induction k generalizing y with
  | zero => simp only [Dg] at h; subst h; simp
  | succ k ih =>
    have := ih h.2
    rw [Nat.mul_succ, Nat.pow_add]
    have hp : 0 < 2 ^ w := Nat.two_pow_pos w
    exact (Nat.div_lt_iff_lt_mul hp).1 this
/-- Where no pair carries the sum may come first. -/
theorem sw_late {w c k y : Nat} (hc : 2 * c < 2 ^ w) (h : Dg w c (2 * k) y) : (y / 2 ^ w + y) &&& mk w k = sw w k y := by
  induction k generalizing y with
  | zero => simp [mk, sw]
  | succ k ih =>
    rw [show 2 * (k + 1) = 2 * k + 1 + 1 by omega] at h
    obtain ⟨g1, g2, g3⟩ := h
    rw [Nat.div_div_eq_div_mul, ← two_w] at g3
    have hp : 0 < 2 ^ w := Nat.two_pow_pos w
    have e0 : y / 2 ^ (2 * w) % 2 ^ w ≤ c := by
      cases k with
      | zero => simp only [Dg] at g3; rw [g3]; simp
      | succ k => rw [show 2 * (k + 1) = 2 * k + 1 + 1 by omega] at g3; exact g3.1
    rw [and_mk, sw, ← ih g3]
    have hy := pair_eq w y
    have hy1 := pair_eq w (y / 2 ^ w)
    rw [half_div, Nat.div_div_eq_div_mul y (2 ^ w) (2 ^ w), ← two_w] at hy1
    generalize y / 2 ^ (2 * w) / 2 ^ w = A at hy1 ⊢
    generalize y / 2 ^ (2 * w) % 2 ^ w = E0 at hy1 e0
    generalize y / 2 ^ (2 * w) = Y at hy ⊢
    generalize y / 2 ^ w % 2 ^ w = d1 at hy hy1 g2 ⊢
    generalize y % 2 ^ w = d0 at hy g1 ⊢
    generalize y / 2 ^ w = Z at hy1 ⊢
    have hs : Z + y = 2 ^ (2 * w) * (A + Y) + (2 ^ w * (E0 + d1) + (d0 + d1)) := by
      rw [Nat.mul_add, Nat.mul_add]; omega
    have hlt : 2 ^ w * (E0 + d1) + (d0 + d1) < 2 ^ (2 * w) := pair_lt w _ _ (by omega) (by omega)
    have q1 : (Z + y) / 2 ^ (2 * w) = A + Y := by rw [hs, Nat.mul_add_div (Nat.two_pow_pos _), Nat.div_eq_of_lt hlt, Nat.add_zero]
    have q2 : (Z + y) % 2 ^ w = d0 + d1 := by
      rw [hs, two_w, Nat.mul_assoc, ← Nat.add_assoc, ← Nat.mul_add, Nat.mul_add_mod, Nat.mod_eq_of_lt (by omega)]
    rw [q1, q2]
theorem digit_split {y : Nat} : y = y % 256 + 256 * (y / 256) := by omega
/-- Neighbours: a number with the one behind it. -/
theorem nb1 {y r a b r2 : Nat} (h : y = a + 256 * r) (h2 : r = b + 256 * r2) : y + r = (a + b) + 256 * (r + r2) := by omega
theorem sh16 {z z1 z2 a b : Nat} (h : z = a + 256 * z1) (h1 : z1 = b + 256 * z2) (ha : a ≤ 16) (hb : b ≤ 16) : z / 65536 = z2 := by omega
theorem sh32 {u u1 u2 u3 u4 a b c d : Nat} (h : u = a + 256 * u1) (h1 : u1 = b + 256 * u2) (h2 : u2 = c + 256 * u3) (h3 : u3 = d + 256 * u4) (ha : a ≤ 32) (hb : b ≤ 32) (hc : c ≤ 32) (hd : d ≤ 32) : u / 4294967296 = u4 := by
  have e : u = a + 256 * b + 65536 * c + 16777216 * d + 4294967296 * u4 := by subst h3 h2 h1 h; omega
  clear h h1 h2 h3
  omega
theorem nb2 {z z1 z2 z3 a b : Nat} (h : z = a + 256 * z1) (h2 : z2 = b + 256 * z3) : z + z2 = (a + b) + 256 * (z1 + z3) := by omega
/-- The last sum. -/
theorem last_sum {y : Nat} (h : Dg 8 8 8 y) : (((y + y / 256) + (y + y / 256) / 65536) + ((y + y / 256) + (y + y / 256) / 65536) / 4294967296) % 128 = tot 8 8 y ∧ ((y + y / 256) + (y + y / 256) / 65536) + ((y + y / 256) + (y + y / 256) / 65536) / 4294967296 < 9223372036854775808 := by
  have hy64 : y < 723401728380766731 := by
    obtain ⟨c0, c1, c2, c3, c4, c5, c6, c7, c8⟩ := h
    simp only [Dg, Nat.reducePow] at *
    omega
  obtain ⟨c0, c1, c2, c3, c4, c5, c6, c7, c8⟩ := h
  simp only [Dg, Nat.reducePow] at *
  simp only [tot, Nat.reducePow]
  have s0 := digit_split (y := y)
  generalize y % 256 = d0 at *
  generalize y / 256 = r1 at *
  have s1 := digit_split (y := r1)
  generalize r1 % 256 = d1 at *
  generalize r1 / 256 = r2 at *
  have s2 := digit_split (y := r2)
  generalize r2 % 256 = d2 at *
  generalize r2 / 256 = r3 at *
  have s3 := digit_split (y := r3)
  generalize r3 % 256 = d3 at *
  generalize r3 / 256 = r4 at *
  have s4 := digit_split (y := r4)
  generalize r4 % 256 = d4 at *
  generalize r4 / 256 = r5 at *
  have s5 := digit_split (y := r5)
  generalize r5 % 256 = d5 at *
  generalize r5 / 256 = r6 at *
  have s6 := digit_split (y := r6)
  generalize r6 % 256 = d6 at *
  generalize r6 / 256 = r7 at *
  have s7 := digit_split (y := r7)
  generalize r7 % 256 = d7 at *
  rw [c8] at s7
  have z0 := nb1 s0 s1
  have z1 := nb1 s1 s2
  have z2 := nb1 s2 s3
  have z3 := nb1 s3 s4
  have z4 := nb1 s4 s5
  have z5 := nb1 s5 s6
  have z6 := nb1 s6 s7
  have z7 : r7 + 0 = d7 + 256 * (0 + 0) := by omega
  have k3 := sh16 z0 z1 (by omega) (by omega)
  rw [k3]
  have u0 := nb2 z0 z2
  have u1 := nb2 z1 z3
  have u2 := nb2 z2 z4
  have u3 := nb2 z3 z5
  have u4 := nb2 z4 z6
  have o1 : r1 ≤ y := by omega
  have o2 : r2 ≤ r1 := by omega
  have o3 : r3 ≤ r2 := by omega
  have o4 : r4 ≤ r3 := by omega
  have o5 : r5 ≤ r4 := by omega
  have o6 : r6 ≤ r5 := by omega
  have o7 : r7 ≤ r6 := by omega
  clear s0 s1 s2 s3 s4 s5 s6 s7 z1 z2 z3 z4 z5 z6 k3 c8
  have k4 := sh32 u0 u1 u2 u3 (by omega) (by omega) (by omega) (by omega)
  rw [k4]
  have v0 := nb2 u0 u4
  clear u1 u2 u3 z0 z7
  constructor
  · rw [v0]; clear u0 u4 v0 k4 hy64; omega
  · clear u0 u4 v0
    omega
/-- The bits of a set. -/
def bitsL (m : Nat) : List Nat := (List.range 64).filter fun p => m.testBit p
theorem tot_bits (k y : Nat) : tot 1 k y = ((List.range k).filter fun p => y.testBit p).length := by
  induction k generalizing y with
  | zero => rfl
  | succ k ih =>
    rw [tot, ih, List.range_succ_eq_map, List.filter_cons, List.filter_map, Nat.testBit_zero]
    have e : ((fun p => y.testBit p) ∘ Nat.succ) = fun p => (y / 2).testBit p := by
      funext p; simp [Nat.testBit_succ]
    rw [e]
    have : y % 2 = 0 ∨ y % 2 = 1 := by omega
    rcases this with h | h <;> simp [h]
    omega
theorem st1 {x : Nat} (hx : x < 18446744073709551616) : IntKind.u64.wrap (bits .and .u64 ((x : Int) / 2) 6148914691236517205 + bits .and .u64 (x : Int) 6148914691236517205) = ((sw 1 32 x : Nat) : Int) := by
  have h1 : ((x : Int) / 2) = ((x / 2 : Nat) : Int) := by simp
  have h2 : (6148914691236517205 : Int) = ((mk 1 32 : Nat) : Int) := by decide +kernel
  have hm : mk 1 32 < 18446744073709551616 := by decide +kernel
  rw [h1, h2, u64_and_nat _ _ (by omega) hm, u64_and_nat _ _ hx hm, ← Int.natCast_add, sw_eq 1 32 x]
  have hb : sw 1 32 x < 18446744073709551616 := dg_lt (dg_sw (w := 1) (c := 1) (k := 32) (Nat.le_refl _) (dg_bits hx))
  rw [IntKind.wrap_u64]; omega
theorem st2 {x : Nat} (hx : x < 18446744073709551616) : IntKind.u64.wrap (bits .and .u64 ((x : Int) / 4) 3689348814741910323 + bits .and .u64 (x : Int) 3689348814741910323) = ((sw 2 16 x : Nat) : Int) ∨ ¬ Dg 2 2 32 x := by
  by_cases hd : Dg 2 2 32 x
  · refine .inl ?_
    have h1 : ((x : Int) / 4) = ((x / 4 : Nat) : Int) := by simp
    have h2 : (3689348814741910323 : Int) = ((mk 2 16 : Nat) : Int) := by decide +kernel
    have hm : mk 2 16 < 18446744073709551616 := by decide +kernel
    have := sw_eq 2 16 x
    rw [h1, h2, u64_and_nat _ _ (by omega) hm, u64_and_nat _ _ hx hm, ← Int.natCast_add, this]
    have hb : sw 2 16 x < 18446744073709551616 := dg_lt (dg_sw (w := 2) (c := 2) (k := 16) (by decide) hd)
    rw [IntKind.wrap_u64]; omega
  · exact .inr hd
theorem st3 {x : Nat} (hx : x < 18446744073709551616) (hd : Dg 4 4 16 x) : bits .and .u64 (IntKind.u64.wrap ((x : Int) / 16 + (x : Int))) 1085102592571150095 = ((sw 4 8 x : Nat) : Int) := by
  have h1 : ((x : Int) / 16) = ((x / 16 : Nat) : Int) := by simp
  have h2 : (1085102592571150095 : Int) = ((mk 4 8 : Nat) : Int) := by decide +kernel
  have hm : mk 4 8 < 18446744073709551616 := by decide +kernel
  have hlt : x / 16 + x < 18446744073709551616 := by
    have h8 : sw 4 8 x < 18446744073709551616 := dg_lt (dg_sw (w := 4) (c := 4) (k := 8) (by decide) hd)
    obtain ⟨c0, c1, c2, c3, c4, c5, c6, c7, c8, c9, ca, cb, cc, cd, ce, cf, cg⟩ := hd
    simp only [Dg, Nat.reducePow] at *
    omega
  have := sw_late (w := 4) (c := 4) (k := 8) (by decide) hd
  have hw : IntKind.u64.wrap (((x / 16 : Nat) : Int) + (x : Int)) = ((x / 16 + x : Nat) : Int) := by rw [IntKind.wrap_u64]; omega
  rw [h1, hw, h2, u64_and_nat _ _ hlt hm, this]
end Go.Proofs.YtdbhdjjepgdomaaDoor
