/- Plain words on numbers as text: the decimal numeral, its value, and when a text is one. No condition. -/
import Derived.Test.YtcboopkalpmglaaDoorBytes
import Derived.Lib.ItoaNum
import Derived.Lib.ItoaLen
import Derived.Lib.ParseIntB
namespace Go.Proofs.YtcboopkalpmglaaDoor
set_option linter.unusedVariables false
/-- A natural number's figures. -/
def decN (u : Nat) : List Nat := (Lib.decDigits u).map UInt8.toNat
/-- A number's numeral. -/
def dec (n : Int) : List Nat := if n < 0 then 45 :: decN n.natAbs else decN n.toNat
theorem dec_itoa (n : Int) : (Lib.itoa n).map UInt8.toNat = dec n := by
  unfold Lib.itoa dec decN
  split <;> rfl
theorem decN_small {u : Nat} (h : u < 10) : decN u = [48 + u] := by
  unfold decN
  rw [Lib.decDigits, dif_pos h]
  simp
  omega
theorem decN_big {u : Nat} (h : ¬ u < 10) : decN u = decN (u / 10) ++ [48 + u % 10] := by
  unfold decN
  rw [Lib.decDigits, dif_neg h]
  simp
  omega
def uval (acc : Nat) (l : List Nat) : Nat := l.foldl (fun a c => 10 * a + (c - 48)) acc
def digs (l : List Nat) : Prop := ∀ c ∈ l, 48 ≤ c ∧ c ≤ 57
theorem decN_spec (u : Nat) : digs (decN u) ∧ uval 0 (decN u) = u ∧ decN u ≠ [] := by
  induction u using Nat.strongRecOn with
  | _ u ih =>
    by_cases h : u < 10
    · rw [decN_small h]
      refine ⟨fun c hc => ?_, by simp [uval], by simp⟩
      simp at hc; omega
    · obtain ⟨h1, h2, h3⟩ := ih (u / 10) (by omega)
      rw [decN_big h]
      refine ⟨fun c hc => ?_, ?_, by simp⟩
      · rcases List.mem_append.1 hc with hc | hc
        · exact h1 c hc
        · simp at hc; omega
      · unfold uval at *
        rw [List.foldl_append, h2]
        simp
        omega
theorem uval_le {l : List Nat} {acc : Nat} : acc ≤ uval acc l := by
  induction l generalizing acc with
  | nil => exact Nat.le_refl _
  | cons c l ih => have := ih (acc := 10 * acc + (c - 48)); unfold uval at *; rw [List.foldl_cons]; omega
theorem parse_digs {l : List UInt8} {acc : Nat} (hd : digs (l.map UInt8.toNat)) (h : uval acc (l.map UInt8.toNat) ≤ 18446744073709551615) : Lib.parseUintM 18446744073709551615 acc l = .ok (uval acc (l.map UInt8.toNat)) := by
  induction l generalizing acc with
  | nil => rfl
  | cons c l ih =>
    have hc := hd c.toNat (by simp)
    have hl := uval_le (l := l.map UInt8.toNat) (acc := 10 * acc + (c.toNat - 48))
    have e : uval acc ((c :: l).map UInt8.toNat) = uval (10 * acc + (c.toNat - 48)) (l.map UInt8.toNat) := rfl
    rw [e] at h ⊢
    unfold Lib.parseUintM
    rw [if_pos hc, if_neg (by omega), if_neg (by omega), Nat.mul_comm acc 10]
    exact ih (fun x hx => hd x (by simp at hx ⊢; exact .inr hx)) h
theorem decN_len {u : Nat} (h : u < 18446744073709551616) : (decN u).length ≤ 20 := by
  unfold decN; rw [List.length_map, Lib.decDigits_length]; exact Lib.nDigits_le20 u h
theorem parse_itoa {n : Int} (h1 : -9223372036854775808 ≤ n) (h2 : n ≤ 9223372036854775807) : Lib.parseIntB 64 (Lib.itoa n) = .ok n := by
  have key : ∀ u : Nat, u ≤ 9223372036854775808 → Lib.parseUintB 64 (Lib.decDigits u) = .ok u := fun u hu => by
    obtain ⟨g1, g2, g3⟩ := decN_spec u
    unfold decN at g1 g2 g3
    unfold Lib.parseUintB
    rw [if_neg (fun e => g3 (by rw [e]; rfl))]
    have := parse_digs (acc := 0) g1 (by rw [g2]; omega)
    rw [g2] at this
    exact this
  have e63 : 2 ^ (64 - 1) = 9223372036854775808 := rfl
  unfold Lib.itoa
  by_cases h : n < 0
  · rw [if_pos h]
    have k := key n.natAbs (by omega)
    have h45 : (45 : UInt8).toNat = 45 := rfl
    unfold Lib.parseIntB
    dsimp only
    rw [if_pos (.inr h45), k]
    dsimp only
    rw [if_neg (fun h => h.1 h45), if_neg (fun h => by rw [e63] at h; have := h.2; omega), if_pos h45]
    congr 1
    omega
  · rw [if_neg h]
    have k := key n.toNat (by omega)
    obtain ⟨g1, _, g3⟩ := decN_spec n.toNat
    unfold decN at g1 g3
    cases hd : Lib.decDigits n.toNat with
    | nil => rw [hd] at g3; exact absurd rfl g3
    | cons c r =>
      rw [hd] at k g1
      have hc := g1 c.toNat (by simp)
      have h45 : ¬ c.toNat = 45 := by omega
      unfold Lib.parseIntB
      dsimp only
      rw [if_neg (show ¬ (c.toNat = 43 ∨ c.toNat = 45) by omega), k]
      dsimp only
      rw [if_neg (fun h => by rw [e63] at h; have := h.2; omega), if_neg (fun h => h45 h.1), if_neg h45]
      congr 1
      omega
/-- The number that a text is written as, if it is one. -/
def numOf (l : List Nat) : Option Int :=
  match Lib.parseIntB 64 (l.map UInt8.ofNat) with
  | .ok v => if dec v = l then some v else none
  | _ => none
theorem parse_range {l : List UInt8} {v : Int} (h : Lib.parseIntB 64 l = .ok v) : -9223372036854775808 ≤ v ∧ v ≤ 9223372036854775807 := by
  unfold Lib.parseIntB at h
  cases l with
  | nil => cases h
  | cons c r =>
    simp only at h
    cases hu : Lib.parseUintB 64 (if c.toNat = 43 ∨ c.toNat = 45 then r else c :: r) with
    | range => rw [hu] at h; cases h
    | ok u =>
      rw [hu] at h
      simp only at h
      split at h
      · cases h
      · split at h
        · cases h
        · injection h with h
          by_cases hc : c.toNat = 45
          · simp [hc] at *; omega
          · simp [hc] at *; omega
    | _ => rw [hu] at h; cases h
theorem numOf_dec {n : Int} (h1 : -9223372036854775808 ≤ n) (h2 : n ≤ 9223372036854775807) : numOf (dec n) = some n := by
  unfold numOf
  have : (dec n).map UInt8.ofNat = Lib.itoa n := by rw [← dec_itoa, map_back]
  rw [this, parse_itoa h1 h2]
  simp
theorem numOf_some {l : List Nat} {v : Int} (h : numOf l = some v) : dec v = l ∧ -9223372036854775808 ≤ v ∧ v ≤ 9223372036854775807 := by
  unfold numOf at h
  cases hp : Lib.parseIntB 64 (l.map UInt8.ofNat) with
  | range => rw [hp] at h; cases h
  | ok u =>
    rw [hp] at h
    simp only at h
    by_cases e : dec u = l
    · rw [if_pos e] at h
      injection h with h
      subst h
      exact ⟨e, parse_range hp⟩
    · rw [if_neg e] at h; cases h
  | _ => rw [hp] at h; cases h
theorem numOf_iff {l : List Nat} {v : Int} : numOf l = some v ↔ dec v = l ∧ -9223372036854775808 ≤ v ∧ v ≤ 9223372036854775807 :=
  ⟨numOf_some, fun ⟨h, h1, h2⟩ => by rw [← h]; exact numOf_dec h1 h2⟩
/-! ### As the document reads it -/
/-- The value so far, below 0. -/
def lowTo (l : List Nat) : Int := l.foldl (fun (n : Int) (c : Nat) => 10 * n - ((c : Int) - 48)) 0
theorem low_uval {l : List Nat} (hd : digs l) (acc : Nat) : l.foldl (fun (n : Int) (c : Nat) => 10 * n - ((c : Int) - 48)) (-(acc : Int)) = -((uval acc l : Nat) : Int) := by
  induction l generalizing acc with
  | nil => rfl
  | cons c l ih =>
    have hc := hd c (by simp)
    rw [List.foldl_cons]
    have e : 10 * (-(acc : Int)) - ((c : Int) - 48) = -((10 * acc + (c - 48) : Nat) : Int) := by omega
    rw [e, ih (fun x hx => hd x (by simp [hx]))]
    rfl
/-- A numeral's shape. -/
theorem dec_shape (n : Int) : (n < 0 ∧ ∃ l, dec n = 45 :: l ∧ digs l ∧ uval 0 l = n.natAbs ∧ l ≠ []) ∨ (0 ≤ n ∧ digs (dec n) ∧ uval 0 (dec n) = n.toNat ∧ dec n ≠ []) := by
  unfold dec
  by_cases h : n < 0
  · rw [if_pos h]
    obtain ⟨h1, h2, h3⟩ := decN_spec n.natAbs
    exact .inl ⟨h, _, rfl, h1, h2, h3⟩
  · rw [if_neg h]
    obtain ⟨h1, h2, h3⟩ := decN_spec n.toNat
    exact .inr ⟨by omega, h1, h2, h3⟩
theorem dec_len {n : Int} (h1 : -9223372036854775808 ≤ n) (h2 : n ≤ 9223372036854775807) : (dec n).length ≤ 20 := by
  unfold dec
  by_cases h : n < 0
  · rw [if_pos h, List.length_cons]
    have : n.natAbs ≤ 9223372036854775808 := by omega
    have hn : Lib.nDigits n.natAbs ≤ 19 := by
      rcases Nat.lt_or_ge 19 (Lib.nDigits n.natAbs) with g | g
      · exfalso
        have h20 := Lib.nDigits_le20 n.natAbs (by omega)
        have e : Lib.nDigits n.natAbs = 20 := by omega
        have : Lib.nDigits n.natAbs ≠ 20 := fun e => by
          have hl := Lib.nDigits_unique
          have lo : 10 ^ 19 ≤ n.natAbs := by
            rcases Nat.lt_or_ge n.natAbs (10 ^ 19) with q | q
            · exfalso
              have small : ∀ k, k ≤ 19 → n.natAbs < 10 ^ k → Lib.nDigits n.natAbs ≤ max k 1 := fun k => by
                induction k with
                | zero => intro _ hk; simp at hk; rw [hk]; rw [Lib.nDigits_small (by omega)]; decide
                | succ k ih =>
                  intro hk hlt
                  rcases Nat.lt_or_ge n.natAbs (10 ^ k) with q2 | q2
                  · have := ih (by omega) q2; omega
                  · rw [hl k n.natAbs q2 hlt]; omega
              have := small 19 (Nat.le_refl _) q
              omega
            · exact q
          omega
        exact this e
      · exact g
    unfold decN; rw [List.length_map, Lib.decDigits_length]; omega
  · rw [if_neg h]
    exact decN_len (by omega)
end Go.Proofs.YtcboopkalpmglaaDoor
