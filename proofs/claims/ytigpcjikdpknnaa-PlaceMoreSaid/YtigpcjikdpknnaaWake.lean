/- Plain laws of the P where a task wakes: what is chosen may be, has the least load, is idle if one is; with a mask of one; where it was. No condition. -/
import Derived.Test.YtigpcjikdpknnaaOpen
namespace Go.Proofs.Ytigpcjikdpknnaa
set_option linter.unusedVariables false
open Go.RowKit

theorem idleB_iff {zs : List Int} {bs : List Bool} {m : Int} {p : Nat} : idleB zs bs m p = true ↔ mayB zs m p = true ∧ zat zs p = 0 ∧ (bs.length ≤ p ∨ bat bs p = false) := by
  simp [idleB]
theorem idleB_may {zs : List Int} {bs : List Bool} {m : Int} {p : Nat} (h : mayB zs m p = false) : idleB zs bs m p = false := by unfold idleB; rw [h]; rfl
theorem idleI_true {zs : List Int} {bs : List Bool} {m p : Int} (h : idleI zs bs m p = true) : ∃ k : Nat, p = k ∧ idleB zs bs m k = true := by
  by_cases hp : 0 ≤ p
  · obtain ⟨k, rfl⟩ := Int.eq_ofNat_of_zero_le hp
    rw [idleI_nat] at h
    exact ⟨k, rfl, h⟩
  · unfold idleI at h; rw [decide_eq_false hp] at h; cases h
theorem mayI_true {zs : List Int} {m p : Int} (h : mayI zs m p = true) : ∃ k : Nat, p = k ∧ mayB zs m k = true := by
  by_cases hp : 0 ≤ p
  · obtain ⟨k, rfl⟩ := Int.eq_ofNat_of_zero_le hp
    rw [mayI_nat] at h
    exact ⟨k, rfl, h⟩
  · unfold mayI at h; rw [decide_eq_false hp] at h; cases h
theorem placeIdle_spec (zs : List Int) (bs : List Bool) (m : Int) : (placeIdle zs bs m = -1 ∧ ∀ q, q < zs.length → idleB zs bs m q = false) ∨ (∃ p : Nat, p < zs.length ∧ placeIdle zs bs m = p ∧ idleB zs bs m p = true ∧ ∀ q, q < p → idleB zs bs m q = false) :=
  firstP_spec _ _
/-- What is chosen. -/
theorem choose_cases {zs : List Int} {bs : List Bool} {prev m : Int} (hz : ∀ p, 0 ≤ zat zs p ∧ zat zs p < 18446744073709551616) :
    (choose zs bs prev m = (0, 9) ∧ ∀ q, q < zs.length → mayB zs m q = false) ∨
    (∃ p : Nat, choose zs bs prev m = ((p : Int), 0) ∧ p < zs.length ∧ mayB zs m p = true ∧ (∀ q, q < zs.length → mayB zs m q = true → zat zs p ≤ zat zs q) ∧ ((∃ q, q < zs.length ∧ idleB zs bs m q = true) → idleB zs bs m p = true)) := by
  rcases least_spec zs m with ⟨l1, l2⟩ | ⟨L, l1, l2, l3, l4⟩
  · exact .inl ⟨choose_none (by omega), l2⟩
  · have hln : ¬ least zs m < 0 := by omega
    refine .inr ?_
    cases hid : idleI zs bs m prev
    · rcases placeIdle_spec zs bs m with ⟨p1, p2⟩ | ⟨p, p1, p2, p3, p4⟩
      · have hp0 : ¬ 0 ≤ placeIdle zs bs m := by omega
        have hno : ¬ ∃ q, q < zs.length ∧ idleB zs bs m q = true := by
          rintro ⟨q, hq, h⟩; rw [p2 q hq] at h; cases h
        by_cases h3 : mayI zs m prev = true ∧ zat zs prev.toNat ≤ zat zs (least zs m).toNat
        · obtain ⟨k, rfl, hk⟩ := mayI_true h3.1
          have hle := h3.2
          rw [l1] at hle
          simp only [Int.toNat_natCast] at hle
          exact ⟨k, choose_stay hln hid hp0 h3, (mayB_iff.1 hk).1, hk, fun q hq hm => by have := (l4 q hq hm).1; omega, fun h => absurd h hno⟩
        · exact ⟨L, by rw [choose_least hln hid hp0 h3, l1], l2, l3, fun q hq hm => (l4 q hq hm).1, fun h => absurd h hno⟩
      · have hi := idleB_iff.1 p3
        exact ⟨p, by rw [choose_idle hln hid (by omega), p2], p1, hi.1, fun q hq hm => by have := (hz q).1; rw [hi.2.1]; exact this, fun _ => p3⟩
    · obtain ⟨k, rfl, hk⟩ := idleI_true hid
      have hi := idleB_iff.1 hk
      exact ⟨k, choose_prev hln hid, (mayB_iff.1 hi.1).1, hi.1, fun q hq hm => by have := (hz q).1; rw [hi.2.1]; exact this, fun _ => hk⟩
theorem someTo_of {zs : List Int} {m : Int} {k : Nat} (hk : k ≤ zs.length) (h : k = zs.length ∨ 64 ≤ k) : someTo zs m k = someTo zs m zs.length := by
  rcases h with rfl | h
  · rfl
  · have : ∀ d, someTo zs m (k + d) = someTo zs m k := by
      intro d
      induction d with
      | zero => rfl
      | succ d ih =>
        rw [← Nat.add_assoc, someTo_succ, ih]
        have : mayB zs m (k + d) = false := by
          cases hb : mayB zs m (k + d)
          · rfl
          · have := (mayB_iff.1 hb).2.1; omega
        rw [this]; simp
    have := this (zs.length - k)
    rw [show k + (zs.length - k) = zs.length by omega] at this
    exact this.symm
theorem someTo_none {zs : List Int} {m : Int} (h : ∀ q, q < zs.length → mayB zs m q = false) : someTo zs m zs.length = false := by
  unfold someTo; rw [List.any_eq_false]
  intro q hq; rw [h q (by simpa using hq)]; decide
theorem someTo_one {zs : List Int} {m : Int} {p : Nat} (hp : p < zs.length) (h : mayB zs m p = true) : someTo zs m zs.length = true := by
  unfold someTo; rw [List.any_eq_true]; exact ⟨p, by simpa using hp, h⟩
/-- With a mask of none. -/
theorem choose_zero (zs : List Int) (bs : List Bool) (prev : Int) : choose zs bs prev 0 = (0, 9) := choose_none (by rw [least_zero]; decide)
/-- With a mask of one. -/
theorem choose_pow (zs : List Int) (bs : List Bool) (prev : Int) (k : Nat) (hk : k < 64) (hz : ∀ p, 0 ≤ zat zs p ∧ zat zs p < 18446744073709551616) :
    choose zs bs prev (2 ^ k : Int) = if k < zs.length then ((k : Int), 0) else (0, 9) := by
  rcases choose_cases (bs := bs) (prev := prev) (m := (2 ^ k : Int)) hz with ⟨h1, h2⟩ | ⟨p, h1, h2, h3, _⟩
  · rw [h1]
    by_cases h : k < zs.length
    · have := h2 k h; rw [may_pow zs k k hk] at this; simp [h] at this
    · rw [if_neg h]
  · rw [may_pow zs k p hk] at h3
    simp at h3
    rw [h1, if_pos h3.2, h3.1]
/-- Some of the first k are idle. -/
def idleTo (zs : List Int) (bs : List Bool) (m : Int) (k : Nat) : Bool := (List.range k).any fun q => idleB zs bs m q
theorem idleTo_succ (zs : List Int) (bs : List Bool) (m : Int) (k : Nat) : idleTo zs bs m (k + 1) = (idleTo zs bs m k || idleB zs bs m k) := by simp [idleTo, List.range_succ]
theorem idleTo_true {zs : List Int} {bs : List Bool} {m : Int} (h : idleTo zs bs m zs.length = true) : ∃ q, q < zs.length ∧ idleB zs bs m q = true := by
  unfold idleTo at h; rw [List.any_eq_true] at h
  obtain ⟨q, hq, h⟩ := h
  exact ⟨q, by simpa using hq, h⟩
/-- None of the first k that may be has less than p. -/
def leastTo (zs : List Int) (m : Int) (p k : Nat) : Bool := (List.range k).all fun q => !mayB zs m q || decide (zat zs p ≤ zat zs q)
theorem leastTo_succ (zs : List Int) (m : Int) (p k : Nat) : leastTo zs m p (k + 1) = (leastTo zs m p k && (!mayB zs m k || decide (zat zs p ≤ zat zs k))) := by simp [leastTo, List.range_succ]
theorem leastTo_iff {zs : List Int} {m : Int} {p : Nat} : leastTo zs m p zs.length = true ↔ ∀ q, q < zs.length → mayB zs m q = true → zat zs p ≤ zat zs q := by
  simp [leastTo]
  refine ⟨fun h q a b => (h q a).resolve_left (by simp [b]), fun h x a => ?_⟩
  cases hb : mayB zs m x
  · exact .inl rfl
  · exact .inr (h x a hb)
/-- Where it was. -/
theorem choose_was {zs : List Int} {bs : List Bool} {m : Int} {k : Nat} (hk : mayB zs m k = true) (hz : ∀ p, 0 ≤ zat zs p ∧ zat zs p < 18446744073709551616) :
    (choose zs bs k m = ((k : Int), 0) ∧ (idleB zs bs m k = true ∨ placeIdle zs bs m < 0 ∧ leastTo zs m k zs.length = true)) ∨
    (∃ p : Int, choose zs bs k m = (p, 0) ∧ p ≠ k ∧ ¬ (idleB zs bs m k = true ∨ placeIdle zs bs m < 0 ∧ leastTo zs m k zs.length = true)) := by
  have hkl := (mayB_iff.1 hk).1
  rcases least_spec zs m with ⟨l1, l2⟩ | ⟨L, l1, l2, l3, l4⟩
  · rw [l2 k hkl] at hk; cases hk
  · have hln : ¬ least zs m < 0 := by omega
    cases hid : idleB zs bs m k
    · have hid' : idleI zs bs m k = false := by rw [idleI_nat]; exact hid
      rcases placeIdle_spec zs bs m with ⟨p1, p2⟩ | ⟨p, p1, p2, p3, p4⟩
      · have hp0 : ¬ 0 ≤ placeIdle zs bs m := by omega
        by_cases h3 : mayI zs m k = true ∧ zat zs (k : Int).toNat ≤ zat zs (least zs m).toNat
        · refine .inl ⟨choose_stay hln hid' hp0 h3, .inr ⟨by omega, leastTo_iff.2 fun q hq hm => ?_⟩⟩
          have h4 := h3.2
          rw [l1] at h4
          simp only [Int.toNat_natCast] at h4
          have := (l4 q hq hm).1
          omega
        · have h4 : ¬ zat zs k ≤ zat zs L := by
            intro h
            exact h3 ⟨by rw [mayI_nat]; exact hk, by rw [l1]; simpa using h⟩
          refine .inr ⟨L, by rw [choose_least hln hid' hp0 h3, l1], ?_, ?_⟩
          · intro e
            have : L = k := by omega
            subst this; omega
          · rintro (h | ⟨_, h⟩)
            · cases h
            · exact h4 (leastTo_iff.1 h L l2 l3)
      · refine .inr ⟨p, by rw [choose_idle hln hid' (by omega), p2], ?_, ?_⟩
        · intro e
          have : p = k := by omega
          subst this; rw [hid] at p3; cases p3
        · rintro (h | ⟨h, _⟩)
          · cases h
          · omega
    · exact .inl ⟨choose_prev hln (by rw [idleI_nat]; exact hid), .inl rfl⟩
theorem choose_not {zs : List Int} {bs : List Bool} {m : Int} {k : Nat} (hk : mayB zs m k = false) (hz : ∀ p, 0 ≤ zat zs p ∧ zat zs p < 18446744073709551616) : ∃ p e : Int, choose zs bs k m = (p, e) ∧ (e = 9 ∨ e = 0 ∧ p ≠ k) := by
  rcases choose_cases (bs := bs) (prev := k) (m := m) hz with ⟨h1, h2⟩ | ⟨p, h1, h2, h3, _⟩
  · exact ⟨_, _, h1, .inl rfl⟩
  · refine ⟨_, _, h1, .inr ⟨rfl, ?_⟩⟩
    intro e
    have : p = k := by omega
    subst this; rw [h3] at hk; cases hk
end Go.Proofs.Ytigpcjikdpknnaa
