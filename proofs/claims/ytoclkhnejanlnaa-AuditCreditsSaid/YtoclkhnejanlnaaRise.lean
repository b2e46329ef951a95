/- Numbers that may be, and don't fall: the program's answer and the document's; a growth by a weight. Conditions: the slices read as lists. -/
import Derived.Test.YtoclkhnejanlnaaCred
import Derived.WalkLawsBesides
namespace Go.Proofs.Ytoclkhnejanlnaa
set_option linter.unusedVariables false
open Go.RowKit
/-- None is below the one ahead of it. -/
def sortedB (l : List Int) : Bool := !(anyB l.length fun i => decide (0 < i) && decide (rat l i < rat l (i - 1)))
theorem sorted_iff {l : List Int} : sortedB l = true ↔ ∀ i, i + 1 < l.length → rat l i ≤ rat l (i + 1) := by
  unfold sortedB
  rw [Bool.not_eq_true', anyB_false]
  constructor
  · intro h i hi
    have := h (i + 1) hi
    simp at this; omega
  · intro h i hi
    cases i with
    | zero => simp
    | succ i => have := h i hi; simp; omega
theorem sorted_mono {l : List Int} (h : sortedB l = true) {i j : Nat} (hij : i ≤ j) (hj : j < l.length) : rat l i ≤ rat l j := by
  have hs := sorted_iff.1 h
  obtain ⟨d, rfl⟩ : ∃ d, j = i + d := ⟨j - i, by omega⟩
  clear hij
  induction d with
  | zero => exact Int.le_refl _
  | succ d ih => have h1 := ih (by omega); have h2 := hs (i + d) (by omega); rw [← Nat.add_assoc]; omega
/-- The greatest one. -/
def IsMax (l : List Int) (r : Int) : Prop := (∀ i, i < l.length → rat l i ≤ r) ∧ ∃ i, i < l.length ∧ rat l i = r
theorem rise_of {l : List Int} {r : Int} (hl : l.length ≤ 200) (h0 : 0 ≤ rat l 0) (hm : IsMax l r) (hr : r ≤ 1099511627776) : riseB l = sortedB l := by
  cases hs : sortedB l
  · cases hb : riseB l
    · rfl
    · have := (rise_iff.1 hb).2.2
      rw [sorted_iff.2 this] at hs; cases hs
  · refine rise_iff.2 ⟨hl, fun i hi => ?_, sorted_iff.1 hs⟩
    have h1 := sorted_mono hs (Nat.zero_le i) hi
    have h2 := hm.1 i hi
    omega
theorem rise_many {l : List Int} (h : 200 < l.length) : riseB l = false := by
  cases hb : riseB l
  · rfl
  · have := (rise_iff.1 hb).1; omega
theorem rise_neg {l : List Int} {i : Nat} (hi : i < l.length) (h : rat l i < 0) : riseB l = false := by
  cases hb : riseB l
  · rfl
  · have := ((rise_iff.1 hb).2.1 i hi).1; omega
theorem rise_far {l : List Int} {i : Nat} (hi : i < l.length) (h : 1099511627776 < rat l i) : riseB l = false := by
  cases hb : riseB l
  · rfl
  · have := ((rise_iff.1 hb).2.1 i hi).2; omega
theorem rise_fall {l : List Int} {i : Nat} (hi : i + 1 < l.length) (h : rat l (i + 1) < rat l i) : riseB l = false := by
  cases hb : riseB l
  · rfl
  · have := (rise_iff.1 hb).2.2 i hi; omega
theorem rise_all {l : List Int} (hl : l.length ≤ 200) (h : ∀ i, i < l.length → 0 ≤ rat l i ∧ rat l i ≤ 1099511627776 ∧ (0 < i → rat l (i - 1) ≤ rat l i)) : riseB l = true :=
  rise_iff.2 ⟨hl, fun i hi => ⟨(h i hi).1, (h i hi).2.1⟩, fun i hi => by have := (h (i + 1) hi).2.2 (by omega); simpa using this⟩
section
variable {a : Option Addr} {n c : Nat} {zs : List Int}
theorem nan_any (x : Int) (w : World) : Calls Try.prog 54 #[.int .i64 x] w fun e w' => e = .returned (.bool false) ∧ w = w' := by
  have h : (x != x) = false := by simp
  go_enter Try.func54, Try.ntmps54
  go_wp2
  go_ret
  exact ⟨rfl, rfl⟩
theorem less_any (x y : Int) (w : World) : Calls Try.prog 53 #[.int .i64 x, .int .i64 y] w fun e w' => e = .returned (.bool (decide (x < y))) ∧ w' = w := by
  go_enter Try.func53, Try.ntmps53
  go_wp2_with (go_at_call 54; refine (nan_any _ _).mono ?_; rintro e w' ⟨rfl, rfl⟩)
  go_ret
  exact ⟨by simp, rfl⟩
theorem less_is {b : Bool} (x y : Int) (w : World) (h : decide (x < y) = b) : Calls Try.prog 53 #[.int .i64 x, .int .i64 y] w fun e w' => e = .returned (.bool b) ∧ w' = w := by subst h; exact less_any x y w
def GivesMax (l : List Int) (e : Ending) : Prop := ∃ r : Int, IsMax l r ∧ e = .returned (.int .i64 r)
set_option maxHeartbeats 1000000 in
theorem max_any (w : World) (hR : Rd encI w.heap.size w a n zs) (h0 : 0 < n) (hn : n ≤ 9223372036854775807) : Calls Try.prog 50 #[.slice a n c] w fun e w' => GivesMax zs e ∧ w = w' := by
  obtain ⟨b, off, ha, hb, hc⟩ := hR.ints h0
  subst ha
  have c0 := hc 0 h0
  rw [Nat.add_zero] at c0
  have HC := Lib.hid hc
  have HL := Lib.hid hR.1
  have h1 : ¬ (n : Int) < 1 := by omega
  have h0' : (0 : Int) < (n : Int) := by omega
  clear hc hR
  go_enter Try.func50, Try.ntmps50
  go_wp2_with fail
  go_loop [3, 4] (fun m i => ∃ (k : Nat) (r : Int), 0 < k ∧ k ≤ n ∧ i = .int .i64 k ∧ m = .int .i64 r ∧ (∀ j, j < k → rat zs j ≤ r) ∧ ∃ j, j < k ∧ rat zs j = r) (fun _ i => n - (intOf i).toNat)
  case atStart => exact ⟨1, rat zs 0, by omega, by omega, rfl, rfl, fun j hj => by
    have e : j = 0 := by omega
    subst e; exact Int.le_refl _, 0, by omega, rfl⟩
  case round =>
    obtain ⟨k, r, hk0, hk, rfl, rfl, hq, j, hj, hjr⟩ := hrel
    have HQ := Lib.hid hq
    have HJ := Lib.hid hjr
    clear hq hjr
    by_cases hlt : k < n
    · have hlt' : (k : Int) < (n : Int) := by omega
      have e0 := HC.out k hlt
      by_cases hr : r < rat zs k
      · go_wp2
        go_round
        case rel => exact ⟨k + 1, rat zs k, by omega, by omega, by go_num, rfl, fun q hq => by
          by_cases e : q = k
          · subst e; exact Int.le_refl _
          · have := HQ.out q (by omega); omega, k, by omega, rfl⟩
        case measure => simp [intOf]; omega
      · go_wp2
        go_round
        case rel => exact ⟨k + 1, r, by omega, by omega, by go_num, rfl, fun q hq => by
          by_cases e : q = k
          · subst e; omega
          · exact HQ.out q (by omega), j, by omega, HJ.out⟩
        case measure => simp [intOf]; omega
    · obtain rfl : k = n := by omega
      go_wp2
      go_ret
      exact ⟨⟨r, ⟨by rw [HL.out]; exact HQ.out, j, by rw [HL.out]; exact hj, HJ.out⟩, rfl⟩, rfl⟩
set_option maxHeartbeats 1000000 in
theorem issorted_any (w : World) (hR : Rd encI w.heap.size w a n zs) (hn : n ≤ 9223372036854775807) : Calls Try.prog 51 #[.slice a n c] w fun e w' => e = .returned (.bool (sortedB zs)) ∧ Below w.heap.size w w' := by
  have HR := Lib.hid hR
  have HL := Lib.hid hR.1
  clear hR
  go_enter Try.func51, Try.ntmps51
  go_wp2_with fail
  go_loopw [3] (fun i wr => ∃ d : Int, -1 ≤ d ∧ d + 1 ≤ n ∧ i = .int .i64 d ∧ (∀ j : Nat, d ≤ j → j + 1 < n → rat zs j ≤ rat zs (j + 1)) ∧ Below w.heap.size w wr) (fun i _ => (intOf i + 1).toNat)
  case atStart => exact ⟨(n : Int) - 1, by omega, by omega, rfl, fun j h1 h2 => by omega, Below.refl _ _⟩
  case round =>
    obtain ⟨d, hd1, hdn, rfl, hq, hB⟩ := hrel
    have HQ := Lib.hid hq
    have HB := Lib.hid hB
    clear hq hB
    by_cases h0 : 0 < d
    · obtain ⟨q, rfl⟩ : ∃ q : Nat, d = (q : Int) + 1 := ⟨(d - 1).toNat, by omega⟩
      have hqn : q + 1 < n := by omega
      obtain ⟨b, off, ha, hb, hc⟩ := HR.out.ints (by omega)
      subst ha
      have c0 := cellb HB.out hb (hc q (by omega))
      have c1 := cellb HB.out hb (hc (q + 1) hqn)
      have g1 : (0 : Int) ≤ (q : Int) + 1 := by omega
      have g2 : (q : Int) + 1 < (n : Int) := by omega
      have g3 : (0 : Int) ≤ (q : Int) := by omega
      have g4 : (q : Int) < (n : Int) := by omega
      clear hc
      cases hl : decide (rat zs (q + 1) < rat zs q)
      · have HH := Lib.hid hl
        have hle : rat zs q ≤ rat zs (q + 1) := by simpa using hl
        have HL2 := Lib.hid hle
        have k1 : ((q : Int) + 1).toNat = q + 1 := by omega
        have k2 : IntKind.i64.wrap ((q : Int) + 1 - 1) = (q : Int) := by rw [IntKind.wrap_i64]; omega
        have k3 : IntKind.i64.wrap (q : Int) = (q : Int) := by rw [IntKind.wrap_i64]; omega
        clear hl hle
        go_wp2_with fail
        go_quiet ((go_at_call 53; exact Calls.quiet_of_same (less_is _ _ _ HH.out)))
        clear k1 k2 k3
        go_wp2
        go_roundw
        case rel => exact ⟨q, by omega, by omega, by simp, fun j h1 h2 => by
          by_cases e : j = q
          · subst e; exact HL2.out
          · exact HQ.out j (by omega) h2, below_drewN HB.out _⟩
        case measure => simp [intOf]; omega
      · have HH := Lib.hid hl
        have HF := Lib.hid (show sortedB zs = false by
          cases hs : sortedB zs
          · rfl
          · have := sorted_iff.1 hs q (by rw [HL.out]; omega)
            simp at hl; omega)
        have k1 : ((q : Int) + 1).toNat = q + 1 := by omega
        have k2 : IntKind.i64.wrap ((q : Int) + 1 - 1) = (q : Int) := by rw [IntKind.wrap_i64]; omega
        have k3 : IntKind.i64.wrap (q : Int) = (q : Int) := by rw [IntKind.wrap_i64]; omega
        clear hl
        go_wp2_with fail
        go_quiet ((go_at_call 53; exact Calls.quiet_of_same (less_is _ _ _ HH.out)))
        clear k1 k2 k3
        go_wp2
        go_ret
        exact ⟨by rw [HF.out]; rfl, below_drewN HB.out _⟩
    · have HT := Lib.hid (show sortedB zs = true from sorted_iff.2 (fun i hi => HQ.out i (by omega) (by rw [HL.out] at hi; exact hi)))
      go_wp2
      go_ret
      exact ⟨by rw [HT.out]; rfl, HB.out⟩
theorem rat_nil (i : Nat) : rat [] i = 0 := by simp [rat]
set_option maxHeartbeats 1000000 in
theorem rising_any (w : World) (hR : Rd encI w.heap.size w a n zs) (hn : n ≤ 9223372036854775807) : Calls Try.prog 36 #[.slice a n c] w fun e w' => e = .returned (.bool (riseB zs)) ∧ Below w.heap.size w w' := by
  have HR := Lib.hid hR
  have HL := Lib.hid hR.1
  clear hR
  by_cases h200 : (200 : Int) < (n : Int)
  · have HD := Lib.hid (rise_many (l := zs) (by rw [HL.out]; omega))
    go_enter Try.func36, Try.ntmps36
    go_wp2
    go_ret
    exact ⟨by rw [HD.out]; rfl, Below.refl _ _⟩
  · by_cases h0 : 0 < n
    · have h0' : (0 : Int) < (n : Int) := by omega
      obtain ⟨b, off, ha, hb, hc⟩ := HR.out.ints h0
      subst ha
      have c0 := hc 0 h0
      rw [Nat.add_zero] at c0
      clear hc
      by_cases hneg : rat zs 0 < 0
      · have HD := Lib.hid (rise_neg (l := zs) (i := 0) (by rw [HL.out]; exact h0) hneg)
        go_enter Try.func36, Try.ntmps36
        go_wp2
        go_ret
        exact ⟨by rw [HD.out]; rfl, Below.refl _ _⟩
      · go_enter Try.func36, Try.ntmps36
        go_wp2_with fail
        refine (max_any _ HR.out h0 hn).mono ?_
        rintro e w' ⟨⟨r, hr, rfl⟩, rfl⟩
        have HX := Lib.hid hr
        clear hr
        by_cases hfar : 1099511627776 < r
        · have HD := Lib.hid (show riseB zs = false by
            obtain ⟨i, hi, e⟩ := HX.out.2
            exact rise_far hi (by omega))
          go_wp2
          go_ret
          exact ⟨by rw [HD.out]; rfl, Below.refl _ _⟩
        · have HD := Lib.hid (rise_of (l := zs) (by rw [HL.out]; omega) (by omega) HX.out (by omega))
          go_wp2_with fail
          refine (issorted_any _ HR.out hn).mono ?_
          rintro e w' ⟨rfl, hb1⟩
          have HB := Lib.hid hb1
          clear hb1
          go_wp2
          go_ret
          exact ⟨by rw [HD.out]; rfl, HB.out⟩
    · have h0' : ¬ (0 : Int) < (n : Int) := by omega
      have HD := Lib.hid (show riseB zs = sortedB zs by
        have : zs = [] := List.length_eq_zero_iff.1 (by have := HL.out; omega)
        subst this; rfl)
      go_enter Try.func36, Try.ntmps36
      go_wp2_with fail
      refine (issorted_any _ HR.out hn).mono ?_
      rintro e w' ⟨rfl, hb1⟩
      have HB := Lib.hid hb1
      clear hb1
      go_wp2
      go_ret
      exact ⟨by rw [HD.out]; rfl, HB.out⟩
set_option maxHeartbeats 2000000 in
theorem fine_any (w : World) (hR : Rd encI w.heap.size w a n zs) (hn : n ≤ 9223372036854775807) : Calls Try.prog 40 #[.slice a n c] w fun e w' => e = .returned (.bool (riseB zs)) ∧ Below w.heap.size w w' := by
  have HR := Lib.hid hR
  have HL := Lib.hid hR.1
  clear hR
  go_enter Try.func40, Try.ntmps40
  go_wp2_with fail
  go_loopw [3] (fun i wr => ∃ k : Nat, k ≤ n ∧ i = .int .i64 k ∧ (∀ q, q < k → 0 ≤ rat zs q ∧ rat zs q ≤ 1099511627776 ∧ (0 < q → rat zs (q - 1) ≤ rat zs q)) ∧ Below w.heap.size w wr) (fun i _ => n - (intOf i).toNat)
  case atStart => exact ⟨0, Nat.zero_le _, rfl, fun q h => by omega, Below.refl _ _⟩
  case round =>
    obtain ⟨k, hk, rfl, hq, hB⟩ := hrel
    have HQ := Lib.hid hq
    have HB := Lib.hid hB
    clear hq hB
    by_cases hlt : k < n
    · have hlt' : (k : Int) < (n : Int) := by omega
      have hk0 : (0 : Int) ≤ (k : Int) := by omega
      obtain ⟨b, off, ha, hb, hc⟩ := HR.out.ints (by omega)
      subst ha
      have HC := Lib.hid hc
      have c0 := cellb HB.out hb (hc k hlt)
      clear hc
      cases hneg : decide (rat zs k < 0)
      · have hge : 0 ≤ rat zs k := by simpa using hneg
        have HGE := Lib.hid hge
        clear hge
        cases hfar : decide (1099511627776 < rat zs k)
        · have HLE := Lib.hid (show rat zs k ≤ 1099511627776 by simpa using hfar)
          cases k with
          | zero =>
            rw [Nat.add_zero] at c0
            have g : (0 : Int) < (n : Int) := by omega
            have g7 : decide ((0 : Int) < 0) = false := by decide
            go_wp2_with fail
            go_quiet (fail)
            go_wp2
            go_roundw
            case rel => exact ⟨1, by omega, by go_num, fun q hq => by
              have e : q = 0 := by omega
              subst e
              exact ⟨HGE.out, HLE.out, fun h => by omega⟩, below_drewN HB.out _⟩
            case measure => simp [intOf]; omega
          | succ m =>
            have c1 := cellb HB.out hb (HC.out m (by omega))
            have g3 : (0 : Int) ≤ (m : Int) := by omega
            have g4 : (m : Int) < (n : Int) := by omega
            have g5 : (m : Int) + 1 < (n : Int) := by omega
            have g6 : decide (0 < (m : Int) + 1) = true := by simp <;> omega
            cases hf : decide (rat zs (m + 1) < rat zs m)
            · have HF := Lib.hid (show rat zs m ≤ rat zs (m + 1) by simpa using hf)
              have k1 : ((m : Int) + 1).toNat = m + 1 := by omega
              have k2 : IntKind.i64.wrap ((m : Int) + 1 - 1) = (m : Int) := by rw [IntKind.wrap_i64]; omega
              have k3 : IntKind.i64.wrap (m : Int) = (m : Int) := by rw [IntKind.wrap_i64]; omega
              go_wp2_with fail
              go_quiet (fail)
              clear k1 k2 k3
              go_wp2
              go_roundw
              case rel => exact ⟨m + 2, by omega, by go_num, fun q hq => by
                by_cases e : q = m + 1
                · subst e; exact ⟨HGE.out, HLE.out, fun _ => by simpa using HF.out⟩
                · exact HQ.out q (by omega), below_drewN HB.out _⟩
              case measure => simp [intOf]; omega
            · have HF := Lib.hid (rise_fall (l := zs) (i := m) (by rw [HL.out]; exact hlt) (by simpa using hf))
              have k1 : ((m : Int) + 1).toNat = m + 1 := by omega
              have k2 : IntKind.i64.wrap ((m : Int) + 1 - 1) = (m : Int) := by rw [IntKind.wrap_i64]; omega
              have k3 : IntKind.i64.wrap (m : Int) = (m : Int) := by rw [IntKind.wrap_i64]; omega
              go_wp2_with fail
              go_quiet (fail)
              clear k1 k2 k3
              go_wp2
              go_ret
              exact ⟨by rw [HF.out]; rfl, below_drewN HB.out _⟩
        · have HF := Lib.hid (rise_far (l := zs) (i := k) (by rw [HL.out]; exact hlt) (by simpa using hfar))
          go_wp2_with fail
          go_quiet (fail)
          go_wp2
          go_ret
          exact ⟨by rw [HF.out]; rfl, below_drewN HB.out _⟩
      · have HF := Lib.hid (rise_neg (l := zs) (i := k) (by rw [HL.out]; exact hlt) (by simpa using hneg))
        go_wp2_with fail
        go_quiet (fail)
        go_wp2
        go_ret
        exact ⟨by rw [HF.out]; rfl, below_drewN HB.out _⟩
    · obtain rfl : k = n := by omega
      by_cases h200 : (k : Int) ≤ 200
      · have HF := Lib.hid (rise_all (l := zs) (by rw [HL.out]; omega) (by rw [HL.out]; exact HQ.out))
        go_wp2
        go_ret
        exact ⟨by rw [HF.out]; rfl, HB.out⟩
      · have HF := Lib.hid (rise_many (l := zs) (by rw [HL.out]; omega))
        go_wp2
        go_ret
        exact ⟨by rw [HF.out]; rfl, HB.out⟩
end
end Go.Proofs.Ytoclkhnejanlnaa
