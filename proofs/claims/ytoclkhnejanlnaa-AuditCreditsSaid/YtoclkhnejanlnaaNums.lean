/- Plain laws of what had more, and of what is never far apart. Conditions: as each says. -/
import Derived.Test.YtoclkhnejanlnaaBase
namespace Go.Proofs.Ytoclkhnejanlnaa
open Go.RowKit
def wi (x : Int) : Int := wrap64 x
def hasI (l : List Int) (x : Int) : Bool := l.any fun y => y == x
/-- What one should have. -/
def wantI (b own : List Int) (ns : Int) (i : Nat) : Int := if hasI own i = true then wi (rat b i + ns) else rat b i
def credB (b a own : List Int) (ns : Int) : Bool := b.length == a.length && !anyB b.length fun i => rat a i != wantI b own ns i
theorem cred_of {b a own : List Int} {ns : Int} (hl : b.length = a.length) (h : ∀ i, i < b.length → rat a i = wantI b own ns i) : credB b a own ns = true := by
  unfold credB
  have : (anyB b.length fun i => rat a i != wantI b own ns i) = false := anyB_false.2 fun q hq => by rw [h q hq]; simp
  rw [this, hl]; simp
theorem cred_not {b a own : List Int} {ns : Int} {i : Nat} (hi : i < b.length) (h : rat a i ≠ wantI b own ns i) : credB b a own ns = false := by
  unfold credB
  have : (anyB b.length fun i => rat a i != wantI b own ns i) = true := anyB_true hi (by simpa using h)
  rw [this]; simp
theorem cred_len {b a own : List Int} {ns : Int} (h : b.length ≠ a.length) : credB b a own ns = false := by
  unfold credB
  have : (b.length == a.length) = false := by simpa using h
  rw [this]; rfl
/-- One more is another number. -/
theorem wi_ne (x : Int) : wi (x + 1) ≠ x := by
  unfold wi wrap64; omega

/-! ### Never far apart -/
def riseB (l : List Int) : Bool := decide (l.length ≤ 200) && (!(anyB l.length fun i => decide (rat l i < 0) || decide (1099511627776 < rat l i)) && !(anyB l.length fun i => decide (0 < i) && decide (rat l i < rat l (i - 1))))
theorem rise_iff {l : List Int} : riseB l = true ↔ l.length ≤ 200 ∧ (∀ i, i < l.length → 0 ≤ rat l i ∧ rat l i ≤ 1099511627776) ∧ ∀ i, i + 1 < l.length → rat l i ≤ rat l (i + 1) := by
  unfold riseB
  simp only [Bool.and_eq_true, decide_eq_true_eq, Bool.not_eq_true', anyB_false, Bool.or_eq_false_iff, decide_eq_false_iff_not, Bool.and_eq_false_iff]
  refine ⟨fun ⟨a, b, c⟩ => ⟨a, fun i hi => by have := b i hi; omega, fun i hi => ?_⟩, fun ⟨a, b, c⟩ => ⟨a, fun i hi => by have := b i hi; omega, fun i hi => ?_⟩⟩
  · have := c (i + 1) hi
    rw [Nat.add_sub_cancel] at this
    omega
  · cases i with
    | zero => exact .inl (by omega)
    | succ i => have := c i hi; rw [Nat.add_sub_cancel]; exact .inr (by omega)
theorem rise_mono {l : List Int} (h : riseB l = true) {i j : Nat} (hij : i ≤ j) (hj : j < l.length) : rat l i ≤ rat l j := by
  obtain ⟨_, _, hs⟩ := rise_iff.1 h
  obtain ⟨d, rfl⟩ : ∃ d, j = i + d := ⟨j - i, by omega⟩
  clear hij
  induction d with
  | zero => exact Int.le_refl _
  | succ d ih => have h1 := ih (by omega); have h2 := hs (i + d) (by omega); rw [← Nat.add_assoc]; omega
/-- A growth by a weight. -/
def growI (l : List Int) (i j : Nat) (w : Int) : Int := (rat l j - rat l i) * 1024 / w
theorem grow_bd {l : List Int} (h : riseB l = true) {i j : Nat} (hij : i ≤ j) (hj : j < l.length) {w : Int} (hw : 0 < w) : 0 ≤ growI l i j w ∧ growI l i j w ≤ 1125899906842624 := by
  have h1 := rise_mono h hij hj
  obtain ⟨_, hb, _⟩ := rise_iff.1 h
  have b1 := hb i (by omega)
  have b2 := hb j hj
  unfold growI
  refine ⟨Int.ediv_nonneg (by omega) (by omega), ?_⟩
  have : (rat l j - rat l i) * 1024 / w ≤ (rat l j - rat l i) * 1024 := Int.ediv_le_self _ (by omega)
  omega
def farB (a b : List Int) (wa wb most : Int) (i j : Nat) : Bool := decide (most < growI a i j wa - growI b i j wb) || decide (most < growI b i j wb - growI a i j wa)
theorem far_iff {a b : List Int} {wa wb most : Int} {i j : Nat} : farB a b wa wb most i j = true ↔ most < growI a i j wa - growI b i j wb ∨ most < growI b i j wb - growI a i j wa := by simp [farB]
def fitB (a b : List Int) (wa wb : Int) : Bool := a.length == b.length && (wa != 0 && (wb != 0 && (riseB a && riseB b)))
def apartB (a b : List Int) (wa wb most : Int) : Bool := fitB a b wa wb && !anyB a.length fun j => anyB j fun i => farB a b wa wb most i j
theorem apart_iff {a b : List Int} {wa wb most : Int} : apartB a b wa wb most = true ↔ fitB a b wa wb = true ∧ ∀ j, j < a.length → ∀ i, i < j → ¬ (most < growI a i j wa - growI b i j wb ∨ most < growI b i j wb - growI a i j wa) := by
  unfold apartB
  simp only [Bool.and_eq_true, Bool.not_eq_true', anyB_false]
  refine ⟨fun ⟨h1, h2⟩ => ⟨h1, fun j hj i hi h => by have := h2 j hj i hi; rw [far_iff.2 h] at this; cases this⟩, fun ⟨h1, h2⟩ => ⟨h1, fun j hj i hi => ?_⟩⟩
  cases h : farB a b wa wb most i j
  · rfl
  · exact absurd (far_iff.1 h) (h2 j hj i hi)
theorem fit_turn (a b : List Int) (wa wb : Int) : fitB a b wa wb = fitB b a wb wa := by
  unfold fitB
  rw [Bool.eq_iff_iff]
  simp only [Bool.and_eq_true, beq_iff_eq]
  exact ⟨fun ⟨a, b, c, d, e⟩ => ⟨a.symm, c, b, e, d⟩, fun ⟨a, b, c, d, e⟩ => ⟨a.symm, c, b, e, d⟩⟩
theorem apart_turn (a b : List Int) (wa wb most : Int) : apartB a b wa wb most = apartB b a wb wa most := by
  have key : ∀ {a b : List Int} {wa wb : Int}, apartB a b wa wb most = true → apartB b a wb wa most = true := fun h => by
    obtain ⟨h1, h2⟩ := apart_iff.1 h
    have hl := h1
    unfold fitB at hl
    simp only [Bool.and_eq_true, beq_iff_eq] at hl
    exact apart_iff.2 ⟨by rw [fit_turn]; exact h1, fun j hj i hi h => h2 j (by rw [hl.1]; exact hj) i hi h.symm⟩
  rw [Bool.eq_iff_iff]
  exact ⟨key, key⟩
theorem apart_more {a b : List Int} {wa wb most : Int} (h : apartB a b wa wb most = true) : apartB a b wa wb (most + 1) = true := by
  obtain ⟨h1, h2⟩ := apart_iff.1 h
  exact apart_iff.2 ⟨h1, fun j hj i hi h => h2 j hj i hi (by omega)⟩
theorem apart_self {a : List Int} {wa : Int} (h : fitB a a wa wa = true) : apartB a a wa wa 0 = true := apart_iff.2 ⟨h, fun j hj i hi h => by omega⟩
theorem apart_zero (a b : List Int) (wb most : Int) : apartB a b 0 wb most = false := by unfold apartB fitB; simp
end Go.Proofs.Ytoclkhnejanlnaa
