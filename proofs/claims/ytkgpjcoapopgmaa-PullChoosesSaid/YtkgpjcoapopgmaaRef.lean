/- The document's choice of a task that is pulled. Conditions: the slice reads as a list of tasks within the reach. -/
import Derived.Test.YtkgpjcoapopgmaaReal
namespace Go.Proofs.Ytkgpjcoapopgmaa
set_option linter.unusedVariables false
open Go.RowKit
def halfI (x gap : Int) : Bool := decide (x ≤ gap - x)
theorem half_any (x gap : Int) (w : World) (hx : U64 x) (hg : U64 gap) : Calls Try.prog 33 #[.int .u64 x, .int .u64 gap] w fun e w' => e = .returned (.bool (halfI x gap)) ∧ w = w' := by
  obtain ⟨hx0, hx1⟩ := hx
  obtain ⟨hg0, hg1⟩ := hg
  by_cases h : x ≤ gap
  · by_cases h2 : x ≤ gap - x
    · have HD := Lib.hid (show halfI x gap = true from decide_eq_true h2)
      go_enter Try.func33, Try.ntmps33
      go_wp2
      go_ret
      exact ⟨by rw [HD.out]; rfl, rfl⟩
    · have HD := Lib.hid (show halfI x gap = false from decide_eq_false h2)
      go_enter Try.func33, Try.ntmps33
      go_wp2
      go_ret
      exact ⟨by rw [HD.out]; rfl, rfl⟩
  · have HD := Lib.hid (show halfI x gap = false from decide_eq_false (by omega))
    obtain ⟨t, ht⟩ : ∃ t, IntKind.u64.wrap (gap - x) = t := ⟨_, rfl⟩
    by_cases h3 : x ≤ t
    all_goals
      go_enter Try.func33, Try.ntmps33
      go_wp2
      go_ret
      exact ⟨by rw [HD.out]; rfl, rfl⟩
theorem half_val (x gap : Int) (v : Bool) (w : World) (h : halfI x gap = v) (hx : U64 x) (hg : U64 gap) : Calls Try.prog 33 #[.int .u64 x, .int .u64 gap] w fun e w' => e = .returned (.bool v) ∧ w = w' := by
  subst h; exact half_any x gap w hx hg
theorem ahead_half {zs : List Cd} {gap : Int} {a b : Nat} {x : Bool} (h1 : halfI (cat zs a).w gap = x) (h2 : halfI (cat zs b).w gap = !x) : aheadC zs gap a b = x := by
  unfold aheadC
  have e1 : isHalf (cat zs a) gap = x := h1
  have e2 : isHalf (cat zs b) gap = !x := h2
  rw [e1, e2, if_pos (by cases x <;> simp)]
theorem ahead_same {zs : List Cd} {gap : Int} {a b : Nat} {x : Bool} (h1 : halfI (cat zs a).w gap = x) (h2 : halfI (cat zs b).w gap = x) :
    ((cat zs a).w ≠ (cat zs b).w → aheadC zs gap a b = (decide ((cat zs b).w < (cat zs a).w) == x)) ∧ ((cat zs a).w = (cat zs b).w → (cat zs a).id ≠ (cat zs b).id → aheadC zs gap a b = decide ((cat zs a).id < (cat zs b).id)) ∧
    ((cat zs a).w = (cat zs b).w → (cat zs a).id = (cat zs b).id → aheadC zs gap a b = decide (a < b)) := by
  unfold aheadC
  have e1 : isHalf (cat zs a) gap = x := h1
  have e2 : isHalf (cat zs b) gap = x := h2
  rw [e1, e2, if_neg (by simp)]
  refine ⟨fun h => if_pos h, fun h h' => ?_, fun h h' => ?_⟩
  · rw [if_neg (by simpa using h), if_pos h']
  · rw [if_neg (by simpa using h), if_neg (by simpa using h')]
set_option maxRecDepth 100000 in
set_option maxHeartbeats 4000000 in
theorem ahead_any (c : Option Addr) (len cap a b : Nat) (zs : List Cd) (gap : Int) (w : World) (hl : zs.length = len) (hI : Cds w.heap.size w (.slice c len cap) zs) (hok : CdsOk zs) (hlen : len ≤ 1000) (hg : U64 gap) (ha : a < len) (hb : b < len) :
    Calls Try.prog 27 #[.slice c len cap, .int .i64 (a : Int), .int .i64 (b : Int), .int .u64 gap] w fun e w' => e = .returned (.bool (aheadC zs gap a b)) ∧ Drew w w' := by
  obtain ⟨bb, off, rfl, hbb, hc⟩ := hI.cells (p := a) (by rw [hl]; exact ha)
  obtain ⟨x0, x1, _, _⟩ := hc a (by rw [hl]; exact ha)
  obtain ⟨y0, y1, _, _⟩ := hc b (by rw [hl]; exact hb)
  have ha' : (a : Int) < (len : Int) := by omega
  have hb' : (b : Int) < (len : Int) := by omega
  have HX := Lib.hid (hok a).1
  have HY := Lib.hid (hok b).1
  have HG := Lib.hid hg
  obtain ⟨x, hx⟩ : ∃ x, halfI (cat zs a).w gap = x := ⟨_, rfl⟩
  obtain ⟨y, hy⟩ : ∃ y, halfI (cat zs b).w gap = y := ⟨_, rfl⟩
  have HHX := Lib.hid hx
  have HHY := Lib.hid hy
  have hway : (y = !x) ∨ (y = x ∧ (((cat zs a).w != (cat zs b).w) = true)) ∨ (y = x ∧ ((cat zs a).w != (cat zs b).w) = false ∧ ((cat zs a).id != (cat zs b).id) = true) ∨ (y = x ∧ ((cat zs a).w != (cat zs b).w) = false ∧ ((cat zs a).id != (cat zs b).id) = false) := by
    cases x <;> cases y <;> cases ((cat zs a).w != (cat zs b).w) <;> cases ((cat zs a).id != (cat zs b).id) <;> simp
  clear hI hc hok hg hl hx hy
  rcases hway with hxy | ⟨hxy, hw⟩ | ⟨hxy, hw, hi⟩ | ⟨hxy, hw, hi⟩
  · have HA := Lib.hid (ahead_half HHX.out (HHY.out.trans hxy))
    subst hxy
    cases x
    all_goals
      go_enter Try.func27, Try.ntmps27
      go_wp2_with fail
      refine (half_val _ _ _ _ HHX.out HX.out HG.out).mono ?_
      rintro e w' ⟨rfl, rfl⟩
      go_wp2_with fail
      refine (half_val _ _ _ _ HHY.out HY.out HG.out).mono ?_
      rintro e w' ⟨rfl, rfl⟩
      go_wp2
      go_ret
      exact ⟨by rw [HA.out]; rfl, Drew.refl _⟩
  · subst hxy
    have HA := Lib.hid ((ahead_same HHX.out HHY.out).1 (by simpa using hw))
    cases hlt : decide ((cat zs b).w < (cat zs a).w) <;> cases y
    all_goals
      have HLT := Lib.hid hlt
      have hlt2 := hlt
      simp only [decide_eq_true_eq, decide_eq_false_iff_not] at hlt2
      clear hlt
      go_enter Try.func27, Try.ntmps27
      go_wp2_with fail
      refine (half_val _ _ _ _ HHX.out HX.out HG.out).mono ?_
      rintro e w' ⟨rfl, rfl⟩
      go_wp2_with fail
      refine (half_val _ _ _ _ HHY.out HY.out HG.out).mono ?_
      rintro e w' ⟨rfl, rfl⟩
      go_wp2
      go_quiet (fail)
      go_wp2
      go_quiet (fail)
      go_wp2
      go_ret
      exact ⟨by rw [HA.out, HLT.out]; rfl, by repeat (first | exact Drew.refl _ | refine Drew.drewN ?_ _)⟩
  · subst hxy
    have HA := Lib.hid ((ahead_same HHX.out HHY.out).2.1 (by simpa using hw) (by simpa using hi))
    cases hlt : decide ((cat zs a).id < (cat zs b).id) <;> cases y
    all_goals
      have HLT := Lib.hid hlt
      have hlt2 := hlt
      simp only [decide_eq_true_eq, decide_eq_false_iff_not] at hlt2
      clear hlt
      go_enter Try.func27, Try.ntmps27
      go_wp2_with fail
      refine (half_val _ _ _ _ HHX.out HX.out HG.out).mono ?_
      rintro e w' ⟨rfl, rfl⟩
      go_wp2_with fail
      refine (half_val _ _ _ _ HHY.out HY.out HG.out).mono ?_
      rintro e w' ⟨rfl, rfl⟩
      go_wp2
      go_quiet (fail)
      go_wp2
      go_quiet (fail)
      go_wp2
      go_quiet (fail)
      go_wp2
      go_ret
      exact ⟨by rw [HA.out, HLT.out]; rfl, by repeat (first | exact Drew.refl _ | refine Drew.drewN ?_ _)⟩
  · subst hxy
    have HA := Lib.hid ((ahead_same HHX.out HHY.out).2.2 (by simpa using hw) (by simpa using hi))
    cases y
    all_goals
      go_enter Try.func27, Try.ntmps27
      go_wp2_with fail
      refine (half_val _ _ _ _ HHX.out HX.out HG.out).mono ?_
      rintro e w' ⟨rfl, rfl⟩
      go_wp2_with fail
      refine (half_val _ _ _ _ HHY.out HY.out HG.out).mono ?_
      rintro e w' ⟨rfl, rfl⟩
      go_wp2
      go_quiet (fail)
      go_wp2
      go_quiet (fail)
      go_wp2
      go_ret
      exact ⟨by rw [HA.out]; simp, by repeat (first | exact Drew.refl _ | refine Drew.drewN ?_ _)⟩
end Go.Proofs.Ytkgpjcoapopgmaa
