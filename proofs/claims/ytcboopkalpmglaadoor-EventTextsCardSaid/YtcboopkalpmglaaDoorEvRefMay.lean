/- The document's May. Conditions: none. -/
import Derived.Test.YtcboopkalpmglaaDoorEvHas
import Derived.Test.YtcboopkalpmglaaDoorEvBack
import Derived.Test.YtcboopkalpmglaaDoorEvMem
namespace Go.Proofs.YtcboopkalpmglaaDoor
set_option linter.unusedVariables false
open Go.RowKit
theorem mayB_eq {k a b n m : Int} {s : Nat} {L : List Nat} (h1 : ¬ k < 1) (h2 : ¬ 15 < k) (h3 : ¬ a < 0) (h4 : ¬ b < 0) (hF : formL k = L) :
    mayB ⟨k, a, b, n, m, s⟩ = ((decide (98 ∈ L) || (b == 0)) && (decide (110 ∈ L) || (n == 0)) && (decide (109 ∈ L) || (m == 0)) && (decide (115 ∈ L) || ((s : Int) == 0))) := by
  unfold mayB
  simp only [hF]
  rw [decide_eq_true (show 1 ≤ k by omega), decide_eq_true (show k ≤ 15 by omega), decide_eq_true (show 0 ≤ a by omega), decide_eq_true (show 0 ≤ b by omega)]
  have e : ((s : Int) == 0) = decide (s = 0) := by rw [Bool.eq_iff_iff]; simp
  have e1 : (b == 0) = decide (b = 0) := rfl
  have e2 : (n == 0) = decide (n = 0) := rfl
  have e3 : (m == 0) = decide (m = 0) := rfl
  rw [e, e1, e2, e3]
  rfl
theorem mayB_low {k a b n m : Int} {s : Nat} (h : k < 1 ∨ 15 < k ∨ a < 0 ∨ b < 0) : mayB ⟨k, a, b, n, m, s⟩ = false := by
  rw [Bool.eq_false_iff]
  intro hm
  obtain ⟨⟨⟨h1, h2⟩, h3, h4⟩, _⟩ := (may_iff _).1 hm
  simp only at h1 h2 h3 h4
  omega
set_option maxHeartbeats 4000000 in
theorem refMay_an (k a b n m : Int) (s : Nat) (w : World) (h1 : ¬ k < 1) (h2 : ¬ 15 < k) (h3 : ¬ a < 0) (h4 : ¬ b < 0) (hF : formL k = [97, 110]) :
    Calls Tryd.prog 18 #[evV ⟨k, a, b, n, m, s⟩] w fun e w' => e = .returned (.bool (mayB ⟨k, a, b, n, m, s⟩)) ∧ Below w.heap.size w w' := by
  have HM := Lib.hid (mayB_eq (n := n) (m := m) (s := s) h1 h2 h3 h4 hF)
  have HF := Lib.hid hF
  clear hF
  unfold evV
  go_enter Tryd.func18, Tryd.ntmps18
  go_wp2_with fail
  refine (form_any k _).mono ?_
  rintro e w' ⟨rfl, rfl⟩
  rw [HF.out]
  go_wp2_with fail
  refine (has_any (str [97, 110]) 98 _ (by decide) (by decide)).mono ?_
  rintro e w' ⟨rfl, rfl⟩
  rw [show decide (98 ∈ bl (str [97, 110])) = false by decide +kernel]
  cases y98 : (b == 0)
  · go_wp2
    go_ret
    exact ⟨by rw [HM.out, y98]; rfl, belowA w _⟩
  · skip
    go_wp2_with fail
    refine (has_any (str [97, 110]) 110 _ (by decide) (by decide)).mono ?_
    rintro e w' ⟨rfl, rfl⟩
    rw [show decide (110 ∈ bl (str [97, 110])) = true by decide +kernel]
    go_wp2_with fail
    refine (has_any (str [97, 110]) 109 _ (by decide) (by decide)).mono ?_
    rintro e w' ⟨rfl, rfl⟩
    rw [show decide (109 ∈ bl (str [97, 110])) = false by decide +kernel]
    cases y109 : (m == 0)
    · go_wp2
      go_ret
      exact ⟨by rw [HM.out, y98, y109]; rfl, belowA w _⟩
    · skip
      go_wp2_with fail
      refine (has_any (str [97, 110]) 115 _ (by decide) (by decide)).mono ?_
      rintro e w' ⟨rfl, rfl⟩
      rw [show decide (115 ∈ bl (str [97, 110])) = false by decide +kernel]
      cases y115 : ((s : Int) == 0)
      · go_wp2
        go_ret
        exact ⟨by rw [HM.out, y98, y109, y115]; rfl, belowA w _⟩
      · skip
        go_wp2
        go_ret
        exact ⟨by rw [HM.out, y98, y109, y115]; rfl, belowA w _⟩
set_option maxHeartbeats 4000000 in
theorem refMay_ab (k a b n m : Int) (s : Nat) (w : World) (h1 : ¬ k < 1) (h2 : ¬ 15 < k) (h3 : ¬ a < 0) (h4 : ¬ b < 0) (hF : formL k = [97, 98]) :
    Calls Tryd.prog 18 #[evV ⟨k, a, b, n, m, s⟩] w fun e w' => e = .returned (.bool (mayB ⟨k, a, b, n, m, s⟩)) ∧ Below w.heap.size w w' := by
  have HM := Lib.hid (mayB_eq (n := n) (m := m) (s := s) h1 h2 h3 h4 hF)
  have HF := Lib.hid hF
  clear hF
  unfold evV
  go_enter Tryd.func18, Tryd.ntmps18
  go_wp2_with fail
  refine (form_any k _).mono ?_
  rintro e w' ⟨rfl, rfl⟩
  rw [HF.out]
  go_wp2_with fail
  refine (has_any (str [97, 98]) 98 _ (by decide) (by decide)).mono ?_
  rintro e w' ⟨rfl, rfl⟩
  rw [show decide (98 ∈ bl (str [97, 98])) = true by decide +kernel]
  go_wp2_with fail
  refine (has_any (str [97, 98]) 110 _ (by decide) (by decide)).mono ?_
  rintro e w' ⟨rfl, rfl⟩
  rw [show decide (110 ∈ bl (str [97, 98])) = false by decide +kernel]
  cases y110 : (n == 0)
  · go_wp2
    go_ret
    exact ⟨by rw [HM.out, y110]; rfl, belowA w _⟩
  · skip
    go_wp2_with fail
    refine (has_any (str [97, 98]) 109 _ (by decide) (by decide)).mono ?_
    rintro e w' ⟨rfl, rfl⟩
    rw [show decide (109 ∈ bl (str [97, 98])) = false by decide +kernel]
    cases y109 : (m == 0)
    · go_wp2
      go_ret
      exact ⟨by rw [HM.out, y110, y109]; rfl, belowA w _⟩
    · skip
      go_wp2_with fail
      refine (has_any (str [97, 98]) 115 _ (by decide) (by decide)).mono ?_
      rintro e w' ⟨rfl, rfl⟩
      rw [show decide (115 ∈ bl (str [97, 98])) = false by decide +kernel]
      cases y115 : ((s : Int) == 0)
      · go_wp2
        go_ret
        exact ⟨by rw [HM.out, y110, y109, y115]; rfl, belowA w _⟩
      · skip
        go_wp2
        go_ret
        exact ⟨by rw [HM.out, y110, y109, y115]; rfl, belowA w _⟩
set_option maxHeartbeats 4000000 in
theorem refMay_anm (k a b n m : Int) (s : Nat) (w : World) (h1 : ¬ k < 1) (h2 : ¬ 15 < k) (h3 : ¬ a < 0) (h4 : ¬ b < 0) (hF : formL k = [97, 110, 109]) :
    Calls Tryd.prog 18 #[evV ⟨k, a, b, n, m, s⟩] w fun e w' => e = .returned (.bool (mayB ⟨k, a, b, n, m, s⟩)) ∧ Below w.heap.size w w' := by
  have HM := Lib.hid (mayB_eq (n := n) (m := m) (s := s) h1 h2 h3 h4 hF)
  have HF := Lib.hid hF
  clear hF
  unfold evV
  go_enter Tryd.func18, Tryd.ntmps18
  go_wp2_with fail
  refine (form_any k _).mono ?_
  rintro e w' ⟨rfl, rfl⟩
  rw [HF.out]
  go_wp2_with fail
  refine (has_any (str [97, 110, 109]) 98 _ (by decide) (by decide)).mono ?_
  rintro e w' ⟨rfl, rfl⟩
  rw [show decide (98 ∈ bl (str [97, 110, 109])) = false by decide +kernel]
  cases y98 : (b == 0)
  · go_wp2
    go_ret
    exact ⟨by rw [HM.out, y98]; rfl, belowA w _⟩
  · skip
    go_wp2_with fail
    refine (has_any (str [97, 110, 109]) 110 _ (by decide) (by decide)).mono ?_
    rintro e w' ⟨rfl, rfl⟩
    rw [show decide (110 ∈ bl (str [97, 110, 109])) = true by decide +kernel]
    go_wp2_with fail
    refine (has_any (str [97, 110, 109]) 109 _ (by decide) (by decide)).mono ?_
    rintro e w' ⟨rfl, rfl⟩
    rw [show decide (109 ∈ bl (str [97, 110, 109])) = true by decide +kernel]
    go_wp2_with fail
    refine (has_any (str [97, 110, 109]) 115 _ (by decide) (by decide)).mono ?_
    rintro e w' ⟨rfl, rfl⟩
    rw [show decide (115 ∈ bl (str [97, 110, 109])) = false by decide +kernel]
    cases y115 : ((s : Int) == 0)
    · go_wp2
      go_ret
      exact ⟨by rw [HM.out, y98, y115]; rfl, belowA w _⟩
    · skip
      go_wp2
      go_ret
      exact ⟨by rw [HM.out, y98, y115]; rfl, belowA w _⟩
set_option maxHeartbeats 4000000 in
theorem refMay_ans (k a b n m : Int) (s : Nat) (w : World) (h1 : ¬ k < 1) (h2 : ¬ 15 < k) (h3 : ¬ a < 0) (h4 : ¬ b < 0) (hF : formL k = [97, 110, 115]) :
    Calls Tryd.prog 18 #[evV ⟨k, a, b, n, m, s⟩] w fun e w' => e = .returned (.bool (mayB ⟨k, a, b, n, m, s⟩)) ∧ Below w.heap.size w w' := by
  have HM := Lib.hid (mayB_eq (n := n) (m := m) (s := s) h1 h2 h3 h4 hF)
  have HF := Lib.hid hF
  clear hF
  unfold evV
  go_enter Tryd.func18, Tryd.ntmps18
  go_wp2_with fail
  refine (form_any k _).mono ?_
  rintro e w' ⟨rfl, rfl⟩
  rw [HF.out]
  go_wp2_with fail
  refine (has_any (str [97, 110, 115]) 98 _ (by decide) (by decide)).mono ?_
  rintro e w' ⟨rfl, rfl⟩
  rw [show decide (98 ∈ bl (str [97, 110, 115])) = false by decide +kernel]
  cases y98 : (b == 0)
  · go_wp2
    go_ret
    exact ⟨by rw [HM.out, y98]; rfl, belowA w _⟩
  · skip
    go_wp2_with fail
    refine (has_any (str [97, 110, 115]) 110 _ (by decide) (by decide)).mono ?_
    rintro e w' ⟨rfl, rfl⟩
    rw [show decide (110 ∈ bl (str [97, 110, 115])) = true by decide +kernel]
    go_wp2_with fail
    refine (has_any (str [97, 110, 115]) 109 _ (by decide) (by decide)).mono ?_
    rintro e w' ⟨rfl, rfl⟩
    rw [show decide (109 ∈ bl (str [97, 110, 115])) = false by decide +kernel]
    cases y109 : (m == 0)
    · go_wp2
      go_ret
      exact ⟨by rw [HM.out, y98, y109]; rfl, belowA w _⟩
    · skip
      go_wp2_with fail
      refine (has_any (str [97, 110, 115]) 115 _ (by decide) (by decide)).mono ?_
      rintro e w' ⟨rfl, rfl⟩
      rw [show decide (115 ∈ bl (str [97, 110, 115])) = true by decide +kernel]
      go_wp2
      go_ret
      exact ⟨by rw [HM.out, y98, y109]; rfl, belowA w _⟩
set_option maxHeartbeats 4000000 in
theorem refMay_as (k a b n m : Int) (s : Nat) (w : World) (h1 : ¬ k < 1) (h2 : ¬ 15 < k) (h3 : ¬ a < 0) (h4 : ¬ b < 0) (hF : formL k = [97, 115]) :
    Calls Tryd.prog 18 #[evV ⟨k, a, b, n, m, s⟩] w fun e w' => e = .returned (.bool (mayB ⟨k, a, b, n, m, s⟩)) ∧ Below w.heap.size w w' := by
  have HM := Lib.hid (mayB_eq (n := n) (m := m) (s := s) h1 h2 h3 h4 hF)
  have HF := Lib.hid hF
  clear hF
  unfold evV
  go_enter Tryd.func18, Tryd.ntmps18
  go_wp2_with fail
  refine (form_any k _).mono ?_
  rintro e w' ⟨rfl, rfl⟩
  rw [HF.out]
  go_wp2_with fail
  refine (has_any (str [97, 115]) 98 _ (by decide) (by decide)).mono ?_
  rintro e w' ⟨rfl, rfl⟩
  rw [show decide (98 ∈ bl (str [97, 115])) = false by decide +kernel]
  cases y98 : (b == 0)
  · go_wp2
    go_ret
    exact ⟨by rw [HM.out, y98]; rfl, belowA w _⟩
  · skip
    go_wp2_with fail
    refine (has_any (str [97, 115]) 110 _ (by decide) (by decide)).mono ?_
    rintro e w' ⟨rfl, rfl⟩
    rw [show decide (110 ∈ bl (str [97, 115])) = false by decide +kernel]
    cases y110 : (n == 0)
    · go_wp2
      go_ret
      exact ⟨by rw [HM.out, y98, y110]; rfl, belowA w _⟩
    · skip
      go_wp2_with fail
      refine (has_any (str [97, 115]) 109 _ (by decide) (by decide)).mono ?_
      rintro e w' ⟨rfl, rfl⟩
      rw [show decide (109 ∈ bl (str [97, 115])) = false by decide +kernel]
      cases y109 : (m == 0)
      · go_wp2
        go_ret
        exact ⟨by rw [HM.out, y98, y110, y109]; rfl, belowA w _⟩
      · skip
        go_wp2_with fail
        refine (has_any (str [97, 115]) 115 _ (by decide) (by decide)).mono ?_
        rintro e w' ⟨rfl, rfl⟩
        rw [show decide (115 ∈ bl (str [97, 115])) = true by decide +kernel]
        go_wp2
        go_ret
        exact ⟨by rw [HM.out, y98, y110, y109]; rfl, belowA w _⟩
set_option maxHeartbeats 4000000 in
theorem refMay_a (k a b n m : Int) (s : Nat) (w : World) (h1 : ¬ k < 1) (h2 : ¬ 15 < k) (h3 : ¬ a < 0) (h4 : ¬ b < 0) (hF : formL k = [97]) :
    Calls Tryd.prog 18 #[evV ⟨k, a, b, n, m, s⟩] w fun e w' => e = .returned (.bool (mayB ⟨k, a, b, n, m, s⟩)) ∧ Below w.heap.size w w' := by
  have HM := Lib.hid (mayB_eq (n := n) (m := m) (s := s) h1 h2 h3 h4 hF)
  have HF := Lib.hid hF
  clear hF
  unfold evV
  go_enter Tryd.func18, Tryd.ntmps18
  go_wp2_with fail
  refine (form_any k _).mono ?_
  rintro e w' ⟨rfl, rfl⟩
  rw [HF.out]
  go_wp2_with fail
  refine (has_any (str [97]) 98 _ (by decide) (by decide)).mono ?_
  rintro e w' ⟨rfl, rfl⟩
  rw [show decide (98 ∈ bl (str [97])) = false by decide +kernel]
  cases y98 : (b == 0)
  · go_wp2
    go_ret
    exact ⟨by rw [HM.out, y98]; rfl, belowA w _⟩
  · skip
    go_wp2_with fail
    refine (has_any (str [97]) 110 _ (by decide) (by decide)).mono ?_
    rintro e w' ⟨rfl, rfl⟩
    rw [show decide (110 ∈ bl (str [97])) = false by decide +kernel]
    cases y110 : (n == 0)
    · go_wp2
      go_ret
      exact ⟨by rw [HM.out, y98, y110]; rfl, belowA w _⟩
    · skip
      go_wp2_with fail
      refine (has_any (str [97]) 109 _ (by decide) (by decide)).mono ?_
      rintro e w' ⟨rfl, rfl⟩
      rw [show decide (109 ∈ bl (str [97])) = false by decide +kernel]
      cases y109 : (m == 0)
      · go_wp2
        go_ret
        exact ⟨by rw [HM.out, y98, y110, y109]; rfl, belowA w _⟩
      · skip
        go_wp2_with fail
        refine (has_any (str [97]) 115 _ (by decide) (by decide)).mono ?_
        rintro e w' ⟨rfl, rfl⟩
        rw [show decide (115 ∈ bl (str [97])) = false by decide +kernel]
        cases y115 : ((s : Int) == 0)
        · go_wp2
          go_ret
          exact ⟨by rw [HM.out, y98, y110, y109, y115]; rfl, belowA w _⟩
        · skip
          go_wp2
          go_ret
          exact ⟨by rw [HM.out, y98, y110, y109, y115]; rfl, belowA w _⟩
set_option maxHeartbeats 4000000 in
theorem refMay_any (e : Ev) (w : World) :
    Calls Tryd.prog 18 #[evV e] w fun x w' => x = .returned (.bool (mayB e)) ∧ Below w.heap.size w w' := by
  obtain ⟨k, a, b, n, m, s⟩ := e
  by_cases h1 : k < 1
  · have HM := Lib.hid (mayB_low (b := b) (n := n) (m := m) (s := s) (a := a) (.inl h1))
    unfold evV
    go_enter Tryd.func18, Tryd.ntmps18
    go_wp2_with fail
    refine (form_any k _).mono ?_
    rintro e w' ⟨rfl, rfl⟩
    go_wp2
    go_ret
    exact ⟨by rw [HM.out]; rfl, belowA w _⟩
  by_cases h2 : 15 < k
  · have HM := Lib.hid (mayB_low (b := b) (n := n) (m := m) (s := s) (a := a) (.inr (.inl h2)))
    unfold evV
    go_enter Tryd.func18, Tryd.ntmps18
    go_wp2_with fail
    refine (form_any k _).mono ?_
    rintro e w' ⟨rfl, rfl⟩
    go_wp2
    go_ret
    exact ⟨by rw [HM.out]; rfl, belowA w _⟩
  by_cases h3 : a < 0
  · have HM := Lib.hid (mayB_low (k := k) (b := b) (n := n) (m := m) (s := s) (.inr (.inr (.inl h3))))
    unfold evV
    go_enter Tryd.func18, Tryd.ntmps18
    go_wp2_with fail
    refine (form_any k _).mono ?_
    rintro e w' ⟨rfl, rfl⟩
    go_wp2
    go_ret
    exact ⟨by rw [HM.out]; rfl, belowA w _⟩
  by_cases h4 : b < 0
  · have HM := Lib.hid (mayB_low (k := k) (a := a) (n := n) (m := m) (s := s) (.inr (.inr (.inr h4))))
    unfold evV
    go_enter Tryd.func18, Tryd.ntmps18
    go_wp2_with fail
    refine (form_any k _).mono ?_
    rintro e w' ⟨rfl, rfl⟩
    go_wp2
    go_ret
    exact ⟨by rw [HM.out]; rfl, belowA w _⟩
  rcases form_cases k with h | h | h | h | h | h
  · exact refMay_an k a b n m s w h1 h2 h3 h4 h
  · exact refMay_ab k a b n m s w h1 h2 h3 h4 h
  · exact refMay_anm k a b n m s w h1 h2 h3 h4 h
  · exact refMay_ans k a b n m s w h1 h2 h3 h4 h
  · exact refMay_as k a b n m s w h1 h2 h3 h4 h
  · exact refMay_a k a b n m s w h1 h2 h3 h4 h
end Go.Proofs.YtcboopkalpmglaaDoor
