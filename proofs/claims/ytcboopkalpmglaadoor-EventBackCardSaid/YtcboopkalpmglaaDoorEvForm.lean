/- The words and the forms, of the program and of the document. Conditions: none. -/
import Derived.Test.YtcboopkalpmglaaDoorEvFields
namespace Go.Proofs.YtcboopkalpmglaaDoor
set_option linter.unusedVariables false
open Go.RowKit
theorem form_1 (k : Int) (w : World) (hk : k = 1 ∨ k = 4 ∨ k = 11 ∨ k = 14) : Calls Tryd.prog 31 #[.int .i64 k] w fun e w' => e = .returned (.string (str (formL k))) ∧ w' = w := by
  rcases hk with rfl | rfl | rfl | rfl
  all_goals
    go_enter Tryd.func31, Tryd.ntmps31
    go_wp2
    go_ret
    exact ⟨rfl, rfl⟩
theorem form_2 (k : Int) (w : World) (hk : k = 3 ∨ k = 5 ∨ k = 6 ∨ k = 15) : Calls Tryd.prog 31 #[.int .i64 k] w fun e w' => e = .returned (.string (str (formL k))) ∧ w' = w := by
  rcases hk with rfl | rfl | rfl | rfl
  all_goals
    go_enter Tryd.func31, Tryd.ntmps31
    go_wp2
    go_ret
    exact ⟨rfl, rfl⟩
theorem form_o (k : Int) (w : World) (h1 : k ≠ 1) (h4 : k ≠ 4) (h11 : k ≠ 11) (h14 : k ≠ 14) (h3 : k ≠ 3) (h5 : k ≠ 5) (h6 : k ≠ 6) (h15 : k ≠ 15) : Calls Tryd.prog 31 #[.int .i64 k] w fun e w' => e = .returned (.string (str (formL k))) ∧ w' = w := by
  have HF := Lib.hid (show formL k = [97] by unfold formL; rw [if_neg (by omega), if_neg h3, if_neg h5, if_neg h6, if_neg h15])
  have e1 : (k == 1) = false := beq_eq_false_iff_ne.2 h1
  have e4 : (k == 4) = false := beq_eq_false_iff_ne.2 h4
  have e11 : (k == 11) = false := beq_eq_false_iff_ne.2 h11
  have e14 : (k == 14) = false := beq_eq_false_iff_ne.2 h14
  have e3 : (k == 3) = false := beq_eq_false_iff_ne.2 h3
  have e5 : (k == 5) = false := beq_eq_false_iff_ne.2 h5
  have e6 : (k == 6) = false := beq_eq_false_iff_ne.2 h6
  have e15 : (k == 15) = false := beq_eq_false_iff_ne.2 h15
  go_enter Tryd.func31, Tryd.ntmps31
  go_wp2
  go_ret
  exact ⟨by rw [HF.out]; rfl, rfl⟩
theorem form_any (k : Int) (w : World) : Calls Tryd.prog 31 #[.int .i64 k] w fun e w' => e = .returned (.string (str (formL k))) ∧ w' = w := by
  by_cases h1 : k = 1 ∨ k = 4 ∨ k = 11 ∨ k = 14
  · exact form_1 k w h1
  · by_cases h2 : k = 3 ∨ k = 5 ∨ k = 6 ∨ k = 15
    · exact form_2 k w h2
    · exact form_o k w (by omega) (by omega) (by omega) (by omega) (by omega) (by omega) (by omega) (by omega)
end Go.Proofs.YtcboopkalpmglaaDoor
