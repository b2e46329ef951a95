/- The functions of the packages load, pull and of the document's answer that reckon with two loads or ask one task, each once. Conditions: the numbers are within their kinds. -/
import Derived.Test.YtkgpjcoapopgmaaChecked
import Derived.Test.YtkgpjcoapopgmaaBase
import Derived.BigQuiet
import Derived.Lib.Hide
import Derived.OpenShut
import Derived.OneCell
import Derived.Outline
import Derived.Laws.BitsAllLaws
import Derived.StillTailTactics
namespace Go.Proofs.Ytkgpjcoapopgmaa
set_option linter.unusedVariables false
open Go.RowKit
def U64 (x : Int) : Prop := 0 ≤ x ∧ x < 18446744073709551616
theorem gap_any (a b : Int) (w : World) (ha : 0 ≤ a) (hb : 0 ≤ b) (ha1 : a < 18446744073709551616) (hb1 : b < 18446744073709551616) :
    Calls Try.prog 19 #[.int .u64 a, .int .u64 b] w fun e w' => e = .returned (.int .u64 (gapI a b)) ∧ w = w' := by
  by_cases h : b < a
  · have HG := Lib.hid (show gapI a b = a - b by unfold gapI; rw [if_pos (by omega)])
    go_enter Try.func19, Try.ntmps19
    go_wp2
    all_goals first | omega | (go_ret; exact ⟨by rw [HG.out]; rfl, rfl⟩)
  · have h' : a ≤ b := by omega
    have HG := Lib.hid (show gapI a b = 0 by unfold gapI; split <;> omega)
    have h0 : a - a = 0 := by omega
    go_enter Try.func19, Try.ntmps19
    go_wp2
    all_goals first | omega | (go_ret; exact ⟨by rw [HG.out]; rfl, rfl⟩) | (obtain rfl : a = b := by omega
                                                                            go_ret; exact ⟨by rw [HG.out]; simp, rfl⟩)
theorem refGap_any (a b : Int) (w : World) (ha : 0 ≤ a) (hb : 0 ≤ b) (ha1 : a < 18446744073709551616) (hb1 : b < 18446744073709551616) :
    Calls Try.prog 26 #[.int .u64 a, .int .u64 b] w fun e w' => e = .returned (.int .u64 (gapI a b)) ∧ w = w' := by
  by_cases h : b ≤ a
  · have h' : ¬ a < b := by omega
    have HG := Lib.hid (show gapI a b = a - b by unfold gapI; rw [if_pos h])
    go_enter Try.func26, Try.ntmps26
    go_wp2
    go_ret
    exact ⟨by rw [HG.out]; rfl, rfl⟩
  · have h' : a < b := by omega
    have HG := Lib.hid (show gapI a b = 0 by unfold gapI; rw [if_neg h])
    go_enter Try.func26, Try.ntmps26
    go_wp2
    go_ret
    exact ⟨by rw [HG.out]; rfl, rfl⟩

set_option maxHeartbeats 1000000 in
theorem sum2_any (b cap : Nat) (x y : Int) (w : World) (hx : U64 x) (hy : U64 y) (c0 : w.cell? ⟨b, 0, none⟩ = some (.int .u64 x)) (c1 : w.cell? ⟨b, 1, none⟩ = some (.int .u64 y)) :
    Calls Try.prog 28 #[.slice (some ⟨b, 0, none⟩) 2 cap] w fun e w' => e = .returned (.int .u64 (sat2 x y)) ∧ w = w' := by
  obtain ⟨hx1, hx2⟩ := hx
  obtain ⟨hy1, hy2⟩ := hy
  have HS := Lib.hid (show sat2 x y = if 18446744073709551615 < x + y then 18446744073709551615 else x + y from rfl)
  go_enter Try.func28, Try.ntmps28
  go_wp2
  go_loop [3, 8] (fun s i => (i = .int .i64 0 ∧ s = .int .u64 0) ∨ (i = .int .i64 1 ∧ s = .int .u64 x) ∨ (i = .int .i64 2 ∧ s = .int .u64 (x + y) ∧ ¬ 18446744073709551615 < x + y)) (fun _ i => 2 - (intOf i).toNat)
  case atStart => exact .inl ⟨rfl, rfl⟩
  case round =>
    rcases hrel with ⟨rfl, rfl⟩ | ⟨rfl, rfl⟩ | ⟨rfl, rfl, hn⟩
    · have h0 : ¬ 18446744073709551615 - 0 < x := by omega
      have h00 : ¬ 18446744073709551615 < x := by omega
      go_wp2
      go_round
      case rel => exact .inr (.inl ⟨rfl, by simp⟩)
      case measure => simp [intOf]
    · by_cases hov : 18446744073709551615 - x < y
      · have HS2 := Lib.hid (show sat2 x y = 18446744073709551615 by rw [HS.out, if_pos (by omega)])
        go_wp2
        go_ret
        exact ⟨by rw [HS2.out]; rfl, rfl⟩
      · have hle : x + y ≤ 18446744073709551615 := by omega
        go_wp2
        go_round
        case rel => exact .inr (.inr ⟨rfl, by simp, by omega⟩)
        case measure => simp [intOf]
    · have HS2 := Lib.hid (show sat2 x y = x + y by rw [HS.out, if_neg hn])
      go_wp2
      go_ret
      exact ⟨by rw [HS2.out]; rfl, rfl⟩
set_option maxHeartbeats 1000000 in
theorem refSum2_any (b cap : Nat) (x y : Int) (w : World) (hx : U64 x) (hy : U64 y) (c0 : w.cell? ⟨b, 0, none⟩ = some (.int .u64 x)) (c1 : w.cell? ⟨b, 1, none⟩ = some (.int .u64 y)) :
    Calls Try.prog 29 #[.slice (some ⟨b, 0, none⟩) 2 cap] w fun e w' => e = .returned (.int .u64 (sat2 x y)) ∧ w = w' := by
  obtain ⟨hx1, hx2⟩ := hx
  obtain ⟨hy1, hy2⟩ := hy
  have HS := Lib.hid (show sat2 x y = if 18446744073709551615 < x + y then 18446744073709551615 else x + y from rfl)
  go_enter Try.func29, Try.ntmps29
  go_wp2
  go_loop [3, 4] (fun s i => (i = .int .i64 0 ∧ s = .int .u64 0) ∨ (i = .int .i64 1 ∧ s = .int .u64 x) ∨ (i = .int .i64 2 ∧ s = .int .u64 (x + y) ∧ ¬ 18446744073709551615 < x + y)) (fun _ i => 2 - (intOf i).toNat)
  case atStart => exact .inl ⟨rfl, rfl⟩
  case round =>
    rcases hrel with ⟨rfl, rfl⟩ | ⟨rfl, rfl⟩ | ⟨rfl, rfl, hn⟩
    · have h0 : ¬ x < 0 := by omega
      have hx3 : x ≤ 18446744073709551615 := by omega
      go_wp2
      go_round
      case rel => exact .inr (.inl ⟨rfl, by simp⟩)
      case measure => simp [intOf]
    · by_cases hov : 18446744073709551615 < x + y
      · have HS2 := Lib.hid (show sat2 x y = 18446744073709551615 by rw [HS.out, if_pos hov])
        have hw : IntKind.u64.wrap (x + y) < x := by rw [IntKind.wrap_u64]; omega
        go_wp2
        go_ret
        exact ⟨by rw [HS2.out]; rfl, rfl⟩
      · have hno : ¬ x + y < x := by omega
        have hle : x + y ≤ 18446744073709551615 := by omega
        go_wp2
        go_round
        case rel => exact .inr (.inr ⟨rfl, by simp, hov⟩)
        case measure => simp [intOf]
    · have HS2 := Lib.hid (show sat2 x y = x + y by rw [HS.out, if_neg hn])
      go_wp2
      go_ret
      exact ⟨by rw [HS2.out]; rfl, rfl⟩
end Go.Proofs.Ytkgpjcoapopgmaa
