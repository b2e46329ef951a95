/- A number's figures, by the document and by the statements. Conditions: a number below 100. -/
import Derived.Test.YtdbhdjjepgdomaaDoorMaskRef
import Derived.Test.YtdbhdjjepgdomaaDoorProg
import Derived.Laws.BytesArg
import Derived.Outline
namespace Go.Proofs.YtdbhdjjepgdomaaDoor
set_option linter.unusedVariables false
open Go.RowKit
theorem conv_one (n : Nat) (w : World) (hn : n < 10) : (convert 53 9 (.slice (some ⟨w.heap.size, 0, none⟩) 1 1)).run Tryd.prog (w.alloc (.cells #[.int .u8 (48 + (n : Int))] 5)) = .ok (.string (str (figL n))) (w.alloc (.cells #[.int .u8 (48 + (n : Int))] 5)) := by
  have h := run_convert_bytes_arg (P := Tryd.prog) (w.alloc (.cells #[.int .u8 (48 + (n : Int))] 5)) 53 5 Tryd.underlying53 Tryd.underlying5 w.heap.size 0 1 1 [48 + (n : Int)] rfl (fun i hi => by
    obtain rfl : i = 0 := by omega
    exact (cnewb (j := 0)).trans rfl) 9 Tryd.underlying9
  rw [h]
  have : strOfNums [48 + (n : Int)] = str (figL n) := by
    unfold figL; rw [if_pos hn]
    unfold strOfNums str
    have e1 : (48 + (n : Int)).toNat = 48 + n := by omega
    simp [e1]
  rw [this]
theorem conv_two (n : Nat) (w : World) (hn : ¬ n < 10) : (convert 53 9 (.slice (some ⟨w.heap.size, 0, none⟩) 2 2)).run Tryd.prog (w.alloc (.cells #[.int .u8 (48 + (n : Int) / 10), .int .u8 (48 + (n : Int) % 10)] 5)) = .ok (.string (str (figL n))) (w.alloc (.cells #[.int .u8 (48 + (n : Int) / 10), .int .u8 (48 + (n : Int) % 10)] 5)) := by
  have h := run_convert_bytes_arg (P := Tryd.prog) (w.alloc (.cells #[.int .u8 (48 + (n : Int) / 10), .int .u8 (48 + (n : Int) % 10)] 5)) 53 5 Tryd.underlying53 Tryd.underlying5 w.heap.size 0 2 2 [48 + (n : Int) / 10, 48 + (n : Int) % 10] rfl (fun i hi => by
    rcases (by omega : i = 0 ∨ i = 1) with rfl | rfl
    · exact (cnewb (j := 0)).trans rfl
    · exact (cnewb (j := 1)).trans rfl) 9 Tryd.underlying9
  rw [h]
  have : strOfNums [48 + (n : Int) / 10, 48 + (n : Int) % 10] = str (figL n) := by
    unfold figL; rw [if_neg hn]
    unfold strOfNums str
    have e1 : (48 + (n : Int) / 10).toNat = 48 + n / 10 := by omega
    have e2 : (48 + (n : Int) % 10).toNat = 48 + n % 10 := by omega
    simp [e1, e2]
  rw [this]
set_option maxHeartbeats 1000000 in
theorem refFig_any (n : Nat) (w : World) (hn : n < 100) :
    Calls Tryd.prog 34 #[.int .i64 (n : Int)] w fun e w' => e = .returned (.string (str (figL n))) ∧ Below w.heap.size w w' := by
  by_cases h10 : n < 10
  · have g1 : (n : Int) < 10 := by omega
    have hcv := conv_one n w h10
    go_enter Tryd.func34, Tryd.ntmps34
    go_wp2
    go_ret
    exact ⟨rfl, belowA w _⟩
  · have g1 : ¬ (n : Int) < 10 := by omega
    have hcv := conv_two n w h10
    go_enter Tryd.func34, Tryd.ntmps34
    go_wp2
    go_ret
    exact ⟨rfl, belowA w _⟩
set_option maxHeartbeats 1000000 in
theorem lawFig_any (n : Nat) (w : World) (hn : n < 100) :
    Calls Tryd.prog 14 #[.int .i64 (n : Int)] w fun e w' => e = .returned (.string (str (figL n))) ∧ Below w.heap.size w w' := by
  by_cases h10 : n < 10
  · have g1 : (n : Int) < 10 := by omega
    have hcv := conv_one n w h10
    go_enter Tryd.func14, Tryd.ntmps14
    go_wp2
    go_ret
    exact ⟨rfl, belowA w _⟩
  · have g1 : ¬ (n : Int) < 10 := by omega
    have hcv := conv_two n w h10
    go_enter Tryd.func14, Tryd.ntmps14
    go_wp2
    go_ret
    exact ⟨rfl, belowA w _⟩
end Go.Proofs.YtdbhdjjepgdomaaDoor
