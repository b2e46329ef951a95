/- The functions of the program and of package slices that ask a closure of one number, or of one task, after the other: what they answer, whatever the closure, by what it answers. Conditions: the closure's own. -/
import Derived.Test.YtoclkhnejanlnaaChecked
import Derived.Test.YtoclkhnejanlnaaBase
import Derived.Test.YtoclkhnejanlnaaMem
import Derived.BigQuiet
import Derived.Lib.Hide
import Derived.OpenShut
import Derived.OneCell
import Derived.Outline
import Derived.Laws.BitsAllLaws
namespace Go.Proofs.Ytoclkhnejanlnaa
set_option linter.unusedVariables false
open Go.RowKit

/-- The function of this number has a body: a call of it enters it. -/
def Enters (g : Nat) : Prop := ∀ (args : Array Value) (W : World), (callFunc g args).run Try.prog W = .ok (.enter g args) W
/-- The closure answers H of the number k, and leaves what was there. -/
def Asks (g : Nat) (caps : Array Value) (w : World) (n : Nat) (H : Nat → Bool) : Prop :=
  ∀ k W, k < n → Below w.heap.size w W → Calls Try.prog g (#[.int .i64 (k : Int)] ++ caps) W fun e W' => e = .returned (.bool (H k)) ∧ Below W.heap.size W W'
set_option maxHeartbeats 1000000 in
theorem among_any (g : Nat) (caps : Array Value) (n : Nat) (H : Nat → Bool) (w : World) (hn : n ≤ 9223372036854775807) (hcf : Enters g) (hc : Asks g caps w n H) :
    Calls Try.prog 32 #[.int .i64 (n : Int), .func (.func g) #[] caps] w fun e w' => e = .returned (.bool (anyB n H)) ∧ Below w.heap.size w w' := by
  have HC := Lib.hid hc
  have hcf' := hcf
  unfold Enters at hcf'
  clear hc hcf
  go_enter Try.func32, Try.ntmps32
  go_wp2_with fail
  go_loopw [7] (fun i wr => ∃ k : Nat, k ≤ n ∧ i = .int .i64 k ∧ (∀ q, q < k → H q = false) ∧ Below w.heap.size w wr) (fun i _ => n - (intOf i).toNat)
  case atStart => exact ⟨0, Nat.zero_le _, rfl, fun q h => by omega, Below.refl _ _⟩
  case round =>
    obtain ⟨k, hk, rfl, hq, hB⟩ := hrel
    have HQ := Lib.hid hq
    have HB := Lib.hid hB
    clear hq hB
    by_cases hlt : k < n
    · have hlt' : (k : Int) < (n : Int) := by omega
      go_wp2_with fail
      refine (HC.out k _ hlt HB.out).mono ?_
      rintro e W1 ⟨rfl, hb1⟩
      have HB1 := Lib.hid (nx HB.out hb1)
      clear hb1
      cases hh : H k
      · have HH := Lib.hid hh
        clear hh
        go_wp2
        go_roundw
        case rel => exact ⟨k + 1, by omega, by go_num, fun q hq => by
          by_cases e : q = k
          · subst e; exact HH.out
          · exact HQ.out q (by omega), HB1.out⟩
        case measure => simp [intOf]; omega
      · have HH := Lib.hid (anyB_true hlt hh)
        clear hh
        go_wp2
        go_ret
        exact ⟨by rw [HH.out]; rfl, HB1.out⟩
    · obtain rfl : k = n := by omega
      have HH := Lib.hid (anyB_false.2 HQ.out)
      go_wp2
      go_ret
      exact ⟨by rw [HH.out]; rfl, HB.out⟩
end Go.Proofs.Ytoclkhnejanlnaa
