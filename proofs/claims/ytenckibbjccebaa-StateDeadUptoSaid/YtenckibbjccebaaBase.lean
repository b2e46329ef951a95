/- The table of states, as plain words: what state is behind an event, and behind a row of events. No condition. -/
import Derived.WalkKit
import Derived.Deep.QuietTactic
import Derived.Below
import Derived.Lib.Hide
namespace Go.Proofs.Ytenckibbjccebaa
open Go.RowKit

/-- Cell j of the table of steps. -/
def tab : Nat → Int
  | 0 => 1 | 1 => 7 | 2 => 2
  | 3 => 2 | 4 => 101 | 5 => 3
  | 6 => 3 | 7 => 8 | 8 => 1
  | 9 => 3 | 10 => 9 | 11 => 2
  | 12 => 3 | 13 => 10 | 14 => 4
  | 15 => 3 | 16 => 102 | 17 => 2
  | _ => 0
/-- The table lies in block b. -/
def Tab (W : World) (b : Nat) : Prop := ∀ j, j < 18 → W.cell? ⟨b, j, none⟩ = some (.int .i64 (tab j))
/-- Step k is from s by e. -/
def hit (s e : Int) (k : Nat) : Bool := tab (3 * k) == s && tab (3 * k + 1) == e
def ev (e : Int) (k : Nat) : Bool := tab (3 * k + 1) == e
/-- The first k below n of which P holds. -/
def firstN (P : Nat → Bool) : Nat → Int
  | 0 => -1
  | n + 1 => if 0 ≤ firstN P n then firstN P n else if P n then (n : Int) else -1
def known (e : Int) : Bool := ev e 0 || ev e 1 || ev e 2 || ev e 3 || ev e 4 || ev e 5
def isB (s : Int) : Bool := decide (1 ≤ s ∧ s ≤ 4)
/-- What state is behind, and the error. -/
def next (s e : Int) : Int × Int :=
  if isB s = false then (0, 1) else if known e = false then (0, 1) else
  if hit s e 0 then (2, 0) else if hit s e 1 then (3, 0) else if hit s e 2 then (1, 0) else if hit s e 3 then (2, 0) else if hit s e 4 then (4, 0) else if hit s e 5 then (2, 0) else (0, 7)
end Go.Proofs.Ytenckibbjccebaa
