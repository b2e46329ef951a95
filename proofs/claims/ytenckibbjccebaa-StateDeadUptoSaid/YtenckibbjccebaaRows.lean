/-
  No cell of these rows narrows 'for every input' (looked for: loops, veiled, ifaces, maps, wideKeys, modest, calm, conditions, laid).
  DERIVED. THE GIVEN ROWS OF THIS SEAT. 3 by the template 'for every input the law returns true; each argument reads behind the call as it read before'; 0 by the template 'total and deterministic' (their statements: YtenckibbjccebaaTotals.lean).
  GIVEN WITH THE SEED: the statements are not yours to turn. If you find one false, say at which input.
  Laid BY PROGRAM, IN A SANDBOX (cutbox-rows.mjs): the forced cells as the released guide's own fill.sh prints them over the translation 2b8add3bb7651f9f… (all of the seat's roots in one cut). By AI agents, Wed Nov 11 2026. No macro, syntax, notation, axiom, sorry.
-/
import Derived.Test.YtenckibbjccebaaChecked
import GoSem.Claim
import GoSem.ClaimJoined
import GoSem.ClaimMapViews
import Derived.JoinedTies
import Derived.KernelRfl
namespace Go.Proofs.Ytenckibbjccebaa
/- THE CELL 'sum', in the pinned program and in every row, IS THE sha256 OF THE DUMP (.gsa) THAT YtenckibbjccebaaProg.lean LOADS. Nothing in Lean hashes anything: it is a label: what it is worth is what the hold of that sum in a sandbox is worth. -/
noncomputable def Try.pinned : Pinned := { name := "ytenckibbjccebaa", sum := "2b8add3bb7651f9fdd04396dc85347685c71e238f23a0e0115bd5054a82f40de", checked := Try.checked }
namespace Rows
def none {H : Type} : Left H := { results := [], args := [] }

/-- 'dolelaw14.StateDead': WHATEVER THE INPUT: true; the input reads as it did. -/
def stateDeadSpec : ChangeSpec := { name := "stateDead", fn := fun _ => fun
  | [d1, d2] => { results := [.lit (.bool true)], args := [d1, d2] }
  | _ => none }
def stateDeadRow : OpenClaim := { program := "ytenckibbjccebaa", sum := "2b8add3bb7651f9fdd04396dc85347685c71e238f23a0e0115bd5054a82f40de", func := "dole/dolelaw14.StateDead", spec := "stateDead", unfollowed := true, recurses := true, apart := false }
def StateDeadSaid : Prop := stateDeadRow.holds Try.pinned (OpenSpec.ofChange stateDeadSpec)

/-- ITS FALSE NEIGHBOUR: 'it returns false'. Refute it at one input. -/
def stateDeadWrong : ChangeSpec := { name := "stateDead", fn := fun _ => fun
  | [d1, d2] => { results := [.lit (.bool false)], args := [d1, d2] }
  | _ => none }
def StateDeadWrongFalsely : Prop := stateDeadRow.holds Try.pinned (OpenSpec.ofChange stateDeadWrong)

/-- 'dolelaw14.StateJoins': WHATEVER THE INPUT: true; the input reads as it did. -/
def stateJoinsSpec : ChangeSpec := { name := "stateJoins", fn := fun _ => fun
  | [d1, d2] => { results := [.lit (.bool true)], args := [d1, d2] }
  | _ => none }
def stateJoinsRow : OpenClaim := { program := "ytenckibbjccebaa", sum := "2b8add3bb7651f9fdd04396dc85347685c71e238f23a0e0115bd5054a82f40de", func := "dole/dolelaw14.StateJoins", spec := "stateJoins", unfollowed := true, recurses := true, apart := false }
def StateJoinsSaid : Prop := stateJoinsRow.holds Try.pinned (OpenSpec.ofChange stateJoinsSpec)

/-- ITS FALSE NEIGHBOUR: 'it returns false'. Refute it at one input. -/
def stateJoinsWrong : ChangeSpec := { name := "stateJoins", fn := fun _ => fun
  | [d1, d2] => { results := [.lit (.bool false)], args := [d1, d2] }
  | _ => none }
def StateJoinsWrongFalsely : Prop := stateJoinsRow.holds Try.pinned (OpenSpec.ofChange stateJoinsWrong)

/-- 'dolelaw14.StateRuns': WHATEVER THE INPUT: true; the input reads as it did. -/
def stateRunsSpec : ChangeSpec := { name := "stateRuns", fn := fun _ => fun
  | [d] => { results := [.lit (.bool true)], args := [d] }
  | _ => none }
def stateRunsRow : OpenClaim := { program := "ytenckibbjccebaa", sum := "2b8add3bb7651f9fdd04396dc85347685c71e238f23a0e0115bd5054a82f40de", func := "dole/dolelaw14.StateRuns", spec := "stateRuns", unfollowed := true, recurses := true, apart := false }
def StateRunsSaid : Prop := stateRunsRow.holds Try.pinned (OpenSpec.ofChange stateRunsSpec)

/-- ITS FALSE NEIGHBOUR: 'it returns false'. Refute it at one input. -/
def stateRunsWrong : ChangeSpec := { name := "stateRuns", fn := fun _ => fun
  | [d] => { results := [.lit (.bool false)], args := [d] }
  | _ => none }
def StateRunsWrongFalsely : Prop := stateRunsRow.holds Try.pinned (OpenSpec.ofChange stateRunsWrong)

/- THE SECOND FORM. 'bulk': how many values and letters a reading holds, each counted each time it is reached (what is shared counts as often as it is met; a slice's spare places count too). A statement '..UptoSaid' is the law's where the arguments, and the package variables that the reading takes, are together of bulk at most 1048576: NARROWER than '..Said'. Prove '..Said' where nothing that the law and all that it calls make is longer than what came in: it says more and counts as full. Else prove '..UptoSaid'. A law counts once. -/
mutual
def uptoBulk {H : Type} : DataW H → Nat
  | .lit (.string bytes) => bytes.length + 1
  | .lit _ => 1
  | .nil => 1
  | .ptr d => uptoBulk d + 1
  | .slice elems spare => uptoBulkAll elems + uptoBulkAll spare + 1
  | .agg parts => uptoBulkAll parts + 1
  | .iface _ d => uptoBulk d + 1
  | .map entries => uptoBulkEntries entries + 1
  | .held _ => 1
def uptoBulkAll {H : Type} : List (DataW H) → Nat
  | [] => 0
  | d :: r => uptoBulk d + uptoBulkAll r
def uptoBulkEntries {H : Type} : List (Lit × DataW H) → Nat
  | [] => 0
  | x :: r => uptoBulkEntry x + uptoBulkEntries r
def uptoBulkEntry {H : Type} : Lit × DataW H → Nat
  | (.string bytes, d) => bytes.length + uptoBulk d + 1
  | (_, d) => uptoBulk d + 1
 end
def uptoSmall : (H : Type) → List (DataW H) → Bool := fun _ ds => decide (uptoBulkAll ds ≤ 1048576)
def OpenSpec.upto (s : _root_.Go.ChangeSpec) : _root_.Go.OpenSpec := { _root_.Go.OpenSpec.ofChange s with cond := some uptoSmall }

/-- 'dolelaw14.StateDead', WHERE WHAT IT READS IS OF BULK AT MOST 1048576: true; the input reads as it did. -/
def stateDeadUptoRow : OpenClaim := { program := "ytenckibbjccebaa", sum := "2b8add3bb7651f9fdd04396dc85347685c71e238f23a0e0115bd5054a82f40de", func := "dole/dolelaw14.StateDead", spec := "stateDead", unfollowed := true, recurses := true, apart := false, narrowed := true }
def StateDeadUptoSaid : Prop := stateDeadUptoRow.holds Try.pinned (OpenSpec.upto stateDeadSpec)

/-- 'dolelaw14.StateJoins', WHERE WHAT IT READS IS OF BULK AT MOST 1048576: true; the input reads as it did. -/
def stateJoinsUptoRow : OpenClaim := { program := "ytenckibbjccebaa", sum := "2b8add3bb7651f9fdd04396dc85347685c71e238f23a0e0115bd5054a82f40de", func := "dole/dolelaw14.StateJoins", spec := "stateJoins", unfollowed := true, recurses := true, apart := false, narrowed := true }
def StateJoinsUptoSaid : Prop := stateJoinsUptoRow.holds Try.pinned (OpenSpec.upto stateJoinsSpec)

/-- 'dolelaw14.StateRuns', WHERE WHAT IT READS IS OF BULK AT MOST 1048576: true; the input reads as it did. -/
def stateRunsUptoRow : OpenClaim := { program := "ytenckibbjccebaa", sum := "2b8add3bb7651f9fdd04396dc85347685c71e238f23a0e0115bd5054a82f40de", func := "dole/dolelaw14.StateRuns", spec := "stateRuns", unfollowed := true, recurses := true, apart := false, narrowed := true }
def StateRunsUptoSaid : Prop := stateRunsUptoRow.holds Try.pinned (OpenSpec.upto stateRunsSpec)

end Rows
end Go.Proofs.Ytenckibbjccebaa
