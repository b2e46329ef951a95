/-
  No cell of these rows narrows 'for every input' (looked for: loops, veiled, ifaces, maps, wideKeys, modest, calm, conditions, laid).
  DERIVED. THE GIVEN ROWS OF THIS SEAT. 6 by the template 'for every input the law returns true; each argument reads behind the call as it read before'; 0 by the template 'total and deterministic' (their statements: YtoclkhnejanlnaaTotals.lean).
  GIVEN WITH THE SEED: the statements are not yours to turn. If you find one false, say at which input.
  Laid BY PROGRAM, IN A SANDBOX (cutbox-rows.mjs): the forced cells as the released guide's own fill.sh prints them over the translation 426bf664109e076f… (all of the seat's roots in one cut). By AI agents, Wed Nov 11 2026. No macro, syntax, notation, axiom, sorry.
-/
import Derived.Test.YtoclkhnejanlnaaChecked
import GoSem.Claim
import GoSem.ClaimJoined
import GoSem.ClaimMapViews
import Derived.JoinedTies
import Derived.KernelRfl
namespace Go.Proofs.Ytoclkhnejanlnaa
/- THE CELL 'sum', in the pinned program and in every row, IS THE sha256 OF THE DUMP (.gsa) THAT YtoclkhnejanlnaaProg.lean LOADS. Nothing in Lean hashes anything: it is a label: what it is worth is what the hold of that sum in a sandbox is worth. -/
noncomputable def Try.pinned : Pinned := { name := "ytoclkhnejanlnaa", sum := "426bf664109e076f68572cdeb69467abde7e217d780979d0e638e7f44ca52a14", checked := Try.checked }
namespace Rows
def none {H : Type} : Left H := { results := [], args := [] }

/-- 'dolelaw23.AuditOnce': WHATEVER THE INPUT: true; the input reads as it did. -/
def auditOnceSpec : ChangeSpec := { name := "auditOnce", fn := fun _ => fun
  | [d] => { results := [.lit (.bool true)], args := [d] }
  | _ => none }
def auditOnceRow : OpenClaim := { program := "ytoclkhnejanlnaa", sum := "426bf664109e076f68572cdeb69467abde7e217d780979d0e638e7f44ca52a14", func := "dole/dolelaw23.AuditOnce", spec := "auditOnce", unfollowed := true, recurses := true, apart := false }
def AuditOnceSaid : Prop := auditOnceRow.holds Try.pinned (OpenSpec.ofChange auditOnceSpec)

/-- ITS FALSE NEIGHBOUR: 'it returns false'. Refute it at one input. -/
def auditOnceWrong : ChangeSpec := { name := "auditOnce", fn := fun _ => fun
  | [d] => { results := [.lit (.bool false)], args := [d] }
  | _ => none }
def AuditOnceWrongFalsely : Prop := auditOnceRow.holds Try.pinned (OpenSpec.ofChange auditOnceWrong)

/-- 'dolelaw23.AuditBreaks': WHATEVER THE INPUT: true; the input reads as it did. -/
def auditBreaksSpec : ChangeSpec := { name := "auditBreaks", fn := fun _ => fun
  | [d1, d2] => { results := [.lit (.bool true)], args := [d1, d2] }
  | _ => none }
def auditBreaksRow : OpenClaim := { program := "ytoclkhnejanlnaa", sum := "426bf664109e076f68572cdeb69467abde7e217d780979d0e638e7f44ca52a14", func := "dole/dolelaw23.AuditBreaks", spec := "auditBreaks", unfollowed := true, recurses := true, apart := false }
def AuditBreaksSaid : Prop := auditBreaksRow.holds Try.pinned (OpenSpec.ofChange auditBreaksSpec)

/-- ITS FALSE NEIGHBOUR: 'it returns false'. Refute it at one input. -/
def auditBreaksWrong : ChangeSpec := { name := "auditBreaks", fn := fun _ => fun
  | [d1, d2] => { results := [.lit (.bool false)], args := [d1, d2] }
  | _ => none }
def AuditBreaksWrongFalsely : Prop := auditBreaksRow.holds Try.pinned (OpenSpec.ofChange auditBreaksWrong)

/-- 'dolelaw23.AuditCredits': WHATEVER THE INPUT: true; the input reads as it did. -/
def auditCreditsSpec : ChangeSpec := { name := "auditCredits", fn := fun _ => fun
  | [d1, d2, d3, d4] => { results := [.lit (.bool true)], args := [d1, d2, d3, d4] }
  | _ => none }
def auditCreditsRow : OpenClaim := { program := "ytoclkhnejanlnaa", sum := "426bf664109e076f68572cdeb69467abde7e217d780979d0e638e7f44ca52a14", func := "dole/dolelaw23.AuditCredits", spec := "auditCredits", unfollowed := true, recurses := true, apart := false }
def AuditCreditsSaid : Prop := auditCreditsRow.holds Try.pinned (OpenSpec.ofChange auditCreditsSpec)

/-- ITS FALSE NEIGHBOUR: 'it returns false'. Refute it at one input. -/
def auditCreditsWrong : ChangeSpec := { name := "auditCredits", fn := fun _ => fun
  | [d1, d2, d3, d4] => { results := [.lit (.bool false)], args := [d1, d2, d3, d4] }
  | _ => none }
def AuditCreditsWrongFalsely : Prop := auditCreditsRow.holds Try.pinned (OpenSpec.ofChange auditCreditsWrong)

/-- 'dolelaw23.AuditUnder': WHATEVER THE INPUT: true; the input reads as it did. -/
def auditUnderSpec : ChangeSpec := { name := "auditUnder", fn := fun _ => fun
  | [d1, d2, d3, d4] => { results := [.lit (.bool true)], args := [d1, d2, d3, d4] }
  | _ => none }
def auditUnderRow : OpenClaim := { program := "ytoclkhnejanlnaa", sum := "426bf664109e076f68572cdeb69467abde7e217d780979d0e638e7f44ca52a14", func := "dole/dolelaw23.AuditUnder", spec := "auditUnder", unfollowed := true, recurses := true, apart := false }
def AuditUnderSaid : Prop := auditUnderRow.holds Try.pinned (OpenSpec.ofChange auditUnderSpec)

/-- ITS FALSE NEIGHBOUR: 'it returns false'. Refute it at one input. -/
def auditUnderWrong : ChangeSpec := { name := "auditUnder", fn := fun _ => fun
  | [d1, d2, d3, d4] => { results := [.lit (.bool false)], args := [d1, d2, d3, d4] }
  | _ => none }
def AuditUnderWrongFalsely : Prop := auditUnderRow.holds Try.pinned (OpenSpec.ofChange auditUnderWrong)

/-- 'dolelaw23.AuditNumbers': WHATEVER THE INPUT: true; the input reads as it did. -/
def auditNumbersSpec : ChangeSpec := { name := "auditNumbers", fn := fun _ => fun
  | [d1, d2, d3, d4, d5, d6] => { results := [.lit (.bool true)], args := [d1, d2, d3, d4, d5, d6] }
  | _ => none }
def auditNumbersRow : OpenClaim := { program := "ytoclkhnejanlnaa", sum := "426bf664109e076f68572cdeb69467abde7e217d780979d0e638e7f44ca52a14", func := "dole/dolelaw23.AuditNumbers", spec := "auditNumbers", unfollowed := true, recurses := true, apart := false }
def AuditNumbersSaid : Prop := auditNumbersRow.holds Try.pinned (OpenSpec.ofChange auditNumbersSpec)

/-- ITS FALSE NEIGHBOUR: 'it returns false'. Refute it at one input. -/
def auditNumbersWrong : ChangeSpec := { name := "auditNumbers", fn := fun _ => fun
  | [d1, d2, d3, d4, d5, d6] => { results := [.lit (.bool false)], args := [d1, d2, d3, d4, d5, d6] }
  | _ => none }
def AuditNumbersWrongFalsely : Prop := auditNumbersRow.holds Try.pinned (OpenSpec.ofChange auditNumbersWrong)

/-- 'dolelaw23.AuditApart': WHATEVER THE INPUT: true; the input reads as it did. -/
def auditApartSpec : ChangeSpec := { name := "auditApart", fn := fun _ => fun
  | [d1, d2, d3, d4, d5] => { results := [.lit (.bool true)], args := [d1, d2, d3, d4, d5] }
  | _ => none }
def auditApartRow : OpenClaim := { program := "ytoclkhnejanlnaa", sum := "426bf664109e076f68572cdeb69467abde7e217d780979d0e638e7f44ca52a14", func := "dole/dolelaw23.AuditApart", spec := "auditApart", unfollowed := true, recurses := true, apart := false }
def AuditApartSaid : Prop := auditApartRow.holds Try.pinned (OpenSpec.ofChange auditApartSpec)

/-- ITS FALSE NEIGHBOUR: 'it returns false'. Refute it at one input. -/
def auditApartWrong : ChangeSpec := { name := "auditApart", fn := fun _ => fun
  | [d1, d2, d3, d4, d5] => { results := [.lit (.bool false)], args := [d1, d2, d3, d4, d5] }
  | _ => none }
def AuditApartWrongFalsely : Prop := auditApartRow.holds Try.pinned (OpenSpec.ofChange auditApartWrong)

/- THE SECOND FORM. 'bulk': how many values and letters a reading holds, each counted each time it is reached (what is shared counts as often as it is met; a slice's spare places count too). A statement '..UptoSaid' is the law's where the arguments, and the package variables that the reading takes, are together of bulk at most 1048576: NARROWER than '..Said'. Prove '..Said' where nothing that the law and all that it calls make is longer than what came in: it says more and counts as full. Else prove '..UptoSaid'. A law counts once. -/
mutual
def uptoBulk {H : Type} : DataW H → Nat
  | .lit (.string bytes) => bytes.length + 1
  | .lit _ => 1
  | .nil => 1
  | .ptr d => uptoBulk d + 1
  | .slice elems spare => uptoBulkAll elems + uptoBulkAll spare + 1
  | .agg parts => uptoBulkAll parts + 1
  | .iface _ d => uptoBulk d + 1
  | .map entries => uptoBulkEntries entries + 1
  | .held _ => 1
def uptoBulkAll {H : Type} : List (DataW H) → Nat
  | [] => 0
  | d :: r => uptoBulk d + uptoBulkAll r
def uptoBulkEntries {H : Type} : List (Lit × DataW H) → Nat
  | [] => 0
  | x :: r => uptoBulkEntry x + uptoBulkEntries r
def uptoBulkEntry {H : Type} : Lit × DataW H → Nat
  | (.string bytes, d) => bytes.length + uptoBulk d + 1
  | (_, d) => uptoBulk d + 1
 end
def uptoSmall : (H : Type) → List (DataW H) → Bool := fun _ ds => decide (uptoBulkAll ds ≤ 1048576)
def OpenSpec.upto (s : _root_.Go.ChangeSpec) : _root_.Go.OpenSpec := { _root_.Go.OpenSpec.ofChange s with cond := some uptoSmall }

/-- 'dolelaw23.AuditOnce', WHERE WHAT IT READS IS OF BULK AT MOST 1048576: true; the input reads as it did. -/
def auditOnceUptoRow : OpenClaim := { program := "ytoclkhnejanlnaa", sum := "426bf664109e076f68572cdeb69467abde7e217d780979d0e638e7f44ca52a14", func := "dole/dolelaw23.AuditOnce", spec := "auditOnce", unfollowed := true, recurses := true, apart := false, narrowed := true }
def AuditOnceUptoSaid : Prop := auditOnceUptoRow.holds Try.pinned (OpenSpec.upto auditOnceSpec)

/-- 'dolelaw23.AuditBreaks', WHERE WHAT IT READS IS OF BULK AT MOST 1048576: true; the input reads as it did. -/
def auditBreaksUptoRow : OpenClaim := { program := "ytoclkhnejanlnaa", sum := "426bf664109e076f68572cdeb69467abde7e217d780979d0e638e7f44ca52a14", func := "dole/dolelaw23.AuditBreaks", spec := "auditBreaks", unfollowed := true, recurses := true, apart := false, narrowed := true }
def AuditBreaksUptoSaid : Prop := auditBreaksUptoRow.holds Try.pinned (OpenSpec.upto auditBreaksSpec)

/-- 'dolelaw23.AuditCredits', WHERE WHAT IT READS IS OF BULK AT MOST 1048576: true; the input reads as it did. -/
def auditCreditsUptoRow : OpenClaim := { program := "ytoclkhnejanlnaa", sum := "426bf664109e076f68572cdeb69467abde7e217d780979d0e638e7f44ca52a14", func := "dole/dolelaw23.AuditCredits", spec := "auditCredits", unfollowed := true, recurses := true, apart := false, narrowed := true }
def AuditCreditsUptoSaid : Prop := auditCreditsUptoRow.holds Try.pinned (OpenSpec.upto auditCreditsSpec)

/-- 'dolelaw23.AuditUnder', WHERE WHAT IT READS IS OF BULK AT MOST 1048576: true; the input reads as it did. -/
def auditUnderUptoRow : OpenClaim := { program := "ytoclkhnejanlnaa", sum := "426bf664109e076f68572cdeb69467abde7e217d780979d0e638e7f44ca52a14", func := "dole/dolelaw23.AuditUnder", spec := "auditUnder", unfollowed := true, recurses := true, apart := false, narrowed := true }
def AuditUnderUptoSaid : Prop := auditUnderUptoRow.holds Try.pinned (OpenSpec.upto auditUnderSpec)

/-- 'dolelaw23.AuditNumbers', WHERE WHAT IT READS IS OF BULK AT MOST 1048576: true; the input reads as it did. -/
def auditNumbersUptoRow : OpenClaim := { program := "ytoclkhnejanlnaa", sum := "426bf664109e076f68572cdeb69467abde7e217d780979d0e638e7f44ca52a14", func := "dole/dolelaw23.AuditNumbers", spec := "auditNumbers", unfollowed := true, recurses := true, apart := false, narrowed := true }
def AuditNumbersUptoSaid : Prop := auditNumbersUptoRow.holds Try.pinned (OpenSpec.upto auditNumbersSpec)

/-- 'dolelaw23.AuditApart', WHERE WHAT IT READS IS OF BULK AT MOST 1048576: true; the input reads as it did. -/
def auditApartUptoRow : OpenClaim := { program := "ytoclkhnejanlnaa", sum := "426bf664109e076f68572cdeb69467abde7e217d780979d0e638e7f44ca52a14", func := "dole/dolelaw23.AuditApart", spec := "auditApart", unfollowed := true, recurses := true, apart := false, narrowed := true }
def AuditApartUptoSaid : Prop := auditApartUptoRow.holds Try.pinned (OpenSpec.upto auditApartSpec)

end Rows
end Go.Proofs.Ytoclkhnejanlnaa
