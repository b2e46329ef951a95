/-
  No cell of these rows narrows 'for every input' (looked for: loops, veiled, ifaces, maps, wideKeys, modest, calm, conditions, laid).
  DERIVED. THE GIVEN ROWS OF THIS SEAT. 12 by the template 'for every input the law returns true; each argument reads behind the call as it read before'; 0 by the template 'total and deterministic' (their statements: YtigpcjikdpknnaaTotals.lean).
  GIVEN WITH THE SEED: the statements are not yours to turn. If you find one false, say at which input.
  Laid BY PROGRAM, IN A SANDBOX (cutbox-rows.mjs): the forced cells as the released guide's own fill.sh prints them over the translation fec49279d24039b9… (all of the seat's roots in one cut). By AI agents, Wed Nov 11 2026. No macro, syntax, notation, axiom, sorry.
-/
import Derived.Test.YtigpcjikdpknnaaChecked
import GoSem.Claim
import GoSem.ClaimJoined
import GoSem.ClaimMapViews
import Derived.JoinedTies
import Derived.KernelRfl
namespace Go.Proofs.Ytigpcjikdpknnaa
/- THE CELL 'sum', in the pinned program and in every row, IS THE sha256 OF THE DUMP (.gsa) THAT YtigpcjikdpknnaaProg.lean LOADS. Nothing in Lean hashes anything: it is a label: what it is worth is what the hold of that sum in a sandbox is worth. -/
noncomputable def Try.pinned : Pinned := { name := "ytigpcjikdpknnaa", sum := "fec49279d24039b9779d4b232062de14d1a8ec76794118075b503b28589d7d1b", checked := Try.checked }
namespace Rows
def none {H : Type} : Left H := { results := [], args := [] }

/-- 'dolelaw15.LoadFinds': WHATEVER THE INPUT: true; the input reads as it did. -/
def loadFindsSpec : ChangeSpec := { name := "loadFinds", fn := fun _ => fun
  | [d1, d2, d3] => { results := [.lit (.bool true)], args := [d1, d2, d3] }
  | _ => none }
def loadFindsRow : OpenClaim := { program := "ytigpcjikdpknnaa", sum := "fec49279d24039b9779d4b232062de14d1a8ec76794118075b503b28589d7d1b", func := "dole/dolelaw15.LoadFinds", spec := "loadFinds", unfollowed := true, recurses := true, apart := false }
def LoadFindsSaid : Prop := loadFindsRow.holds Try.pinned (OpenSpec.ofChange loadFindsSpec)

/-- ITS FALSE NEIGHBOUR: 'it returns false'. Refute it at one input. -/
def loadFindsWrong : ChangeSpec := { name := "loadFinds", fn := fun _ => fun
  | [d1, d2, d3] => { results := [.lit (.bool false)], args := [d1, d2, d3] }
  | _ => none }
def LoadFindsWrongFalsely : Prop := loadFindsRow.holds Try.pinned (OpenSpec.ofChange loadFindsWrong)

/-- 'dolelaw15.LoadBest': WHATEVER THE INPUT: true; the input reads as it did. -/
def loadBestSpec : ChangeSpec := { name := "loadBest", fn := fun _ => fun
  | [d1, d2, d3] => { results := [.lit (.bool true)], args := [d1, d2, d3] }
  | _ => none }
def loadBestRow : OpenClaim := { program := "ytigpcjikdpknnaa", sum := "fec49279d24039b9779d4b232062de14d1a8ec76794118075b503b28589d7d1b", func := "dole/dolelaw15.LoadBest", spec := "loadBest", unfollowed := true, recurses := true, apart := false }
def LoadBestSaid : Prop := loadBestRow.holds Try.pinned (OpenSpec.ofChange loadBestSpec)

/-- ITS FALSE NEIGHBOUR: 'it returns false'. Refute it at one input. -/
def loadBestWrong : ChangeSpec := { name := "loadBest", fn := fun _ => fun
  | [d1, d2, d3] => { results := [.lit (.bool false)], args := [d1, d2, d3] }
  | _ => none }
def LoadBestWrongFalsely : Prop := loadBestRow.holds Try.pinned (OpenSpec.ofChange loadBestWrong)

/-- 'dolelaw15.LoadIdles': WHATEVER THE INPUT: true; the input reads as it did. -/
def loadIdlesSpec : ChangeSpec := { name := "loadIdles", fn := fun _ => fun
  | [d1, d2] => { results := [.lit (.bool true)], args := [d1, d2] }
  | _ => none }
def loadIdlesRow : OpenClaim := { program := "ytigpcjikdpknnaa", sum := "fec49279d24039b9779d4b232062de14d1a8ec76794118075b503b28589d7d1b", func := "dole/dolelaw15.LoadIdles", spec := "loadIdles", unfollowed := true, recurses := true, apart := false }
def LoadIdlesSaid : Prop := loadIdlesRow.holds Try.pinned (OpenSpec.ofChange loadIdlesSpec)

/-- ITS FALSE NEIGHBOUR: 'it returns false'. Refute it at one input. -/
def loadIdlesWrong : ChangeSpec := { name := "loadIdles", fn := fun _ => fun
  | [d1, d2] => { results := [.lit (.bool false)], args := [d1, d2] }
  | _ => none }
def LoadIdlesWrongFalsely : Prop := loadIdlesRow.holds Try.pinned (OpenSpec.ofChange loadIdlesWrong)

/-- 'dolelaw15.LoadMasks': WHATEVER THE INPUT: true; the input reads as it did. -/
def loadMasksSpec : ChangeSpec := { name := "loadMasks", fn := fun _ => fun
  | [d1, d2] => { results := [.lit (.bool true)], args := [d1, d2] }
  | _ => none }
def loadMasksRow : OpenClaim := { program := "ytigpcjikdpknnaa", sum := "fec49279d24039b9779d4b232062de14d1a8ec76794118075b503b28589d7d1b", func := "dole/dolelaw15.LoadMasks", spec := "loadMasks", unfollowed := true, recurses := true, apart := false }
def LoadMasksSaid : Prop := loadMasksRow.holds Try.pinned (OpenSpec.ofChange loadMasksSpec)

/-- ITS FALSE NEIGHBOUR: 'it returns false'. Refute it at one input. -/
def loadMasksWrong : ChangeSpec := { name := "loadMasks", fn := fun _ => fun
  | [d1, d2] => { results := [.lit (.bool false)], args := [d1, d2] }
  | _ => none }
def LoadMasksWrongFalsely : Prop := loadMasksRow.holds Try.pinned (OpenSpec.ofChange loadMasksWrong)

/-- 'dolelaw15.LoadSums': WHATEVER THE INPUT: true; the input reads as it did. -/
def loadSumsSpec : ChangeSpec := { name := "loadSums", fn := fun _ => fun
  | [d1, d2, d3] => { results := [.lit (.bool true)], args := [d1, d2, d3] }
  | _ => none }
def loadSumsRow : OpenClaim := { program := "ytigpcjikdpknnaa", sum := "fec49279d24039b9779d4b232062de14d1a8ec76794118075b503b28589d7d1b", func := "dole/dolelaw15.LoadSums", spec := "loadSums", unfollowed := true, recurses := true, apart := false }
def LoadSumsSaid : Prop := loadSumsRow.holds Try.pinned (OpenSpec.ofChange loadSumsSpec)

/-- ITS FALSE NEIGHBOUR: 'it returns false'. Refute it at one input. -/
def loadSumsWrong : ChangeSpec := { name := "loadSums", fn := fun _ => fun
  | [d1, d2, d3] => { results := [.lit (.bool false)], args := [d1, d2, d3] }
  | _ => none }
def LoadSumsWrongFalsely : Prop := loadSumsRow.holds Try.pinned (OpenSpec.ofChange loadSumsWrong)

/-- 'dolelaw15.LoadGaps': WHATEVER THE INPUT: true; the input reads as it did. -/
def loadGapsSpec : ChangeSpec := { name := "loadGaps", fn := fun _ => fun
  | [d1, d2, d3] => { results := [.lit (.bool true)], args := [d1, d2, d3] }
  | _ => none }
def loadGapsRow : OpenClaim := { program := "ytigpcjikdpknnaa", sum := "fec49279d24039b9779d4b232062de14d1a8ec76794118075b503b28589d7d1b", func := "dole/dolelaw15.LoadGaps", spec := "loadGaps", unfollowed := true, recurses := true, apart := false }
def LoadGapsSaid : Prop := loadGapsRow.holds Try.pinned (OpenSpec.ofChange loadGapsSpec)

/-- ITS FALSE NEIGHBOUR: 'it returns false'. Refute it at one input. -/
def loadGapsWrong : ChangeSpec := { name := "loadGaps", fn := fun _ => fun
  | [d1, d2, d3] => { results := [.lit (.bool false)], args := [d1, d2, d3] }
  | _ => none }
def LoadGapsWrongFalsely : Prop := loadGapsRow.holds Try.pinned (OpenSpec.ofChange loadGapsWrong)

/-- 'dolelaw17.PlaceChooses': WHATEVER THE INPUT: true; the input reads as it did. -/
def placeChoosesSpec : ChangeSpec := { name := "placeChooses", fn := fun _ => fun
  | [d1, d2, d3, d4] => { results := [.lit (.bool true)], args := [d1, d2, d3, d4] }
  | _ => none }
def placeChoosesRow : OpenClaim := { program := "ytigpcjikdpknnaa", sum := "fec49279d24039b9779d4b232062de14d1a8ec76794118075b503b28589d7d1b", func := "dole/dolelaw17.PlaceChooses", spec := "placeChooses", unfollowed := true, recurses := true, apart := false }
def PlaceChoosesSaid : Prop := placeChoosesRow.holds Try.pinned (OpenSpec.ofChange placeChoosesSpec)

/-- ITS FALSE NEIGHBOUR: 'it returns false'. Refute it at one input. -/
def placeChoosesWrong : ChangeSpec := { name := "placeChooses", fn := fun _ => fun
  | [d1, d2, d3, d4] => { results := [.lit (.bool false)], args := [d1, d2, d3, d4] }
  | _ => none }
def PlaceChoosesWrongFalsely : Prop := placeChoosesRow.holds Try.pinned (OpenSpec.ofChange placeChoosesWrong)

/-- 'dolelaw17.PlaceMay': WHATEVER THE INPUT: true; the input reads as it did. -/
def placeMaySpec : ChangeSpec := { name := "placeMay", fn := fun _ => fun
  | [d1, d2, d3, d4] => { results := [.lit (.bool true)], args := [d1, d2, d3, d4] }
  | _ => none }
def placeMayRow : OpenClaim := { program := "ytigpcjikdpknnaa", sum := "fec49279d24039b9779d4b232062de14d1a8ec76794118075b503b28589d7d1b", func := "dole/dolelaw17.PlaceMay", spec := "placeMay", unfollowed := true, recurses := true, apart := false }
def PlaceMaySaid : Prop := placeMayRow.holds Try.pinned (OpenSpec.ofChange placeMaySpec)

/-- ITS FALSE NEIGHBOUR: 'it returns false'. Refute it at one input. -/
def placeMayWrong : ChangeSpec := { name := "placeMay", fn := fun _ => fun
  | [d1, d2, d3, d4] => { results := [.lit (.bool false)], args := [d1, d2, d3, d4] }
  | _ => none }
def PlaceMayWrongFalsely : Prop := placeMayRow.holds Try.pinned (OpenSpec.ofChange placeMayWrong)

/-- 'dolelaw17.PlaceLeast': WHATEVER THE INPUT: true; the input reads as it did. -/
def placeLeastSpec : ChangeSpec := { name := "placeLeast", fn := fun _ => fun
  | [d1, d2, d3, d4] => { results := [.lit (.bool true)], args := [d1, d2, d3, d4] }
  | _ => none }
def placeLeastRow : OpenClaim := { program := "ytigpcjikdpknnaa", sum := "fec49279d24039b9779d4b232062de14d1a8ec76794118075b503b28589d7d1b", func := "dole/dolelaw17.PlaceLeast", spec := "placeLeast", unfollowed := true, recurses := true, apart := false }
def PlaceLeastSaid : Prop := placeLeastRow.holds Try.pinned (OpenSpec.ofChange placeLeastSpec)

/-- ITS FALSE NEIGHBOUR: 'it returns false'. Refute it at one input. -/
def placeLeastWrong : ChangeSpec := { name := "placeLeast", fn := fun _ => fun
  | [d1, d2, d3, d4] => { results := [.lit (.bool false)], args := [d1, d2, d3, d4] }
  | _ => none }
def PlaceLeastWrongFalsely : Prop := placeLeastRow.holds Try.pinned (OpenSpec.ofChange placeLeastWrong)

/-- 'dolelaw17.PlaceStays': WHATEVER THE INPUT: true; the input reads as it did. -/
def placeStaysSpec : ChangeSpec := { name := "placeStays", fn := fun _ => fun
  | [d1, d2, d3, d4] => { results := [.lit (.bool true)], args := [d1, d2, d3, d4] }
  | _ => none }
def placeStaysRow : OpenClaim := { program := "ytigpcjikdpknnaa", sum := "fec49279d24039b9779d4b232062de14d1a8ec76794118075b503b28589d7d1b", func := "dole/dolelaw17.PlaceStays", spec := "placeStays", unfollowed := true, recurses := true, apart := false }
def PlaceStaysSaid : Prop := placeStaysRow.holds Try.pinned (OpenSpec.ofChange placeStaysSpec)

/-- ITS FALSE NEIGHBOUR: 'it returns false'. Refute it at one input. -/
def placeStaysWrong : ChangeSpec := { name := "placeStays", fn := fun _ => fun
  | [d1, d2, d3, d4] => { results := [.lit (.bool false)], args := [d1, d2, d3, d4] }
  | _ => none }
def PlaceStaysWrongFalsely : Prop := placeStaysRow.holds Try.pinned (OpenSpec.ofChange placeStaysWrong)

/-- 'dolelaw17.PlaceOnes': WHATEVER THE INPUT: true; the input reads as it did. -/
def placeOnesSpec : ChangeSpec := { name := "placeOnes", fn := fun _ => fun
  | [d1, d2, d3, d4] => { results := [.lit (.bool true)], args := [d1, d2, d3, d4] }
  | _ => none }
def placeOnesRow : OpenClaim := { program := "ytigpcjikdpknnaa", sum := "fec49279d24039b9779d4b232062de14d1a8ec76794118075b503b28589d7d1b", func := "dole/dolelaw17.PlaceOnes", spec := "placeOnes", unfollowed := true, recurses := true, apart := false }
def PlaceOnesSaid : Prop := placeOnesRow.holds Try.pinned (OpenSpec.ofChange placeOnesSpec)

/-- ITS FALSE NEIGHBOUR: 'it returns false'. Refute it at one input. -/
def placeOnesWrong : ChangeSpec := { name := "placeOnes", fn := fun _ => fun
  | [d1, d2, d3, d4] => { results := [.lit (.bool false)], args := [d1, d2, d3, d4] }
  | _ => none }
def PlaceOnesWrongFalsely : Prop := placeOnesRow.holds Try.pinned (OpenSpec.ofChange placeOnesWrong)

/-- 'dolelaw17.PlaceMore': WHATEVER THE INPUT: true; the input reads as it did. -/
def placeMoreSpec : ChangeSpec := { name := "placeMore", fn := fun _ => fun
  | [d1, d2, d3, d4] => { results := [.lit (.bool true)], args := [d1, d2, d3, d4] }
  | _ => none }
def placeMoreRow : OpenClaim := { program := "ytigpcjikdpknnaa", sum := "fec49279d24039b9779d4b232062de14d1a8ec76794118075b503b28589d7d1b", func := "dole/dolelaw17.PlaceMore", spec := "placeMore", unfollowed := true, recurses := true, apart := false }
def PlaceMoreSaid : Prop := placeMoreRow.holds Try.pinned (OpenSpec.ofChange placeMoreSpec)

/-- ITS FALSE NEIGHBOUR: 'it returns false'. Refute it at one input. -/
def placeMoreWrong : ChangeSpec := { name := "placeMore", fn := fun _ => fun
  | [d1, d2, d3, d4] => { results := [.lit (.bool false)], args := [d1, d2, d3, d4] }
  | _ => none }
def PlaceMoreWrongFalsely : Prop := placeMoreRow.holds Try.pinned (OpenSpec.ofChange placeMoreWrong)

/- THE SECOND FORM. 'bulk': how many values and letters a reading holds, each counted each time it is reached (what is shared counts as often as it is met; a slice's spare places count too). A statement '..UptoSaid' is the law's where the arguments, and the package variables that the reading takes, are together of bulk at most 1048576: NARROWER than '..Said'. Prove '..Said' where nothing that the law and all that it calls make is longer than what came in: it says more and counts as full. Else prove '..UptoSaid'. A law counts once. -/
mutual
def uptoBulk {H : Type} : DataW H → Nat
  | .lit (.string bytes) => bytes.length + 1
  | .lit _ => 1
  | .nil => 1
  | .ptr d => uptoBulk d + 1
  | .slice elems spare => uptoBulkAll elems + uptoBulkAll spare + 1
  | .agg parts => uptoBulkAll parts + 1
  | .iface _ d => uptoBulk d + 1
  | .map entries => uptoBulkEntries entries + 1
  | .held _ => 1
def uptoBulkAll {H : Type} : List (DataW H) → Nat
  | [] => 0
  | d :: r => uptoBulk d + uptoBulkAll r
def uptoBulkEntries {H : Type} : List (Lit × DataW H) → Nat
  | [] => 0
  | x :: r => uptoBulkEntry x + uptoBulkEntries r
def uptoBulkEntry {H : Type} : Lit × DataW H → Nat
  | (.string bytes, d) => bytes.length + uptoBulk d + 1
  | (_, d) => uptoBulk d + 1
 end
def uptoSmall : (H : Type) → List (DataW H) → Bool := fun _ ds => decide (uptoBulkAll ds ≤ 1048576)
def OpenSpec.upto (s : _root_.Go.ChangeSpec) : _root_.Go.OpenSpec := { _root_.Go.OpenSpec.ofChange s with cond := some uptoSmall }

/-- 'dolelaw15.LoadFinds', WHERE WHAT IT READS IS OF BULK AT MOST 1048576: true; the input reads as it did. -/
def loadFindsUptoRow : OpenClaim := { program := "ytigpcjikdpknnaa", sum := "fec49279d24039b9779d4b232062de14d1a8ec76794118075b503b28589d7d1b", func := "dole/dolelaw15.LoadFinds", spec := "loadFinds", unfollowed := true, recurses := true, apart := false, narrowed := true }
def LoadFindsUptoSaid : Prop := loadFindsUptoRow.holds Try.pinned (OpenSpec.upto loadFindsSpec)

/-- 'dolelaw15.LoadBest', WHERE WHAT IT READS IS OF BULK AT MOST 1048576: true; the input reads as it did. -/
def loadBestUptoRow : OpenClaim := { program := "ytigpcjikdpknnaa", sum := "fec49279d24039b9779d4b232062de14d1a8ec76794118075b503b28589d7d1b", func := "dole/dolelaw15.LoadBest", spec := "loadBest", unfollowed := true, recurses := true, apart := false, narrowed := true }
def LoadBestUptoSaid : Prop := loadBestUptoRow.holds Try.pinned (OpenSpec.upto loadBestSpec)

/-- 'dolelaw15.LoadIdles', WHERE WHAT IT READS IS OF BULK AT MOST 1048576: true; the input reads as it did. -/
def loadIdlesUptoRow : OpenClaim := { program := "ytigpcjikdpknnaa", sum := "fec49279d24039b9779d4b232062de14d1a8ec76794118075b503b28589d7d1b", func := "dole/dolelaw15.LoadIdles", spec := "loadIdles", unfollowed := true, recurses := true, apart := false, narrowed := true }
def LoadIdlesUptoSaid : Prop := loadIdlesUptoRow.holds Try.pinned (OpenSpec.upto loadIdlesSpec)

/-- 'dolelaw15.LoadMasks', WHERE WHAT IT READS IS OF BULK AT MOST 1048576: true; the input reads as it did. -/
def loadMasksUptoRow : OpenClaim := { program := "ytigpcjikdpknnaa", sum := "fec49279d24039b9779d4b232062de14d1a8ec76794118075b503b28589d7d1b", func := "dole/dolelaw15.LoadMasks", spec := "loadMasks", unfollowed := true, recurses := true, apart := false, narrowed := true }
def LoadMasksUptoSaid : Prop := loadMasksUptoRow.holds Try.pinned (OpenSpec.upto loadMasksSpec)

/-- 'dolelaw15.LoadSums', WHERE WHAT IT READS IS OF BULK AT MOST 1048576: true; the input reads as it did. -/
def loadSumsUptoRow : OpenClaim := { program := "ytigpcjikdpknnaa", sum := "fec49279d24039b9779d4b232062de14d1a8ec76794118075b503b28589d7d1b", func := "dole/dolelaw15.LoadSums", spec := "loadSums", unfollowed := true, recurses := true, apart := false, narrowed := true }
def LoadSumsUptoSaid : Prop := loadSumsUptoRow.holds Try.pinned (OpenSpec.upto loadSumsSpec)

/-- 'dolelaw15.LoadGaps', WHERE WHAT IT READS IS OF BULK AT MOST 1048576: true; the input reads as it did. -/
def loadGapsUptoRow : OpenClaim := { program := "ytigpcjikdpknnaa", sum := "fec49279d24039b9779d4b232062de14d1a8ec76794118075b503b28589d7d1b", func := "dole/dolelaw15.LoadGaps", spec := "loadGaps", unfollowed := true, recurses := true, apart := false, narrowed := true }
def LoadGapsUptoSaid : Prop := loadGapsUptoRow.holds Try.pinned (OpenSpec.upto loadGapsSpec)

/-- 'dolelaw17.PlaceChooses', WHERE WHAT IT READS IS OF BULK AT MOST 1048576: true; the input reads as it did. -/
def placeChoosesUptoRow : OpenClaim := { program := "ytigpcjikdpknnaa", sum := "fec49279d24039b9779d4b232062de14d1a8ec76794118075b503b28589d7d1b", func := "dole/dolelaw17.PlaceChooses", spec := "placeChooses", unfollowed := true, recurses := true, apart := false, narrowed := true }
def PlaceChoosesUptoSaid : Prop := placeChoosesUptoRow.holds Try.pinned (OpenSpec.upto placeChoosesSpec)

/-- 'dolelaw17.PlaceMay', WHERE WHAT IT READS IS OF BULK AT MOST 1048576: true; the input reads as it did. -/
def placeMayUptoRow : OpenClaim := { program := "ytigpcjikdpknnaa", sum := "fec49279d24039b9779d4b232062de14d1a8ec76794118075b503b28589d7d1b", func := "dole/dolelaw17.PlaceMay", spec := "placeMay", unfollowed := true, recurses := true, apart := false, narrowed := true }
def PlaceMayUptoSaid : Prop := placeMayUptoRow.holds Try.pinned (OpenSpec.upto placeMaySpec)

/-- 'dolelaw17.PlaceLeast', WHERE WHAT IT READS IS OF BULK AT MOST 1048576: true; the input reads as it did. -/
def placeLeastUptoRow : OpenClaim := { program := "ytigpcjikdpknnaa", sum := "fec49279d24039b9779d4b232062de14d1a8ec76794118075b503b28589d7d1b", func := "dole/dolelaw17.PlaceLeast", spec := "placeLeast", unfollowed := true, recurses := true, apart := false, narrowed := true }
def PlaceLeastUptoSaid : Prop := placeLeastUptoRow.holds Try.pinned (OpenSpec.upto placeLeastSpec)

/-- 'dolelaw17.PlaceStays', WHERE WHAT IT READS IS OF BULK AT MOST 1048576: true; the input reads as it did. -/
def placeStaysUptoRow : OpenClaim := { program := "ytigpcjikdpknnaa", sum := "fec49279d24039b9779d4b232062de14d1a8ec76794118075b503b28589d7d1b", func := "dole/dolelaw17.PlaceStays", spec := "placeStays", unfollowed := true, recurses := true, apart := false, narrowed := true }
def PlaceStaysUptoSaid : Prop := placeStaysUptoRow.holds Try.pinned (OpenSpec.upto placeStaysSpec)

/-- 'dolelaw17.PlaceOnes', WHERE WHAT IT READS IS OF BULK AT MOST 1048576: true; the input reads as it did. -/
def placeOnesUptoRow : OpenClaim := { program := "ytigpcjikdpknnaa", sum := "fec49279d24039b9779d4b232062de14d1a8ec76794118075b503b28589d7d1b", func := "dole/dolelaw17.PlaceOnes", spec := "placeOnes", unfollowed := true, recurses := true, apart := false, narrowed := true }
def PlaceOnesUptoSaid : Prop := placeOnesUptoRow.holds Try.pinned (OpenSpec.upto placeOnesSpec)

/-- 'dolelaw17.PlaceMore', WHERE WHAT IT READS IS OF BULK AT MOST 1048576: true; the input reads as it did. -/
def placeMoreUptoRow : OpenClaim := { program := "ytigpcjikdpknnaa", sum := "fec49279d24039b9779d4b232062de14d1a8ec76794118075b503b28589d7d1b", func := "dole/dolelaw17.PlaceMore", spec := "placeMore", unfollowed := true, recurses := true, apart := false, narrowed := true }
def PlaceMoreUptoSaid : Prop := placeMoreUptoRow.holds Try.pinned (OpenSpec.upto placeMoreSpec)

end Rows
end Go.Proofs.Ytigpcjikdpknnaa
