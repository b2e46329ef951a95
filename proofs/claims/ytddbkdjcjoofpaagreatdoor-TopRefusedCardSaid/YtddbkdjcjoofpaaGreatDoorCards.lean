/-
  DERIVED. GIVEN WITH THE SEED: THE CARDS: each row of YtddbkdjcjoofpaaGreatDoorRows.lean that lists a variable, with what it lists TIED to the program's text (the seventh form; the later family's looks); each row that meets fmt, with fmt's text TOLD by the authors' own Lean function (tested against real Go, not proved from fmt's source: count such statements apart). THE CARD IS WHAT COUNTS. Prove the row's statement (the work); the ties are given (YtddbkdjcjoofpaaGreatDoorTie.lean); close each card by the builder's one call (the guide's Derived/Test/ToyasCard.lean, 'card_holds'). Laid BY PROGRAM, IN A SANDBOX (cutbox-door.mjs). By AI agents, Wed Nov 11 2026. No macro, syntax, notation, axiom, sorry.
-/
import Derived.Test.YtddbkdjcjoofpaaGreatDoorRows
import GoSem.ClaimSeven
namespace Go.Proofs.YtddbkdjcjoofpaaGreatDoor
namespace Rows

/-- THE TIED CARD OF 'doletop.TopLedger'. -/
def topLedgerCard : Claim7 := { stood := { row := topLedgerRow, standIns := [], harness := (true, "81c5b0cff35336aa71d82259593318a2c91aff43f1349abe00ab5a2a6be69ce7"), looks := true }, kinds := [], alts := [], laidByText := true, laidKinds := [.data, .data, .data, .data, .sentinel, .sentinel, .pinned], laidTests := true, laidLooks := .later }
def TopLedgerCardSaid : Prop := Claim7.holds Tryz.pinned (.plain (OpenSpec.ofChange topLedgerSpec)) topLedgerCard

/-- THE TIED CARD OF 'doletop.TopCounts'. -/
def topCountsCard : Claim7 := { stood := { row := topCountsRow, standIns := [], harness := (true, "81c5b0cff35336aa71d82259593318a2c91aff43f1349abe00ab5a2a6be69ce7"), looks := true }, kinds := [], alts := [], laidByText := true, laidKinds := [.data, .data, .data, .data, .sentinel, .sentinel, .pinned], laidTests := true, laidLooks := .later }
def TopCountsCardSaid : Prop := Claim7.holds Tryz.pinned (.plain (OpenSpec.ofChange topCountsSpec)) topCountsCard

/-- THE TIED CARD OF 'doletop.TopLoads'. -/
def topLoadsCard : Claim7 := { stood := { row := topLoadsRow, standIns := [], harness := (true, "81c5b0cff35336aa71d82259593318a2c91aff43f1349abe00ab5a2a6be69ce7"), looks := true }, kinds := [], alts := [], laidByText := true, laidKinds := [.data, .data, .data, .data, .sentinel, .sentinel, .pinned], laidTests := true, laidLooks := .later }
def TopLoadsCardSaid : Prop := Claim7.holds Tryz.pinned (.plain (OpenSpec.ofChange topLoadsSpec)) topLoadsCard

/-- THE TIED CARD OF 'doletop.TopRefused'. -/
def topRefusedCard : Claim7 := { stood := { row := topRefusedRow, standIns := [], harness := (true, "81c5b0cff35336aa71d82259593318a2c91aff43f1349abe00ab5a2a6be69ce7"), looks := true }, kinds := [], alts := [], laidByText := true, laidKinds := [.data, .data, .data, .data, .sentinel, .sentinel, .pinned], laidTests := true, laidLooks := .later }
def TopRefusedCardSaid : Prop := Claim7.holds Tryz.pinned (.plain (OpenSpec.ofChange topRefusedSpec)) topRefusedCard

/-- THE SECOND FORM's CARD OF 'doletop.TopLedger'. -/
def topLedgerUptoCard : Claim7 := { stood := { row := topLedgerUptoRow, standIns := [], harness := (true, "81c5b0cff35336aa71d82259593318a2c91aff43f1349abe00ab5a2a6be69ce7"), looks := true }, kinds := [], alts := [], laidByText := true, laidKinds := [.data, .data, .data, .data, .sentinel, .sentinel, .pinned], laidTests := true, laidLooks := .later }
def TopLedgerUptoCardSaid : Prop := Claim7.holds Tryz.pinned (.plain (OpenSpec.upto topLedgerSpec)) topLedgerUptoCard

/-- THE SECOND FORM's CARD OF 'doletop.TopCounts'. -/
def topCountsUptoCard : Claim7 := { stood := { row := topCountsUptoRow, standIns := [], harness := (true, "81c5b0cff35336aa71d82259593318a2c91aff43f1349abe00ab5a2a6be69ce7"), looks := true }, kinds := [], alts := [], laidByText := true, laidKinds := [.data, .data, .data, .data, .sentinel, .sentinel, .pinned], laidTests := true, laidLooks := .later }
def TopCountsUptoCardSaid : Prop := Claim7.holds Tryz.pinned (.plain (OpenSpec.upto topCountsSpec)) topCountsUptoCard

/-- THE SECOND FORM's CARD OF 'doletop.TopLoads'. -/
def topLoadsUptoCard : Claim7 := { stood := { row := topLoadsUptoRow, standIns := [], harness := (true, "81c5b0cff35336aa71d82259593318a2c91aff43f1349abe00ab5a2a6be69ce7"), looks := true }, kinds := [], alts := [], laidByText := true, laidKinds := [.data, .data, .data, .data, .sentinel, .sentinel, .pinned], laidTests := true, laidLooks := .later }
def TopLoadsUptoCardSaid : Prop := Claim7.holds Tryz.pinned (.plain (OpenSpec.upto topLoadsSpec)) topLoadsUptoCard

/-- THE SECOND FORM's CARD OF 'doletop.TopRefused'. -/
def topRefusedUptoCard : Claim7 := { stood := { row := topRefusedUptoRow, standIns := [], harness := (true, "81c5b0cff35336aa71d82259593318a2c91aff43f1349abe00ab5a2a6be69ce7"), looks := true }, kinds := [], alts := [], laidByText := true, laidKinds := [.data, .data, .data, .data, .sentinel, .sentinel, .pinned], laidTests := true, laidLooks := .later }
def TopRefusedUptoCardSaid : Prop := Claim7.holds Tryz.pinned (.plain (OpenSpec.upto topRefusedSpec)) topRefusedUptoCard
end Rows
end Go.Proofs.YtddbkdjcjoofpaaGreatDoor
