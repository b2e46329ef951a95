/- What the rows' lists say: the table of math/bits. Conditions: none. -/
import Derived.Test.YtdbhdjjepgdomaaDoorRows
import Derived.Test.YtdbhdjjepgdomaaDoorTz
import Derived.Lib.LaidTab
import Derived.LaidMore
import Derived.Stop.LaidErr
namespace Go.Proofs.YtdbhdjjepgdomaaDoor
set_option linter.unusedVariables false
open Go.RowKit
/-- The table's name. -/
def nm64 : String := (Rows.maskParsesRow.laid.getD 1 ("", .nil)).1
theorem gTab : Tryd.prog.globalNamed nm64 = some 0 := by kernel_rfl
theorem gTabType : (Tryd.prog.globals[0]?).map (·.type) = some 57 := by kernel_rfl
theorem cells64 : Tryd.prog.cellsOf 57 = 64 := by kernel_rfl
theorem cells8 : Tryd.prog.cellsOf 5 = 1 := by kernel_rfl
def Known (w : World) : Prop := Tab64 w
theorem known_of {W : World} (h : laidMetH Tryd.prog Rows.maskParsesRow.laid W) : Known W := by
  rw [MakeChecks.laidMetH_plain _ _ _ (by kernel_rfl)] at h
  have ht : Lib.TabIs Tryd.prog W nm64 .u8 (Lib.deBruijn64tab.map Int.ofNat) :=
    Lib.tabIs_of_head (g := 0) gTab gTabType Tryd.underlying57 Tryd.underlying5 cells8 cells64 (laidMet.tail (show laidMet Tryd.prog (_ :: _) W from h))
  intro j hj
  have := ht.cell gTab j (by simpa using hj)
  rw [this]
  have e : ∀ (l : List Nat) (j : Nat), (l.map Int.ofNat).getD j 0 = ((l.getD j 0 : Nat) : Int) := fun l j => by rw [List.getD, List.getD, List.getElem?_map]; cases l[j]? <;> rfl
  rw [e]
end Go.Proofs.YtdbhdjjepgdomaaDoor
