/- The document's example. Conditions: the table of math/bits lies as its initialiser lays it. -/
import Derived.Test.YtdbhdjjepgdomaaDoorMaskText
import Derived.Test.YtdbhdjjepgdomaaDoorMaskSets
import Derived.Test.YtdbhdjjepgdomaaDoorKnown
namespace Go.Proofs.YtdbhdjjepgdomaaDoor
set_option linter.unusedVariables false
open Go.RowKit
def eg : ByteArray := str [48, 45, 51, 44, 55]
theorem eg_parse : parseL (bl eg) = (143, 0) := by decide +kernel
theorem eg_text : str (textL 143) = eg := by
  have : textL 143 = [48, 45, 51, 44, 55] := by decide +kernel
  rw [this]; rfl
theorem eg_cnt : cnt 143 = 5 := by decide +kernel
set_option maxHeartbeats 1000000 in
theorem shown_any (w : World) (hT : Known w) :
    Calls Tryd.prog 10 #[] w fun e w' => e = .returned (.bool true) ∧ Below w.heap.size w w' := by
  have HT := Lib.hid hT
  clear hT
  have hq : eg.toList = [48, 45, 51, 44, 55] := by rw [Lib.toList_data]; decide +kernel
  go_enter Tryd.func10, Tryd.ntmps10
  go_wp2_with fail
  refine (parse_any eg _ (by decide)).mono ?_
  rintro e w1 ⟨rfl, hb⟩
  rw [eg_parse]
  have HB := Lib.hid hb
  have HT1 := Lib.hid (Tab64.below HT.out hb (Nat.le_refl _))
  clear hb
  go_wp2_with fail
  refine (text_any 143 (by decide) _ HT1.out).mono ?_
  rintro e w2 ⟨rfl, hb⟩
  rw [eg_text]
  have HB2 := Lib.hid (HB.out.trans (hb.mono HB.out.size))
  clear hb
  go_wp2_with fail
  refine (count_any 143 (by decide) _).mono ?_
  rintro e w' ⟨rfl, rfl⟩
  rw [eg_cnt]
  go_wp2
  go_ret
  exact ⟨rfl, HB2.out⟩
end Go.Proofs.YtdbhdjjepgdomaaDoor
