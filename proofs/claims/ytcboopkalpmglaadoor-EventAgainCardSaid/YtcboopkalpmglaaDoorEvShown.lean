/- The document's example of events. Conditions: the library's variables hold what their initialisers lay. -/
import Derived.Test.YtcboopkalpmglaaDoorEvKnown
import Derived.Test.YtcboopkalpmglaaDoorEvParse
import Derived.Test.YtcboopkalpmglaaDoorEvText
import Derived.Test.YtcboopkalpmglaaDoorEvRefParse
import Derived.Test.YtcboopkalpmglaaDoorEvRefText
namespace Go.Proofs.YtcboopkalpmglaaDoor
set_option linter.unusedVariables false
open Go.RowKit
def eg19 : ByteArray := ⟨#[115, 112, 97, 119, 110, 32, 48, 32, 45, 53, 32, 48, 45, 51, 10]⟩
theorem eg19_parse : scriptL (bl eg19) = ([⟨6, 0, 0, -5, 0, 15⟩], 0, 0) := by kernel_rfl
theorem eg19_may : mayB ⟨6, 0, 0, -5, 0, 15⟩ = true := by kernel_rfl
set_option maxRecDepth 20000 in
set_option maxHeartbeats 1000000 in
theorem shown19_any (w : World) (hT : Known w) :
    Calls Tryd.prog 9 #[] w fun e w' => e = .returned (.bool true) ∧ Below w.heap.size w w' := by
  have HT := Lib.hid hT
  clear hT
  go_enter Tryd.func9, Tryd.ntmps9
  go_wp2_with fail
  refine (parse_prog eg19 _ HT.out (by decide)).mono ?_
  rintro e w1 ⟨v, rfl, ho, hb⟩
  rw [eg19_parse] at ho ⊢
  obtain ⟨_, a, cap, rfl, _, _, _, hr⟩ := ho.rd
  obtain ⟨b, off, rfl, hbl, hc⟩ := rd_ev hr (by decide)
  have HX := Lib.hid (hc 0 (by decide))
  have HB := Lib.hid hb
  clear ho hr hc hb
  have x0 : w1.cell? ⟨b, off, none⟩ = some (.int .i64 6) := HX.out.c0
  have x1 : w1.cell? ⟨b, off + 1, none⟩ = some (.int .i64 0) := HX.out.c1
  have x2 : w1.cell? ⟨b, off + 2, none⟩ = some (.int .i64 0) := HX.out.c2
  have x3 : w1.cell? ⟨b, off + 3, none⟩ = some (.int .i64 (-5)) := HX.out.c3
  have x4 : w1.cell? ⟨b, off + 4, none⟩ = some (.int .i64 0) := HX.out.c4
  have x5 : w1.cell? ⟨b, off + 5, none⟩ = some (.int .u64 15) := HX.out.c5
  clear HX
  go_wp2_with fail
  refine (may_any ⟨6, 0, 0, -5, 0, 15⟩ _).mono ?_
  rintro x w2 ⟨rfl, hb2⟩
  rw [eg19_may]
  have HB2 := Lib.hid (HB.out.trans (hb2.mono HB.out.size))
  clear hb2
  go_wp2
  go_ret
  exact ⟨rfl, HB2.out⟩
end Go.Proofs.YtcboopkalpmglaaDoor
