/- event.write, at each kind of field. Conditions: the field's cell holds such a number. -/
import Derived.Test.YtcboopkalpmglaaDoorEvFields
import Derived.Test.YtcboopkalpmglaaDoorMaskText
namespace Go.Proofs.YtcboopkalpmglaaDoor
set_option linter.unusedVariables false
open Go.RowKit
theorem as_pp (v : Value) (w : World) : (Instr.typeAssert (.iface 71 v) 20 71 true).run Tryd.prog w = .ok (.tuple #[v, .bool true]) w := by kernel_rfl
theorem as_nn (v : Value) (w : World) : (Instr.typeAssert (.iface 75 v) 20 75 true).run Tryd.prog w = .ok (.tuple #[v, .bool true]) w := by kernel_rfl
theorem as_ss (v : Value) (w : World) : (Instr.typeAssert (.iface 79 v) 20 79 true).run Tryd.prog w = .ok (.tuple #[v, .bool true]) w := by kernel_rfl
theorem as_np (v : Value) (w : World) : (Instr.typeAssert (.iface 75 v) 20 71 true).run Tryd.prog w = .ok (.tuple #[.agg #[.pointer none], .bool false]) w := by kernel_rfl
theorem as_sp (v : Value) (w : World) : (Instr.typeAssert (.iface 79 v) 20 71 true).run Tryd.prog w = .ok (.tuple #[.agg #[.pointer none], .bool false]) w := by kernel_rfl
theorem as_sn (v : Value) (w : World) : (Instr.typeAssert (.iface 79 v) 20 75 true).run Tryd.prog w = .ok (.tuple #[.agg #[.pointer none], .bool false]) w := by kernel_rfl
theorem as_ps (v : Value) (w : World) : (Instr.typeAssert (.iface 71 v) 20 79 true).run Tryd.prog w = .ok (.tuple #[.agg #[.pointer none], .bool false]) w := by kernel_rfl
theorem as_ns (v : Value) (w : World) : (Instr.typeAssert (.iface 75 v) 20 79 true).run Tryd.prog w = .ok (.tuple #[.agg #[.pointer none], .bool false]) w := by kernel_rfl
theorem as_s (v : Value) (w : World) : (Instr.typeAssert (.iface 79 v) 20 79 false).run Tryd.prog w = .ok v w := by kernel_rfl
theorem fld_s (x : Value) (w : World) : (Instr.field 79 (.agg #[x]) 0).run Tryd.prog w = .ok x w := by kernel_rfl
theorem fld_n (x : Value) (w : World) : (Instr.field 75 (.agg #[x]) 0).run Tryd.prog w = .ok x w := by kernel_rfl
theorem as_n (v : Value) (w : World) : (Instr.typeAssert (.iface 75 v) 20 75 false).run Tryd.prog w = .ok v w := by kernel_rfl
set_option maxRecDepth 20000 in
set_option maxHeartbeats 4000000 in
theorem write_place (b o : Nat) (v : Int) (w : World) (hw : EvW w) (hc : w.cell? ⟨b, o, none⟩ = some (.int .i64 v)) (hb : b < w.heap.size) (l1 : -9223372036854775808 ≤ v) (l2 : v ≤ 9223372036854775807) :
    Calls Tryd.prog 28 #[.iface 71 (.agg #[.pointer (some ⟨b, o, none⟩)])] w fun e w' => e = .returned (.string (str (dec v))) ∧ Below w.heap.size w w' := by
  have HW := Lib.hid hw
  have a1 := as_pp
  have a2 := as_nn
  have a3 := as_np
  have a4 := as_sp
  have a5 := as_sn
  have a6 := as_s
  have a7 := fld_s
  go_enter Tryd.func28, Tryd.ntmps28
  go_wp2_with fail
  refine (evItoa v l1 l2 _ (HW.out.next (belowA w _))).mono ?_
  rintro e w1 ⟨rfl, hb⟩
  have HB := Lib.hid (nx (belowA w _) hb)
  clear hb
  go_wp2
  go_ret
  exact ⟨rfl, HB.out⟩
set_option maxRecDepth 20000 in
set_option maxHeartbeats 4000000 in
theorem write_number (b o : Nat) (v : Int) (w : World) (hw : EvW w) (hc : w.cell? ⟨b, o, none⟩ = some (.int .i64 v)) (hb : b < w.heap.size) (l1 : -9223372036854775808 ≤ v) (l2 : v ≤ 9223372036854775807) :
    Calls Tryd.prog 28 #[.iface 75 (.agg #[.pointer (some ⟨b, o, none⟩)])] w fun e w' => e = .returned (.string (str (dec v))) ∧ Below w.heap.size w w' := by
  have HW := Lib.hid hw
  have a1 := as_pp
  have a2 := as_nn
  have a3 := as_np
  have a4 := as_sp
  have a5 := as_sn
  have a6 := as_s
  have a7 := fld_s
  go_enter Tryd.func28, Tryd.ntmps28
  go_wp2_with fail
  refine (evFormat v l1 l2 _ (HW.out.next ((belowA w _).alloc (by simp) _))).mono ?_
  rintro e w1 ⟨rfl, hb⟩
  have HB := Lib.hid (((belowA w _).alloc (by simp) _).trans (hb.mono (by simp; omega)))
  clear hb
  go_wp2
  go_ret
  exact ⟨rfl, HB.out⟩
/-- A set's text in an event. -/
def maskT (m : Nat) : List Nat := if m = 0 then [110, 111, 110, 101] else textL m
set_option maxRecDepth 20000 in
set_option maxHeartbeats 4000000 in
theorem write_set (b o : Nat) (m : Nat) (w : World) (hw : EvW w) (hc : w.cell? ⟨b, o, none⟩ = some (.int .u64 (m : Int))) (hb : b < w.heap.size) (hm : m < 18446744073709551616) :
    Calls Tryd.prog 28 #[.iface 79 (.agg #[.pointer (some ⟨b, o, none⟩)])] w fun e w' => e = .returned (.string (str (maskT m))) ∧ Below w.heap.size w w' := by
  have HW := Lib.hid hw
  have a1 := as_pp
  have a2 := as_nn
  have a3 := as_np
  have a4 := as_sp
  have a5 := as_sn
  have a6 := as_s
  have a7 := fld_s
  by_cases h0 : m = 0
  · subst h0
    go_enter Tryd.func28, Tryd.ntmps28
    go_wp2
    go_ret
    exact ⟨rfl, (belowA w _).alloc (by simp) _⟩
  · have h0' : ((m : Int) == 0) = false := by simp; omega
    have HM := Lib.hid (show maskT m = textL m by unfold maskT; rw [if_neg h0])
    clear h0
    go_enter Tryd.func28, Tryd.ntmps28
    go_wp2_with fail
    refine (text_any m hm _ (HW.out.next ((belowA w _).alloc (by simp) _)).tab).mono ?_
    rintro e w1 ⟨rfl, hb⟩
    have HB := Lib.hid (((belowA w _).alloc (by simp) _).trans (hb.mono (by simp; omega)))
    clear hb
    go_wp2
    go_ret
    exact ⟨by rw [HM.out]; rfl, HB.out⟩
end Go.Proofs.YtcboopkalpmglaaDoor
