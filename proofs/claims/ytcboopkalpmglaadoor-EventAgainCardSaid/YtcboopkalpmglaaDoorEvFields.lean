/- event.fields: the fields' places, by the kind. Conditions: the event's block lies in the memory. -/
import Derived.Test.YtcboopkalpmglaaDoorEvWorld
import Derived.Deep.RegionWith
import Derived.Outline
namespace Go.Proofs.YtcboopkalpmglaaDoor
set_option linter.unusedVariables false
open Go.RowKit
/-- A kind's fields: letters. -/
def formL (k : Int) : List Nat :=
  if k = 1 ∨ k = 4 ∨ k = 11 ∨ k = 14 then [97, 110] else if k = 3 then [97, 98] else if k = 5 then [97, 110, 109] else if k = 6 then [97, 110, 115] else if k = 15 then [97, 115] else [97]
/-- A field's value: its place in the event's block. -/
def fldv (b c : Nat) : Value :=
  if c = 97 then .iface 71 (.agg #[.pointer (some ⟨b, 1, none⟩)]) else if c = 98 then .iface 71 (.agg #[.pointer (some ⟨b, 2, none⟩)])
  else if c = 110 then .iface 75 (.agg #[.pointer (some ⟨b, 3, none⟩)]) else if c = 109 then .iface 75 (.agg #[.pointer (some ⟨b, 4, none⟩)]) else .iface 79 (.agg #[.pointer (some ⟨b, 5, none⟩)])
/-- What the call leaves. -/
def FieldsGive (b : Nat) (k : Int) (w : World) (e : Ending) (w' : World) : Prop :=
  ∃ N, e = .returned (.slice (some ⟨N, 0, none⟩) (formL k).length (formL k).length) ∧ w'.heap[N]? = some (.cells ((formL k).map (fldv b)).toArray 20 (0, 0)) ∧ w.heap.size ≤ N ∧ Below w.heap.size w w'
theorem fields_end {b : Nat} {k : Int} {w w' : World} {O1 O2 : Obj} {C : Array Value} {l : Nat} {L : List Nat} (hf : formL k = L) (hC : C = (L.map (fldv b)).toArray) (hl : l = L.length) (n : Nat) (hw : w' = (((w.alloc O1).alloc O2).alloc (.cells C 20)).drewN n) :
    FieldsGive b k w (.returned (.slice (some ⟨w.heap.size + 1 + 1, 0, none⟩) (l : Nat) (l : Nat))) w' := by
  subst hw hC hl hf
  have e : ((w.alloc O1).alloc O2).heap.size = w.heap.size + 1 + 1 := by simp
  refine ⟨w.heap.size + 1 + 1, rfl, ?_, by omega, ?_⟩
  · rw [← e]; exact block_alloc ((w.alloc O1).alloc O2) _
  · exact below_drewN (((belowA w O1).alloc (by simp) O2).alloc (by simp; omega) _) n
set_option maxHeartbeats 4000000 in
theorem fields_1 (b : Nat) (k : Int) (w : World) (hb : b < w.heap.size) (hc : w.cell? ⟨b, 0, none⟩ = some (.int .i64 k)) (hk : k = 1) :
    Calls Tryd.prog 27 #[.pointer (some ⟨b, 0, none⟩)] w (FieldsGive b k w) := by
  have HF := Lib.hid (show formL k = [97, 110] by subst hk; rfl)
  subst hk
  go_enter Tryd.func27, Tryd.ntmps27
  go_upto_region 1 with fail
  go_region
  all_goals
    go_wp2
    try go_region
  all_goals
    go_wp2
    go_ret
    first
      | exact fields_end HF.out rfl rfl 1 rfl
      | exact fields_end HF.out rfl rfl 2 rfl
set_option maxHeartbeats 4000000 in
theorem fields_4 (b : Nat) (k : Int) (w : World) (hb : b < w.heap.size) (hc : w.cell? ⟨b, 0, none⟩ = some (.int .i64 k)) (hk : k = 4) :
    Calls Tryd.prog 27 #[.pointer (some ⟨b, 0, none⟩)] w (FieldsGive b k w) := by
  have HF := Lib.hid (show formL k = [97, 110] by subst hk; rfl)
  subst hk
  go_enter Tryd.func27, Tryd.ntmps27
  go_upto_region 1 with fail
  go_region
  all_goals
    go_wp2
    try go_region
  all_goals
    go_wp2
    go_ret
    first
      | exact fields_end HF.out rfl rfl 1 rfl
      | exact fields_end HF.out rfl rfl 2 rfl
set_option maxHeartbeats 4000000 in
theorem fields_11 (b : Nat) (k : Int) (w : World) (hb : b < w.heap.size) (hc : w.cell? ⟨b, 0, none⟩ = some (.int .i64 k)) (hk : k = 11) :
    Calls Tryd.prog 27 #[.pointer (some ⟨b, 0, none⟩)] w (FieldsGive b k w) := by
  have HF := Lib.hid (show formL k = [97, 110] by subst hk; rfl)
  subst hk
  go_enter Tryd.func27, Tryd.ntmps27
  go_upto_region 1 with fail
  go_region
  all_goals
    go_wp2
    try go_region
  all_goals
    go_wp2
    go_ret
    first
      | exact fields_end HF.out rfl rfl 1 rfl
      | exact fields_end HF.out rfl rfl 2 rfl
set_option maxHeartbeats 4000000 in
theorem fields_14 (b : Nat) (k : Int) (w : World) (hb : b < w.heap.size) (hc : w.cell? ⟨b, 0, none⟩ = some (.int .i64 k)) (hk : k = 14) :
    Calls Tryd.prog 27 #[.pointer (some ⟨b, 0, none⟩)] w (FieldsGive b k w) := by
  have HF := Lib.hid (show formL k = [97, 110] by subst hk; rfl)
  subst hk
  go_enter Tryd.func27, Tryd.ntmps27
  go_upto_region 1 with fail
  go_region
  all_goals
    go_wp2
    try go_region
  all_goals
    go_wp2
    go_ret
    first
      | exact fields_end HF.out rfl rfl 1 rfl
      | exact fields_end HF.out rfl rfl 2 rfl
set_option maxHeartbeats 4000000 in
theorem fields_3 (b : Nat) (k : Int) (w : World) (hb : b < w.heap.size) (hc : w.cell? ⟨b, 0, none⟩ = some (.int .i64 k)) (hk : k = 3) :
    Calls Tryd.prog 27 #[.pointer (some ⟨b, 0, none⟩)] w (FieldsGive b k w) := by
  have HF := Lib.hid (show formL k = [97, 98] by subst hk; rfl)
  subst hk
  go_enter Tryd.func27, Tryd.ntmps27
  go_upto_region 1 with fail
  go_region
  all_goals
    go_wp2
    try go_region
  all_goals
    go_wp2
    go_ret
    first
      | exact fields_end HF.out rfl rfl 1 rfl
      | exact fields_end HF.out rfl rfl 2 rfl
set_option maxHeartbeats 4000000 in
theorem fields_5 (b : Nat) (k : Int) (w : World) (hb : b < w.heap.size) (hc : w.cell? ⟨b, 0, none⟩ = some (.int .i64 k)) (hk : k = 5) :
    Calls Tryd.prog 27 #[.pointer (some ⟨b, 0, none⟩)] w (FieldsGive b k w) := by
  have HF := Lib.hid (show formL k = [97, 110, 109] by subst hk; rfl)
  subst hk
  go_enter Tryd.func27, Tryd.ntmps27
  go_upto_region 1 with fail
  go_region
  all_goals
    go_wp2
    try go_region
  all_goals
    go_wp2
    go_ret
    first
      | exact fields_end HF.out rfl rfl 1 rfl
      | exact fields_end HF.out rfl rfl 2 rfl
set_option maxHeartbeats 4000000 in
theorem fields_6 (b : Nat) (k : Int) (w : World) (hb : b < w.heap.size) (hc : w.cell? ⟨b, 0, none⟩ = some (.int .i64 k)) (hk : k = 6) :
    Calls Tryd.prog 27 #[.pointer (some ⟨b, 0, none⟩)] w (FieldsGive b k w) := by
  have HF := Lib.hid (show formL k = [97, 110, 115] by subst hk; rfl)
  subst hk
  go_enter Tryd.func27, Tryd.ntmps27
  go_upto_region 1 with fail
  go_region
  all_goals
    go_wp2
    try go_region
  all_goals
    go_wp2
    go_ret
    first
      | exact fields_end HF.out rfl rfl 1 rfl
      | exact fields_end HF.out rfl rfl 2 rfl
set_option maxHeartbeats 4000000 in
theorem fields_15 (b : Nat) (k : Int) (w : World) (hb : b < w.heap.size) (hc : w.cell? ⟨b, 0, none⟩ = some (.int .i64 k)) (hk : k = 15) :
    Calls Tryd.prog 27 #[.pointer (some ⟨b, 0, none⟩)] w (FieldsGive b k w) := by
  have HF := Lib.hid (show formL k = [97, 115] by subst hk; rfl)
  subst hk
  go_enter Tryd.func27, Tryd.ntmps27
  go_upto_region 1 with fail
  go_region
  all_goals
    go_wp2
    try go_region
  all_goals
    go_wp2
    go_ret
    first
      | exact fields_end HF.out rfl rfl 1 rfl
      | exact fields_end HF.out rfl rfl 2 rfl
set_option maxHeartbeats 4000000 in
theorem fields_o (b : Nat) (k : Int) (w : World) (hb : b < w.heap.size) (hc : w.cell? ⟨b, 0, none⟩ = some (.int .i64 k)) (h1 : k ≠ 1) (h4 : k ≠ 4) (h11 : k ≠ 11) (h14 : k ≠ 14) (h3 : k ≠ 3) (h5 : k ≠ 5) (h6 : k ≠ 6) (h15 : k ≠ 15) :
    Calls Tryd.prog 27 #[.pointer (some ⟨b, 0, none⟩)] w (FieldsGive b k w) := by
  have HF := Lib.hid (show formL k = [97] by unfold formL; rw [if_neg (by omega), if_neg h3, if_neg h5, if_neg h6, if_neg h15])
  have e1 : (k == 1) = false := beq_eq_false_iff_ne.2 h1
  have e4 : (k == 4) = false := beq_eq_false_iff_ne.2 h4
  have e11 : (k == 11) = false := beq_eq_false_iff_ne.2 h11
  have e14 : (k == 14) = false := beq_eq_false_iff_ne.2 h14
  have e3 : (k == 3) = false := beq_eq_false_iff_ne.2 h3
  have e5 : (k == 5) = false := beq_eq_false_iff_ne.2 h5
  have e6 : (k == 6) = false := beq_eq_false_iff_ne.2 h6
  have e15 : (k == 15) = false := beq_eq_false_iff_ne.2 h15
  go_enter Tryd.func27, Tryd.ntmps27
  go_upto_region 1 with fail
  go_region
  all_goals
    go_wp2
    try go_region
  all_goals
    go_wp2
    go_ret
    first
      | exact fields_end HF.out rfl rfl 1 rfl
      | exact fields_end HF.out rfl rfl 2 rfl
theorem fields_any (b : Nat) (k : Int) (w : World) (hb : b < w.heap.size) (hc : w.cell? ⟨b, 0, none⟩ = some (.int .i64 k)) :
    Calls Tryd.prog 27 #[.pointer (some ⟨b, 0, none⟩)] w (FieldsGive b k w) := by
  by_cases h1 : k = 1
  · exact fields_1 b k w hb hc h1
  by_cases h4 : k = 4
  · exact fields_4 b k w hb hc h4
  by_cases h11 : k = 11
  · exact fields_11 b k w hb hc h11
  by_cases h14 : k = 14
  · exact fields_14 b k w hb hc h14
  by_cases h3 : k = 3
  · exact fields_3 b k w hb hc h3
  by_cases h5 : k = 5
  · exact fields_5 b k w hb hc h5
  by_cases h6 : k = 6
  · exact fields_6 b k w hb hc h6
  by_cases h15 : k = 15
  · exact fields_15 b k w hb hc h15
  exact fields_o b k w hb hc h1 h4 h11 h14 h3 h5 h6 h15
end Go.Proofs.YtcboopkalpmglaaDoor
