/- event.read, at each kind of field. Conditions: the field's cell lies there; the string below 2^47 bytes. -/
import Derived.Test.YtcboopkalpmglaaDoorEvWrite
import Derived.Test.YtcboopkalpmglaaDoorEvNum
import Derived.Test.YtcboopkalpmglaaDoorMaskParse
namespace Go.Proofs.YtcboopkalpmglaaDoor
set_option linter.unusedVariables false
open Go.RowKit
/-- What a read of a place or a number leaves: OK and the number in its cell, or the form's error. -/
def ReadNum (b o : Nat) (C : Array Value) (T : Nat) (low : Bool) (s : ByteArray) (w : World) (e : Ending) (w' : World) : Prop :=
  Kept b w w' ∧ ((∃ x, numOf (bl s) = some x ∧ (low = true → 0 ≤ x) ∧ e = .returned (.int .i64 0) ∧ w'.heap[b]? = some (.cells (C.setIfInBounds o (.int .i64 x)) T (0, 0))) ∨
    ((numOf (bl s) = none ∨ ∃ x, numOf (bl s) = some x ∧ low = true ∧ x < 0) ∧ e = .returned (.int .i64 11) ∧ w'.heap[b]? = some (.cells C T (0, 0))))
set_option maxRecDepth 20000 in
set_option maxHeartbeats 4000000 in
theorem read_place (b o : Nat) (C : Array Value) (T : Nat) (v0 : Value) (s : ByteArray) (w : World) (hw : EvW w) (hC : w.heap[b]? = some (.cells C T (0, 0))) (ho : C[o]? = some v0) (hs : s.size ≤ 140737488351232) :
    Calls Tryd.prog 36 #[.iface 71 (.agg #[.pointer (some ⟨b, o, none⟩)]), .string s] w (ReadNum b o C T true s w) := by
  have HW := Lib.hid hw
  have HC := Lib.hid hC
  have hb := block_lt hC
  have a1 := as_ps
  have a2 := as_pp
  clear hC hw
  go_enter Tryd.func36, Tryd.ntmps36
  go_wp2_with fail
  refine (figures_any s _ (HW.out.next (belowA w _)) hs).mono ?_
  rintro e w1 ⟨⟨v, rfl, hv, hr⟩, hbw⟩
  have HB := Lib.hid (nx (belowA w _) hbw)
  have h1 := (HB.out.block b hb).trans HC.out
  have hc1 := block_cell h1 ho
  have hf1 := block_free (i := o) h1
  have hb1 := block_lt h1
  have H1 := Lib.hid h1
  have HV := Lib.hid hv
  clear hbw h1 hv
  have HR := Lib.hid hr
  have HK := Lib.hid (of_below (b := b) HB.out)
  clear hr
  cases hn : numOf (bl s) with
  | none =>
    have HN := Lib.hid hn
    clear hn
    go_wp2
    go_ret
    exact ⟨HK.out.trans (of_below (belowA w1 _)), .inr ⟨.inl HN.out, rfl, block_keep H1.out⟩⟩
  | some x =>
    have HN := Lib.hid hn
    obtain rfl := HV.out x hn
    clear hn
    by_cases hx : v < 0
    · have HX := Lib.hid hx
      go_wp2
      go_ret
      exact ⟨HK.out.trans (of_below (belowA w1 _)), .inr ⟨.inr ⟨v, HN.out, rfl, HX.out⟩, rfl, block_keep H1.out⟩⟩
    · have HX := Lib.hid hx
      go_wp2
      go_ret
      refine ⟨HK.out.trans ?_, .inl ⟨v, HN.out, fun _ => by have := HX.out; omega, rfl, ?_⟩⟩
      · exact ((Kept.refl b w1).setCell _).trans (of_below (belowA _ _))
      · exact block_keep (block_set _ H1.out)
set_option maxRecDepth 20000 in
set_option maxHeartbeats 4000000 in
theorem read_number (b o : Nat) (C : Array Value) (T : Nat) (v0 : Value) (s : ByteArray) (w : World) (hw : EvW w) (hC : w.heap[b]? = some (.cells C T (0, 0))) (ho : C[o]? = some v0) (hs : s.size ≤ 140737488351232) :
    Calls Tryd.prog 36 #[.iface 75 (.agg #[.pointer (some ⟨b, o, none⟩)]), .string s] w (ReadNum b o C T false s w) := by
  have HW := Lib.hid hw
  have HC := Lib.hid hC
  have hb := block_lt hC
  have a1 := as_ns
  have a2 := as_np
  have a3 := as_n
  have a4 := fld_n
  clear hC hw
  go_enter Tryd.func36, Tryd.ntmps36
  go_wp2_with fail
  refine (figures_any s _ (HW.out.next (belowA w _)) hs).mono ?_
  rintro e w1 ⟨⟨v, rfl, hv, hr⟩, hbw⟩
  have HB := Lib.hid (nx (belowA w _) hbw)
  have h1 := (HB.out.block b hb).trans HC.out
  have hc1 := block_cell h1 ho
  have hf1 := block_free (i := o) h1
  have hb1 := block_lt h1
  have H1 := Lib.hid h1
  have HV := Lib.hid hv
  clear hbw h1 hv
  have HR := Lib.hid hr
  have HK := Lib.hid (of_below (b := b) HB.out)
  clear hr
  cases hn : numOf (bl s) with
  | none =>
    have HN := Lib.hid hn
    clear hn
    go_wp2
    go_ret
    exact ⟨HK.out.trans (of_below (belowA w1 _)), .inr ⟨.inl HN.out, rfl, block_keep H1.out⟩⟩
  | some x =>
    have HN := Lib.hid hn
    obtain rfl := HV.out x hn
    clear hn
    go_wp2
    go_ret
    refine ⟨HK.out.trans ?_, .inl ⟨v, HN.out, (fun h => nomatch h), rfl, ?_⟩⟩
    · exact ((Kept.refl b w1).setCell _).trans (of_below (belowA _ _))
    · exact block_keep (block_set _ H1.out)
/-- What a read of a set leaves. -/
def setErr (l : List Nat) : Nat := if l = [] then 11 else (parseL l).2
def ReadSet (b o : Nat) (C : Array Value) (T : Nat) (s : ByteArray) (w : World) (e : Ending) (w' : World) : Prop :=
  Kept b w w' ∧ ((bl s = [110, 111, 110, 101] ∧ e = .returned (.int .i64 0) ∧ w'.heap[b]? = some (.cells C T (0, 0))) ∨
    (bl s ≠ [110, 111, 110, 101] ∧ e = .returned (.int .i64 (setErr (bl s) : Nat)) ∧ w'.heap[b]? = some (.cells (C.setIfInBounds o (.int .u64 ((parseL (bl s)).1 : Nat))) T (0, 0))))
theorem toList_none (s : ByteArray) : (s.toList == [110, 111, 110, 101]) = true ↔ bl s = [110, 111, 110, 101] := by
  rw [beq_iff_eq, Lib.toList_data]
  unfold bl
  constructor
  · intro h; rw [h]; rfl
  · intro h
    have := congrArg (List.map UInt8.ofNat) h
    rw [map_back] at this
    exact this
set_option maxRecDepth 20000 in
set_option maxHeartbeats 4000000 in
theorem read_set (b o : Nat) (C : Array Value) (T : Nat) (v0 : Value) (s : ByteArray) (w : World) (hC : w.heap[b]? = some (.cells C T (0, 0))) (ho : C[o]? = some v0) (hs : s.size ≤ 140737488351232) :
    Calls Tryd.prog 36 #[.iface 79 (.agg #[.pointer (some ⟨b, o, none⟩)]), .string s] w (ReadSet b o C T s w) := by
  have HC := Lib.hid hC
  have hb := block_lt hC
  have a1 := as_ss
  clear hC
  by_cases hn : bl s = [110, 111, 110, 101]
  · have HN := Lib.hid hn
    have hbe : (s.toList == [110, 111, 110, 101]) = true := (toList_none s).2 hn
    clear hn
    go_enter Tryd.func36, Tryd.ntmps36
    go_wp2
    go_ret
    exact ⟨of_below (belowA w _), .inl ⟨HN.out, rfl, block_keep HC.out⟩⟩
  · have HN := Lib.hid hn
    have hbe : (s.toList == [110, 111, 110, 101]) = false := by
      cases h : (s.toList == [110, 111, 110, 101])
      · rfl
      · exact absurd ((toList_none s).1 h) hn
    clear hn
    cases he : s.toList.isEmpty
    · have HE := Lib.hid (show setErr (bl s) = (parseL (bl s)).2 by
        unfold setErr
        rw [if_neg (fun h => by
          unfold bl at h
          rw [List.map_eq_nil_iff] at h
          rw [Lib.toList_data, h] at he
          cases he)])
      go_enter Tryd.func36, Tryd.ntmps36
      go_wp2_with fail
      refine (parse_any s _ (by unfold maxLen; omega)).mono ?_
      rintro e w1 ⟨rfl, hbw⟩
      have HB := Lib.hid (nx (belowA w _) hbw)
      have h1 := (HB.out.block b hb).trans HC.out
      have hc1 := block_cell h1 ho
      have hf1 := block_free (i := o) h1
      have hb1 := block_lt h1
      have hst : w1.cell? ⟨w.heap.size, 0, none⟩ = some (.pointer (some ⟨b, o, none⟩)) := cellb hbw (by simp) ((cnewb (j := 0)).trans rfl)
      have H1 := Lib.hid h1
      have HK := Lib.hid (of_below (b := b) HB.out)
      clear hbw h1
      generalize hm : (parseL (bl s)).1 = m
      generalize hz : (parseL (bl s)).2 = z at HE ⊢
      have HM := Lib.hid hm
      clear hm hz
      go_wp2
      go_ret
      exact ⟨HK.out.trans ((Kept.refl b w1).setCell _), .inr ⟨HN.out, by rw [HE.out]; rfl, by rw [HM.out]; exact block_set _ H1.out⟩⟩
    · have HE := Lib.hid (show setErr (bl s) = 11 by
        unfold setErr
        rw [if_pos (by
          rw [Lib.toList_data, List.isEmpty_iff] at he
          unfold bl; rw [he]; rfl)])
      go_enter Tryd.func36, Tryd.ntmps36
      go_wp2_with fail
      refine (parse_any s _ (by unfold maxLen; omega)).mono ?_
      rintro e w1 ⟨rfl, hbw⟩
      have HB := Lib.hid (nx (belowA w _) hbw)
      have h1 := (HB.out.block b hb).trans HC.out
      have hc1 := block_cell h1 ho
      have hf1 := block_free (i := o) h1
      have hb1 := block_lt h1
      have hst : w1.cell? ⟨w.heap.size, 0, none⟩ = some (.pointer (some ⟨b, o, none⟩)) := cellb hbw (by simp) ((cnewb (j := 0)).trans rfl)
      have H1 := Lib.hid h1
      have HK := Lib.hid (of_below (b := b) HB.out)
      clear hbw h1
      generalize hm : (parseL (bl s)).1 = m
      generalize hz : (parseL (bl s)).2 = z at ⊢
      have HM := Lib.hid hm
      clear hm hz
      go_wp2
      go_ret
      exact ⟨HK.out.trans ((Kept.refl b w1).setCell _), .inr ⟨HN.out, by rw [HE.out]; rfl, by rw [HM.out]; exact block_set _ H1.out⟩⟩
end Go.Proofs.YtcboopkalpmglaaDoor
