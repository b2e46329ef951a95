/- MaskShort: at every input the law returns true and leaves its argument as it was: a text that is parsed has a set whose text is parsed alike, and is no longer. Conditions: none beyond the row's own (the row lists three tables of Go's library; the card ties them). -/
import Derived.Test.YtdbhdjjepgdomaaDoorCards
import Derived.Test.YtdbhdjjepgdomaaDoorTie
import Derived.Test.YtdbhdjjepgdomaaDoorMaskShown
import Derived.WalkKit
import Derived.Deep.QuietTactic
import Derived.BigQuiet
import Derived.Deep.Cut
import Derived.ProofKit
import Derived.OpenShut
import Derived.ShutString
import Derived.ChangeOld
import Derived.Below
import Derived.LaidMore
import Derived.Deep.DeepHandedRow
import Derived.Deep.DeepWitnessRowRef
import Derived.Stop.Joined
import Derived.SizedLaws
namespace Go.Proofs.YtdbhdjjepgdomaaDoor.maskShort
open Go.ChangeShapes Go.WideShapes Go.ChangeAt Go.RowKit
open Go.ChangeMaps (open_string shut_string)
set_option linter.unusedVariables false

theorem own : ownKnob Tryd.prog.godebug = none := by kernel_rfl
theorem laidOut : laidOutB Tryd.prog = true := by kernel_rfl

set_option maxRecDepth 100000 in
set_option maxHeartbeats 8000000 in
theorem walk (a0 : ByteArray) (w : World) (w0 : a0.size ≤ maxLen) (m0 : a0.size ≤ 140737488351232) (hT : Known w) :
    Calls Tryd.prog 5 #[.string a0] w fun e w' => e = .returned (.bool true) ∧ Below w.heap.size w w' := by
  have HT := Lib.hid hT
  clear hT
  have hlt := parseL_lt (bl a0)
  rcases parseL_cases (bl a0) with hR | hR | ⟨m, hR⟩
  · have HR := Lib.hid hR
    clear hR hlt
    go_enter Tryd.func5, Tryd.ntmps5
    go_wp2_with fail
    refine (shown_any _ HT.out).mono ?_
    rintro e w1 ⟨rfl, hb⟩
    have HB := Lib.hid hb
    clear hb
    go_wp2_with fail
    refine (parse_any a0 _ w0).mono ?_
    rintro e w2 ⟨rfl, hb⟩
    rw [HR.out]
    have HB2 := Lib.hid (HB.out.trans (hb.mono HB.out.size))
    clear hb
    go_wp2
    go_ret
    exact ⟨rfl, HB2.out⟩
  · have HR := Lib.hid hR
    clear hR hlt
    go_enter Tryd.func5, Tryd.ntmps5
    go_wp2_with fail
    refine (shown_any _ HT.out).mono ?_
    rintro e w1 ⟨rfl, hb⟩
    have HB := Lib.hid hb
    clear hb
    go_wp2_with fail
    refine (parse_any a0 _ w0).mono ?_
    rintro e w2 ⟨rfl, hb⟩
    rw [HR.out]
    have HB2 := Lib.hid (HB.out.trans (hb.mono HB.out.size))
    clear hb
    go_wp2
    go_ret
    exact ⟨rfl, HB2.out⟩
  · rw [hR] at hlt
    have hm : m < 18446744073709551616 := hlt
    have HR := Lib.hid hR
    have hsz : (str (textL m)).size ≤ maxLen := by rw [str_size]; have := text_len hm; unfold maxLen; omega
    have HP := Lib.hid (show parseL (bl (str (textL m))) = (m, 0) by rw [bl_str (text_bytes hm)]; exact parse_text hm)
    have hle : ((str (textL m)).size : Int) ≤ (a0.size : Int) := by rw [str_size, ← bl_length a0]; have := parse_short hR hm; omega
    clear hlt hR
    go_enter Tryd.func5, Tryd.ntmps5
    go_wp2_with fail
    refine (shown_any _ HT.out).mono ?_
    rintro e w1 ⟨rfl, hb⟩
    have HB := Lib.hid hb
    have HT1 := Lib.hid (Tab64.below HT.out hb (Nat.le_refl _))
    clear hb
    go_wp2_with fail
    refine (parse_any a0 _ w0).mono ?_
    rintro e w2 ⟨rfl, hb⟩
    rw [HR.out]
    have HB2 := Lib.hid (HB.out.trans (hb.mono HB.out.size))
    have HT2 := Lib.hid (Tab64.below HT1.out hb (Nat.le_refl _))
    clear hb
    go_wp2_with fail
    refine (text_any m hm _ HT2.out).mono ?_
    rintro e w3 ⟨rfl, hb⟩
    have HB3 := Lib.hid (HB2.out.trans (hb.mono HB2.out.size))
    clear hb
    generalize str (textL m) = t at hsz HP hle ⊢
    go_wp2_with fail
    refine (parse_any t _ hsz).mono ?_
    rintro e w4 ⟨rfl, hb⟩
    rw [HP.out]
    have HB4 := Lib.hid (HB3.out.trans (hb.mono HB3.out.size))
    clear hb
    go_wp2
    go_ret
    exact ⟨rfl, HB4.out⟩

/-- A world for the witness: the heap that the door's own run leaves. -/
noncomputable def laidWorld (os : Os) : World := World.doorLaid Tryd.prog 24 os
theorem laid_met (os : Os) : laidMetH Tryd.prog Rows.maskShortRow.laid ((laidWorld os).forCall (fun _ _ => 0) ⟨#[], #[.string .empty], []⟩).memory :=
  laidMetH_of_parts3 (fuel := 8) (laidMet_of_run' 8 (by kernel_rfl) (by kernel_rfl)) (by kernel_rfl) (by kernel_rfl)
theorem reads (os : Os) {H : Type} (enc : TypeId × Value → H) : ∃ places, DataW.whole enc Tryd.prog ((laidWorld os).forCall (fun _ _ => 0) ⟨#[], #[.string .empty], []⟩).memory Tryd.f5.params.toList Rows.maskShortSpec.vars false #[.string .empty].toList 8 = some ([.lit (.string [])], [], places) :=
  ⟨[], by kernel_rfl⟩
set_option maxRecDepth 100000 in
theorem lifted (os : Os) (started : os.Started) (H : Type) (enc : TypeId × Value → H) (F : Stop.Interp) :
    ReturnsInHanded {} Tryd.checked os 5 .any ((OpenSpec.ofChange Rows.maskShortSpec).preRow enc Tryd.prog Tryd.f5 Rows.maskShortRow.domain false Rows.maskShortRow.laid) (((OpenSpec.ofChange Rows.maskShortSpec).at F).post enc Tryd.prog Tryd.f5 false true false false) := by
  obtain ⟨places, hx⟩ := reads os enc
  refine returnsInHanded_of_row (C := Tryd.checked) (s := OpenSpec.ofChange Rows.maskShortSpec) own started (by kernel_rfl) Tryd.func5
    (witness_row_atRef (enc := enc) (C := Tryd.checked) false (laidWorld os) #[.string .empty] rfl (by kernel_rfl) (by kernel_rfl) (by kernel_rfl)
      (OpenSpec.preRow_of_cond 8 hx (by kernel_rfl) (fun k hk => by cases hk) (by kernel_rfl) (laid_met os))) ?_
  intro W base args ds gs before hval0 hW _ _ hsz hL _ _
  have hval : ∀ (j : Nat) t v, Tryd.f5.params[j]? = some t → args[j]? = some v → Value.okWide Tryd.prog W .any base t v := hval0
  have hW' := hW
  obtain ⟨p, q, hA0, hV, rfl, hfz, hnd⟩ := hW
  have hA : DataW.TrodAll enc Tryd.prog W 0 (fun _ => true) true Tryd.f5.params.toList args.toList ds p := hA0
  rw [Tryd.params5] at hA hval
  obtain ⟨v0, vs0, d0, ds0, p0, q0, hargs, rfl, rfl, h0, r0⟩ := trodAll_cons hA
  obtain ⟨rfl, rfl, rfl⟩ := trodAll_nil r0
  obtain rfl : args = #[v0] := by cases args; simp_all
  obtain ⟨rfl, rfl⟩ := trodVars_none hV
  obtain ⟨a0, rfl, rfl, rfl, w0⟩ := open_string Tryd.underlying9 (hval 0 9 v0 rfl rfl) h0
  have m0 : a0.size ≤ 140737488351232 := by
    have := sized_string hsz (j := 0) (t := 9) rfl rfl
    rw [Array.length_toList] at this
    exact this
  clear hA0 hval0
  refine (walk a0 W w0 m0 (known_of hL)).mono fun e W' ⟨he, bel⟩ => ?_
  subst he
  exact ⟨_, rfl, _, _, _, [], _, [], hW', trodAll_mk1 (shut_bool Tryd.underlying4 _), (trodAll_cons_mk (shut_string Tryd.underlying9 w0) trodAll_mk0), rfl, bel.frame _, fun h => by cases h⟩

theorem said : Rows.MaskShortSaid :=
  OpenClaim.holds_of_cond 5 Tryd.f5 rfl rfl rfl rfl rfl rfl rfl ⟨rfl, rfl, rfl, rfl, rfl⟩ rfl rfl rfl rfl rfl (by kernel_rfl) Tryd.func5 (by kernel_rfl)
    (of_decide_eq_true (by kernel_rfl)) (by unfold Func.isWrapper; first | (rw [if_pos (by decide +kernel)]; kernel_rfl) | (rw [if_neg (by decide +kernel)]; exact ⟨rfl, rfl⟩))
    (fun os started H enc _ F => by rw [OpenClaim.pre_eq_preRow]; exact lifted os started H enc F)
theorem plain (f : FuncId) (fn : Func) (hf : Tryd.pinned.checked.prog.funcNamed Rows.maskShortRow.func = some f) (hfn : Tryd.pinned.checked.prog.funcs[f]? = some fn) :
    false = Tryd.pinned.checked.prog.looks [] ∧ ∀ (j : Nat) t, fn.params[j]? = some t → Tryd.pinned.checked.prog.wantsStandIn t = false := by
  obtain rfl : f = 5 := Option.some.inj ((show Tryd.prog.funcNamed Rows.maskShortRow.func = some 5 by kernel_rfl).symm.trans hf) |>.symm
  obtain rfl : fn = Tryd.f5 := (Option.some.inj (Tryd.func5.symm.trans hfn)).symm
  refine ⟨by kernel_rfl, fun j t ht => ?_⟩
  rw [Tryd.params5] at ht
  have hm := Array.mem_of_getElem? ht
  simp at hm
  subst hm
  exact (show Tryd.prog.wantsStandIn 9 = false by kernel_rfl)
theorem proved : Rows.MaskShortCardSaid :=
  Claim7.holds_tied_plain_at .later [] _ _ _ _ said (fun _ h => by cases h) (by kernel_rfl) (fun _ h => by cases h) maskShort_row_tie rfl ⟨rfl, rfl⟩ (by kernel_rfl) rfl plain (by kernel_rfl)
#print axioms proved
end Go.Proofs.YtdbhdjjepgdomaaDoor.maskShort
