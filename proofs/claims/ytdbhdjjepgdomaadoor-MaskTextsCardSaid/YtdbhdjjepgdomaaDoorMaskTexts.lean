/- MaskTexts: at every input the law returns true and leaves its arguments as they were: any set's text, its numbers, whether any one is in it, and those below any one, are the document's. Conditions: none beyond the row's own (the row lists three tables of Go's library; the card ties them). -/
import Derived.Test.YtdbhdjjepgdomaaDoorCards
import Derived.Test.YtdbhdjjepgdomaaDoorTie
import Derived.Test.YtdbhdjjepgdomaaDoorMaskShown
import Derived.Test.YtdbhdjjepgdomaaDoorMaskLists
import Derived.Test.YtdbhdjjepgdomaaDoorMaskRefText
import Derived.Test.YtdbhdjjepgdomaaDoorMaskSplit
import Derived.WalkKit
import Derived.Deep.QuietTactic
import Derived.BigQuiet
import Derived.Deep.Cut
import Derived.ProofKit
import Derived.OpenShut
import Derived.ShutString
import Derived.ChangeOld
import Derived.Below
import Derived.LaidMore
import Derived.Deep.DeepHandedRow
import Derived.Deep.DeepWitnessRowRef
import Derived.Stop.Joined
import Derived.SizedLaws
namespace Go.Proofs.YtdbhdjjepgdomaaDoor.maskTexts
open Go.ChangeShapes Go.WideShapes Go.ChangeAt Go.RowKit
open Go.ChangeMaps (open_string shut_string)
set_option linter.unusedVariables false

theorem own : ownKnob Tryd.prog.godebug = none := by kernel_rfl
theorem laidOut : laidOutB Tryd.prog = true := by kernel_rfl

set_option maxRecDepth 100000 in
set_option maxHeartbeats 8000000 in
theorem walk (a0 : Int) (a1 : Int) (w : World) (w0 : (Lit.int .u64 a0).wf = true) (w1 : (Lit.int .i64 a1).wf = true) (hT : Known w) :
    Calls Tryd.prog 8 #[.int .u64 a0, .int .i64 a1] w fun e w' => e = .returned (.bool true) ∧ Below w.heap.size w w' := by
  have hb0 := bounds_u64 w0
  have hb1 := bounds_i64 w1
  obtain ⟨m, rfl⟩ := Int.eq_ofNat_of_zero_le hb0.1
  have hm : m < 18446744073709551616 := by omega
  have HT := Lib.hid hT
  have HC := Lib.hid (bitsI_len m)
  have hlen := bitsTo_len m 64
  have hl64 : (bitsI m).length ≤ 64 := hlen
  have HF := Lib.hid (first_list hm)
  clear w0 w1 hT hlen
  have hfm : ∀ f : Int, (f == f) = true := fun f => by simp
  by_cases h0 : 0 < (bitsI m).length
  · have g0 : (0 : Int) < ((bitsI m).length : Int) := by omega
    have HF2 := Lib.hid (show firstI m = rat (bitsI m) 0 by rw [HF.out, if_pos h0])
    go_enter Tryd.func8, Tryd.ntmps8
    go_wp2_with fail
    refine (shown_any _ HT.out).mono ?_
    rintro e W1 ⟨rfl, hb⟩
    have HB1 := Lib.hid hb
    have HT1 := Lib.hid (Tab64.below HT.out hb (Nat.le_refl _))
    clear hb
    go_wp2_with fail
    refine (refList_any m hm _).mono ?_
    rintro e W2 ⟨a, cap, rfl, hr, hc1, hc2, hb⟩
    have HB2 := Lib.hid (HB1.out.trans (hb.mono HB1.out.size))
    have HT2 := Lib.hid (Tab64.below HT1.out hb (Nat.le_refl _))
    have HR := Lib.hid hr
    obtain ⟨x, xo, hx, hxb, hxc⟩ := hr.ints h0
    subst hx
    have c0 : W2.cell? ⟨x, xo, none⟩ = some (.int .i64 (rat (bitsI m) 0)) := hxc 0 h0
    clear hb hr hxc
    go_wp2_with fail
    refine (text_any m hm _ HT2.out).mono ?_
    rintro e W3 ⟨rfl, hb⟩
    have HB3 := Lib.hid (HB2.out.trans (hb.mono HB2.out.size))
    have HT3 := Lib.hid (Tab64.below HT2.out hb (Nat.le_refl _))
    have HR3 := Lib.hid (HR.out.next hb)
    clear hb
    go_wp2_with fail
    refine (refText_any m _ hm).mono ?_
    rintro e W4 ⟨rfl, hb⟩
    have HB4 := Lib.hid (HB3.out.trans (hb.mono HB3.out.size))
    have HT4 := Lib.hid (Tab64.below HT3.out hb (Nat.le_refl _))
    have HR4 := Lib.hid (HR3.out.next hb)
    clear hb
    go_wp2_with fail
    refine (list_any m hm _).mono ?_
    rintro e W5 ⟨a2, cap2, rfl, hr2, hd1, hd2, hb⟩
    have HB5 := Lib.hid (HB4.out.trans (hb.mono HB4.out.size))
    have HT5 := Lib.hid (Tab64.below HT4.out hb (Nat.le_refl _))
    have HR5 := Lib.hid (HR4.out.next hb)
    have HQ5 := Lib.hid hr2
    clear hb hr2
    go_wp2_with fail
    refine (ints_same _ _ (bitsI m).length _ _ (bitsI m) _ HQ5.out HR5.out (by omega)).mono ?_
    rintro e W6 ⟨rfl, d, hd⟩
    have HB6 := Lib.hid (show Below w.heap.size w W6 by rw [hd]; exact below_drewN HB5.out d)
    have HT6 := Lib.hid (show Tab64 W6 by rw [hd]; exact HT5.out)
    clear hd
    go_wp2_with fail
    refine (has_any m hm a1 _ hb1.1 (by omega)).mono ?_
    rintro e w' ⟨rfl, rfl⟩
    go_wp2_with fail
    refine (refHas_any m hm a1 _ hb1.1 (by omega)).mono ?_
    rintro e w' ⟨rfl, rfl⟩
    generalize hasB m a1 = hh
    go_wp2_with fail
    refine (only_any m hm a1 _ hb1.1 (by omega)).mono ?_
    rintro e w' ⟨rfl, rfl⟩
    go_wp2_with fail
    refine (refOnly_any m hm a1 _ hb1.1 (by omega)).mono ?_
    rintro e w' ⟨rfl, rfl⟩
    generalize onlyN m a1 = oo
    go_wp2_with fail
    refine (count_any m hm _).mono ?_
    rintro e w' ⟨rfl, rfl⟩
    rw [← HC.out]
    go_wp2_with fail
    refine (first_any m hm _ HT6.out).mono ?_
    rintro e w' ⟨rfl, rfl⟩
    rw [HF2.out]
    go_wp2
    go_ret
    exact ⟨rfl, HB6.out⟩
  · have g0 : ¬ (0 : Int) < ((bitsI m).length : Int) := by omega
    have HF2 := Lib.hid (show firstI m = -1 by rw [HF.out, if_neg h0])
    go_enter Tryd.func8, Tryd.ntmps8
    go_wp2_with fail
    refine (shown_any _ HT.out).mono ?_
    rintro e W1 ⟨rfl, hb⟩
    have HB1 := Lib.hid hb
    have HT1 := Lib.hid (Tab64.below HT.out hb (Nat.le_refl _))
    clear hb
    go_wp2_with fail
    refine (refList_any m hm _).mono ?_
    rintro e W2 ⟨a, cap, rfl, hr, hc1, hc2, hb⟩
    have HB2 := Lib.hid (HB1.out.trans (hb.mono HB1.out.size))
    have HT2 := Lib.hid (Tab64.below HT1.out hb (Nat.le_refl _))
    have HR := Lib.hid hr
    clear hb hr
    go_wp2_with fail
    refine (text_any m hm _ HT2.out).mono ?_
    rintro e W3 ⟨rfl, hb⟩
    have HB3 := Lib.hid (HB2.out.trans (hb.mono HB2.out.size))
    have HT3 := Lib.hid (Tab64.below HT2.out hb (Nat.le_refl _))
    have HR3 := Lib.hid (HR.out.next hb)
    clear hb
    go_wp2_with fail
    refine (refText_any m _ hm).mono ?_
    rintro e W4 ⟨rfl, hb⟩
    have HB4 := Lib.hid (HB3.out.trans (hb.mono HB3.out.size))
    have HT4 := Lib.hid (Tab64.below HT3.out hb (Nat.le_refl _))
    have HR4 := Lib.hid (HR3.out.next hb)
    clear hb
    go_wp2_with fail
    refine (list_any m hm _).mono ?_
    rintro e W5 ⟨a2, cap2, rfl, hr2, hd1, hd2, hb⟩
    have HB5 := Lib.hid (HB4.out.trans (hb.mono HB4.out.size))
    have HT5 := Lib.hid (Tab64.below HT4.out hb (Nat.le_refl _))
    have HR5 := Lib.hid (HR4.out.next hb)
    have HQ5 := Lib.hid hr2
    clear hb hr2
    go_wp2_with fail
    refine (ints_same _ _ (bitsI m).length _ _ (bitsI m) _ HQ5.out HR5.out (by omega)).mono ?_
    rintro e W6 ⟨rfl, d, hd⟩
    have HB6 := Lib.hid (show Below w.heap.size w W6 by rw [hd]; exact below_drewN HB5.out d)
    have HT6 := Lib.hid (show Tab64 W6 by rw [hd]; exact HT5.out)
    clear hd
    go_wp2_with fail
    refine (has_any m hm a1 _ hb1.1 (by omega)).mono ?_
    rintro e w' ⟨rfl, rfl⟩
    go_wp2_with fail
    refine (refHas_any m hm a1 _ hb1.1 (by omega)).mono ?_
    rintro e w' ⟨rfl, rfl⟩
    generalize hasB m a1 = hh
    go_wp2_with fail
    refine (only_any m hm a1 _ hb1.1 (by omega)).mono ?_
    rintro e w' ⟨rfl, rfl⟩
    go_wp2_with fail
    refine (refOnly_any m hm a1 _ hb1.1 (by omega)).mono ?_
    rintro e w' ⟨rfl, rfl⟩
    generalize onlyN m a1 = oo
    go_wp2_with fail
    refine (count_any m hm _).mono ?_
    rintro e w' ⟨rfl, rfl⟩
    rw [← HC.out]
    go_wp2_with fail
    refine (first_any m hm _ HT6.out).mono ?_
    rintro e w' ⟨rfl, rfl⟩
    rw [HF2.out]
    go_wp2
    go_ret
    exact ⟨rfl, HB6.out⟩

/-- A world for the witness: the heap that the door's own run leaves. -/
noncomputable def laidWorld (os : Os) : World := World.doorLaid Tryd.prog 24 os
theorem laid_met (os : Os) : laidMetH Tryd.prog Rows.maskTextsRow.laid ((laidWorld os).forCall (fun _ _ => 0) ⟨#[], #[.int .u64 0, .int .i64 0], []⟩).memory :=
  laidMetH_of_parts3 (fuel := 8) (laidMet_of_run' 8 (by kernel_rfl) (by kernel_rfl)) (by kernel_rfl) (by kernel_rfl)
theorem reads (os : Os) {H : Type} (enc : TypeId × Value → H) : ∃ places, DataW.whole enc Tryd.prog ((laidWorld os).forCall (fun _ _ => 0) ⟨#[], #[.int .u64 0, .int .i64 0], []⟩).memory Tryd.f8.params.toList Rows.maskTextsSpec.vars false #[.int .u64 0, .int .i64 0].toList 8 = some ([.lit (.int .u64 0), .lit (.int .i64 0)], [], places) :=
  ⟨[], by kernel_rfl⟩
set_option maxRecDepth 100000 in
theorem lifted (os : Os) (started : os.Started) (H : Type) (enc : TypeId × Value → H) (F : Stop.Interp) :
    ReturnsInHanded {} Tryd.checked os 8 .any ((OpenSpec.ofChange Rows.maskTextsSpec).preRow enc Tryd.prog Tryd.f8 Rows.maskTextsRow.domain false Rows.maskTextsRow.laid) (((OpenSpec.ofChange Rows.maskTextsSpec).at F).post enc Tryd.prog Tryd.f8 false true false false) := by
  obtain ⟨places, hx⟩ := reads os enc
  refine returnsInHanded_of_row (C := Tryd.checked) (s := OpenSpec.ofChange Rows.maskTextsSpec) own started (by kernel_rfl) Tryd.func8
    (witness_row_atRef (enc := enc) (C := Tryd.checked) false (laidWorld os) #[.int .u64 0, .int .i64 0] rfl (by kernel_rfl) (by kernel_rfl) (by kernel_rfl)
      (OpenSpec.preRow_of_cond 8 hx (by kernel_rfl) (fun k hk => by cases hk) (by kernel_rfl) (laid_met os))) ?_
  intro W base args ds gs before hval0 hW _ _ hsz hL _ _
  have hval : ∀ (j : Nat) t v, Tryd.f8.params[j]? = some t → args[j]? = some v → Value.okWide Tryd.prog W .any base t v := hval0
  have hW' := hW
  obtain ⟨p, q, hA0, hV, rfl, hfz, hnd⟩ := hW
  have hA : DataW.TrodAll enc Tryd.prog W 0 (fun _ => true) true Tryd.f8.params.toList args.toList ds p := hA0
  rw [Tryd.params8] at hA hval
  obtain ⟨v0, vs0, d0, ds0, p0, q0, hargs, rfl, rfl, h0, r0⟩ := trodAll_cons hA
  obtain ⟨v1, vs1, d1, ds1, p1, q1, rfl, rfl, rfl, h1, r1⟩ := trodAll_cons r0
  obtain ⟨rfl, rfl, rfl⟩ := trodAll_nil r1
  obtain rfl : args = #[v0, v1] := by cases args; simp_all
  obtain ⟨rfl, rfl⟩ := trodVars_none hV
  obtain ⟨a0, rfl, rfl, rfl, w0⟩ := open_int Tryd.underlying23 (hval 0 23 v0 rfl rfl) h0
  obtain ⟨a1, rfl, rfl, rfl, w1⟩ := open_int Tryd.underlying3 (hval 1 3 v1 rfl rfl) h1
  clear hA0 hval0
  refine (walk a0 a1 W w0 w1 (known_of hL)).mono fun e W' ⟨he, bel⟩ => ?_
  subst he
  exact ⟨_, rfl, _, _, _, [], _, [], hW', trodAll_mk1 (shut_bool Tryd.underlying4 _), (trodAll_cons_mk (shut_int Tryd.underlying23 w0) (trodAll_cons_mk (shut_int Tryd.underlying3 w1) trodAll_mk0)), rfl, bel.frame _, fun h => by cases h⟩

theorem said : Rows.MaskTextsSaid :=
  OpenClaim.holds_of_cond 8 Tryd.f8 rfl rfl rfl rfl rfl rfl rfl ⟨rfl, rfl, rfl, rfl, rfl⟩ rfl rfl rfl rfl rfl (by kernel_rfl) Tryd.func8 (by kernel_rfl)
    (of_decide_eq_true (by kernel_rfl)) (by unfold Func.isWrapper; first | (rw [if_pos (by decide +kernel)]; kernel_rfl) | (rw [if_neg (by decide +kernel)]; exact ⟨rfl, rfl⟩))
    (fun os started H enc _ F => by rw [OpenClaim.pre_eq_preRow]; exact lifted os started H enc F)
theorem plain (f : FuncId) (fn : Func) (hf : Tryd.pinned.checked.prog.funcNamed Rows.maskTextsRow.func = some f) (hfn : Tryd.pinned.checked.prog.funcs[f]? = some fn) :
    false = Tryd.pinned.checked.prog.looks [] ∧ ∀ (j : Nat) t, fn.params[j]? = some t → Tryd.pinned.checked.prog.wantsStandIn t = false := by
  obtain rfl : f = 8 := Option.some.inj ((show Tryd.prog.funcNamed Rows.maskTextsRow.func = some 8 by kernel_rfl).symm.trans hf) |>.symm
  obtain rfl : fn = Tryd.f8 := (Option.some.inj (Tryd.func8.symm.trans hfn)).symm
  refine ⟨by kernel_rfl, fun j t ht => ?_⟩
  rw [Tryd.params8] at ht
  have hm := Array.mem_of_getElem? ht
  simp at hm
  rcases hm with rfl | rfl
  · exact (show Tryd.prog.wantsStandIn 23 = false by kernel_rfl)
  · exact (show Tryd.prog.wantsStandIn 3 = false by kernel_rfl)
theorem proved : Rows.MaskTextsCardSaid :=
  Claim7.holds_tied_plain_at .later [] _ _ _ _ said (fun _ h => by cases h) (by kernel_rfl) (fun _ h => by cases h) maskTexts_row_tie rfl ⟨rfl, rfl⟩ (by kernel_rfl) rfl plain (by kernel_rfl)
#print axioms proved
end Go.Proofs.YtdbhdjjepgdomaaDoor.maskTexts
