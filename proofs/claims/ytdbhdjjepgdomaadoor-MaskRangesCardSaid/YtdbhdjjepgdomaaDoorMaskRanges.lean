/- MaskRanges: at every input the law returns true and leaves its arguments as they were: a number, and two with a hyphen, are all from the first to the second one; turned round they are refused. Conditions: none beyond the row's own (the row lists three tables of Go's library; the card ties them). -/
import Derived.Test.YtdbhdjjepgdomaaDoorCards
import Derived.Test.YtdbhdjjepgdomaaDoorTie
import Derived.Test.YtdbhdjjepgdomaaDoorMaskShown
import Derived.Test.YtdbhdjjepgdomaaDoorMaskSplit
import Derived.Test.YtdbhdjjepgdomaaDoorMaskFig
import Derived.WalkKit
import Derived.Deep.QuietTactic
import Derived.BigQuiet
import Derived.Deep.Cut
import Derived.ProofKit
import Derived.OpenShut
import Derived.ShutString
import Derived.ChangeOld
import Derived.Below
import Derived.LaidMore
import Derived.Deep.DeepHandedRow
import Derived.Deep.DeepWitnessRowRef
import Derived.Stop.Joined
import Derived.SizedLaws
namespace Go.Proofs.YtdbhdjjepgdomaaDoor.maskRanges
open Go.ChangeShapes Go.WideShapes Go.ChangeAt Go.RowKit
open Go.ChangeMaps (open_string shut_string)
set_option linter.unusedVariables false

theorem own : ownKnob Tryd.prog.godebug = none := by kernel_rfl
theorem laidOut : laidOutB Tryd.prog = true := by kernel_rfl

set_option maxRecDepth 100000 in
set_option maxHeartbeats 8000000 in
theorem walk (a0 : Int) (a1 : Int) (w : World) (w0 : (Lit.int .u8 a0).wf = true) (w1 : (Lit.int .u8 a1).wf = true) (hT : Known w) :
    Calls Tryd.prog 7 #[.int .u8 a0, .int .u8 a1] w fun e w' => e = .returned (.bool true) ∧ Below w.heap.size w w' := by
  have hb0 := bounds_u8 w0
  have hb1 := bounds_u8 w1
  obtain ⟨a, rfl⟩ := Int.eq_ofNat_of_zero_le hb0.1
  obtain ⟨b, rfl⟩ := Int.eq_ofNat_of_zero_le hb1.1
  have HT := Lib.hid hT
  clear w0 w1 hT
  obtain ⟨x, hx⟩ : ∃ x : Nat, min ((a : Int) % 64) ((b : Int) % 64) = (x : Int) := ⟨min (a % 64) (b % 64), by omega⟩
  obtain ⟨y, hy⟩ : ∃ y : Nat, max ((a : Int) % 64) ((b : Int) % 64) = (y : Int) := ⟨max (a % 64) (b % 64), by omega⟩
  have hxy : x ≤ y := by omega
  have hy64 : y < 64 := by omega
  have zx := fig_size x
  have zy := fig_size y
  have HSF := Lib.hid (span_facts ⟨x, by omega⟩ ⟨y, hy64⟩ hxy)
  have HSH := Lib.hid (span_has hxy hy64)
  have hsp := span_lt x y
  have HX := Lib.hid hx
  have HY := Lib.hid hy
  have fig_bytes : ∀ {n : Nat}, n < 100 → ∀ x ∈ figL n, x < 256 := fun h x hx => by have := figL_in _ h x hx; omega
  have e1 : bl (str (figL x) ++ ({ data := #[45] } : ByteArray) ++ str (figL y)) = figL x ++ 45 :: figL y := by
    rw [show ({ data := #[45] } : ByteArray) = str [45] from rfl, bl_append, bl_append, bl_str (fig_bytes (by omega)), bl_str (fig_bytes (by omega)), bl_str (by decide)]; simp
  have e2 : bl (str (figL y) ++ ({ data := #[45] } : ByteArray) ++ str (figL x)) = figL y ++ 45 :: figL x := by
    rw [show ({ data := #[45] } : ByteArray) = str [45] from rfl, bl_append, bl_append, bl_str (fig_bytes (by omega)), bl_str (fig_bytes (by omega)), bl_str (by decide)]; simp
  have e3 : bl (({ data := #[48] } : ByteArray) ++ str (figL x)) = 48 :: figL x := by
    rw [show ({ data := #[48] } : ByteArray) = str [48] from rfl, bl_append, bl_str (fig_bytes (by omega)), bl_str (by decide)]; rfl
  have P1 := Lib.hid (show parseL (bl (str (figL x) ++ ({ data := #[45] } : ByteArray) ++ str (figL y))) = (span x y, 0) by
    rw [e1, parse_range (by omega) (by omega), if_neg (by unfold beyond; simp; omega)])
  have P2 := Lib.hid (show parseL (bl (str (figL y) ++ ({ data := #[45] } : ByteArray) ++ str (figL x))) = if beyond y x = true then (0, 1) else (span y x, 0) by
    rw [e2, parse_range (by omega) (by omega)])
  have P3 := Lib.hid (show parseL (bl ({ data := #[54, 52] } : ByteArray)) = (0, 1) from parse_64)
  have P4 := Lib.hid (show parseL (bl (({ data := #[48] } : ByteArray) ++ str (figL x))) = (0, 11) by rw [e3]; exact parse_zero (by omega))
  have z1 : (str (figL x) ++ ({ data := #[45] } : ByteArray) ++ str (figL y)).size ≤ maxLen := by
    rw [ByteArray.size_append, ByteArray.size_append]; have : ({ data := #[45] } : ByteArray).size = 1 := rfl; unfold maxLen; omega
  have z2 : (str (figL y) ++ ({ data := #[45] } : ByteArray) ++ str (figL x)).size ≤ maxLen := by
    rw [ByteArray.size_append, ByteArray.size_append]; have : ({ data := #[45] } : ByteArray).size = 1 := rfl; unfold maxLen; omega
  have z3 : ({ data := #[54, 52] } : ByteArray).size ≤ maxLen := by decide
  have z4 : (({ data := #[48] } : ByteArray) ++ str (figL x)).size ≤ maxLen := by
    rw [ByteArray.size_append]; have : ({ data := #[48] } : ByteArray).size = 1 := rfl; unfold maxLen; omega
  have Z1 := Lib.hid z1
  have Z2 := Lib.hid z2
  have Z3 := Lib.hid z3
  have Z4 := Lib.hid z4
  clear hx hy e1 e2 e3 z1 z2 z3 z4 fig_bytes
  have k1 : (((y - x + 1 : Nat) : Int) == (y : Int) - (x : Int) + 1) = true := by rw [beq_iff_eq]; omega
  by_cases hq : x = y
  · have b1 : ((x : Int) == (y : Int)) = true := by rw [beq_iff_eq]; omega
    have Q2 := Lib.hid (P2.out.trans (if_neg (by unfold beyond; simp; omega)))
    clear hq
    go_enter Tryd.func7, Tryd.ntmps7
    go_wp2_with fail
    refine (shown_any _ HT.out).mono ?_
    rintro e W1 ⟨rfl, hb⟩
    have HW1 := Lib.hid hb
    have HT1 := Lib.hid (Tab64.below HT.out hb (Nat.le_refl _))
    clear hb
    go_wp2_with fail
    rw [HX.out, HY.out]
    refine (lawFig_any x _ (by omega)).mono ?_
    rintro e W2 ⟨rfl, hb⟩
    have HW2 := Lib.hid (HW1.out.trans (hb.mono HW1.out.size))
    have HT2 := Lib.hid (Tab64.below HT1.out hb (Nat.le_refl _))
    clear hb
    go_wp2_with fail
    refine (lawFig_any y _ (by omega)).mono ?_
    rintro e W3 ⟨rfl, hb⟩
    have HW3 := Lib.hid (HW2.out.trans (hb.mono HW2.out.size))
    have HT3 := Lib.hid (Tab64.below HT2.out hb (Nat.le_refl _))
    clear hb
    go_wp2_with fail
    refine (parse_any _ _ Z1.out).mono ?_
    rintro e W4 ⟨rfl, hb⟩
    rw [P1.out]
    have HW4 := Lib.hid (HW3.out.trans (hb.mono HW3.out.size))
    have HT4 := Lib.hid (Tab64.below HT3.out hb (Nat.le_refl _))
    clear hb
    go_wp2_with fail
    refine (lawFig_any y _ (by omega)).mono ?_
    rintro e W5 ⟨rfl, hb⟩
    have HW5 := Lib.hid (HW4.out.trans (hb.mono HW4.out.size))
    have HT5 := Lib.hid (Tab64.below HT4.out hb (Nat.le_refl _))
    clear hb
    go_wp2_with fail
    refine (lawFig_any x _ (by omega)).mono ?_
    rintro e W6 ⟨rfl, hb⟩
    have HW6 := Lib.hid (HW5.out.trans (hb.mono HW5.out.size))
    have HT6 := Lib.hid (Tab64.below HT5.out hb (Nat.le_refl _))
    clear hb
    go_wp2_with fail
    refine (parse_any _ _ Z2.out).mono ?_
    rintro e W7 ⟨rfl, hb⟩
    rw [Q2.out]
    have HW7 := Lib.hid (HW6.out.trans (hb.mono HW6.out.size))
    have HT7 := Lib.hid (Tab64.below HT6.out hb (Nat.le_refl _))
    clear hb
    go_wp2_with fail
    refine (parse_any _ _ Z3.out).mono ?_
    rintro e W8 ⟨rfl, hb⟩
    rw [P3.out]
    have HW8 := Lib.hid (HW7.out.trans (hb.mono HW7.out.size))
    have HT8 := Lib.hid (Tab64.below HT7.out hb (Nat.le_refl _))
    clear hb
    go_wp2_with fail
    refine (lawFig_any x _ (by omega)).mono ?_
    rintro e W9 ⟨rfl, hb⟩
    have HW9 := Lib.hid (HW8.out.trans (hb.mono HW8.out.size))
    have HT9 := Lib.hid (Tab64.below HT8.out hb (Nat.le_refl _))
    clear hb
    go_wp2_with fail
    refine (parse_any _ _ Z4.out).mono ?_
    rintro e V1 ⟨rfl, hb⟩
    rw [P4.out]
    have HV1 := Lib.hid (HW9.out.trans (hb.mono HW9.out.size))
    have HU1 := Lib.hid (Tab64.below HT9.out hb (Nat.le_refl _))
    clear hb
    go_wp2_with fail
    refine (count_any (span x y) hsp _).mono ?_
    rintro e w' ⟨rfl, rfl⟩
    rw [show cnt (span x y) = y - x + 1 from HSF.out.1]
    go_wp2_with fail
    refine (first_any (span x y) hsp _ HU1.out).mono ?_
    rintro e w' ⟨rfl, rfl⟩
    rw [show firstI (span x y) = (x : Int) from HSF.out.2]
    go_wp2_with fail
    refine (has_any (span x y) hsp (y : Int) _ (by omega) (by omega)).mono ?_
    rintro e w' ⟨rfl, rfl⟩
    rw [HSH.out]
    go_wp2
    go_ret
    exact ⟨rfl, HV1.out⟩
  · have b1 : ((x : Int) == (y : Int)) = false := by rw [beq_eq_false_iff_ne]; omega
    have Q2 := Lib.hid (P2.out.trans (if_pos (by unfold beyond; simp; omega)))
    clear hq
    go_enter Tryd.func7, Tryd.ntmps7
    go_wp2_with fail
    refine (shown_any _ HT.out).mono ?_
    rintro e W1 ⟨rfl, hb⟩
    have HW1 := Lib.hid hb
    have HT1 := Lib.hid (Tab64.below HT.out hb (Nat.le_refl _))
    clear hb
    go_wp2_with fail
    rw [HX.out, HY.out]
    refine (lawFig_any x _ (by omega)).mono ?_
    rintro e W2 ⟨rfl, hb⟩
    have HW2 := Lib.hid (HW1.out.trans (hb.mono HW1.out.size))
    have HT2 := Lib.hid (Tab64.below HT1.out hb (Nat.le_refl _))
    clear hb
    go_wp2_with fail
    refine (lawFig_any y _ (by omega)).mono ?_
    rintro e W3 ⟨rfl, hb⟩
    have HW3 := Lib.hid (HW2.out.trans (hb.mono HW2.out.size))
    have HT3 := Lib.hid (Tab64.below HT2.out hb (Nat.le_refl _))
    clear hb
    go_wp2_with fail
    refine (parse_any _ _ Z1.out).mono ?_
    rintro e W4 ⟨rfl, hb⟩
    rw [P1.out]
    have HW4 := Lib.hid (HW3.out.trans (hb.mono HW3.out.size))
    have HT4 := Lib.hid (Tab64.below HT3.out hb (Nat.le_refl _))
    clear hb
    go_wp2_with fail
    refine (lawFig_any y _ (by omega)).mono ?_
    rintro e W5 ⟨rfl, hb⟩
    have HW5 := Lib.hid (HW4.out.trans (hb.mono HW4.out.size))
    have HT5 := Lib.hid (Tab64.below HT4.out hb (Nat.le_refl _))
    clear hb
    go_wp2_with fail
    refine (lawFig_any x _ (by omega)).mono ?_
    rintro e W6 ⟨rfl, hb⟩
    have HW6 := Lib.hid (HW5.out.trans (hb.mono HW5.out.size))
    have HT6 := Lib.hid (Tab64.below HT5.out hb (Nat.le_refl _))
    clear hb
    go_wp2_with fail
    refine (parse_any _ _ Z2.out).mono ?_
    rintro e W7 ⟨rfl, hb⟩
    rw [Q2.out]
    have HW7 := Lib.hid (HW6.out.trans (hb.mono HW6.out.size))
    have HT7 := Lib.hid (Tab64.below HT6.out hb (Nat.le_refl _))
    clear hb
    go_wp2_with fail
    refine (parse_any _ _ Z3.out).mono ?_
    rintro e W8 ⟨rfl, hb⟩
    rw [P3.out]
    have HW8 := Lib.hid (HW7.out.trans (hb.mono HW7.out.size))
    have HT8 := Lib.hid (Tab64.below HT7.out hb (Nat.le_refl _))
    clear hb
    go_wp2_with fail
    refine (lawFig_any x _ (by omega)).mono ?_
    rintro e W9 ⟨rfl, hb⟩
    have HW9 := Lib.hid (HW8.out.trans (hb.mono HW8.out.size))
    have HT9 := Lib.hid (Tab64.below HT8.out hb (Nat.le_refl _))
    clear hb
    go_wp2_with fail
    refine (parse_any _ _ Z4.out).mono ?_
    rintro e V1 ⟨rfl, hb⟩
    rw [P4.out]
    have HV1 := Lib.hid (HW9.out.trans (hb.mono HW9.out.size))
    have HU1 := Lib.hid (Tab64.below HT9.out hb (Nat.le_refl _))
    clear hb
    go_wp2_with fail
    refine (count_any (span x y) hsp _).mono ?_
    rintro e w' ⟨rfl, rfl⟩
    rw [show cnt (span x y) = y - x + 1 from HSF.out.1]
    go_wp2_with fail
    refine (first_any (span x y) hsp _ HU1.out).mono ?_
    rintro e w' ⟨rfl, rfl⟩
    rw [show firstI (span x y) = (x : Int) from HSF.out.2]
    go_wp2_with fail
    refine (has_any (span x y) hsp (y : Int) _ (by omega) (by omega)).mono ?_
    rintro e w' ⟨rfl, rfl⟩
    rw [HSH.out]
    go_wp2
    go_ret
    exact ⟨rfl, HV1.out⟩

/-- A world for the witness: the heap that the door's own run leaves. -/
noncomputable def laidWorld (os : Os) : World := World.doorLaid Tryd.prog 24 os
theorem laid_met (os : Os) : laidMetH Tryd.prog Rows.maskRangesRow.laid ((laidWorld os).forCall (fun _ _ => 0) ⟨#[], #[.int .u8 0, .int .u8 0], []⟩).memory :=
  laidMetH_of_parts3 (fuel := 8) (laidMet_of_run' 8 (by kernel_rfl) (by kernel_rfl)) (by kernel_rfl) (by kernel_rfl)
theorem reads (os : Os) {H : Type} (enc : TypeId × Value → H) : ∃ places, DataW.whole enc Tryd.prog ((laidWorld os).forCall (fun _ _ => 0) ⟨#[], #[.int .u8 0, .int .u8 0], []⟩).memory Tryd.f7.params.toList Rows.maskRangesSpec.vars false #[.int .u8 0, .int .u8 0].toList 8 = some ([.lit (.int .u8 0), .lit (.int .u8 0)], [], places) :=
  ⟨[], by kernel_rfl⟩
set_option maxRecDepth 100000 in
theorem lifted (os : Os) (started : os.Started) (H : Type) (enc : TypeId × Value → H) (F : Stop.Interp) :
    ReturnsInHanded {} Tryd.checked os 7 .any ((OpenSpec.ofChange Rows.maskRangesSpec).preRow enc Tryd.prog Tryd.f7 Rows.maskRangesRow.domain false Rows.maskRangesRow.laid) (((OpenSpec.ofChange Rows.maskRangesSpec).at F).post enc Tryd.prog Tryd.f7 false true false false) := by
  obtain ⟨places, hx⟩ := reads os enc
  refine returnsInHanded_of_row (C := Tryd.checked) (s := OpenSpec.ofChange Rows.maskRangesSpec) own started (by kernel_rfl) Tryd.func7
    (witness_row_atRef (enc := enc) (C := Tryd.checked) false (laidWorld os) #[.int .u8 0, .int .u8 0] rfl (by kernel_rfl) (by kernel_rfl) (by kernel_rfl)
      (OpenSpec.preRow_of_cond 8 hx (by kernel_rfl) (fun k hk => by cases hk) (by kernel_rfl) (laid_met os))) ?_
  intro W base args ds gs before hval0 hW _ _ hsz hL _ _
  have hval : ∀ (j : Nat) t v, Tryd.f7.params[j]? = some t → args[j]? = some v → Value.okWide Tryd.prog W .any base t v := hval0
  have hW' := hW
  obtain ⟨p, q, hA0, hV, rfl, hfz, hnd⟩ := hW
  have hA : DataW.TrodAll enc Tryd.prog W 0 (fun _ => true) true Tryd.f7.params.toList args.toList ds p := hA0
  rw [Tryd.params7] at hA hval
  obtain ⟨v0, vs0, d0, ds0, p0, q0, hargs, rfl, rfl, h0, r0⟩ := trodAll_cons hA
  obtain ⟨v1, vs1, d1, ds1, p1, q1, rfl, rfl, rfl, h1, r1⟩ := trodAll_cons r0
  obtain ⟨rfl, rfl, rfl⟩ := trodAll_nil r1
  obtain rfl : args = #[v0, v1] := by cases args; simp_all
  obtain ⟨rfl, rfl⟩ := trodVars_none hV
  obtain ⟨a0, rfl, rfl, rfl, w0⟩ := open_int Tryd.underlying5 (hval 0 5 v0 rfl rfl) h0
  obtain ⟨a1, rfl, rfl, rfl, w1⟩ := open_int Tryd.underlying5 (hval 1 5 v1 rfl rfl) h1
  clear hA0 hval0
  refine (walk a0 a1 W w0 w1 (known_of hL)).mono fun e W' ⟨he, bel⟩ => ?_
  subst he
  exact ⟨_, rfl, _, _, _, [], _, [], hW', trodAll_mk1 (shut_bool Tryd.underlying4 _), (trodAll_cons_mk (shut_int Tryd.underlying5 w0) (trodAll_cons_mk (shut_int Tryd.underlying5 w1) trodAll_mk0)), rfl, bel.frame _, fun h => by cases h⟩

theorem said : Rows.MaskRangesSaid :=
  OpenClaim.holds_of_cond 7 Tryd.f7 rfl rfl rfl rfl rfl rfl rfl ⟨rfl, rfl, rfl, rfl, rfl⟩ rfl rfl rfl rfl rfl (by kernel_rfl) Tryd.func7 (by kernel_rfl)
    (of_decide_eq_true (by kernel_rfl)) (by unfold Func.isWrapper; first | (rw [if_pos (by decide +kernel)]; kernel_rfl) | (rw [if_neg (by decide +kernel)]; exact ⟨rfl, rfl⟩))
    (fun os started H enc _ F => by rw [OpenClaim.pre_eq_preRow]; exact lifted os started H enc F)
theorem plain (f : FuncId) (fn : Func) (hf : Tryd.pinned.checked.prog.funcNamed Rows.maskRangesRow.func = some f) (hfn : Tryd.pinned.checked.prog.funcs[f]? = some fn) :
    false = Tryd.pinned.checked.prog.looks [] ∧ ∀ (j : Nat) t, fn.params[j]? = some t → Tryd.pinned.checked.prog.wantsStandIn t = false := by
  obtain rfl : f = 7 := Option.some.inj ((show Tryd.prog.funcNamed Rows.maskRangesRow.func = some 7 by kernel_rfl).symm.trans hf) |>.symm
  obtain rfl : fn = Tryd.f7 := (Option.some.inj (Tryd.func7.symm.trans hfn)).symm
  refine ⟨by kernel_rfl, fun j t ht => ?_⟩
  rw [Tryd.params7] at ht
  have hm := Array.mem_of_getElem? ht
  simp at hm
  subst hm
  exact (show Tryd.prog.wantsStandIn 5 = false by kernel_rfl)
theorem proved : Rows.MaskRangesCardSaid :=
  Claim7.holds_tied_plain_at .later [] _ _ _ _ said (fun _ h => by cases h) (by kernel_rfl) (fun _ h => by cases h) maskRanges_row_tie rfl ⟨rfl, rfl⟩ (by kernel_rfl) rfl plain (by kernel_rfl)
#print axioms proved
end Go.Proofs.YtdbhdjjepgdomaaDoor.maskRanges
