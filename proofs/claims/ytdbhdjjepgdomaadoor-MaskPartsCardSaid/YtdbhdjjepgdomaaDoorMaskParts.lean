/- MaskParts: at every input the law returns true and leaves its arguments as they were: those below a number and the others are all; as many as there are are counted; the least one is the first one of the list. Conditions: none beyond the row's own (the row lists three tables of Go's library; the card ties them). -/
import Derived.Test.YtdbhdjjepgdomaaDoorCards
import Derived.Test.YtdbhdjjepgdomaaDoorTie
import Derived.Test.YtdbhdjjepgdomaaDoorMaskShown
import Derived.Test.YtdbhdjjepgdomaaDoorMaskSplit
import Derived.WalkKit
import Derived.Deep.QuietTactic
import Derived.BigQuiet
import Derived.Deep.Cut
import Derived.ProofKit
import Derived.OpenShut
import Derived.ShutString
import Derived.ChangeOld
import Derived.Below
import Derived.LaidMore
import Derived.Deep.DeepHandedRow
import Derived.Deep.DeepWitnessRowRef
import Derived.Stop.Joined
import Derived.SizedLaws
namespace Go.Proofs.YtdbhdjjepgdomaaDoor.maskParts
open Go.ChangeShapes Go.WideShapes Go.ChangeAt Go.RowKit
open Go.ChangeMaps (open_string shut_string)
set_option linter.unusedVariables false

theorem own : ownKnob Tryd.prog.godebug = none := by kernel_rfl
theorem laidOut : laidOutB Tryd.prog = true := by kernel_rfl

set_option maxRecDepth 100000 in
set_option maxHeartbeats 8000000 in
theorem walk (a0 : Int) (a1 : Int) (w : World) (w0 : (Lit.int .u64 a0).wf = true) (w1 : (Lit.int .i64 a1).wf = true) (hT : Known w) :
    Calls Tryd.prog 9 #[.int .u64 a0, .int .i64 a1] w fun e w' => e = .returned (.bool true) ∧ Below w.heap.size w w' := by
  have hb0 := bounds_u64 w0
  have hb1 := bounds_i64 w1
  obtain ⟨m, rfl⟩ := Int.eq_ofNat_of_zero_le hb0.1
  have hm : m < 18446744073709551616 := by omega
  have hlo := only_lt hm a1
  have hhi := rest_lt hm a1
  have HT := Lib.hid hT
  have hl1 : (bitsI (onlyN m a1)).length ≤ 64 := bitsTo_len _ 64
  have hl2 : (bitsI (restN m a1)).length ≤ 64 := bitsTo_len _ 64
  have HC := Lib.hid (show (bitsI (onlyN m a1)).length + (bitsI (restN m a1)).length = (bitsI m).length by rw [bitsI_len, bitsI_len, bitsI_len]; exact cnt_parts hm a1)
  have HAN := Lib.hid (show bits BinOp.andNot IntKind.u64 (m : Int) (onlyN m a1 : Nat) = ((restN m a1 : Nat) : Int) from u64_andNot_nat m (onlyN m a1) hm hlo)
  have HF := Lib.hid (fun h => first_low hm a1 h)
  have HB0 := Lib.hid (fun q => only_bit hm a1 q)
  have HB1 := Lib.hid (fun q => rest_bit hm a1 q)
  clear w0 w1 hT
  go_enter Tryd.func9, Tryd.ntmps9
  go_wp2_with fail
  refine (shown_any _ HT.out).mono ?_
  rintro e W1 ⟨rfl, hb⟩
  have HW1 := Lib.hid hb
  have HT1 := Lib.hid (Tab64.below HT.out hb (Nat.le_refl _))
  clear hb
  go_wp2_with fail
  refine (only_any m hm a1 _ hb1.1 (by omega)).mono ?_
  rintro e w' ⟨rfl, rfl⟩
  generalize onlyN m a1 = lo at hlo hl1 HC HAN HF HB0 ⊢
  go_wp2_with fail
  refine (list_any lo hlo _).mono ?_
  rintro e W2 ⟨a, cap, rfl, hr, hc1, hc2, hb⟩
  have HW2 := Lib.hid (HW1.out.trans (hb.mono HW1.out.size))
  have HT2 := Lib.hid (Tab64.below HT1.out hb (Nat.le_refl _))
  have HR := Lib.hid hr
  rw [HAN.out]
  generalize restN m a1 = hi at hhi hl2 HC HAN HB1 ⊢
  clear hb hr
  go_wp2_with fail
  refine (list_any hi hhi _).mono ?_
  rintro e W3 ⟨b, cap', rfl, hr, hd1, hd2, hb⟩
  have HW3 := Lib.hid (HW2.out.trans (hb.mono HW2.out.size))
  have HT3 := Lib.hid (Tab64.below HT2.out hb (Nat.le_refl _))
  have HR3 := Lib.hid (HR.out.next hb)
  have HS3 := Lib.hid hr
  have HRT := Lib.hid (fun i h => rat_bits (m := lo) (i := i) h)
  have HST := Lib.hid (fun i h => rat_bits (m := hi) (i := i) h)
  clear hb hr HAN
  have HL1 := Lib.hid (bitsI_len lo)
  have HL2 := Lib.hid (bitsI_len hi)
  have HM := Lib.hid (bitsI_len m)
  generalize bitsI lo = L1 at hl1 hc1 HC HF HR HR3 HRT HL1 ⊢
  generalize bitsI hi = L2 at hl2 hd1 HC HS3 HST HL2 ⊢
  generalize (bitsI m).length = M at HC HM
  go_wp2_with fail
  go_loop [10] (fun vi => ∃ i : Nat, i ≤ L1.length ∧ vi = .int .i64 i) (fun vi => L1.length - (intOf vi).toNat)
  case atStart => exact ⟨0, Nat.zero_le _, rfl⟩
  case round =>
    obtain ⟨i, hi1, rfl⟩ := hrel
    by_cases g1 : i < L1.length
    · have g2 : (i : Int) < (L1.length : Int) := by omega
      obtain ⟨q, hq1, hq2, hq3⟩ := HRT.out i g1
      have hq4 := HB0.out q
      rw [hq3] at hq4
      simp at hq4
      have g3 : ¬ a1 ≤ (q : Int) := by have := hq4.1; omega
      have HHB := Lib.hid (show hasB m (q : Int) = true by rw [hasB_nat hq1]; exact hq4.2)
      obtain ⟨x, xo, hx, hxb, hxc⟩ := HR3.out.ints (by omega)
      subst hx
      have c0 := hxc i g1
      rw [hq2] at c0
      clear hq2 hq3 hq4 hxc
      go_wp2_with fail
      refine (has_any m hm (q : Int) _ (by omega) (by omega)).mono ?_
      rintro e w' ⟨rfl, rfl⟩
      rw [HHB.out]
      go_wp2
      go_round
      case rel => exact ⟨i + 1, by omega, by go_num⟩
      case measure => simp [intOf]; omega
    · have g2 : ¬ (i : Int) < (L1.length : Int) := by omega
      go_wp2_with fail
      go_loop [11] (fun vi => ∃ i : Nat, i ≤ L2.length ∧ vi = .int .i64 i) (fun vi => L2.length - (intOf vi).toNat)
      case atStart => exact ⟨0, Nat.zero_le _, rfl⟩
      case round =>
        obtain ⟨j, hj1, rfl⟩ := hrel
        by_cases g3 : j < L2.length
        · have g4 : (j : Int) < (L2.length : Int) := by omega
          obtain ⟨q, hq1, hq2, hq3⟩ := HST.out j g3
          have hq4 := HB1.out q
          rw [hq3] at hq4
          simp at hq4
          have g5 : ¬ (q : Int) < a1 := by have := hq4.2; omega
          obtain ⟨x, xo, hx, hxb, hxc⟩ := HS3.out.ints (by omega)
          subst hx
          have c0 := hxc j g3
          rw [hq2] at c0
          clear hq2 hq3 hq4 hxc
          go_wp2
          go_round
          case rel => exact ⟨j + 1, by omega, by go_num⟩
          case measure => simp [intOf]; omega
        · have g4 : ¬ (j : Int) < (L2.length : Int) := by omega
          have QL := Lib.hid (count_quiet lo L1.length hlo HL1.out W3)
          have QH := Lib.hid (count_quiet hi L2.length hhi HL2.out W3)
          have QM := Lib.hid (count_quiet m M hm HM.out W3)
          have F0 := Lib.hid (show ∀ k, Calls Tryd.prog 16 #[.int .u64 0] (W3.drewN k) fun e w'' => e = .returned (.int .i64 (-1)) ∧ ∃ j, w'' = W3.drewN j from first_quiet 0 (-1) (by decide) rfl W3 HT3.out)
          have k1 : IntKind.i64.wrap ((L1.length : Int) + (L2.length : Int)) = (M : Int) := by rw [IntKind.wrap_i64]; have := HC.out; omega
          have k2 : ((M : Int) == (M : Int)) = true := by simp
          rcases Nat.eq_zero_or_pos L1.length with hz | hz
          · have k3 : ((L1.length : Int) == 0) = true := by rw [beq_iff_eq]; omega
            have HZ := Lib.hid hz
            clear hz
            go_wp2_with fail
            go_quiet (first | (go_at_call 15; with_reducible exact QL.out _) | (go_at_call 15; with_reducible exact QH.out _) | (go_at_call 15; with_reducible exact QM.out _) | (go_at_call 16; with_reducible exact F0.out _))
            go_wp2
            go_ret
            exact ⟨rfl, below_drewN HW3.out _⟩
          · have k3 : ((L1.length : Int) == 0) = false := by rw [beq_eq_false_iff_ne]; omega
            have F1 := Lib.hid (first_quiet m (rat L1 0) hm (HF.out hz).symm W3 HT3.out)
            obtain ⟨x, xo, hx, hxb, hxc⟩ := HR3.out.ints hz
            subst hx
            have c0 : W3.cell? ⟨x, xo, none⟩ = some (.int .i64 (rat L1 0)) := hxc 0 hz
            have k4 : (rat L1 0 == rat L1 0) = true := by simp
            have k5 : (0 : Int) < (L1.length : Int) := by omega
            clear hxc
            go_wp2_with fail
            go_quiet (first | (go_at_call 15; with_reducible exact QL.out _) | (go_at_call 15; with_reducible exact QH.out _) | (go_at_call 15; with_reducible exact QM.out _) | (go_at_call 16; with_reducible exact F0.out _) | (go_at_call 16; with_reducible exact F1.out _))
            go_wp2
            go_ret
            exact ⟨rfl, below_drewN HW3.out _⟩

/-- A world for the witness: the heap that the door's own run leaves. -/
noncomputable def laidWorld (os : Os) : World := World.doorLaid Tryd.prog 24 os
theorem laid_met (os : Os) : laidMetH Tryd.prog Rows.maskPartsRow.laid ((laidWorld os).forCall (fun _ _ => 0) ⟨#[], #[.int .u64 0, .int .i64 0], []⟩).memory :=
  laidMetH_of_parts3 (fuel := 8) (laidMet_of_run' 8 (by kernel_rfl) (by kernel_rfl)) (by kernel_rfl) (by kernel_rfl)
theorem reads (os : Os) {H : Type} (enc : TypeId × Value → H) : ∃ places, DataW.whole enc Tryd.prog ((laidWorld os).forCall (fun _ _ => 0) ⟨#[], #[.int .u64 0, .int .i64 0], []⟩).memory Tryd.f9.params.toList Rows.maskPartsSpec.vars false #[.int .u64 0, .int .i64 0].toList 8 = some ([.lit (.int .u64 0), .lit (.int .i64 0)], [], places) :=
  ⟨[], by kernel_rfl⟩
set_option maxRecDepth 100000 in
theorem lifted (os : Os) (started : os.Started) (H : Type) (enc : TypeId × Value → H) (F : Stop.Interp) :
    ReturnsInHanded {} Tryd.checked os 9 .any ((OpenSpec.ofChange Rows.maskPartsSpec).preRow enc Tryd.prog Tryd.f9 Rows.maskPartsRow.domain false Rows.maskPartsRow.laid) (((OpenSpec.ofChange Rows.maskPartsSpec).at F).post enc Tryd.prog Tryd.f9 false true false false) := by
  obtain ⟨places, hx⟩ := reads os enc
  refine returnsInHanded_of_row (C := Tryd.checked) (s := OpenSpec.ofChange Rows.maskPartsSpec) own started (by kernel_rfl) Tryd.func9
    (witness_row_atRef (enc := enc) (C := Tryd.checked) false (laidWorld os) #[.int .u64 0, .int .i64 0] rfl (by kernel_rfl) (by kernel_rfl) (by kernel_rfl)
      (OpenSpec.preRow_of_cond 8 hx (by kernel_rfl) (fun k hk => by cases hk) (by kernel_rfl) (laid_met os))) ?_
  intro W base args ds gs before hval0 hW _ _ hsz hL _ _
  have hval : ∀ (j : Nat) t v, Tryd.f9.params[j]? = some t → args[j]? = some v → Value.okWide Tryd.prog W .any base t v := hval0
  have hW' := hW
  obtain ⟨p, q, hA0, hV, rfl, hfz, hnd⟩ := hW
  have hA : DataW.TrodAll enc Tryd.prog W 0 (fun _ => true) true Tryd.f9.params.toList args.toList ds p := hA0
  rw [Tryd.params9] at hA hval
  obtain ⟨v0, vs0, d0, ds0, p0, q0, hargs, rfl, rfl, h0, r0⟩ := trodAll_cons hA
  obtain ⟨v1, vs1, d1, ds1, p1, q1, rfl, rfl, rfl, h1, r1⟩ := trodAll_cons r0
  obtain ⟨rfl, rfl, rfl⟩ := trodAll_nil r1
  obtain rfl : args = #[v0, v1] := by cases args; simp_all
  obtain ⟨rfl, rfl⟩ := trodVars_none hV
  obtain ⟨a0, rfl, rfl, rfl, w0⟩ := open_int Tryd.underlying23 (hval 0 23 v0 rfl rfl) h0
  obtain ⟨a1, rfl, rfl, rfl, w1⟩ := open_int Tryd.underlying3 (hval 1 3 v1 rfl rfl) h1
  clear hA0 hval0
  refine (walk a0 a1 W w0 w1 (known_of hL)).mono fun e W' ⟨he, bel⟩ => ?_
  subst he
  exact ⟨_, rfl, _, _, _, [], _, [], hW', trodAll_mk1 (shut_bool Tryd.underlying4 _), (trodAll_cons_mk (shut_int Tryd.underlying23 w0) (trodAll_cons_mk (shut_int Tryd.underlying3 w1) trodAll_mk0)), rfl, bel.frame _, fun h => by cases h⟩

theorem said : Rows.MaskPartsSaid :=
  OpenClaim.holds_of_cond 9 Tryd.f9 rfl rfl rfl rfl rfl rfl rfl ⟨rfl, rfl, rfl, rfl, rfl⟩ rfl rfl rfl rfl rfl (by kernel_rfl) Tryd.func9 (by kernel_rfl)
    (of_decide_eq_true (by kernel_rfl)) (by unfold Func.isWrapper; first | (rw [if_pos (by decide +kernel)]; kernel_rfl) | (rw [if_neg (by decide +kernel)]; exact ⟨rfl, rfl⟩))
    (fun os started H enc _ F => by rw [OpenClaim.pre_eq_preRow]; exact lifted os started H enc F)
theorem plain (f : FuncId) (fn : Func) (hf : Tryd.pinned.checked.prog.funcNamed Rows.maskPartsRow.func = some f) (hfn : Tryd.pinned.checked.prog.funcs[f]? = some fn) :
    false = Tryd.pinned.checked.prog.looks [] ∧ ∀ (j : Nat) t, fn.params[j]? = some t → Tryd.pinned.checked.prog.wantsStandIn t = false := by
  obtain rfl : f = 9 := Option.some.inj ((show Tryd.prog.funcNamed Rows.maskPartsRow.func = some 9 by kernel_rfl).symm.trans hf) |>.symm
  obtain rfl : fn = Tryd.f9 := (Option.some.inj (Tryd.func9.symm.trans hfn)).symm
  refine ⟨by kernel_rfl, fun j t ht => ?_⟩
  rw [Tryd.params9] at ht
  have hm := Array.mem_of_getElem? ht
  simp at hm
  rcases hm with rfl | rfl
  · exact (show Tryd.prog.wantsStandIn 23 = false by kernel_rfl)
  · exact (show Tryd.prog.wantsStandIn 3 = false by kernel_rfl)
theorem proved : Rows.MaskPartsCardSaid :=
  Claim7.holds_tied_plain_at .later [] _ _ _ _ said (fun _ h => by cases h) (by kernel_rfl) (fun _ h => by cases h) maskParts_row_tie rfl ⟨rfl, rfl⟩ (by kernel_rfl) rfl plain (by kernel_rfl)
#print axioms proved
end Go.Proofs.YtdbhdjjepgdomaaDoor.maskParts
