/- EventBack: at every input the law returns true and leaves its argument as it was: what may be is written, and read as it was. Conditions: none beyond the row's own (the row lists seven variables of Go's library; the card ties them; it speaks of a pruned copy of the project). -/
import Derived.Test.YtcboopkalpmglaaDoorCards
import Derived.Test.YtcboopkalpmglaaDoorTie
import Derived.Test.YtcboopkalpmglaaDoorEvShown
import Derived.Test.YtcboopkalpmglaaDoorEvLaws
import Derived.Test.YtcboopkalpmglaaDoorEvSame
import Derived.Test.YtcboopkalpmglaaDoorEvOpen
import Derived.Test.YtcboopkalpmglaaDoorEvApp
import Derived.WalkKit
import Derived.Deep.QuietTactic
import Derived.BigQuiet
import Derived.Deep.Cut
import Derived.ProofKit
import Derived.OpenShut
import Derived.ShutString
import Derived.ChangeOld
import Derived.Below
import Derived.LaidMore
import Derived.Deep.DeepHandedRow
import Derived.Deep.DeepWitnessRowRef
import Derived.Stop.Joined
import Derived.SizedLaws
import Derived.Deep.RegionHeld3
import Derived.Lay
import Derived.Test.YtcboopkalpmglaaDoorEvWit
namespace Go.Proofs.YtcboopkalpmglaaDoor.eventBack
open Go.ChangeShapes Go.WideShapes Go.ChangeAt Go.RowKit
open Go.ChangeMaps (open_string shut_string)
set_option linter.unusedVariables false

theorem own : ownKnob Tryd.prog.godebug = none := by kernel_rfl
theorem laidOut : laidOutB Tryd.prog = true := by kernel_rfl

set_option maxRecDepth 100000 in
set_option maxHeartbeats 8000000 in
theorem walk (a0 : Option Addr) (len0 cap0 : Nat) (z0 : List Ev) (w : World) (w0 : IsEvs w a0 len0 cap0 z0) (hT : Known w) :
    Calls Tryd.prog 6 #[.slice a0 len0 cap0] w fun e w' => e = .returned (.bool true) ∧ Below w.heap.size w w' := by
  obtain ⟨hlc, hcm, hr, hok⟩ := w0
  have lz := hr.1
  have HR := Lib.hid hr
  have HOK := Lib.hid hok
  have HT := Lib.hid hT
  clear hr hok hT
  go_enter Tryd.func6, Tryd.ntmps6
  go_wp2_with fail
  refine (shown19_any _ HT.out).mono ?_
  rintro e w1 ⟨rfl, hb⟩
  have HB := Lib.hid hb
  have HT1 := Lib.hid (HT.out.next hb)
  have HR1 := Lib.hid (HR.out.next hb)
  have h1s := hb.size
  clear hb
  by_cases hl : 1000 < len0
  · have hl' : (1000 : Int) < (len0 : Int) := by omega
    go_wp2
    go_ret
    exact ⟨rfl, HB.out⟩
  · have hl' : ¬ (1000 : Int) < (len0 : Int) := by omega
    go_wp2_with fail
    go_loopw [4, 5] (fun va vi wr => ∃ i : Nat, i ≤ len0 ∧ vi = .int .i64 (i : Int) ∧ va = .bool ((z0.take i).all mayB) ∧ Below w1.heap.size w1 wr) (fun _ vi _ => len0 - (intOf vi).toNat)
    case atStart => exact ⟨0, Nat.zero_le _, rfl, by rw [List.take_zero]; rfl, Below.refl _ _⟩
    case round =>
      obtain ⟨i, hi, rfl, rfl, hb⟩ := hrel
      have HBr := Lib.hid hb
      have hrs := hb.size
      clear hb
      by_cases hlt : i < len0
      · have hlt' : (i : Int) < (len0 : Int) := by omega
        obtain ⟨bx, ox, rfl, hbx, hcx⟩ := rd_ev HR1.out (by omega)
        have HX := Lib.hid ((hcx i hlt).below HBr.out hbx)
        have HN := Lib.hid (all_take (l := z0) (i := i) (by omega))
        clear hcx
        generalize eat z0 i = e at HX HN
        have x0 := HX.out.c0
        have x1 := HX.out.c1
        have x2 := HX.out.c2
        have x3 := HX.out.c3
        have x4 := HX.out.c4
        have x5 := HX.out.c5
        clear HX
        generalize (z0.take i).all mayB = A at HN ⊢
        go_wp2_with fail
        refine (may_any e _).mono ?_
        rintro x w2 ⟨rfl, hb2⟩
        have HB2 := Lib.hid (HBr.out.trans (hb2.mono hrs))
        clear hb2 x0 x1 x2 x3 x4 x5
        generalize mayB e = M at HN ⊢
        cases A <;> cases M
        all_goals
          go_wp2
          go_roundw
          case rel => exact ⟨i + 1, hlt, by go_num, by rw [HN.out]; rfl, HB2.out⟩
          case measure => simp [intOf]; omega
      · have hlt' : ¬ (i : Int) < (len0 : Int) := by omega
        obtain rfl : i = len0 := by omega
        rw [List.take_of_length_le (by omega)]
        have HTr := Lib.hid (HT1.out.next HBr.out)
        have HRr := Lib.hid (HR1.out.next HBr.out)
        have HB2 := Lib.hid (HB.out.trans (HBr.out.mono h1s))
        cases hall : z0.all mayB with
        | false =>
          have HE := Lib.hid (res_no hall)
          clear hall
          go_wp2_with fail
          refine (text_prog a0 i cap0 z0 _ HTr.out HRr.out (by omega) HOK.out).mono ?_
          rintro x w2 ⟨rfl, hb2⟩
          rw [HE.out, empty_str]
          have HB3 := Lib.hid (HB2.out.trans (hb2.mono HB2.out.size))
          clear hb2
          go_wp2
          go_ret
          exact ⟨rfl, HB3.out⟩
        | true =>
          have HE := Lib.hid (res_yes hall (by omega))
          have HBK := Lib.hid (back_of HOK.out (List.all_eq_true.1 hall) (by omega))
          have hsz := text_size HOK.out (by omega)
          clear hall
          go_wp2_with fail
          refine (text_prog a0 i cap0 z0 _ HTr.out HRr.out (by omega) HOK.out).mono ?_
          rintro x w2 ⟨rfl, hb2⟩
          rw [HE.out]
          have HB3 := Lib.hid (HB2.out.trans (hb2.mono HB2.out.size))
          have HT3 := Lib.hid (HTr.out.next hb2)
          have HR3 := Lib.hid (HRr.out.next hb2)
          clear hb2
          generalize str (evText z0) = S at HBK hsz ⊢
          go_wp2_with fail
          refine (parse_prog S _ HT3.out (by omega)).mono ?_
          rintro x w3 ⟨v, rfl, ho, hb3⟩
          have HB4 := Lib.hid (HB3.out.trans (hb3.mono HB3.out.size))
          have HR4 := Lib.hid (HR3.out.next hb3)
          rw [HBK.out] at ho ⊢
          obtain ⟨_, b, cb, rfl, _, _, _, r2⟩ := ho.rd
          rw [lz] at r2 ⊢
          have HR5 := Lib.hid r2
          clear ho hb3 r2
          go_wp2_with fail
          refine (same_any a0 b i i cap0 cb z0 z0 _ HR4.out HR5.out (by omega) (by omega)).mono ?_
          rintro x w4 ⟨r, rfl, hr, hb4⟩
          have hr : r = true := hr.2 rfl
          subst hr
          have HB5 := Lib.hid (HB4.out.trans (hb4.mono HB4.out.size))
          clear hb4
          go_wp2
          go_ret
          exact ⟨rfl, HB5.out⟩

/-- A world for the witness: the listed data laid by the library's law. -/
noncomputable def laidWorld (os : Os) : World := World.laidAll Tryd.prog os Rows.eventBackRow.laid
theorem laid_met (os : Os) : laidMetH Tryd.prog Rows.eventBackRow.laid ((laidWorld os).forCall (fun _ _ => 0) ⟨#[], #[.slice none 0 0], []⟩).memory :=
  by rw [MakeChecks.laidMetH_plain _ _ _ (by kernel_rfl)]; exact laidMet_laidAll _ (by kernel_rfl) (by kernel_rfl)
theorem reads (os : Os) {H : Type} (enc : TypeId × Value → H) : ∃ places, DataW.whole enc Tryd.prog ((laidWorld os).forCall (fun _ _ => 0) ⟨#[], #[.slice none 0 0], []⟩).memory Tryd.f6.params.toList Rows.eventBackSpec.vars false #[.slice none 0 0].toList 8 = some ([.nil], [], places) :=
  ⟨[], by kernel_rfl⟩
set_option maxRecDepth 100000 in
theorem lifted (os : Os) (started : os.Started) (H : Type) (enc : TypeId × Value → H) (F : Stop.Interp) :
    ReturnsInHanded {} Tryd.checked os 6 .any ((OpenSpec.ofChange Rows.eventBackSpec).preRow enc Tryd.prog Tryd.f6 Rows.eventBackRow.domain false Rows.eventBackRow.laid) (((OpenSpec.ofChange Rows.eventBackSpec).at F).post enc Tryd.prog Tryd.f6 false true false false) := by
  obtain ⟨places, hx⟩ := reads os enc
  refine returnsInHanded_of_row (C := Tryd.checked) (s := OpenSpec.ofChange Rows.eventBackSpec) own started (by kernel_rfl) Tryd.func6
    (witness_lay (enc := enc) (C := Tryd.checked) (laidWorld os) #[.slice none 0 0] (World.laidAll_os _ _ _) (World.shaped_of_ZipB (by kernel_rfl) (by kernel_rfl)) (by kernel_rfl)
      (OpenSpec.preRow_of_cond 8 hx (by kernel_rfl) (fun k hk => by cases hk) (by kernel_rfl) (laid_met os))) ?_
  intro W base args ds gs before hval0 hW _ _ hsz hL hsh _
  have hval : ∀ (j : Nat) t v, Tryd.f6.params[j]? = some t → args[j]? = some v → Value.okWide Tryd.prog W .any base t v := hval0
  have hW' := hW
  obtain ⟨p, q, hA0, hV, rfl, hfz, hnd⟩ := hW
  have hA : DataW.TrodAll enc Tryd.prog W 0 (fun _ => true) true Tryd.f6.params.toList args.toList ds p := hA0
  rw [Tryd.params6] at hA hval
  obtain ⟨v0, vs0, d0, ds0, p0, q0, hargs, rfl, rfl, h0, r0⟩ := trodAll_cons hA
  obtain ⟨rfl, rfl, rfl⟩ := trodAll_nil r0
  obtain rfl : args = #[v0] := by cases args; simp_all
  obtain ⟨rfl, rfl⟩ := trodVars_none hV
  obtain ⟨a0, len0, cap0, rfl⟩ := okWide_slice Tryd.underlying23 (hval 0 23 v0 rfl rfl)
  have k0 := h0
  have lt0 : ∀ x ∈ p0, x.block < W.heap.size := by obtain ⟨m, hm⟩ := k0; exact DataW.trod_lt m _ _ _ hm
  obtain ⟨z0, w0⟩ : ∃ z, IsEvs W a0 len0 cap0 z := by
    obtain ⟨fuel, hf⟩ := h0
    exact open_evs hf
  clear hA0 hval0
  refine (walk a0 len0 cap0 z0 W w0 (known_of hL hsh)).mono fun e W' ⟨he, bel⟩ => ?_
  subst he
  exact ⟨_, rfl, _, _, _, [], _, [], hW', trodAll_mk1 (shut_bool Tryd.underlying4 _), (trodAll_cons_mk (Below.trod laidOut (by kernel_rfl) (of_decide_eq_true (by kernel_rfl)) k0 bel lt0) trodAll_mk0), rfl, bel.frame _, fun h => by cases h⟩

theorem said : Rows.EventBackSaid :=
  OpenClaim.holds_of_cond 6 Tryd.f6 rfl rfl rfl rfl rfl rfl rfl ⟨rfl, rfl, rfl, rfl, rfl⟩ rfl rfl rfl rfl rfl (by kernel_rfl) Tryd.func6 (by kernel_rfl)
    (of_decide_eq_true (by kernel_rfl)) (by unfold Func.isWrapper; first | (rw [if_pos (by decide +kernel)]; kernel_rfl) | (rw [if_neg (by decide +kernel)]; exact ⟨rfl, rfl⟩))
    (fun os started H enc _ F => by rw [OpenClaim.pre_eq_preRow]; exact lifted os started H enc F)
theorem plain (f : FuncId) (fn : Func) (hf : Tryd.pinned.checked.prog.funcNamed Rows.eventBackRow.func = some f) (hfn : Tryd.pinned.checked.prog.funcs[f]? = some fn) :
    true = Tryd.pinned.checked.prog.looks [] ∧ ∀ (j : Nat) t, fn.params[j]? = some t → Tryd.pinned.checked.prog.wantsStandIn t = false := by
  obtain rfl : f = 6 := Option.some.inj ((show Tryd.prog.funcNamed Rows.eventBackRow.func = some 6 by kernel_rfl).symm.trans hf) |>.symm
  obtain rfl : fn = Tryd.f6 := (Option.some.inj (Tryd.func6.symm.trans hfn)).symm
  refine ⟨by kernel_rfl, fun j t ht => ?_⟩
  rw [Tryd.params6] at ht
  have hm := Array.mem_of_getElem? ht
  simp at hm
  subst hm
  exact (show Tryd.prog.wantsStandIn 23 = false by kernel_rfl)
theorem proved : Rows.EventBackCardSaid :=
  Claim7.holds_tied_plain_at .later [] _ _ _ _ said (fun _ h => by cases h) (by kernel_rfl) (fun _ h => by cases h) eventBack_row_tie rfl ⟨rfl, rfl⟩ (by kernel_rfl) rfl plain (by kernel_rfl)
#print axioms proved
end Go.Proofs.YtcboopkalpmglaaDoor.eventBack
