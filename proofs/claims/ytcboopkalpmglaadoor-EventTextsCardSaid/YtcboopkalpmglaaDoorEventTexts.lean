/- EventTexts: at every input the law returns true and leaves its arguments as they were: any events' text, and whether any one may be, is the document's, or refused. Conditions: none beyond the row's own (the row lists seven variables of Go's library; the card ties them; it speaks of a pruned copy of the project). -/
import Derived.Test.YtcboopkalpmglaaDoorCards
import Derived.Test.YtcboopkalpmglaaDoorTie
import Derived.Test.YtcboopkalpmglaaDoorEvShown
import Derived.Test.YtcboopkalpmglaaDoorEvLaws
import Derived.Test.YtcboopkalpmglaaDoorEvSame
import Derived.Test.YtcboopkalpmglaaDoorEvOpen
import Derived.Test.YtcboopkalpmglaaDoorEvApp
import Derived.WalkKit
import Derived.Deep.QuietTactic
import Derived.BigQuiet
import Derived.Deep.Cut
import Derived.ProofKit
import Derived.OpenShut
import Derived.ShutString
import Derived.ChangeOld
import Derived.Below
import Derived.LaidMore
import Derived.Deep.DeepHandedRow
import Derived.Deep.DeepWitnessRowRef
import Derived.Stop.Joined
import Derived.SizedLaws
import Derived.Deep.RegionHeld3
import Derived.Lay
import Derived.Test.YtcboopkalpmglaaDoorEvWit
namespace Go.Proofs.YtcboopkalpmglaaDoor.eventTexts
open Go.ChangeShapes Go.WideShapes Go.ChangeAt Go.RowKit
open Go.ChangeMaps (open_string shut_string)
set_option linter.unusedVariables false

theorem own : ownKnob Tryd.prog.godebug = none := by kernel_rfl
theorem laidOut : laidOutB Tryd.prog = true := by kernel_rfl

set_option maxRecDepth 100000 in
set_option maxHeartbeats 8000000 in
theorem walk (a0 : Option Addr) (len0 cap0 : Nat) (z0 : List Ev) (a1 : Value) (z1 : Ev) (w : World) (w0 : IsEvs w a0 len0 cap0 z0) (w1 : IsEv w a1 z1) (hT : Known w) :
    Calls Tryd.prog 5 #[.slice a0 len0 cap0, a1] w fun e w' => e = .returned (.bool true) ∧ Below w.heap.size w w' := by
  obtain ⟨hlc, hcm, hr, hok⟩ := w0
  obtain ⟨rfl, hoe⟩ := w1
  have lz := hr.1
  have HR := Lib.hid hr
  have HOK := Lib.hid hok
  have HT := Lib.hid hT
  clear hr hok hT hoe
  obtain ⟨M, hM⟩ : ∃ M, mayB z1 = M := ⟨_, rfl⟩
  have HM := Lib.hid hM
  clear hM
  have hMM : (M == M) = true := by cases M <;> rfl
  go_enter Tryd.func5, Tryd.ntmps5
  go_upto_region 1 with fail
  generalize hV : World.alloc w _ = V
  have HTV := Lib.hid (one_of hV)
  have HBV := Lib.hid HTV.out.2
  have HGV := Lib.hid HTV.out.1
  have hvs := block_lt HTV.out.1
  clear hV HTV
  have HTv := Lib.hid (HT.out.next HBV.out)
  have HRv := Lib.hid (HR.out.next HBV.out)
  have hvw := HBV.out.size
  generalize hg : w.heap.size = gb at HGV hvs ⊢
  have HW0 := Lib.hid hg
  go_wp2_with fail
  refine (shown19_any _ HTv.out).mono ?_
  rintro e W1 ⟨rfl, hb⟩
  have HB1 := Lib.hid (HBV.out.trans (hb.mono hvw))
  have HT1 := Lib.hid (HTv.out.next hb)
  have HR1 := Lib.hid (HRv.out.next hb)
  have HG1 := Lib.hid ((hb.block _ hvs).trans HGV.out)
  clear hb
  by_cases hl : 1100 < len0
  · have hl' : (1100 : Int) < (len0 : Int) := by omega
    go_wp2
    go_ret
    exact ⟨rfl, HW0.out ▸ HB1.out⟩
  · have hl' : ¬ (1100 : Int) < (len0 : Int) := by omega
    obtain ⟨⟨S, X⟩, hX⟩ : ∃ X, textRes z0 = X := ⟨_, rfl⟩
    have HX := Lib.hid hX
    clear hX
    have hss : ((str S).toList == (str S).toList) = true := by simp
    have hxx : ((X : Int) == (X : Int)) = true := by simp
    go_wp2_with fail
    refine (text_prog a0 len0 cap0 z0 _ HT1.out HR1.out (by omega) HOK.out).mono ?_
    rintro x W2 ⟨rfl, hb⟩
    rw [HX.out]
    have HB2 := Lib.hid (HB1.out.trans (hb.mono HB1.out.size))
    have HR2 := Lib.hid (HR1.out.next hb)
    have HG2 := Lib.hid ((hb.block _ (block_lt HG1.out)).trans HG1.out)
    clear hb
    go_wp2_with fail
    refine (refText19_any a0 len0 cap0 z0 _ HR2.out (by omega) HOK.out).mono ?_
    rintro x W3 ⟨rfl, hb⟩
    rw [HX.out]
    have HB3 := Lib.hid (HB2.out.trans (hb.mono HB2.out.size))
    have HG3 := Lib.hid ((hb.block _ (block_lt HG2.out)).trans HG2.out)
    clear hb
    go_wp2_with fail
    refine (words_any _).mono ?_
    rintro x W4 ⟨rfl, hw⟩
    have HT4 := Lib.hid (one_of hw.symm)
    have HB4 := Lib.hid (HB3.out.trans (HT4.out.2.mono HB3.out.size))
    have HG4 := Lib.hid ((HT4.out.2.block _ (block_lt HG3.out)).trans HG3.out)
    clear hw
    go_wp2_with fail
    refine (refWords_any _).mono ?_
    rintro x W5 ⟨rfl, hw⟩
    have HT5 := Lib.hid (one_of hw.symm)
    have HB5 := Lib.hid (HB4.out.trans (HT5.out.2.mono HB4.out.size))
    have HG5 := Lib.hid ((HT5.out.2.block _ (block_lt HG4.out)).trans HG4.out)
    have HW5 := Lib.hid ((HT5.out.2.block _ (block_lt HT4.out.1)).trans HT4.out.1)
    clear hw
    have h3l := block_lt HW5.out
    have h4l := block_lt HT5.out.1
    have h5g := block_lt HG5.out
    generalize W3.heap.size = ba at HW5 h3l ⊢
    generalize hbw : W4.heap.size = bw at HT5 h4l ⊢
    go_wp2_with fail
    go_loopw [12] (fun vi wr => ∃ i : Nat, i ≤ 15 ∧ vi = .int .i64 (i : Int) ∧ Below W5.heap.size W5 wr) (fun vi _ => 15 - (intOf vi).toNat)
    case atStart => exact ⟨0, Nat.zero_le _, rfl, Below.refl _ _⟩
    case round =>
      obtain ⟨i, hi, rfl, hb⟩ := hrel
      have HBr := Lib.hid hb
      have hrs := hb.size
      clear hb
      by_cases hlt : i < 15
      · have hlt' : (i : Int) < 15 := by omega
        have ca := word_in ((HBr.out.block _ h3l).trans HW5.out) hlt
        have cb := word_in ((HBr.out.block _ h4l).trans HT5.out.1) hlt
        generalize hs2 : str (wordL ((i : Int) + 1)) = T at ca cb
        clear hs2
        have htt : (T.toList == T.toList) = true := by simp
        go_wp2
        go_region
        all_goals
          go_wp2
          go_roundw
          case rel => exact ⟨i + 1, hlt, by go_num, below_drewN HBr.out 1⟩
          case measure => simp [intOf]; omega
      · have hlt' : ¬ (i : Int) < 15 := by omega
        have HBq := Lib.hid (HB5.out.trans (HBr.out.mono HB5.out.size))
        have hgq := (HBr.out.block _ h5g).trans HG5.out
        have c0 := block_cell (i := 0) hgq rfl
        have c1 := block_cell (i := 1) hgq rfl
        have c2 := block_cell (i := 2) hgq rfl
        have c3 := block_cell (i := 3) hgq rfl
        have c4 := block_cell (i := 4) hgq rfl
        have c5 := block_cell (i := 5) hgq rfl
        have hgl := block_lt hgq
        clear hgq
        go_wp2_with fail
        go_region_held3 (fun W' => W'.cell? ⟨gb, 0, none⟩ = some (.int .i64 z1.k) ∧ W'.cell? ⟨gb, 1, none⟩ = some (.int .i64 z1.a) ∧ W'.cell? ⟨gb, 2, none⟩ = some (.int .i64 z1.b) ∧ W'.cell? ⟨gb, 3, none⟩ = some (.int .i64 z1.n) ∧ W'.cell? ⟨gb, 4, none⟩ = some (.int .i64 z1.m) ∧ W'.cell? ⟨gb, 5, none⟩ = some (.int .u64 (z1.s : Int)))
          ((refine ⟨?_, ?_, ?_, ?_, ?_, ?_⟩) <;> (first | assumption | (with_reducible refine celld ?_; assumption)))
          (first
            | (go_at_call 17; refine (may_any z1 _).mono ?_; rintro x wa ⟨rfl, hba⟩
               rw [HM.out]
               have HBa := Lib.hid (((HBq.out).drew).trans (hba.mono HBq.out.size))
               have a0 := cellb hba hgl c0
               have a1 := cellb hba hgl c1
               have a2 := cellb hba hgl c2
               have a3 := cellb hba hgl c3
               have a4 := cellb hba hgl c4
               have a5 := cellb hba hgl c5
               have hal := Nat.lt_of_lt_of_le hgl hba.size
               clear hba)
            | (go_at_call 18; refine (refMay_any z1 _).mono ?_; rintro x wb ⟨rfl, hbb⟩
               rw [HM.out]
               have HBb := Lib.hid (HBa.out.trans (hbb.mono HBa.out.size))
               have b0 := cellb hbb hal a0
               have b1 := cellb hbb hal a1
               have b2 := cellb hbb hal a2
               have b3 := cellb hbb hal a3
               have b4 := cellb hbb hal a4
               have b5 := cellb hbb hal a5
               clear hbb))
        all_goals
          go_wp2
          go_ret
          exact ⟨rfl, HW0.out ▸ HBb.out⟩

/-- A world for the witness: the listed data laid by the library's law. -/
noncomputable def laidWorld (os : Os) : World := World.laidAll Tryd.prog os Rows.eventTextsRow.laid
theorem laid_met (os : Os) : laidMetH Tryd.prog Rows.eventTextsRow.laid ((laidWorld os).forCall (fun _ _ => 0) ⟨#[], #[.slice none 0 0, .agg #[.int .i64 0, .int .i64 0, .int .i64 0, .int .i64 0, .int .i64 0, .int .u64 0]], []⟩).memory :=
  by rw [MakeChecks.laidMetH_plain _ _ _ (by kernel_rfl)]; exact laidMet_laidAll _ (by kernel_rfl) (by kernel_rfl)
theorem reads (os : Os) {H : Type} (enc : TypeId × Value → H) : ∃ places, DataW.whole enc Tryd.prog ((laidWorld os).forCall (fun _ _ => 0) ⟨#[], #[.slice none 0 0, .agg #[.int .i64 0, .int .i64 0, .int .i64 0, .int .i64 0, .int .i64 0, .int .u64 0]], []⟩).memory Tryd.f5.params.toList Rows.eventTextsSpec.vars false #[.slice none 0 0, .agg #[.int .i64 0, .int .i64 0, .int .i64 0, .int .i64 0, .int .i64 0, .int .u64 0]].toList 8 = some ([.nil, .agg [.lit (.int .i64 0), .lit (.int .i64 0), .lit (.int .i64 0), .lit (.int .i64 0), .lit (.int .i64 0), .lit (.int .u64 0)]], [], places) :=
  ⟨[], by kernel_rfl⟩
set_option maxRecDepth 100000 in
theorem lifted (os : Os) (started : os.Started) (H : Type) (enc : TypeId × Value → H) (F : Stop.Interp) :
    ReturnsInHanded {} Tryd.checked os 5 .any ((OpenSpec.ofChange Rows.eventTextsSpec).preRow enc Tryd.prog Tryd.f5 Rows.eventTextsRow.domain false Rows.eventTextsRow.laid) (((OpenSpec.ofChange Rows.eventTextsSpec).at F).post enc Tryd.prog Tryd.f5 false true false false) := by
  obtain ⟨places, hx⟩ := reads os enc
  refine returnsInHanded_of_row (C := Tryd.checked) (s := OpenSpec.ofChange Rows.eventTextsSpec) own started (by kernel_rfl) Tryd.func5
    (witness_lay (enc := enc) (C := Tryd.checked) (laidWorld os) #[.slice none 0 0, .agg #[.int .i64 0, .int .i64 0, .int .i64 0, .int .i64 0, .int .i64 0, .int .u64 0]] (World.laidAll_os _ _ _) (World.shaped_of_ZipB (by kernel_rfl) (by kernel_rfl)) (by kernel_rfl)
      (OpenSpec.preRow_of_cond 8 hx (by kernel_rfl) (fun k hk => by cases hk) (by kernel_rfl) (laid_met os))) ?_
  intro W base args ds gs before hval0 hW _ _ hsz hL hsh _
  have hval : ∀ (j : Nat) t v, Tryd.f5.params[j]? = some t → args[j]? = some v → Value.okWide Tryd.prog W .any base t v := hval0
  have hW' := hW
  obtain ⟨p, q, hA0, hV, rfl, hfz, hnd⟩ := hW
  have hA : DataW.TrodAll enc Tryd.prog W 0 (fun _ => true) true Tryd.f5.params.toList args.toList ds p := hA0
  rw [Tryd.params5] at hA hval
  obtain ⟨v0, vs0, d0, ds0, p0, q0, hargs, rfl, rfl, h0, r0⟩ := trodAll_cons hA
  obtain ⟨v1, vs1, d1, ds1, p1, q1, rfl, rfl, rfl, h1, r1⟩ := trodAll_cons r0
  obtain ⟨rfl, rfl, rfl⟩ := trodAll_nil r1
  obtain rfl : args = #[v0, v1] := by cases args; simp_all
  obtain ⟨rfl, rfl⟩ := trodVars_none hV
  obtain ⟨a0, len0, cap0, rfl⟩ := okWide_slice Tryd.underlying23 (hval 0 23 v0 rfl rfl)
  have k0 := h0
  have lt0 : ∀ x ∈ p0, x.block < W.heap.size := by obtain ⟨m, hm⟩ := k0; exact DataW.trod_lt m _ _ _ hm
  obtain ⟨z0, w0⟩ : ∃ z, IsEvs W a0 len0 cap0 z := by
    obtain ⟨fuel, hf⟩ := h0
    exact open_evs hf
  have k1 := h1
  have lt1 : ∀ x ∈ p1, x.block < W.heap.size := by obtain ⟨m, hm⟩ := k1; exact DataW.trod_lt m _ _ _ hm
  obtain ⟨z1, w1⟩ : ∃ z, IsEv W v1 z := open_ev (hval 1 34 v1 rfl rfl) h1
  clear hA0 hval0
  refine (walk a0 len0 cap0 z0 v1 z1 W w0 w1 (known_of hL hsh)).mono fun e W' ⟨he, bel⟩ => ?_
  subst he
  exact ⟨_, rfl, _, _, _, [], _, [], hW', trodAll_mk1 (shut_bool Tryd.underlying4 _), (trodAll_cons_mk (Below.trod laidOut (by kernel_rfl) (of_decide_eq_true (by kernel_rfl)) k0 bel lt0) (trodAll_cons_mk (Below.trod laidOut (by kernel_rfl) (of_decide_eq_true (by kernel_rfl)) k1 bel lt1) trodAll_mk0)), rfl, bel.frame _, fun h => by cases h⟩

theorem said : Rows.EventTextsSaid :=
  OpenClaim.holds_of_cond 5 Tryd.f5 rfl rfl rfl rfl rfl rfl rfl ⟨rfl, rfl, rfl, rfl, rfl⟩ rfl rfl rfl rfl rfl (by kernel_rfl) Tryd.func5 (by kernel_rfl)
    (of_decide_eq_true (by kernel_rfl)) (by unfold Func.isWrapper; first | (rw [if_pos (by decide +kernel)]; kernel_rfl) | (rw [if_neg (by decide +kernel)]; exact ⟨rfl, rfl⟩))
    (fun os started H enc _ F => by rw [OpenClaim.pre_eq_preRow]; exact lifted os started H enc F)
theorem plain (f : FuncId) (fn : Func) (hf : Tryd.pinned.checked.prog.funcNamed Rows.eventTextsRow.func = some f) (hfn : Tryd.pinned.checked.prog.funcs[f]? = some fn) :
    true = Tryd.pinned.checked.prog.looks [] ∧ ∀ (j : Nat) t, fn.params[j]? = some t → Tryd.pinned.checked.prog.wantsStandIn t = false := by
  obtain rfl : f = 5 := Option.some.inj ((show Tryd.prog.funcNamed Rows.eventTextsRow.func = some 5 by kernel_rfl).symm.trans hf) |>.symm
  obtain rfl : fn = Tryd.f5 := (Option.some.inj (Tryd.func5.symm.trans hfn)).symm
  refine ⟨by kernel_rfl, fun j t ht => ?_⟩
  rw [Tryd.params5] at ht
  have hm := Array.mem_of_getElem? ht
  simp at hm
  rcases hm with rfl | rfl
  · exact (show Tryd.prog.wantsStandIn 23 = false by kernel_rfl)
  · exact (show Tryd.prog.wantsStandIn 34 = false by kernel_rfl)
theorem proved : Rows.EventTextsCardSaid :=
  Claim7.holds_tied_plain_at .later [] _ _ _ _ said (fun _ h => by cases h) (by kernel_rfl) (fun _ h => by cases h) eventTexts_row_tie rfl ⟨rfl, rfl⟩ (by kernel_rfl) rfl plain (by kernel_rfl)
#print axioms proved
end Go.Proofs.YtcboopkalpmglaaDoor.eventTexts
