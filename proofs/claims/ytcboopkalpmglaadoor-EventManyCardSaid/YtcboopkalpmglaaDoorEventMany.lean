/- EventMany: at every input the law returns true and leaves its arguments as they were: 1000 lines are read, one more is not. Conditions: none beyond the row's own (the row lists seven variables of Go's library; the card ties them; it speaks of a pruned copy of the project). -/
import Derived.Test.YtcboopkalpmglaaDoorCards
import Derived.Test.YtcboopkalpmglaaDoorTie
import Derived.Test.YtcboopkalpmglaaDoorEvShown
import Derived.Test.YtcboopkalpmglaaDoorEvLaws
import Derived.Test.YtcboopkalpmglaaDoorEvSame
import Derived.Test.YtcboopkalpmglaaDoorEvOpen
import Derived.Test.YtcboopkalpmglaaDoorEvApp
import Derived.WalkKit
import Derived.Deep.QuietTactic
import Derived.BigQuiet
import Derived.Deep.Cut
import Derived.ProofKit
import Derived.OpenShut
import Derived.ShutString
import Derived.ChangeOld
import Derived.Below
import Derived.LaidMore
import Derived.Deep.DeepHandedRow
import Derived.Deep.DeepWitnessRowRef
import Derived.Stop.Joined
import Derived.SizedLaws
import Derived.Deep.RegionHeld3
import Derived.Lay
import Derived.Test.YtcboopkalpmglaaDoorEvWit
namespace Go.Proofs.YtcboopkalpmglaaDoor.eventMany
open Go.ChangeShapes Go.WideShapes Go.ChangeAt Go.RowKit
open Go.ChangeMaps (open_string shut_string)
set_option linter.unusedVariables false

theorem own : ownKnob Tryd.prog.godebug = none := by kernel_rfl
theorem laidOut : laidOutB Tryd.prog = true := by kernel_rfl

set_option maxRecDepth 100000 in
set_option maxHeartbeats 8000000 in
theorem walk (a0 : Int) (a1 : Int) (w : World) (w0 : (Lit.int .u8 a0).wf = true) (w1 : (Lit.int .u8 a1).wf = true) (hT : Known w) :
    Calls Tryd.prog 8 #[.int .u8 a0, .int .u8 a1] w fun e w' => e = .returned (.bool true) ∧ Below w.heap.size w w' := by
  have hb0 := bounds_u8 w0
  have hb1 := bounds_u8 w1
  have HT := Lib.hid hT
  clear hT w0 w1
  go_enter Tryd.func8, Tryd.ntmps8
  go_wp2_with fail
  refine (shown19_any _ HT.out).mono ?_
  rintro e w1 ⟨rfl, hb⟩
  have HB := Lib.hid hb
  have HT1 := Lib.hid (HT.out.next hb)
  have h1s := hb.size
  clear hb
  go_upto_region 4 with fail
  generalize hk : 7 + a0 % 4 = k
  have hk7 : 7 ≤ k := by omega
  have hk10 : k ≤ 10 := by omega
  have HMY := Lib.hid (many_may hk7 hk10 hb1.1)
  have HOK := Lib.hid (many_ok hk7 hk10 hb1.1 hb1.2)
  clear hk
  generalize hV : World.alloc w1 _ = V
  have HTV := Lib.hid (one_of hV)
  have HBV := Lib.hid (HB.out.trans (HTV.out.2.mono h1s))
  have HG := Lib.hid (show V.heap[w1.heap.size]? = some (.cells (evC ⟨k, a1, 0, 0, 0, 0⟩) 34 (0, 0)) from HTV.out.1)
  have HTv := Lib.hid (HT1.out.next HTV.out.2)
  have hvs := block_lt HTV.out.1
  have hvw := HBV.out.size
  clear hV HTV
  generalize w1.heap.size = gb at HG hvs ⊢
  go_wp2_with fail
  go_loopw [8, 9] (fun vl vi wr => ∃ i : Nat, i ≤ 1000 ∧ vi = .int .i64 (i : Int) ∧ Own encEv wr V.heap.size 34 vl i (List.replicate i ⟨k, a1, 0, 0, 0, 0⟩) ∧ Below V.heap.size V wr) (fun _ vi _ => 1000 - (intOf vi).toNat)
  case atStart => exact ⟨0, Nat.zero_le _, rfl, Own.nil _ _ _, Below.refl _ _⟩
  case round =>
    obtain ⟨i, hi, rfl, ho, hb⟩ := hrel
    have HO := Lib.hid ho
    have HBr := Lib.hid hb
    have hrs := hb.size
    clear ho hb
    have hgq := (HBr.out.block _ hvs).trans HG.out
    have c0 := block_cell (i := 0) hgq rfl
    have c1 := block_cell (i := 1) hgq rfl
    have c2 := block_cell (i := 2) hgq rfl
    have c3 := block_cell (i := 3) hgq rfl
    have c4 := block_cell (i := 4) hgq rfl
    have c5 := block_cell (i := 5) hgq rfl
    have hgl := block_lt hgq
    clear hgq
    by_cases hlt : i < 1000
    · have hlt' : (i : Int) < 1000 := by omega
      have HOA := Lib.hid (HO.out.alloc (.cells #[.int .i64 k, .int .i64 a1, .int .i64 0, .int .i64 0, .int .i64 0, .int .u64 0] 34))
      go_wp2_with ((at_builtin; refine append_ev rfl _ _ rfl V.heap.size _ i _ rfl HOA.out wr.heap.size _ ⟨k, a1, 0, 0, 0, 0⟩ rfl (cnewb.trans rfl) (cnewb.trans rfl) (cnewb.trans rfl) (cnewb.trans rfl) (cnewb.trans rfl) (cnewb.trans rfl) (by omega) (by simp; omega) ?_; intro vl' u2 ho2 hg2))
      have HO2 := Lib.hid ho2
      have HB2 := Lib.hid ((HBr.out.alloc hrs (.cells #[.int .i64 k, .int .i64 a1, .int .i64 0, .int .i64 0, .int .i64 0, .int .u64 0] 34)).grown hg2 (by simp; omega) (fun j e => (HOA.out.lt j e).1))
      clear ho2 hg2
      go_roundw
      case rel => exact ⟨i + 1, hlt, by go_num, by rw [List.replicate_succ']; exact HO2.out, HB2.out⟩
      case measure => simp [intOf]; omega
    · have hlt' : ¬ (i : Int) < 1000 := by omega
      obtain rfl : i = 1000 := by omega
      clear hi hlt hlt' c0 c1 c2 c3 c4 c5
      have HT1' := Lib.hid (take_one ⟨k, a1, 0, 0, 0, 0⟩)
      have HMN := Lib.hid (many_rep 1000 HMY.out HOK.out)
      generalize List.replicate 1000 (⟨k, a1, 0, 0, 0, 0⟩ : Ev) = L at HO HT1' HMN
      obtain ⟨_, a, cap, rfl, hcap, hcm, _, hr⟩ := HO.out.rd
      obtain ⟨b, off, e, _⟩ := hr.cells (by omega)
      subst e
      have HR := Lib.hid hr
      have hcap1 : (1 : Int) ≤ (cap : Int) := by omega
      have HE := Lib.hid (res_ok HMN.out.may (by rw [HMN.out.len]; decide))
      have HE1 := Lib.hid (res_ok (l := [⟨k, a1, 0, 0, 0, 0⟩]) (fun e he => by rw [List.mem_singleton.1 he]; exact HMY.out) (by simp))
      have HE2 := Lib.hid (res_full1 (HMN.out.more HMY.out HOK.out).may (by rw [(HMN.out.more HMY.out HOK.out).len]; decide))
      have HBK := Lib.hid (back_of HMN.out.ok HMN.out.may (by rw [HMN.out.len]; decide))
      have HFU := Lib.hid (many_full HMN.out HMY.out HOK.out)
      have hs1 : (str (evText L)).size ≤ 661100 := text_size HMN.out.ok (by rw [HMN.out.len]; decide)
      have hs2 : (str (evText [⟨k, a1, 0, 0, 0, 0⟩])).size ≤ 661100 := text_size (fun e he => by rw [List.mem_singleton.1 he]; exact HOK.out) (by simp)
      have HTr := Lib.hid (HTv.out.next HBr.out)
      have HB3 := Lib.hid (HBV.out.trans (HBr.out.mono hvw))
      clear hr
      go_wp2_with fail
      refine (text_prog _ 1000 cap L _ HTr.out HR.out (by omega) HMN.out.ok).mono ?_
      rintro x w3 ⟨rfl, hb⟩
      rw [HE.out]
      have HB4 := Lib.hid (HB3.out.trans (hb.mono HB3.out.size))
      have HT4 := Lib.hid (HTr.out.next hb)
      have HR4 := Lib.hid (HR.out.next hb)
      have HBx4 := Lib.hid (HBr.out.trans (hb.mono hrs))
      have HO4 := Lib.hid (HO.out.next hb)
      clear hb
      go_wp2_with fail
      refine (text_prog _ 1 cap [⟨k, a1, 0, 0, 0, 0⟩] _ HT4.out (by rw [← HT1'.out]; exact HR4.out.take (by decide)) (by decide) (fun e he => by rw [List.mem_singleton.1 he]; exact HOK.out)).mono ?_
      rintro x w5 ⟨rfl, hb⟩
      rw [HE1.out]
      have HB5 := Lib.hid (HB4.out.trans (hb.mono HB4.out.size))
      have HT5 := Lib.hid (HT4.out.next hb)
      have HBx5 := Lib.hid (HBx4.out.trans (hb.mono HBx4.out.size))
      have HO5 := Lib.hid (HO4.out.next hb)
      clear hb
      generalize str (evText L) = S at HBK HFU hs1 ⊢
      generalize str (evText [⟨k, a1, 0, 0, 0, 0⟩]) = S1 at HFU hs2 ⊢
      have hs3 : (S ++ S1).size ≤ 1322200 := by rw [ByteArray.size_append]; omega
      go_wp2_with fail
      refine (parse_prog S _ HT5.out (by omega)).mono ?_
      rintro x w6 ⟨v, rfl, ho, hb⟩
      rw [HBK.out] at ho ⊢
      obtain ⟨_, a', cap', rfl, _, _, _, _⟩ := ho.rd
      simp only [HMN.out.len]
      have HB6 := Lib.hid (HB5.out.trans (hb.mono HB5.out.size))
      have HT6 := Lib.hid (HT5.out.next hb)
      have HBx6 := Lib.hid (HBx5.out.trans (hb.mono HBx5.out.size))
      have HO6 := Lib.hid (HO5.out.next hb)
      clear ho hb
      go_wp2_with fail
      refine (parse_prog (S ++ S1) _ HT6.out (by omega)).mono ?_
      rintro x w7 ⟨v, rfl, ho, hb⟩
      rw [HFU.out] at ho ⊢
      have HB7 := Lib.hid (HB6.out.trans (hb.mono HB6.out.size))
      have HT7 := Lib.hid (HT6.out.next hb)
      have HBx7 := Lib.hid (HBx6.out.trans (hb.mono HBx6.out.size))
      have HO7 := Lib.hid (HO6.out.next hb)
      have h7s := HBx7.out.size
      clear ho hb
      have hgq := (HBx7.out.block _ hvs).trans HG.out
      have c0 := block_cell (i := 0) hgq rfl
      have c1 := block_cell (i := 1) hgq rfl
      have c2 := block_cell (i := 2) hgq rfl
      have c3 := block_cell (i := 3) hgq rfl
      have c4 := block_cell (i := 4) hgq rfl
      have c5 := block_cell (i := 5) hgq rfl
      have hgl7 := block_lt hgq
      clear hgq
      have HOA := Lib.hid (HO7.out.alloc (.cells #[.int .i64 k, .int .i64 a1, .int .i64 0, .int .i64 0, .int .i64 0, .int .u64 0] 34))
      go_wp2_with ((at_builtin; refine append_ev rfl _ _ rfl V.heap.size _ 1000 _ rfl HOA.out w7.heap.size _ ⟨k, a1, 0, 0, 0, 0⟩ rfl (cnewb.trans rfl) (cnewb.trans rfl) (cnewb.trans rfl) (cnewb.trans rfl) (cnewb.trans rfl) (cnewb.trans rfl) (by omega) (by simp; omega) ?_; intro vl' u2 ho2 hg2
                    have HO2 := Lib.hid ho2
                    have HBx8 := Lib.hid ((HBx7.out.alloc h7s (.cells #[.int .i64 k, .int .i64 a1, .int .i64 0, .int .i64 0, .int .i64 0, .int .u64 0] 34)).grown hg2 (by simp; omega) (fun j e => (HOA.out.lt j e).1))
                    clear ho2 hg2
                    obtain ⟨_, a2, cap2, rfl, _, _, _, hr2⟩ := HO2.out.rd
                    have HR8 := Lib.hid hr2
                    have HT8 := Lib.hid (HTv.out.next HBx8.out)
                    have HB8 := Lib.hid (HBV.out.trans (HBx8.out.mono hvw))
                    clear hr2))
      refine (text_prog _ 1001 cap2 _ _ HT8.out HR8.out (by omega) (HMN.out.more HMY.out HOK.out).ok).mono ?_
      rintro x w9 ⟨rfl, hb⟩
      rw [HE2.out]
      have HB9 := Lib.hid (HB8.out.trans (hb.mono HB8.out.size))
      clear hb
      go_wp2
      go_ret
      exact ⟨rfl, HB9.out⟩

/-- A world for the witness: the listed data laid by the library's law. -/
noncomputable def laidWorld (os : Os) : World := World.laidAll Tryd.prog os Rows.eventManyRow.laid
theorem laid_met (os : Os) : laidMetH Tryd.prog Rows.eventManyRow.laid ((laidWorld os).forCall (fun _ _ => 0) ⟨#[], #[.int .u8 0, .int .u8 0], []⟩).memory :=
  by rw [MakeChecks.laidMetH_plain _ _ _ (by kernel_rfl)]; exact laidMet_laidAll _ (by kernel_rfl) (by kernel_rfl)
theorem reads (os : Os) {H : Type} (enc : TypeId × Value → H) : ∃ places, DataW.whole enc Tryd.prog ((laidWorld os).forCall (fun _ _ => 0) ⟨#[], #[.int .u8 0, .int .u8 0], []⟩).memory Tryd.f8.params.toList Rows.eventManySpec.vars false #[.int .u8 0, .int .u8 0].toList 8 = some ([.lit (.int .u8 0), .lit (.int .u8 0)], [], places) :=
  ⟨[], by kernel_rfl⟩
set_option maxRecDepth 100000 in
theorem lifted (os : Os) (started : os.Started) (H : Type) (enc : TypeId × Value → H) (F : Stop.Interp) :
    ReturnsInHanded {} Tryd.checked os 8 .any ((OpenSpec.ofChange Rows.eventManySpec).preRow enc Tryd.prog Tryd.f8 Rows.eventManyRow.domain false Rows.eventManyRow.laid) (((OpenSpec.ofChange Rows.eventManySpec).at F).post enc Tryd.prog Tryd.f8 false true false false) := by
  obtain ⟨places, hx⟩ := reads os enc
  refine returnsInHanded_of_row (C := Tryd.checked) (s := OpenSpec.ofChange Rows.eventManySpec) own started (by kernel_rfl) Tryd.func8
    (witness_lay (enc := enc) (C := Tryd.checked) (laidWorld os) #[.int .u8 0, .int .u8 0] (World.laidAll_os _ _ _) (World.shaped_of_ZipB (by kernel_rfl) (by kernel_rfl)) (by kernel_rfl)
      (OpenSpec.preRow_of_cond 8 hx (by kernel_rfl) (fun k hk => by cases hk) (by kernel_rfl) (laid_met os))) ?_
  intro W base args ds gs before hval0 hW _ _ hsz hL hsh _
  have hval : ∀ (j : Nat) t v, Tryd.f8.params[j]? = some t → args[j]? = some v → Value.okWide Tryd.prog W .any base t v := hval0
  have hW' := hW
  obtain ⟨p, q, hA0, hV, rfl, hfz, hnd⟩ := hW
  have hA : DataW.TrodAll enc Tryd.prog W 0 (fun _ => true) true Tryd.f8.params.toList args.toList ds p := hA0
  rw [Tryd.params8] at hA hval
  obtain ⟨v0, vs0, d0, ds0, p0, q0, hargs, rfl, rfl, h0, r0⟩ := trodAll_cons hA
  obtain ⟨v1, vs1, d1, ds1, p1, q1, rfl, rfl, rfl, h1, r1⟩ := trodAll_cons r0
  obtain ⟨rfl, rfl, rfl⟩ := trodAll_nil r1
  obtain rfl : args = #[v0, v1] := by cases args; simp_all
  obtain ⟨rfl, rfl⟩ := trodVars_none hV
  obtain ⟨a0, rfl, rfl, rfl, w0⟩ := open_int Tryd.underlying5 (hval 0 5 v0 rfl rfl) h0
  obtain ⟨a1, rfl, rfl, rfl, w1⟩ := open_int Tryd.underlying5 (hval 1 5 v1 rfl rfl) h1
  clear hA0 hval0
  refine (walk a0 a1 W w0 w1 (known_of hL hsh)).mono fun e W' ⟨he, bel⟩ => ?_
  subst he
  exact ⟨_, rfl, _, _, _, [], _, [], hW', trodAll_mk1 (shut_bool Tryd.underlying4 _), (trodAll_cons_mk (shut_int Tryd.underlying5 w0) (trodAll_cons_mk (shut_int Tryd.underlying5 w1) trodAll_mk0)), rfl, bel.frame _, fun h => by cases h⟩

theorem said : Rows.EventManySaid :=
  OpenClaim.holds_of_cond 8 Tryd.f8 rfl rfl rfl rfl rfl rfl rfl ⟨rfl, rfl, rfl, rfl, rfl⟩ rfl rfl rfl rfl rfl (by kernel_rfl) Tryd.func8 (by kernel_rfl)
    (of_decide_eq_true (by kernel_rfl)) (by unfold Func.isWrapper; first | (rw [if_pos (by decide +kernel)]; kernel_rfl) | (rw [if_neg (by decide +kernel)]; exact ⟨rfl, rfl⟩))
    (fun os started H enc _ F => by rw [OpenClaim.pre_eq_preRow]; exact lifted os started H enc F)
theorem plain (f : FuncId) (fn : Func) (hf : Tryd.pinned.checked.prog.funcNamed Rows.eventManyRow.func = some f) (hfn : Tryd.pinned.checked.prog.funcs[f]? = some fn) :
    true = Tryd.pinned.checked.prog.looks [] ∧ ∀ (j : Nat) t, fn.params[j]? = some t → Tryd.pinned.checked.prog.wantsStandIn t = false := by
  obtain rfl : f = 8 := Option.some.inj ((show Tryd.prog.funcNamed Rows.eventManyRow.func = some 8 by kernel_rfl).symm.trans hf) |>.symm
  obtain rfl : fn = Tryd.f8 := (Option.some.inj (Tryd.func8.symm.trans hfn)).symm
  refine ⟨by kernel_rfl, fun j t ht => ?_⟩
  rw [Tryd.params8] at ht
  have hm := Array.mem_of_getElem? ht
  simp at hm
  subst hm
  exact (show Tryd.prog.wantsStandIn 5 = false by kernel_rfl)
theorem proved : Rows.EventManyCardSaid :=
  Claim7.holds_tied_plain_at .later [] _ _ _ _ said (fun _ h => by cases h) (by kernel_rfl) (fun _ h => by cases h) eventMany_row_tie rfl ⟨rfl, rfl⟩ (by kernel_rfl) rfl plain (by kernel_rfl)
#print axioms proved
end Go.Proofs.YtcboopkalpmglaaDoor.eventMany
