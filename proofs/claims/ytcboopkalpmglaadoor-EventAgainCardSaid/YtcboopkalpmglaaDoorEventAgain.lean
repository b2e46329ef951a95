/- EventAgain: at every input the law returns true and leaves its argument as it was: what is read may be, and is written as a text that is read as the same, and is hardly longer. Conditions: none beyond the row's own (the row lists seven variables of Go's library; the card ties them; it speaks of a pruned copy of the project). -/
import Derived.Test.YtcboopkalpmglaaDoorCards
import Derived.Test.YtcboopkalpmglaaDoorTie
import Derived.Test.YtcboopkalpmglaaDoorEvShown
import Derived.Test.YtcboopkalpmglaaDoorEvLaws
import Derived.Test.YtcboopkalpmglaaDoorEvSame
import Derived.Test.YtcboopkalpmglaaDoorEvOpen
import Derived.Test.YtcboopkalpmglaaDoorEvApp
import Derived.WalkKit
import Derived.Deep.QuietTactic
import Derived.BigQuiet
import Derived.Deep.Cut
import Derived.ProofKit
import Derived.OpenShut
import Derived.ShutString
import Derived.ChangeOld
import Derived.Below
import Derived.LaidMore
import Derived.Deep.DeepHandedRow
import Derived.Deep.DeepWitnessRowRef
import Derived.Stop.Joined
import Derived.SizedLaws
import Derived.Deep.RegionHeld3
import Derived.Lay
import Derived.Test.YtcboopkalpmglaaDoorEvWit
namespace Go.Proofs.YtcboopkalpmglaaDoor.eventAgain
open Go.ChangeShapes Go.WideShapes Go.ChangeAt Go.RowKit
open Go.ChangeMaps (open_string shut_string)
set_option linter.unusedVariables false

theorem own : ownKnob Tryd.prog.godebug = none := by kernel_rfl
theorem laidOut : laidOutB Tryd.prog = true := by kernel_rfl

set_option maxRecDepth 100000 in
set_option maxHeartbeats 8000000 in
theorem walk (a0 : ByteArray) (w : World) (w0 : a0.size ≤ maxLen) (m0 : a0.size ≤ 140737488351232) (hT : Known w) :
    Calls Tryd.prog 7 #[.string a0] w fun e w' => e = .returned (.bool true) ∧ Below w.heap.size w w' := by
  have HT := Lib.hid hT
  clear hT
  go_enter Tryd.func7, Tryd.ntmps7
  go_wp2_with fail
  refine (shown19_any _ HT.out).mono ?_
  rintro e w1 ⟨rfl, hb⟩
  have HB := Lib.hid hb
  have HT1 := Lib.hid (HT.out.next hb)
  clear hb
  by_cases hl : 20000 < a0.size
  · have hl' : (20000 : Int) < (a0.size : Int) := by omega
    go_wp2
    go_ret
    exact ⟨rfl, HB.out⟩
  · have hl' : ¬ (20000 : Int) < (a0.size : Int) := by omega
    go_wp2_with fail
    refine (parse_prog a0 _ HT1.out (by omega)).mono ?_
    rintro e w2 ⟨v, rfl, ho, hb2⟩
    have HB2 := Lib.hid (HB.out.trans (hb2.mono HB.out.size))
    have HT2 := Lib.hid (HT1.out.next hb2)
    have h2s := HB2.out.size
    have hlen := script_len (bl a0)
    have hsb : (bl a0).length = a0.size := bl_length a0
    obtain ⟨_, a, ca, rfl, _, _, _, r1⟩ := ho.rd
    have HR := Lib.hid r1
    clear ho hb2 r1
    by_cases hbad : (scriptL (bl a0)).2.2 = 0
    · have HS := Lib.hid (script_read (s := bl a0) (l := (scriptL (bl a0)).1) (at0 := (scriptL (bl a0)).2.1) (Prod.ext rfl (Prod.ext rfl hbad)))
      rw [hbad]
      generalize (scriptL (bl a0)).2.1 = x at HS ⊢
      generalize (scriptL (bl a0)).1 = L at HS HR hlen ⊢
      clear hbad
      have HOK := Lib.hid (fun e (he : e ∈ L) => (HS.out.1 e he).2)
      have HMY := Lib.hid (fun e (he : e ∈ L) => (HS.out.1 e he).1)
      have hshort := HS.out.2.2
      rw [hsb] at hshort
      clear HS hsb
      obtain ⟨n, hn⟩ : ∃ n, L.length = n := ⟨_, rfl⟩
      rw [hn] at hlen hshort HR ⊢
      have HN := Lib.hid hn
      clear hn
      go_wp2_with fail
      go_loopw [7] (fun vi wr => ∃ i : Nat, i ≤ n ∧ vi = .int .i64 (i : Int) ∧ Below w2.heap.size w2 wr) (fun vi _ => n - (intOf vi).toNat)
      case atStart => exact ⟨0, Nat.zero_le _, rfl, Below.refl _ _⟩
      case round =>
        obtain ⟨i, hi, rfl, hb⟩ := hrel
        have HBr := Lib.hid hb
        have hrs := hb.size
        clear hb
        by_cases hlt : i < n
        · have hlt' : (i : Int) < (n : Int) := by omega
          obtain ⟨bx, ox, rfl, hbx, hcx⟩ := rd_ev HR.out (by omega)
          have HX := Lib.hid ((hcx i hlt).below HBr.out hbx)
          have HM := Lib.hid (HMY.out _ (eat_mem (zs := L) (j := i) (by rw [HN.out]; exact hlt)))
          clear hcx
          generalize eat L i = e at HX HM
          have x0 := HX.out.c0
          have x1 := HX.out.c1
          have x2 := HX.out.c2
          have x3 := HX.out.c3
          have x4 := HX.out.c4
          have x5 := HX.out.c5
          clear HX
          go_wp2_with fail
          refine (may_any e _).mono ?_
          rintro x w3 ⟨rfl, hb3⟩
          rw [HM.out]
          have HB3 := Lib.hid (HBr.out.trans (hb3.mono hrs))
          clear hb3 x0 x1 x2 x3 x4 x5
          go_wp2
          go_roundw
          case rel => exact ⟨i + 1, hlt, by go_num, HB3.out⟩
          case measure => simp [intOf]; omega
        · have hlt' : ¬ (i : Int) < (n : Int) := by omega
          have HTr := Lib.hid (HT2.out.next HBr.out)
          have HRr := Lib.hid (HR.out.next HBr.out)
          have HB3 := Lib.hid (HB2.out.trans (HBr.out.mono h2s))
          have HE := Lib.hid (res_ok HMY.out (by rw [HN.out]; omega))
          have HBK := Lib.hid (back_of HOK.out HMY.out (by rw [HN.out]; omega))
          have hsz := text_size HOK.out (by rw [HN.out]; omega)
          have hs2 : (str (evText L)).size ≤ a0.size + 4 * n := by rw [str_size]; exact hshort
          clear hshort
          go_wp2_with fail
          refine (text_prog a n ca L _ HTr.out HRr.out (by omega) HOK.out).mono ?_
          rintro x w3 ⟨rfl, hb3⟩
          rw [HE.out]
          have HB4 := Lib.hid (HB3.out.trans (hb3.mono HB3.out.size))
          have HT4 := Lib.hid (HTr.out.next hb3)
          have HR4 := Lib.hid (HRr.out.next hb3)
          clear hb3
          generalize str (evText L) = S at HBK hsz hs2 ⊢
          go_wp2_with fail
          refine (parse_prog S _ HT4.out (by omega)).mono ?_
          rintro x w4 ⟨v, rfl, ho, hb4⟩
          have HB5 := Lib.hid (HB4.out.trans (hb4.mono HB4.out.size))
          have HR5 := Lib.hid (HR4.out.next hb4)
          rw [HBK.out] at ho ⊢
          obtain ⟨_, b, cb, rfl, _, _, _, r2⟩ := ho.rd
          rw [HN.out] at r2 ⊢
          have HR6 := Lib.hid r2
          clear ho hb4 r2
          have hle : (S.size : Int) ≤ (a0.size : Int) + 4 * (n : Int) := by omega
          go_wp2_with fail
          refine (same_any a b n n ca cb L L _ HR5.out HR6.out (by omega) (by omega)).mono ?_
          rintro x w5 ⟨r, rfl, hr, hb5⟩
          have hr : r = true := hr.2 rfl
          subst hr
          have HB6 := Lib.hid (HB5.out.trans (hb5.mono HB5.out.size))
          clear hb5
          go_wp2
          go_ret
          exact ⟨rfl, HB6.out⟩
    · have hf := script_fail hbad
      obtain ⟨y, hy⟩ : ∃ y, (scriptL (bl a0)).2.2 = y := ⟨_, rfl⟩
      have h0 : ((y : Int) != 0) = true := by simp; omega
      rw [hf, hy]
      clear hbad hf hy HR
      go_wp2
      go_ret
      exact ⟨rfl, HB2.out⟩

/-- A world for the witness: the listed data laid by the library's law. -/
noncomputable def laidWorld (os : Os) : World := World.laidAll Tryd.prog os Rows.eventAgainRow.laid
theorem laid_met (os : Os) : laidMetH Tryd.prog Rows.eventAgainRow.laid ((laidWorld os).forCall (fun _ _ => 0) ⟨#[], #[.string .empty], []⟩).memory :=
  by rw [MakeChecks.laidMetH_plain _ _ _ (by kernel_rfl)]; exact laidMet_laidAll _ (by kernel_rfl) (by kernel_rfl)
theorem reads (os : Os) {H : Type} (enc : TypeId × Value → H) : ∃ places, DataW.whole enc Tryd.prog ((laidWorld os).forCall (fun _ _ => 0) ⟨#[], #[.string .empty], []⟩).memory Tryd.f7.params.toList Rows.eventAgainSpec.vars false #[.string .empty].toList 8 = some ([.lit (.string [])], [], places) :=
  ⟨[], by kernel_rfl⟩
set_option maxRecDepth 100000 in
theorem lifted (os : Os) (started : os.Started) (H : Type) (enc : TypeId × Value → H) (F : Stop.Interp) :
    ReturnsInHanded {} Tryd.checked os 7 .any ((OpenSpec.ofChange Rows.eventAgainSpec).preRow enc Tryd.prog Tryd.f7 Rows.eventAgainRow.domain false Rows.eventAgainRow.laid) (((OpenSpec.ofChange Rows.eventAgainSpec).at F).post enc Tryd.prog Tryd.f7 false true false false) := by
  obtain ⟨places, hx⟩ := reads os enc
  refine returnsInHanded_of_row (C := Tryd.checked) (s := OpenSpec.ofChange Rows.eventAgainSpec) own started (by kernel_rfl) Tryd.func7
    (witness_lay (enc := enc) (C := Tryd.checked) (laidWorld os) #[.string .empty] (World.laidAll_os _ _ _) (World.shaped_of_ZipB (by kernel_rfl) (by kernel_rfl)) (by kernel_rfl)
      (OpenSpec.preRow_of_cond 8 hx (by kernel_rfl) (fun k hk => by cases hk) (by kernel_rfl) (laid_met os))) ?_
  intro W base args ds gs before hval0 hW _ _ hsz hL hsh _
  have hval : ∀ (j : Nat) t v, Tryd.f7.params[j]? = some t → args[j]? = some v → Value.okWide Tryd.prog W .any base t v := hval0
  have hW' := hW
  obtain ⟨p, q, hA0, hV, rfl, hfz, hnd⟩ := hW
  have hA : DataW.TrodAll enc Tryd.prog W 0 (fun _ => true) true Tryd.f7.params.toList args.toList ds p := hA0
  rw [Tryd.params7] at hA hval
  obtain ⟨v0, vs0, d0, ds0, p0, q0, hargs, rfl, rfl, h0, r0⟩ := trodAll_cons hA
  obtain ⟨rfl, rfl, rfl⟩ := trodAll_nil r0
  obtain rfl : args = #[v0] := by cases args; simp_all
  obtain ⟨rfl, rfl⟩ := trodVars_none hV
  obtain ⟨a0, rfl, rfl, rfl, w0⟩ := open_string Tryd.underlying9 (hval 0 9 v0 rfl rfl) h0
  have m0 : a0.size ≤ 140737488351232 := by
    have := sized_string hsz (j := 0) (t := 9) rfl rfl
    rw [Array.length_toList] at this
    exact this
  clear hA0 hval0
  refine (walk a0 W w0 m0 (known_of hL hsh)).mono fun e W' ⟨he, bel⟩ => ?_
  subst he
  exact ⟨_, rfl, _, _, _, [], _, [], hW', trodAll_mk1 (shut_bool Tryd.underlying4 _), (trodAll_cons_mk (shut_string Tryd.underlying9 w0) trodAll_mk0), rfl, bel.frame _, fun h => by cases h⟩

theorem said : Rows.EventAgainSaid :=
  OpenClaim.holds_of_cond 7 Tryd.f7 rfl rfl rfl rfl rfl rfl rfl ⟨rfl, rfl, rfl, rfl, rfl⟩ rfl rfl rfl rfl rfl (by kernel_rfl) Tryd.func7 (by kernel_rfl)
    (of_decide_eq_true (by kernel_rfl)) (by unfold Func.isWrapper; first | (rw [if_pos (by decide +kernel)]; kernel_rfl) | (rw [if_neg (by decide +kernel)]; exact ⟨rfl, rfl⟩))
    (fun os started H enc _ F => by rw [OpenClaim.pre_eq_preRow]; exact lifted os started H enc F)
theorem plain (f : FuncId) (fn : Func) (hf : Tryd.pinned.checked.prog.funcNamed Rows.eventAgainRow.func = some f) (hfn : Tryd.pinned.checked.prog.funcs[f]? = some fn) :
    true = Tryd.pinned.checked.prog.looks [] ∧ ∀ (j : Nat) t, fn.params[j]? = some t → Tryd.pinned.checked.prog.wantsStandIn t = false := by
  obtain rfl : f = 7 := Option.some.inj ((show Tryd.prog.funcNamed Rows.eventAgainRow.func = some 7 by kernel_rfl).symm.trans hf) |>.symm
  obtain rfl : fn = Tryd.f7 := (Option.some.inj (Tryd.func7.symm.trans hfn)).symm
  refine ⟨by kernel_rfl, fun j t ht => ?_⟩
  rw [Tryd.params7] at ht
  have hm := Array.mem_of_getElem? ht
  simp at hm
  subst hm
  exact (show Tryd.prog.wantsStandIn 9 = false by kernel_rfl)
theorem proved : Rows.EventAgainCardSaid :=
  Claim7.holds_tied_plain_at .later [] _ _ _ _ said (fun _ h => by cases h) (by kernel_rfl) (fun _ h => by cases h) eventAgain_row_tie rfl ⟨rfl, rfl⟩ (by kernel_rfl) rfl plain (by kernel_rfl)
#print axioms proved
end Go.Proofs.YtcboopkalpmglaaDoor.eventAgain
