/- EventParses: at every input the law returns true and leaves its argument as it was: any text's events, or the line where it is refused, are the document's. Conditions: none beyond the row's own (the row lists seven variables of Go's library; the card ties them; it speaks of a pruned copy of the project). -/
import Derived.Test.YtcboopkalpmglaaDoorCards
import Derived.Test.YtcboopkalpmglaaDoorTie
import Derived.Test.YtcboopkalpmglaaDoorEvShown
import Derived.Test.YtcboopkalpmglaaDoorEvLaws
import Derived.Test.YtcboopkalpmglaaDoorEvSame
import Derived.Test.YtcboopkalpmglaaDoorEvOpen
import Derived.Test.YtcboopkalpmglaaDoorEvApp
import Derived.WalkKit
import Derived.Deep.QuietTactic
import Derived.BigQuiet
import Derived.Deep.Cut
import Derived.ProofKit
import Derived.OpenShut
import Derived.ShutString
import Derived.ChangeOld
import Derived.Below
import Derived.LaidMore
import Derived.Deep.DeepHandedRow
import Derived.Deep.DeepWitnessRowRef
import Derived.Stop.Joined
import Derived.SizedLaws
import Derived.Deep.RegionHeld3
import Derived.Lay
import Derived.Test.YtcboopkalpmglaaDoorEvWit
namespace Go.Proofs.YtcboopkalpmglaaDoor.eventParses
open Go.ChangeShapes Go.WideShapes Go.ChangeAt Go.RowKit
open Go.ChangeMaps (open_string shut_string)
set_option linter.unusedVariables false

theorem own : ownKnob Tryd.prog.godebug = none := by kernel_rfl
theorem laidOut : laidOutB Tryd.prog = true := by kernel_rfl

set_option maxRecDepth 100000 in
set_option maxHeartbeats 8000000 in
theorem walk (a0 : ByteArray) (w : World) (w0 : a0.size ≤ maxLen) (m0 : a0.size ≤ 140737488351232) (hT : Known w) :
    Calls Tryd.prog 3 #[.string a0] w fun e w' => e = .returned (.bool true) ∧ Below w.heap.size w w' := by
  have HT := Lib.hid hT
  clear hT
  go_enter Tryd.func3, Tryd.ntmps3
  go_wp2_with fail
  refine (shown19_any _ HT.out).mono ?_
  rintro e w1 ⟨rfl, hb⟩
  have HB := Lib.hid hb
  have HT1 := Lib.hid (HT.out.next hb)
  clear hb
  by_cases hl : 20000 < a0.size
  · have hl' : (20000 : Int) < (a0.size : Int) := by omega
    go_wp2
    go_ret
    exact ⟨rfl, HB.out⟩
  · have hl' : ¬ (20000 : Int) < (a0.size : Int) := by omega
    go_wp2_with fail
    refine (parse_prog a0 _ HT1.out (by omega)).mono ?_
    rintro e w2 ⟨v, rfl, ho, hb2⟩
    have HO := Lib.hid ho
    have HB2 := Lib.hid (HB.out.trans (hb2.mono HB.out.size))
    clear ho hb2
    go_wp2_with fail
    refine (refParse19_any a0 _ (by omega)).mono ?_
    rintro e w3 ⟨u, rfl, ho, hb3⟩
    have HB3 := Lib.hid (HB2.out.trans (hb3.mono HB2.out.size))
    have hlen := script_len (bl a0)
    obtain ⟨_, a, ca, rfl, _, _, _, r1⟩ := (HO.out.next hb3).rd
    obtain ⟨_, b, cb, rfl, _, _, _, r2⟩ := ho.rd
    have HR1 := Lib.hid r1
    have HR2 := Lib.hid r2
    clear ho hb3 r1 r2 HO
    generalize scriptL (bl a0) = R at HR1 HR2 hlen ⊢
    obtain ⟨L, x, y⟩ := R
    simp only at hlen
    go_wp2_with fail
    refine (same_any a b L.length L.length ca cb L L _ HR1.out HR2.out (by omega) (by omega)).mono ?_
    rintro e w4 ⟨r, rfl, hr, hb4⟩
    have hr : r = true := hr.2 rfl
    subst hr
    have HB4 := Lib.hid (HB3.out.trans (hb4.mono HB3.out.size))
    clear hb4
    go_wp2
    go_ret
    exact ⟨rfl, HB4.out⟩

/-- A world for the witness: the listed data laid by the library's law. -/
noncomputable def laidWorld (os : Os) : World := World.laidAll Tryd.prog os Rows.eventParsesRow.laid
theorem laid_met (os : Os) : laidMetH Tryd.prog Rows.eventParsesRow.laid ((laidWorld os).forCall (fun _ _ => 0) ⟨#[], #[.string .empty], []⟩).memory :=
  by rw [MakeChecks.laidMetH_plain _ _ _ (by kernel_rfl)]; exact laidMet_laidAll _ (by kernel_rfl) (by kernel_rfl)
theorem reads (os : Os) {H : Type} (enc : TypeId × Value → H) : ∃ places, DataW.whole enc Tryd.prog ((laidWorld os).forCall (fun _ _ => 0) ⟨#[], #[.string .empty], []⟩).memory Tryd.f3.params.toList Rows.eventParsesSpec.vars false #[.string .empty].toList 8 = some ([.lit (.string [])], [], places) :=
  ⟨[], by kernel_rfl⟩
set_option maxRecDepth 100000 in
theorem lifted (os : Os) (started : os.Started) (H : Type) (enc : TypeId × Value → H) (F : Stop.Interp) :
    ReturnsInHanded {} Tryd.checked os 3 .any ((OpenSpec.ofChange Rows.eventParsesSpec).preRow enc Tryd.prog Tryd.f3 Rows.eventParsesRow.domain false Rows.eventParsesRow.laid) (((OpenSpec.ofChange Rows.eventParsesSpec).at F).post enc Tryd.prog Tryd.f3 false true false false) := by
  obtain ⟨places, hx⟩ := reads os enc
  refine returnsInHanded_of_row (C := Tryd.checked) (s := OpenSpec.ofChange Rows.eventParsesSpec) own started (by kernel_rfl) Tryd.func3
    (witness_lay (enc := enc) (C := Tryd.checked) (laidWorld os) #[.string .empty] (World.laidAll_os _ _ _) (World.shaped_of_ZipB (by kernel_rfl) (by kernel_rfl)) (by kernel_rfl)
      (OpenSpec.preRow_of_cond 8 hx (by kernel_rfl) (fun k hk => by cases hk) (by kernel_rfl) (laid_met os))) ?_
  intro W base args ds gs before hval0 hW _ _ hsz hL hsh _
  have hval : ∀ (j : Nat) t v, Tryd.f3.params[j]? = some t → args[j]? = some v → Value.okWide Tryd.prog W .any base t v := hval0
  have hW' := hW
  obtain ⟨p, q, hA0, hV, rfl, hfz, hnd⟩ := hW
  have hA : DataW.TrodAll enc Tryd.prog W 0 (fun _ => true) true Tryd.f3.params.toList args.toList ds p := hA0
  rw [Tryd.params3] at hA hval
  obtain ⟨v0, vs0, d0, ds0, p0, q0, hargs, rfl, rfl, h0, r0⟩ := trodAll_cons hA
  obtain ⟨rfl, rfl, rfl⟩ := trodAll_nil r0
  obtain rfl : args = #[v0] := by cases args; simp_all
  obtain ⟨rfl, rfl⟩ := trodVars_none hV
  obtain ⟨a0, rfl, rfl, rfl, w0⟩ := open_string Tryd.underlying9 (hval 0 9 v0 rfl rfl) h0
  have m0 : a0.size ≤ 140737488351232 := by
    have := sized_string hsz (j := 0) (t := 9) rfl rfl
    rw [Array.length_toList] at this
    exact this
  clear hA0 hval0
  refine (walk a0 W w0 m0 (known_of hL hsh)).mono fun e W' ⟨he, bel⟩ => ?_
  subst he
  exact ⟨_, rfl, _, _, _, [], _, [], hW', trodAll_mk1 (shut_bool Tryd.underlying4 _), (trodAll_cons_mk (shut_string Tryd.underlying9 w0) trodAll_mk0), rfl, bel.frame _, fun h => by cases h⟩

theorem said : Rows.EventParsesSaid :=
  OpenClaim.holds_of_cond 3 Tryd.f3 rfl rfl rfl rfl rfl rfl rfl ⟨rfl, rfl, rfl, rfl, rfl⟩ rfl rfl rfl rfl rfl (by kernel_rfl) Tryd.func3 (by kernel_rfl)
    (of_decide_eq_true (by kernel_rfl)) (by unfold Func.isWrapper; first | (rw [if_pos (by decide +kernel)]; kernel_rfl) | (rw [if_neg (by decide +kernel)]; exact ⟨rfl, rfl⟩))
    (fun os started H enc _ F => by rw [OpenClaim.pre_eq_preRow]; exact lifted os started H enc F)
theorem plain (f : FuncId) (fn : Func) (hf : Tryd.pinned.checked.prog.funcNamed Rows.eventParsesRow.func = some f) (hfn : Tryd.pinned.checked.prog.funcs[f]? = some fn) :
    true = Tryd.pinned.checked.prog.looks [] ∧ ∀ (j : Nat) t, fn.params[j]? = some t → Tryd.pinned.checked.prog.wantsStandIn t = false := by
  obtain rfl : f = 3 := Option.some.inj ((show Tryd.prog.funcNamed Rows.eventParsesRow.func = some 3 by kernel_rfl).symm.trans hf) |>.symm
  obtain rfl : fn = Tryd.f3 := (Option.some.inj (Tryd.func3.symm.trans hfn)).symm
  refine ⟨by kernel_rfl, fun j t ht => ?_⟩
  rw [Tryd.params3] at ht
  have hm := Array.mem_of_getElem? ht
  simp at hm
  subst hm
  exact (show Tryd.prog.wantsStandIn 9 = false by kernel_rfl)
theorem proved : Rows.EventParsesCardSaid :=
  Claim7.holds_tied_plain_at .later [] _ _ _ _ said (fun _ h => by cases h) (by kernel_rfl) (fun _ h => by cases h) eventParses_row_tie rfl ⟨rfl, rfl⟩ (by kernel_rfl) rfl plain (by kernel_rfl)
#print axioms proved
end Go.Proofs.YtcboopkalpmglaaDoor.eventParses
