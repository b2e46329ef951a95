/- TopCounts: at every input the law returns true and leaves its arguments as they were. Conditions: none beyond the row's own. -/
import Derived.Test.YtddbkdjcjoofpaaGreatDoorCards
import Derived.Test.YtddbkdjcjoofpaaGreatDoorTie
import Derived.Test.YtddbkdjcjoofpaaGreatDoorLVA
import Derived.Deep.DeepWitnessRowRef
namespace Go.Proofs.YtddbkdjcjoofpaaGreatDoor.topCounts
open _root_.Go.Proofs.Tryz Go.ChangeShapes Go.WideShapes Go.ChangeAt Go.RowKit _root_.Go.Proofs.YtddbkdjcjoofpaaGreatDoor.Rows
set_option linter.unusedVariables false
set_option maxRecDepth 100000
abbrev aN : Array Value := #[.agg #[.int .u16 0, .int .u16 0, .int .u16 0, .int .u16 0, .int .u16 0], .slice none 0 0]
noncomputable abbrev lw (os : Os) : World := World.laidAll prog os topCountsRow.laid
theorem met (os : Os) : laidMetH prog topCountsRow.laid ((lw os).forCall (fun _ _ => 0) ⟨#[], aN, []⟩).memory :=
  by rw [MakeChecks.laidMetH_plain _ _ _ (by kernel_rfl)]; exact laidMet_laidAll _ (by kernel_rfl) (by kernel_rfl)
theorem reads (os : Os) {H : Type} (enc : TypeId × Value → H) : ∃ places, DataW.whole enc prog ((lw os).forCall (fun _ _ => 0) ⟨#[], aN, []⟩).memory f4.params.toList topCountsSpec.vars false aN.toList 8 = some ([.agg [.lit (.int .u16 0), .lit (.int .u16 0), .lit (.int .u16 0), .lit (.int .u16 0), .lit (.int .u16 0)], .nil], [], places) :=
  ⟨[], by kernel_rfl⟩
set_option maxHeartbeats 8000000 in
theorem lifted (os : Os) (started : os.Started) (H : Type) (enc : TypeId × Value → H) (F : Stop.Interp) :
    ReturnsInHanded {} checked os 4 .any ((OpenSpec.ofChange topCountsSpec).preRow enc prog f4 topCountsRow.domain false topCountsRow.laid) (((OpenSpec.ofChange topCountsSpec).at F).post enc prog f4 false true false false) := by
  obtain ⟨places, hx⟩ := reads os enc
  refine returnsInHanded_of_row (C := checked) (s := OpenSpec.ofChange topCountsSpec) (by kernel_rfl) started (by kernel_rfl) func4
    (witness_lay (enc := enc) (lw os) aN (World.laidAll_os _ _ _) (World.shaped_of_ZipB (by kernel_rfl) (by kernel_rfl)) (by kernel_rfl)
      (OpenSpec.preRow_of_cond 8 hx (by kernel_rfl) nofun (by kernel_rfl) (met os))) ?_
  intro W base args ds gs before hval0 hW _ _ hsz hL hsh _
  have hval : ∀ (j : Nat) t v, f4.params[j]? = some t → args[j]? = some v → Value.okWide prog W .any base t v := hval0
  have hW' := hW
  obtain ⟨p, q, hA0, hV, rfl, hfz, hnd⟩ := hW
  have hA : DataW.TrodAll enc prog W 0 (fun _ => true) true f4.params.toList args.toList ds p := hA0
  rw [params4] at hA hval
  obtain ⟨v0, vs0, d0, ds0, p0, q0, hargs, rfl, rfl, h0, r0⟩ := trodAll_cons hA
  obtain ⟨v1, vs1, d1, ds1, p1, q1, rfl, rfl, rfl, h1, r1⟩ := trodAll_cons r0
  obtain ⟨rfl, rfl, rfl⟩ := trodAll_nil r1
  obtain rfl : args = #[v0, v1] := by cases args; simp_all
  obtain ⟨rfl, rfl⟩ := trodVars_none hV
  have k0 := h0
  have lt0 : ∀ x ∈ p0, x.block < W.heap.size := by obtain ⟨m, hm⟩ := k0; exact DataW.trod_lt m _ _ _ hm
  obtain ⟨z0, rfl, ht⟩ := open_terms (hval 0 23 v0 rfl rfl) h0
  obtain ⟨a1, len1, cap1, rfl⟩ := okWide_slice underlying24 (hval 1 24 v1 rfl rfl)
  have k1 := h1
  have lt1 : ∀ x ∈ p1, x.block < W.heap.size := by obtain ⟨m, hm⟩ := k1; exact DataW.trod_lt m _ _ _ hm
  obtain ⟨fuel, hf⟩ := h1
  obtain ⟨z1, w1⟩ := open_evs hf
  clear hA0 hval0
  refine (topCounts_any z0 ht a1 len1 cap1 z1 W w1 (known_of hL hsh)).mono fun e W' ⟨he, bel⟩ => ?_
  subst he
  exact ⟨_, rfl, _, _, _, [], _, [], hW', trodAll_mk1 (shut_bool underlying4 _), (trodAll_cons_mk (Below.trod (by kernel_rfl) (by kernel_rfl) (of_decide_eq_true (by kernel_rfl)) k0 bel lt0) (trodAll_cons_mk (Below.trod (by kernel_rfl) (by kernel_rfl) (of_decide_eq_true (by kernel_rfl)) k1 bel lt1) trodAll_mk0)), rfl, bel.frame _, nofun⟩
set_option maxHeartbeats 8000000 in
theorem closed : joinedFacts prog 4 f4 (OpenSpec.ofChange topCountsSpec).bare topCountsRow = true := by
  unfold joinedFacts
  repeat' (with_reducible refine Bool.and_eq_true_iff.2 ⟨?_, ?_⟩)
  all_goals (as_aux_lemma => kernel_rfl)
theorem said : TopCountsSaid :=
  OpenClaim.holds_of_cond 4 f4 rfl rfl rfl rfl rfl rfl rfl ⟨rfl, rfl, rfl, rfl, rfl⟩ rfl rfl rfl rfl rfl (by kernel_rfl) func4 closed
    (of_decide_eq_true (by kernel_rfl)) (by unfold Func.isWrapper; first | (rw [if_pos (by decide +kernel)]; kernel_rfl) | (rw [if_neg (by decide +kernel)]; exact ⟨rfl, rfl⟩))
    (fun os started H enc _ F => by rw [OpenClaim.pre_eq_preRow]; exact lifted os started H enc F)
theorem plain (f : FuncId) (fn : Func) (hf : Tryz.pinned.checked.prog.funcNamed topCountsRow.func = some f) (hfn : Tryz.pinned.checked.prog.funcs[f]? = some fn) :
    true = Tryz.pinned.checked.prog.looks [] ∧ ∀ (j : Nat) t, fn.params[j]? = some t → Tryz.pinned.checked.prog.wantsStandIn t = false := by
  obtain rfl : f = 4 := Option.some.inj ((show prog.funcNamed topCountsRow.func = some 4 by kernel_rfl).symm.trans hf) |>.symm
  obtain rfl : fn = f4 := (Option.some.inj (func4.symm.trans hfn)).symm
  refine ⟨by kernel_rfl, fun j t ht => ?_⟩
  rw [params4] at ht
  have hm := Array.mem_of_getElem? ht
  simp at hm
  rcases hm with rfl | rfl
  · exact (show prog.wantsStandIn 23 = false by kernel_rfl)
  · exact (show prog.wantsStandIn 24 = false by kernel_rfl)
theorem proved : TopCountsCardSaid :=
  Claim7.holds_tied_plain_at .later [] _ _ _ _ said nofun (by kernel_rfl) nofun topCounts_row_tie rfl ⟨rfl, rfl⟩ (by kernel_rfl) rfl plain (by kernel_rfl)
#print axioms proved
end Go.Proofs.YtddbkdjcjoofpaaGreatDoor.topCounts
