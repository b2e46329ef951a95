/- EventJoins: at every input the law returns true and leaves its arguments as they were: two scripts, one behind the other, are the events of both; where the first one is refused both are, at the same line. Conditions: none beyond the row's own (the row lists seven variables of Go's library; the card ties them; it speaks of a pruned copy of the project). -/
import Derived.Test.YtcboopkalpmglaaDoorCards
import Derived.Test.YtcboopkalpmglaaDoorTie
import Derived.Test.YtcboopkalpmglaaDoorEvShown
import Derived.Test.YtcboopkalpmglaaDoorEvLaws
import Derived.Test.YtcboopkalpmglaaDoorEvSame
import Derived.Test.YtcboopkalpmglaaDoorEvOpen
import Derived.Test.YtcboopkalpmglaaDoorEvApp
import Derived.WalkKit
import Derived.Deep.QuietTactic
import Derived.BigQuiet
import Derived.Deep.Cut
import Derived.ProofKit
import Derived.OpenShut
import Derived.ShutString
import Derived.ChangeOld
import Derived.Below
import Derived.LaidMore
import Derived.Deep.DeepHandedRow
import Derived.Deep.DeepWitnessRowRef
import Derived.Stop.Joined
import Derived.SizedLaws
import Derived.Deep.RegionHeld3
import Derived.Lay
import Derived.Test.YtcboopkalpmglaaDoorEvWit
namespace Go.Proofs.YtcboopkalpmglaaDoor.eventJoins
open Go.ChangeShapes Go.WideShapes Go.ChangeAt Go.RowKit
open Go.ChangeMaps (open_string shut_string)
set_option linter.unusedVariables false

theorem own : ownKnob Tryd.prog.godebug = none := by kernel_rfl
theorem laidOut : laidOutB Tryd.prog = true := by kernel_rfl

set_option maxRecDepth 100000 in
set_option maxHeartbeats 8000000 in
theorem walk (a0 : ByteArray) (a1 : ByteArray) (w : World) (w0 : a0.size ≤ maxLen) (m0 : a0.size ≤ 140737488351232) (w1 : a1.size ≤ maxLen) (m1 : a1.size ≤ 140737488351232) (hT : Known w) :
    Calls Tryd.prog 4 #[.string a0, .string a1] w fun e w' => e = .returned (.bool true) ∧ Below w.heap.size w w' := by
  have HT := Lib.hid hT
  clear hT
  go_enter Tryd.func4, Tryd.ntmps4
  go_wp2_with fail
  refine (shown19_any _ HT.out).mono ?_
  rintro e w1 ⟨rfl, hb⟩
  have HB := Lib.hid hb
  have HT1 := Lib.hid (HT.out.next hb)
  clear hb
  by_cases hl : 5000 < a0.size
  · have hl' : (5000 : Int) < (a0.size : Int) := by omega
    go_wp2
    go_ret
    exact ⟨rfl, HB.out⟩
  · have hl' : ¬ (5000 : Int) < (a0.size : Int) := by omega
    by_cases hm : 5000 < a1.size
    · have hm' : (5000 : Int) < (a1.size : Int) := by omega
      go_wp2
      go_ret
      exact ⟨rfl, HB.out⟩
    · have hm' : ¬ (5000 : Int) < (a1.size : Int) := by omega
      have hz1 : (a0 ++ ({ data := #[10] } : ByteArray)).size ≤ 5001 := by rw [ByteArray.size_append]; show _ + 1 ≤ _; omega
      have hz2 : (a0 ++ ({ data := #[10] } : ByteArray) ++ a1).size ≤ 10001 := by rw [ByteArray.size_append]; omega
      have HJ := Lib.hid (joined (bl a0) (bl a1))
      have HE1 := Lib.hid (show bl (a0 ++ ({ data := #[10] } : ByteArray)) = bl a0 ++ [10] by rw [bl_append]; rfl)
      have HE2 := Lib.hid (show bl (a0 ++ ({ data := #[10] } : ByteArray) ++ a1) = bl a0 ++ 10 :: bl a1 by rw [bl_append, bl_append]; show bl a0 ++ [10] ++ bl a1 = _; simp)
      have hn1 := script_len (bl a0 ++ [10])
      have hn2 := script_len (bl a1)
      have hn3 := script_len (bl a0 ++ 10 :: bl a1)
      go_wp2_with fail
      refine (parse_prog _ _ HT1.out (by omega)).mono ?_
      rintro x w2 ⟨v1, rfl, ho1, hb⟩
      rw [HE1.out] at ho1 ⊢
      have HO1 := Lib.hid ho1
      have HB2 := Lib.hid (HB.out.trans (hb.mono HB.out.size))
      have HT2 := Lib.hid (HT1.out.next hb)
      clear ho1 hb
      go_wp2_with fail
      refine (parse_prog a1 _ HT2.out (by omega)).mono ?_
      rintro x w3 ⟨v2, rfl, ho2, hb⟩
      have HO2 := Lib.hid ho2
      have HO13 := Lib.hid (HO1.out.next hb)
      have HB3 := Lib.hid (HB2.out.trans (hb.mono HB2.out.size))
      have HT3 := Lib.hid (HT2.out.next hb)
      clear ho2 hb HO1
      go_wp2_with fail
      refine (parse_prog _ _ HT3.out (by omega)).mono ?_
      rintro x w4 ⟨v3, rfl, ho3, hb⟩
      rw [HE2.out] at ho3 ⊢
      have HB4 := Lib.hid (HB3.out.trans (hb.mono HB3.out.size))
      obtain ⟨_, p1, c1, rfl, _, _, hnil1, r1⟩ := (HO13.out.next hb).rd
      obtain ⟨_, p2, c2, rfl, _, _, hnil2, r2⟩ := (HO2.out.next hb).rd
      obtain ⟨_, p3, c3, rfl, _, _, hnil3, r3⟩ := ho3.rd
      have HR1 := Lib.hid r1
      have HR2 := Lib.hid r2
      have HR3 := Lib.hid r3
      have HN1 := Lib.hid hnil1
      have HN2 := Lib.hid hnil2
      clear ho3 hb r1 r2 r3 hnil1 hnil2 hnil3 HO2 HO13 HE1 HE2
      generalize scriptL (bl a0 ++ [10]) = A at HJ HR1 HN1 hn1 ⊢
      generalize scriptL (bl a1) = T at HJ HR2 HN2 hn2 ⊢
      generalize scriptL (bl a0 ++ 10 :: bl a1) = J at HJ HR3 hn3 ⊢
      obtain ⟨LA, xa, ya⟩ := A
      obtain ⟨LT, xt, yt⟩ := T
      obtain ⟨LJ, xj, yj⟩ := J
      simp only at hn1 hn2 hn3
      have j1 : ya ≠ 3 → yj ≠ 3 → ya ≠ 0 → yj = ya ∧ xj = xa := HJ.out.bad
      have j2 : ya = 0 → yj ≠ 3 → yt ≠ 0 → yj = yt := HJ.out.bad2
      have j3 : ya = 0 → yj ≠ 3 → yt = 0 → yj = 0 ∧ LJ = LA ++ LT := HJ.out.ok
      clear HJ
      by_cases ha3 : ya = 3
      · subst ha3
        clear j1 j2 j3
        go_wp2
        go_ret
        exact ⟨rfl, HB4.out⟩
      · have ka3 : ((ya : Int) == 3) = false := by simp; omega
        by_cases hj3 : yj = 3
        · subst hj3
          clear j1 j2 j3
          go_wp2
          go_ret
          exact ⟨rfl, HB4.out⟩
        · have kj3 : ((yj : Int) == 3) = false := by simp; omega
          by_cases ha0 : ya = 0
          · by_cases ht0 : yt = 0
            · obtain ⟨hj0, hjl⟩ := j3 ha0 hj3 ht0
              subst ha0 ht0 hj0
              have HJL := Lib.hid hjl
              clear j1 j2 j3 hjl ha3 hj3 ka3 kj3
              obtain ⟨na, hna⟩ : ∃ n, LA.length = n := ⟨_, rfl⟩
              obtain ⟨nt, hnt⟩ : ∃ n, LT.length = n := ⟨_, rfl⟩
              obtain ⟨nj, hnj⟩ : ∃ n, LJ.length = n := ⟨_, rfl⟩
              simp only at HR1 HR2 HR3 HN1 HN2
              rw [hna] at hn1 HR1 ⊢
              rw [hnt] at hn2 HR2 ⊢
              rw [hnj] at hn3 HR3 ⊢
              clear hna hnt hnj
              have h4s : w4.heap.size < (w4.alloc (.cells #[] 34)).heap.size := by simp
              have HEM := Lib.hid (Own.empty (B := w4.heap.size) (block_alloc w4 (.cells #[] 34)) (Nat.le_refl _))
              have HRA := Lib.hid (HR1.out.next (belowA w4 (.cells #[] 34)))
              have HBA := Lib.hid (belowA w4 (.cells #[] 34))
              have hbs := HBA.out.size
              go_wp2_with (first
                | (at_builtin; refine wpList_unguard (by rfl) ?_; refine append_evs rfl _ _ rfl w4.heap.size _ 0 [] rfl HEM.out p1 na c1 _ LA rfl HRA.out HN1.out (by omega) hbs ?_; intro v' u1 ho hg _
                   have HO1 := Lib.hid ho
                   have HBU := Lib.hid (HBA.out.grown hg hbs (fun j e => (HEM.out.lt j e).1))
                   have hus := HBU.out.size
                   have HRT := Lib.hid (HR2.out.next HBU.out)
                   clear ho hg)
                | (at_builtin; refine wpList_unguard (by rfl) ?_; refine append_evs rfl _ _ rfl w4.heap.size _ (0 + na) ([] ++ LA) rfl HO1.out p2 nt c2 _ LT rfl HRT.out HN2.out (by omega) hus ?_; intro v'' u2 ho hg _
                   have HO2 := Lib.hid ho
                   have HBV := Lib.hid (HBU.out.grown hg hus (fun j e => (HO1.out.lt j e).1))
                   clear ho hg))
              obtain ⟨hl2, p4, c4, rfl, _, _, _, r4⟩ := HO2.out.rd
              have HR4 := Lib.hid r4
              have HR3' := Lib.hid (HR3.out.next HBV.out)
              have HB5 := Lib.hid (HB4.out.trans (HBV.out.mono HB4.out.size))
              clear r4 hl2
              refine (same_any p3 p4 nj (0 + na + nt) c3 c4 LJ ([] ++ LA ++ LT) _ HR3'.out HR4.out (by omega) (by omega)).mono ?_
              rintro x w5 ⟨r, rfl, hr, hb⟩
              have hr : r = true := hr.2 HJL.out
              subst hr
              have HB6 := Lib.hid (HB5.out.trans (hb.mono HB5.out.size))
              clear hb
              go_wp2
              go_ret
              exact ⟨rfl, HB6.out⟩
            · have kt0 : ((yt : Int) != 0) = true := by simp; omega
              have hjt := j2 ha0 hj3 ht0
              subst ha0 hjt
              clear j1 j2 j3 ha3
              have kjj : ((yj : Int) == (yj : Int)) = true := by simp
              go_wp2
              go_ret
              exact ⟨rfl, HB4.out⟩
          · have ka0 : ((ya : Int) != 0) = true := by simp; omega
            obtain ⟨hja, hxa⟩ := j1 ha3 hj3 ha0
            subst hja hxa
            clear j1 j2 j3
            have kjj : ((yj : Int) == (yj : Int)) = true := by simp
            have kxx : ((xj : Int) == (xj : Int)) = true := by simp
            go_wp2
            go_ret
            exact ⟨rfl, HB4.out⟩

/-- A world for the witness: the listed data laid by the library's law. -/
noncomputable def laidWorld (os : Os) : World := World.laidAll Tryd.prog os Rows.eventJoinsRow.laid
theorem laid_met (os : Os) : laidMetH Tryd.prog Rows.eventJoinsRow.laid ((laidWorld os).forCall (fun _ _ => 0) ⟨#[], #[.string .empty, .string .empty], []⟩).memory :=
  by rw [MakeChecks.laidMetH_plain _ _ _ (by kernel_rfl)]; exact laidMet_laidAll _ (by kernel_rfl) (by kernel_rfl)
theorem reads (os : Os) {H : Type} (enc : TypeId × Value → H) : ∃ places, DataW.whole enc Tryd.prog ((laidWorld os).forCall (fun _ _ => 0) ⟨#[], #[.string .empty, .string .empty], []⟩).memory Tryd.f4.params.toList Rows.eventJoinsSpec.vars false #[.string .empty, .string .empty].toList 8 = some ([.lit (.string []), .lit (.string [])], [], places) :=
  ⟨[], by kernel_rfl⟩
set_option maxRecDepth 100000 in
theorem lifted (os : Os) (started : os.Started) (H : Type) (enc : TypeId × Value → H) (F : Stop.Interp) :
    ReturnsInHanded {} Tryd.checked os 4 .any ((OpenSpec.ofChange Rows.eventJoinsSpec).preRow enc Tryd.prog Tryd.f4 Rows.eventJoinsRow.domain false Rows.eventJoinsRow.laid) (((OpenSpec.ofChange Rows.eventJoinsSpec).at F).post enc Tryd.prog Tryd.f4 false true false false) := by
  obtain ⟨places, hx⟩ := reads os enc
  refine returnsInHanded_of_row (C := Tryd.checked) (s := OpenSpec.ofChange Rows.eventJoinsSpec) own started (by kernel_rfl) Tryd.func4
    (witness_lay (enc := enc) (C := Tryd.checked) (laidWorld os) #[.string .empty, .string .empty] (World.laidAll_os _ _ _) (World.shaped_of_ZipB (by kernel_rfl) (by kernel_rfl)) (by kernel_rfl)
      (OpenSpec.preRow_of_cond 8 hx (by kernel_rfl) (fun k hk => by cases hk) (by kernel_rfl) (laid_met os))) ?_
  intro W base args ds gs before hval0 hW _ _ hsz hL hsh _
  have hval : ∀ (j : Nat) t v, Tryd.f4.params[j]? = some t → args[j]? = some v → Value.okWide Tryd.prog W .any base t v := hval0
  have hW' := hW
  obtain ⟨p, q, hA0, hV, rfl, hfz, hnd⟩ := hW
  have hA : DataW.TrodAll enc Tryd.prog W 0 (fun _ => true) true Tryd.f4.params.toList args.toList ds p := hA0
  rw [Tryd.params4] at hA hval
  obtain ⟨v0, vs0, d0, ds0, p0, q0, hargs, rfl, rfl, h0, r0⟩ := trodAll_cons hA
  obtain ⟨v1, vs1, d1, ds1, p1, q1, rfl, rfl, rfl, h1, r1⟩ := trodAll_cons r0
  obtain ⟨rfl, rfl, rfl⟩ := trodAll_nil r1
  obtain rfl : args = #[v0, v1] := by cases args; simp_all
  obtain ⟨rfl, rfl⟩ := trodVars_none hV
  obtain ⟨a0, rfl, rfl, rfl, w0⟩ := open_string Tryd.underlying9 (hval 0 9 v0 rfl rfl) h0
  have m0 : a0.size ≤ 140737488351232 := by
    have := sized_string hsz (j := 0) (t := 9) rfl rfl
    rw [Array.length_toList] at this
    exact this
  obtain ⟨a1, rfl, rfl, rfl, w1⟩ := open_string Tryd.underlying9 (hval 1 9 v1 rfl rfl) h1
  have m1 : a1.size ≤ 140737488351232 := by
    have := sized_string hsz (j := 1) (t := 9) rfl rfl
    rw [Array.length_toList] at this
    exact this
  clear hA0 hval0
  refine (walk a0 a1 W w0 m0 w1 m1 (known_of hL hsh)).mono fun e W' ⟨he, bel⟩ => ?_
  subst he
  exact ⟨_, rfl, _, _, _, [], _, [], hW', trodAll_mk1 (shut_bool Tryd.underlying4 _), (trodAll_cons_mk (shut_string Tryd.underlying9 w0) (trodAll_cons_mk (shut_string Tryd.underlying9 w1) trodAll_mk0)), rfl, bel.frame _, fun h => by cases h⟩

theorem said : Rows.EventJoinsSaid :=
  OpenClaim.holds_of_cond 4 Tryd.f4 rfl rfl rfl rfl rfl rfl rfl ⟨rfl, rfl, rfl, rfl, rfl⟩ rfl rfl rfl rfl rfl (by kernel_rfl) Tryd.func4 (by kernel_rfl)
    (of_decide_eq_true (by kernel_rfl)) (by unfold Func.isWrapper; first | (rw [if_pos (by decide +kernel)]; kernel_rfl) | (rw [if_neg (by decide +kernel)]; exact ⟨rfl, rfl⟩))
    (fun os started H enc _ F => by rw [OpenClaim.pre_eq_preRow]; exact lifted os started H enc F)
theorem plain (f : FuncId) (fn : Func) (hf : Tryd.pinned.checked.prog.funcNamed Rows.eventJoinsRow.func = some f) (hfn : Tryd.pinned.checked.prog.funcs[f]? = some fn) :
    true = Tryd.pinned.checked.prog.looks [] ∧ ∀ (j : Nat) t, fn.params[j]? = some t → Tryd.pinned.checked.prog.wantsStandIn t = false := by
  obtain rfl : f = 4 := Option.some.inj ((show Tryd.prog.funcNamed Rows.eventJoinsRow.func = some 4 by kernel_rfl).symm.trans hf) |>.symm
  obtain rfl : fn = Tryd.f4 := (Option.some.inj (Tryd.func4.symm.trans hfn)).symm
  refine ⟨by kernel_rfl, fun j t ht => ?_⟩
  rw [Tryd.params4] at ht
  have hm := Array.mem_of_getElem? ht
  simp at hm
  subst hm
  exact (show Tryd.prog.wantsStandIn 9 = false by kernel_rfl)
theorem proved : Rows.EventJoinsCardSaid :=
  Claim7.holds_tied_plain_at .later [] _ _ _ _ said (fun _ h => by cases h) (by kernel_rfl) (fun _ h => by cases h) eventJoins_row_tie rfl ⟨rfl, rfl⟩ (by kernel_rfl) rfl plain (by kernel_rfl)
#print axioms proved
end Go.Proofs.YtcboopkalpmglaaDoor.eventJoins
