/- MaskJoins: at every input the law returns true and leaves its arguments as they were: two texts with a comma between are both sets joined; in the other order the same. Conditions: none beyond the row's own (the row lists three tables of Go's library; the card ties them). -/
import Derived.Test.YtdbhdjjepgdomaaDoorCards
import Derived.Test.YtdbhdjjepgdomaaDoorTie
import Derived.Test.YtdbhdjjepgdomaaDoorMaskShown
import Derived.WalkKit
import Derived.Deep.QuietTactic
import Derived.BigQuiet
import Derived.Deep.Cut
import Derived.ProofKit
import Derived.OpenShut
import Derived.ShutString
import Derived.ChangeOld
import Derived.Below
import Derived.LaidMore
import Derived.Deep.DeepHandedRow
import Derived.Deep.DeepWitnessRowRef
import Derived.Stop.Joined
import Derived.SizedLaws
namespace Go.Proofs.YtdbhdjjepgdomaaDoor.maskJoins
open Go.ChangeShapes Go.WideShapes Go.ChangeAt Go.RowKit
open Go.ChangeMaps (open_string shut_string)
set_option linter.unusedVariables false

theorem own : ownKnob Tryd.prog.godebug = none := by kernel_rfl
theorem laidOut : laidOutB Tryd.prog = true := by kernel_rfl

set_option maxRecDepth 100000 in
set_option maxHeartbeats 8000000 in
theorem walk (a0 : ByteArray) (a1 : ByteArray) (w : World) (w0 : a0.size ≤ maxLen) (m0 : a0.size ≤ 140737488351232) (w1 : a1.size ≤ maxLen) (m1 : a1.size ≤ 140737488351232) (hT : Known w) :
    Calls Tryd.prog 6 #[.string a0, .string a1] w fun e w' => e = .returned (.bool true) ∧ Below w.heap.size w w' := by
  have HT := Lib.hid hT
  clear hT
  have l0 := parseL_lt (bl a0)
  have l1 := parseL_lt (bl a1)
  have h01 : bl (a0 ++ ({ data := #[44] } : ByteArray) ++ a1) = bl a0 ++ 44 :: bl a1 := by rw [show ({ data := #[44] } : ByteArray) = str [44] from rfl, bl_append, bl_append, bl_str (by decide)]; simp
  have h10 : bl (a1 ++ ({ data := #[44] } : ByteArray) ++ a0) = bl a1 ++ 44 :: bl a0 := by rw [show ({ data := #[44] } : ByteArray) = str [44] from rfl, bl_append, bl_append, bl_str (by decide)]; simp
  have z01 : (a0 ++ ({ data := #[44] } : ByteArray) ++ a1).size ≤ maxLen := by rw [ByteArray.size_append, ByteArray.size_append]; have : ({ data := #[44] } : ByteArray).size = 1 := rfl; unfold maxLen; omega
  have z10 : (a1 ++ ({ data := #[44] } : ByteArray) ++ a0).size ≤ maxLen := by rw [ByteArray.size_append, ByteArray.size_append]; have : ({ data := #[44] } : ByteArray).size = 1 := rfl; unfold maxLen; omega
  have j01 := parse_join (bl a0) (bl a1)
  have j10 := parse_join (bl a1) (bl a0)
  rw [← h01] at j01
  rw [← h10] at j10
  have e0 : a0.toList.isEmpty = decide (bl a0 = []) := by rw [Lib.toList_data, Bool.eq_iff_iff, List.isEmpty_iff]; unfold bl; simp
  have e1 : a1.toList.isEmpty = decide (bl a1 = []) := by rw [Lib.toList_data, Bool.eq_iff_iff, List.isEmpty_iff]; unfold bl; simp
  have P0 := Lib.hid (show parseL (bl a0) = parseL (bl a0) from rfl)
  obtain ⟨R0, hR0⟩ : ∃ R, parseL (bl a0) = R := ⟨_, rfl⟩
  obtain ⟨R1, hR1⟩ : ∃ R, parseL (bl a1) = R := ⟨_, rfl⟩
  obtain ⟨R2, hR2⟩ : ∃ R, parseL (bl (a0 ++ ({ data := #[44] } : ByteArray) ++ a1)) = R := ⟨_, rfl⟩
  obtain ⟨R3, hR3⟩ : ∃ R, parseL (bl (a1 ++ ({ data := #[44] } : ByteArray) ++ a0)) = R := ⟨_, rfl⟩
  rw [hR0] at l0
  rw [hR1] at l1
  rw [hR0, hR1, hR2] at j01
  rw [hR0, hR1, hR3] at j10
  have H0 := Lib.hid hR0
  have H1 := Lib.hid hR1
  have H2 := Lib.hid hR2
  have H3 := Lib.hid hR3
  have J01 := Lib.hid j01
  have J10 := Lib.hid j10
  have E0 := Lib.hid e0
  have E1 := Lib.hid e1
  obtain ⟨x0, y0⟩ := R0
  obtain ⟨x1, y1⟩ := R1
  obtain ⟨x2, y2⟩ := R2
  obtain ⟨x3, y3⟩ := R3
  have HO := Lib.hid (u64_or_nat x0 x1 l0 l1)
  clear hR0 hR1 hR2 hR3 j01 j10 h01 h10 e0 e1 P0
  have way : (y0 = 0 ∧ y1 = 0 ∧ a0.toList.isEmpty = false ∧ a1.toList.isEmpty = false ∧ y2 = 0 ∧ y3 = 0 ∧ x2 = x0 ||| x1 ∧ x3 = x0 ||| x1) ∨ ((y0 ≠ 0 ∨ (y0 = 0 ∧ y1 ≠ 0) ∨ (y0 = 0 ∧ y1 = 0 ∧ a0.toList.isEmpty = true) ∨ (y0 = 0 ∧ y1 = 0 ∧ a0.toList.isEmpty = false ∧ a1.toList.isEmpty = true)) ∧ y2 ≠ 0 ∧ y3 ≠ 0) := by
    have j01 := J01.out
    have j10 := J10.out
    rw [E0.out, E1.out]
    by_cases c0 : y0 = 0
    · by_cases c1 : y1 = 0
      · by_cases c2 : bl a0 = []
        · rw [if_neg (by simp [c2])] at j01 j10
          exact .inr ⟨.inr (.inr (.inl ⟨c0, c1, by simp [c2]⟩)), j01, j10⟩
        · by_cases c3 : bl a1 = []
          · rw [if_neg (by simp [c3])] at j01 j10
            exact .inr ⟨.inr (.inr (.inr ⟨c0, c1, by simp [c2], by simp [c3]⟩)), j01, j10⟩
          · rw [if_pos ⟨c0, c1, c2, c3⟩] at j01
            rw [if_pos ⟨c1, c0, c3, c2⟩] at j10
            simp only [Prod.mk.injEq] at j01 j10
            exact .inl ⟨c0, c1, by simp [c2], by simp [c3], j01.2, j10.2, j01.1, by rw [j10.1, Nat.or_comm]⟩
      · rw [if_neg (by simp [c1])] at j01 j10
        exact .inr ⟨.inr (.inl ⟨c0, c1⟩), j01, j10⟩
    · rw [if_neg (by simp [c0])] at j01 j10
      exact .inr ⟨.inl c0, j01, j10⟩
  have s0 : a0.size ≤ 140737488351232 := m0
  have s1 : a1.size ≤ 140737488351232 := m1
  rcases way with ⟨rfl, rfl, q0, q1, rfl, rfl, rfl, rfl⟩ | ⟨hw, hy2, hy3⟩
  · have hor : (((x0 ||| x1 : Nat) : Int) == bits BinOp.or IntKind.u64 (x0 : Int) (x1 : Int)) = true := by rw [HO.out]; simp
    go_enter Tryd.func6, Tryd.ntmps6
    go_wp2_with fail
    refine (shown_any _ HT.out).mono ?_
    rintro e W1 ⟨rfl, hb⟩
    have HB1 := Lib.hid hb
    clear hb
    go_wp2_with fail
    refine (parse_any a0 _ w0).mono ?_
    rintro e W2 ⟨rfl, hb⟩
    rw [H0.out]
    have HB2 := Lib.hid (HB1.out.trans (hb.mono HB1.out.size))
    clear hb
    go_wp2_with fail
    refine (parse_any a1 _ w1).mono ?_
    rintro e W3 ⟨rfl, hb⟩
    rw [H1.out]
    have HB3 := Lib.hid (HB2.out.trans (hb.mono HB2.out.size))
    clear hb
    go_wp2_with fail
    refine (parse_any _ _ z01).mono ?_
    rintro e W4 ⟨rfl, hb⟩
    rw [H2.out]
    have HB4 := Lib.hid (HB3.out.trans (hb.mono HB3.out.size))
    clear hb
    go_wp2_with fail
    refine (parse_any _ _ z10).mono ?_
    rintro e W5 ⟨rfl, hb⟩
    rw [H3.out]
    have HB5 := Lib.hid (HB4.out.trans (hb.mono HB4.out.size))
    clear hb
    go_wp2
    go_ret
    exact ⟨rfl, HB5.out⟩
  · have b2 : ((y2 : Int) != 0) = true := by simp; omega
    have b3 : ((y3 : Int) != 0) = true := by simp; omega
    rcases hw with h0 | ⟨h0, h1⟩ | ⟨h0, h1, q0⟩ | ⟨h0, h1, q0, q1⟩
    · have b0 : ((y0 : Int) != 0) = true := by simp; omega
      clear h0
      clear hy2 hy3
      go_enter Tryd.func6, Tryd.ntmps6
      go_wp2_with fail
      refine (shown_any _ HT.out).mono ?_
      rintro e W1 ⟨rfl, hb⟩
      have HB1 := Lib.hid hb
      clear hb
      go_wp2_with fail
      refine (parse_any a0 _ w0).mono ?_
      rintro e W2 ⟨rfl, hb⟩
      rw [H0.out]
      have HB2 := Lib.hid (HB1.out.trans (hb.mono HB1.out.size))
      clear hb
      go_wp2_with fail
      refine (parse_any a1 _ w1).mono ?_
      rintro e W3 ⟨rfl, hb⟩
      rw [H1.out]
      have HB3 := Lib.hid (HB2.out.trans (hb.mono HB2.out.size))
      clear hb
      go_wp2_with fail
      refine (parse_any _ _ z01).mono ?_
      rintro e W4 ⟨rfl, hb⟩
      rw [H2.out]
      have HB4 := Lib.hid (HB3.out.trans (hb.mono HB3.out.size))
      clear hb
      go_wp2_with fail
      refine (parse_any _ _ z10).mono ?_
      rintro e W5 ⟨rfl, hb⟩
      rw [H3.out]
      have HB5 := Lib.hid (HB4.out.trans (hb.mono HB4.out.size))
      clear hb
      go_wp2
      go_ret
      exact ⟨rfl, HB5.out⟩
    · have b0 : ((y0 : Int) != 0) = false := by simp; omega
      have b1 : ((y1 : Int) != 0) = true := by simp; omega
      clear h0 h1
      clear hy2 hy3
      go_enter Tryd.func6, Tryd.ntmps6
      go_wp2_with fail
      refine (shown_any _ HT.out).mono ?_
      rintro e W1 ⟨rfl, hb⟩
      have HB1 := Lib.hid hb
      clear hb
      go_wp2_with fail
      refine (parse_any a0 _ w0).mono ?_
      rintro e W2 ⟨rfl, hb⟩
      rw [H0.out]
      have HB2 := Lib.hid (HB1.out.trans (hb.mono HB1.out.size))
      clear hb
      go_wp2_with fail
      refine (parse_any a1 _ w1).mono ?_
      rintro e W3 ⟨rfl, hb⟩
      rw [H1.out]
      have HB3 := Lib.hid (HB2.out.trans (hb.mono HB2.out.size))
      clear hb
      go_wp2_with fail
      refine (parse_any _ _ z01).mono ?_
      rintro e W4 ⟨rfl, hb⟩
      rw [H2.out]
      have HB4 := Lib.hid (HB3.out.trans (hb.mono HB3.out.size))
      clear hb
      go_wp2_with fail
      refine (parse_any _ _ z10).mono ?_
      rintro e W5 ⟨rfl, hb⟩
      rw [H3.out]
      have HB5 := Lib.hid (HB4.out.trans (hb.mono HB4.out.size))
      clear hb
      go_wp2
      go_ret
      exact ⟨rfl, HB5.out⟩
    · have b0 : ((y0 : Int) != 0) = false := by simp; omega
      have b1 : ((y1 : Int) != 0) = false := by simp; omega
      clear h0 h1
      clear hy2 hy3
      go_enter Tryd.func6, Tryd.ntmps6
      go_wp2_with fail
      refine (shown_any _ HT.out).mono ?_
      rintro e W1 ⟨rfl, hb⟩
      have HB1 := Lib.hid hb
      clear hb
      go_wp2_with fail
      refine (parse_any a0 _ w0).mono ?_
      rintro e W2 ⟨rfl, hb⟩
      rw [H0.out]
      have HB2 := Lib.hid (HB1.out.trans (hb.mono HB1.out.size))
      clear hb
      go_wp2_with fail
      refine (parse_any a1 _ w1).mono ?_
      rintro e W3 ⟨rfl, hb⟩
      rw [H1.out]
      have HB3 := Lib.hid (HB2.out.trans (hb.mono HB2.out.size))
      clear hb
      go_wp2_with fail
      refine (parse_any _ _ z01).mono ?_
      rintro e W4 ⟨rfl, hb⟩
      rw [H2.out]
      have HB4 := Lib.hid (HB3.out.trans (hb.mono HB3.out.size))
      clear hb
      go_wp2_with fail
      refine (parse_any _ _ z10).mono ?_
      rintro e W5 ⟨rfl, hb⟩
      rw [H3.out]
      have HB5 := Lib.hid (HB4.out.trans (hb.mono HB4.out.size))
      clear hb
      go_wp2
      go_ret
      exact ⟨rfl, HB5.out⟩
    · have b0 : ((y0 : Int) != 0) = false := by simp; omega
      have b1 : ((y1 : Int) != 0) = false := by simp; omega
      clear h0 h1
      clear hy2 hy3
      go_enter Tryd.func6, Tryd.ntmps6
      go_wp2_with fail
      refine (shown_any _ HT.out).mono ?_
      rintro e W1 ⟨rfl, hb⟩
      have HB1 := Lib.hid hb
      clear hb
      go_wp2_with fail
      refine (parse_any a0 _ w0).mono ?_
      rintro e W2 ⟨rfl, hb⟩
      rw [H0.out]
      have HB2 := Lib.hid (HB1.out.trans (hb.mono HB1.out.size))
      clear hb
      go_wp2_with fail
      refine (parse_any a1 _ w1).mono ?_
      rintro e W3 ⟨rfl, hb⟩
      rw [H1.out]
      have HB3 := Lib.hid (HB2.out.trans (hb.mono HB2.out.size))
      clear hb
      go_wp2_with fail
      refine (parse_any _ _ z01).mono ?_
      rintro e W4 ⟨rfl, hb⟩
      rw [H2.out]
      have HB4 := Lib.hid (HB3.out.trans (hb.mono HB3.out.size))
      clear hb
      go_wp2_with fail
      refine (parse_any _ _ z10).mono ?_
      rintro e W5 ⟨rfl, hb⟩
      rw [H3.out]
      have HB5 := Lib.hid (HB4.out.trans (hb.mono HB4.out.size))
      clear hb
      go_wp2
      go_ret
      exact ⟨rfl, HB5.out⟩

/-- A world for the witness: the heap that the door's own run leaves. -/
noncomputable def laidWorld (os : Os) : World := World.doorLaid Tryd.prog 24 os
theorem laid_met (os : Os) : laidMetH Tryd.prog Rows.maskJoinsRow.laid ((laidWorld os).forCall (fun _ _ => 0) ⟨#[], #[.string .empty, .string .empty], []⟩).memory :=
  laidMetH_of_parts3 (fuel := 8) (laidMet_of_run' 8 (by kernel_rfl) (by kernel_rfl)) (by kernel_rfl) (by kernel_rfl)
theorem reads (os : Os) {H : Type} (enc : TypeId × Value → H) : ∃ places, DataW.whole enc Tryd.prog ((laidWorld os).forCall (fun _ _ => 0) ⟨#[], #[.string .empty, .string .empty], []⟩).memory Tryd.f6.params.toList Rows.maskJoinsSpec.vars false #[.string .empty, .string .empty].toList 8 = some ([.lit (.string []), .lit (.string [])], [], places) :=
  ⟨[], by kernel_rfl⟩
set_option maxRecDepth 100000 in
theorem lifted (os : Os) (started : os.Started) (H : Type) (enc : TypeId × Value → H) (F : Stop.Interp) :
    ReturnsInHanded {} Tryd.checked os 6 .any ((OpenSpec.ofChange Rows.maskJoinsSpec).preRow enc Tryd.prog Tryd.f6 Rows.maskJoinsRow.domain false Rows.maskJoinsRow.laid) (((OpenSpec.ofChange Rows.maskJoinsSpec).at F).post enc Tryd.prog Tryd.f6 false true false false) := by
  obtain ⟨places, hx⟩ := reads os enc
  refine returnsInHanded_of_row (C := Tryd.checked) (s := OpenSpec.ofChange Rows.maskJoinsSpec) own started (by kernel_rfl) Tryd.func6
    (witness_row_atRef (enc := enc) (C := Tryd.checked) false (laidWorld os) #[.string .empty, .string .empty] rfl (by kernel_rfl) (by kernel_rfl) (by kernel_rfl)
      (OpenSpec.preRow_of_cond 8 hx (by kernel_rfl) (fun k hk => by cases hk) (by kernel_rfl) (laid_met os))) ?_
  intro W base args ds gs before hval0 hW _ _ hsz hL _ _
  have hval : ∀ (j : Nat) t v, Tryd.f6.params[j]? = some t → args[j]? = some v → Value.okWide Tryd.prog W .any base t v := hval0
  have hW' := hW
  obtain ⟨p, q, hA0, hV, rfl, hfz, hnd⟩ := hW
  have hA : DataW.TrodAll enc Tryd.prog W 0 (fun _ => true) true Tryd.f6.params.toList args.toList ds p := hA0
  rw [Tryd.params6] at hA hval
  obtain ⟨v0, vs0, d0, ds0, p0, q0, hargs, rfl, rfl, h0, r0⟩ := trodAll_cons hA
  obtain ⟨v1, vs1, d1, ds1, p1, q1, rfl, rfl, rfl, h1, r1⟩ := trodAll_cons r0
  obtain ⟨rfl, rfl, rfl⟩ := trodAll_nil r1
  obtain rfl : args = #[v0, v1] := by cases args; simp_all
  obtain ⟨rfl, rfl⟩ := trodVars_none hV
  obtain ⟨a0, rfl, rfl, rfl, w0⟩ := open_string Tryd.underlying9 (hval 0 9 v0 rfl rfl) h0
  have m0 : a0.size ≤ 140737488351232 := by
    have := sized_string hsz (j := 0) (t := 9) rfl rfl
    rw [Array.length_toList] at this
    exact this
  obtain ⟨a1, rfl, rfl, rfl, w1⟩ := open_string Tryd.underlying9 (hval 1 9 v1 rfl rfl) h1
  have m1 : a1.size ≤ 140737488351232 := by
    have := sized_string hsz (j := 1) (t := 9) rfl rfl
    rw [Array.length_toList] at this
    exact this
  clear hA0 hval0
  refine (walk a0 a1 W w0 m0 w1 m1 (known_of hL)).mono fun e W' ⟨he, bel⟩ => ?_
  subst he
  exact ⟨_, rfl, _, _, _, [], _, [], hW', trodAll_mk1 (shut_bool Tryd.underlying4 _), (trodAll_cons_mk (shut_string Tryd.underlying9 w0) (trodAll_cons_mk (shut_string Tryd.underlying9 w1) trodAll_mk0)), rfl, bel.frame _, fun h => by cases h⟩

theorem said : Rows.MaskJoinsSaid :=
  OpenClaim.holds_of_cond 6 Tryd.f6 rfl rfl rfl rfl rfl rfl rfl ⟨rfl, rfl, rfl, rfl, rfl⟩ rfl rfl rfl rfl rfl (by kernel_rfl) Tryd.func6 (by kernel_rfl)
    (of_decide_eq_true (by kernel_rfl)) (by unfold Func.isWrapper; first | (rw [if_pos (by decide +kernel)]; kernel_rfl) | (rw [if_neg (by decide +kernel)]; exact ⟨rfl, rfl⟩))
    (fun os started H enc _ F => by rw [OpenClaim.pre_eq_preRow]; exact lifted os started H enc F)
theorem plain (f : FuncId) (fn : Func) (hf : Tryd.pinned.checked.prog.funcNamed Rows.maskJoinsRow.func = some f) (hfn : Tryd.pinned.checked.prog.funcs[f]? = some fn) :
    false = Tryd.pinned.checked.prog.looks [] ∧ ∀ (j : Nat) t, fn.params[j]? = some t → Tryd.pinned.checked.prog.wantsStandIn t = false := by
  obtain rfl : f = 6 := Option.some.inj ((show Tryd.prog.funcNamed Rows.maskJoinsRow.func = some 6 by kernel_rfl).symm.trans hf) |>.symm
  obtain rfl : fn = Tryd.f6 := (Option.some.inj (Tryd.func6.symm.trans hfn)).symm
  refine ⟨by kernel_rfl, fun j t ht => ?_⟩
  rw [Tryd.params6] at ht
  have hm := Array.mem_of_getElem? ht
  simp at hm
  subst hm
  exact (show Tryd.prog.wantsStandIn 9 = false by kernel_rfl)
theorem proved : Rows.MaskJoinsCardSaid :=
  Claim7.holds_tied_plain_at .later [] _ _ _ _ said (fun _ h => by cases h) (by kernel_rfl) (fun _ h => by cases h) maskJoins_row_tie rfl ⟨rfl, rfl⟩ (by kernel_rfl) rfl plain (by kernel_rfl)
#print axioms proved
end Go.Proofs.YtdbhdjjepgdomaaDoor.maskJoins
