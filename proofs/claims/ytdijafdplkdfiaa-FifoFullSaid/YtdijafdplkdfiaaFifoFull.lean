/- FifoFull: at every input the law returns true: 64 stand in a line at most, one that is dropped makes room for another one behind all, and a line that is nil has none. Conditions: none beyond the row's own. -/
import Derived.Test.YtdijafdplkdfiaaRows
import Derived.Test.YtdijafdplkdfiaaFull
import Derived.WalkKit
import Derived.Deep.QuietTactic
import Derived.BigQuiet
import Derived.ProofKit
import Derived.OpenShut
import Derived.ShutString
import Derived.ChangeOld
import Derived.Below
namespace Go.Proofs.Ytdijafdplkdfiaa.fifoFull
open Go.ChangeShapes Go.WideShapes Go.ChangeAt Go.RowKit
open Go.ChangeMaps (open_string shut_string)
set_option linter.unusedVariables false

theorem own : ownKnob Try.prog.godebug = none := by kernel_rfl
theorem laidOut : laidOutB Try.prog = true := by kernel_rfl

set_option maxRecDepth 100000 in
set_option maxHeartbeats 8000000 in
theorem walk (a0 : Int) (a1 : Int) (w : World) (w0 : (Lit.int .u8 a0).wf = true) (w1 : (Lit.int .u16 a1).wf = true) :
    Calls Try.prog 8 #[.int .u8 a0, .int .u16 a1] w fun e w' => e = .returned (.bool true) ∧ Below w.heap.size w w' := by
  have hA := bounds_u8 w0
  have hM := bounds_u16 w1
  clear w0 w1
  obtain ⟨k, hk⟩ : ∃ k : Nat, a0 % 64 = k := ⟨(a0 % 64).toNat, by omega⟩
  have hk64 : k < 64 := by omega
  obtain ⟨f1, f2, f3, f4, f5⟩ := full_drop (k := k) (p := 64 + a1) hk64 (by omega)
  rw [← hk] at f1 f2 f3 f4 f5
  have F1 := Lib.hid f1
  have F2 := Lib.hid f2
  have F3 := Lib.hid f3
  have F4 := Lib.hid f4
  have F5 := Lib.hid f5
  clear f1 f2 f3 f4 f5 hk
  go_enter Try.func8, Try.ntmps8
  go_wp2_with fail
  refine (shown_any _).mono ?_
  rintro e W1 ⟨rfl, hb1⟩
  have HB1 := Lib.hid hb1
  clear hb1
  go_wp2_with fail
  refine (new_line _).mono ?_
  rintro e W2 ⟨b, rfl, hb, hL2, hB2⟩
  have HBB := Lib.hid hb
  have HL2 := Lib.hid hL2
  have HB2 := Lib.hid hB2
  clear hb hL2 hB2
  go_wp2_with fail
  go_loopw [7] (fun i wr => ∃ j : Nat, j ≤ 64 ∧ i = .int .i64 j ∧ LineAt wr b (iota j) ∧ Below W1.heap.size W1 wr) (fun i _ => 64 - (intOf i).toNat)
  case atStart => exact ⟨0, Nat.zero_le _, rfl, HL2.out, HB2.out⟩
  case round =>
    obtain ⟨j, hj, rfl, hL, hB⟩ := hrel
    have HL := Lib.hid hL
    have HB := Lib.hid hB
    clear hL hB
    by_cases hjn : j < 64
    · have hjn' : (j : Int) < 64 := by omega
      have hpo := iota_put hjn
      go_wp2_with fail
      refine (put_any b _ _ _ HL.out).mono ?_
      rintro e W3 ⟨rfl, hL3, hg3⟩
      have HL3 := Lib.hid (show LineAt W3 b (iota (j + 1)) by rw [hpo, if_pos rfl, ← iota_succ] at hL3; exact hL3)
      have HB3 := Lib.hid (HB.out.trans (gto hg3 HBB.out HB.out.size))
      rw [hpo]
      clear hL3 hg3 hpo
      go_wp2
      go_roundw
      case rel => exact ⟨j + 1, by omega, by go_num, HL3.out, HB3.out⟩
      case measure => simp [intOf]; omega
    · obtain rfl : j = 64 := by omega
      go_wp2_with fail
      refine (put_any b _ _ _ HL.out).mono ?_
      rintro e W3 ⟨rfl, hL3, hg3⟩
      have HL3 := Lib.hid (show LineAt W3 b (iota 64) by rw [iota_full] at hL3; exact hL3)
      have HB3 := Lib.hid (HB.out.trans (gto hg3 HBB.out HB.out.size))
      rw [iota_full]
      clear hL3 hg3
      go_wp2_with fail
      refine (drop_any b _ _ _ HL3.out iota_good).mono ?_
      rintro e W4 ⟨rfl, hL4, hg4⟩
      have HL4 := Lib.hid hL4
      have HB4 := Lib.hid (HB3.out.trans (gto hg4 HBB.out HB3.out.size))
      rw [F1.out]
      clear hL4 hg4
      go_wp2_with fail
      refine (put_any b _ _ _ HL4.out).mono ?_
      rintro e W5 ⟨rfl, hL5, hg5⟩
      have HL5 := Lib.hid (show LineAt W5 b (dropL (iota 64) (a0 % 64) ++ [64 + a1]) by rw [F2.out, if_pos rfl] at hL5; exact hL5)
      have HB5 := Lib.hid (HB4.out.trans (gto hg5 HBB.out HB4.out.size))
      rw [F2.out]
      clear hL5 hg5
      go_wp2_with fail
      refine (list_line b _ _ HL5.out).mono ?_
      rintro e W6 ⟨⟨a', c', rfl, hI6⟩, hB6⟩
      have HI6 := Lib.hid hI6
      have HB6 := Lib.hid (nx HB5.out hB6)
      rw [F3.out] at HI6 ⊢
      clear hI6 hB6
      go_wp2_with fail
      refine (take_nil _).mono ?_
      rintro e w' ⟨rfl, rfl⟩
      obtain ⟨b6, o6, ha6, hb6, hc6⟩ := HI6.out.cells (p := 63) (by rw [F3.out]; decide)
      subst ha6
      have hck6 := hc6 63 (by rw [F3.out]; decide)
      rw [F4.out] at hck6
      have heq : (64 + a1 == 64 + a1) = true := by simp
      clear hc6
      go_wp2_with fail
      refine (refHas_any _ 64 _ _ _ _ F3.out HI6.out (by omega)).mono ?_
      rintro e w' ⟨rfl, rfl⟩
      rw [F5.out]
      go_wp2_with fail
      refine (put_nil _ _).mono ?_
      rintro e w' ⟨rfl, rfl⟩
      go_wp2_with fail
      refine (drop_nil _ _).mono ?_
      rintro e w' ⟨rfl, rfl⟩
      go_wp2_with fail
      refine (len_nil _).mono ?_
      rintro e w' ⟨rfl, rfl⟩
      go_wp2_with fail
      refine (list_nil _).mono ?_
      rintro e w' ⟨rfl, rfl⟩
      go_wp2
      go_ret
      exact ⟨by simp, nx HB1.out HB6.out⟩

set_option maxRecDepth 100000 in
theorem lifted (os : Os) (started : os.Started) (H : Type) (enc : TypeId × Value → H) :
    ReturnsInHanded {} Try.checked os 8 .any (Rows.fifoFullSpec.pre6 enc Try.prog Try.f8 Rows.fifoFullRow.domain false) (Rows.fifoFullSpec.post enc Try.prog Try.f8 false true false false) := by
  refine returnsInHanded_of_change (C := Try.checked) own started (by kernel_rfl) Try.func8
    (ChangeSpec.witness6 (enc := enc) (C := Try.checked) false ⟨#[], #[.int .u8 0, .int .u16 0], []⟩ 8 (by kernel_rfl) (by kernel_rfl) (by kernel_rfl) (by kernel_rfl)) ?_
  intro W base args ds gs before hval0 hW hcnd _
  have hval : ∀ (j : Nat) t v, Try.f8.params[j]? = some t → args[j]? = some v → Value.okWide Try.prog W .any base t v := hval0
  have hW' := hW
  obtain ⟨p, q, hA0, hV, rfl, hfz, hnd⟩ := hW
  have hA : DataW.TrodAll enc Try.prog W 0 (fun _ => true) true Try.f8.params.toList args.toList ds p := hA0
  rw [Try.params8] at hA hval
  obtain ⟨v0, vs0, d0, ds0, p0, q0, hargs, rfl, rfl, h0, r0⟩ := trodAll_cons hA
  obtain ⟨v1, vs1, d1, ds1, p1, q1, rfl, rfl, rfl, h1, r1⟩ := trodAll_cons r0
  obtain ⟨rfl, rfl, rfl⟩ := trodAll_nil r1
  obtain rfl : args = #[v0, v1] := by cases args; simp_all
  obtain ⟨rfl, rfl⟩ := trodVars_none hV
  obtain ⟨a0, rfl, rfl, rfl, w0⟩ := open_int Try.underlying5 (hval 0 5 v0 rfl rfl) h0
  obtain ⟨a1, rfl, rfl, rfl, w1⟩ := open_int Try.underlying40 (hval 1 40 v1 rfl rfl) h1
  clear hA0 hval0
  refine (walk a0 a1 W w0 w1).mono fun e W' ⟨he, bel⟩ => ?_
  subst he
  exact ⟨_, rfl, _, _, _, [], _, [], hW', trodAll_mk1 (shut_bool Try.underlying4 _), (trodAll_cons_mk (shut_int Try.underlying5 w0) (trodAll_cons_mk (shut_int Try.underlying40 w1) trodAll_mk0)), rfl, bel.frame _, fun h => by cases h⟩

theorem over : Rows.fifoFullRow.holds Try.pinned (OpenSpec.ofChange Rows.fifoFullSpec) :=
  OpenClaim.holds_of_wide 8 Try.f8 rfl rfl rfl rfl rfl rfl rfl ⟨rfl, rfl, rfl, rfl, rfl⟩ rfl rfl rfl rfl rfl (by kernel_rfl) Try.func8 (by kernel_rfl)
    (of_decide_eq_true (by kernel_rfl)) (by unfold Func.isWrapper; first | (rw [if_pos (by decide +kernel)]; kernel_rfl) | (rw [if_neg (by decide +kernel)]; exact ⟨rfl, rfl⟩))
    (fun os started H enc _ => lifted os started H enc)

theorem proved : Rows.FifoFullSaid := over
#print axioms proved
end Go.Proofs.Ytdijafdplkdfiaa.fifoFull
