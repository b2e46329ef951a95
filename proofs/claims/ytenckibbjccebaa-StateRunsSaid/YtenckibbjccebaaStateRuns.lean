/- StateRuns: at every input the law returns true and leaves its arguments as they were: of a row that is taken a task was picked as often as it stopped, or once more where it runs. Conditions: none beyond the row's own. -/
import Derived.Test.YtenckibbjccebaaRows
import Derived.Test.YtenckibbjccebaaLaw
import Derived.WalkKit
import Derived.Deep.QuietTactic
import Derived.BigQuiet
import Derived.ProofKit
import Derived.OpenShut
import Derived.ShutString
import Derived.ChangeOld
import Derived.Below
namespace Go.Proofs.Ytenckibbjccebaa.stateRuns
open Go.ChangeShapes Go.WideShapes Go.ChangeAt Go.RowKit
open Go.ChangeMaps (open_string shut_string)
set_option linter.unusedVariables false

theorem own : ownKnob Try.prog.godebug = none := by kernel_rfl
theorem laidOut : laidOutB Try.prog = true := by kernel_rfl

set_option maxRecDepth 100000 in
set_option maxHeartbeats 4000000 in
theorem walk (a0 : Option Addr) (len0 cap0 : Nat) (z0 : List Int) (w : World) (w0 : IsRow .i64 w a0 len0 cap0 z0) :
    Calls Try.prog 5 #[.slice a0 len0 cap0] w fun e w' => e = .returned (.bool true) ∧ Below w.heap.size w w' := by
  obtain ⟨zs, hl, hI, hr⟩ := pre w0
  have HI := Lib.hid hI
  have HL := Lib.hid hl
  clear hI w0
  rcases takes_or 1 zs with ht | ⟨A, E, M, e1, e2, e3⟩
  · have hs := script_takes ht
    rw [hl] at hs
    have HS := Lib.hid hs
    have hcnt := fun k (hk : k ≤ zs.length) => counted (takes_take ht k)
    have HC := Lib.hid hcnt
    have hfin := counted ht
    rw [hl] at hfin
    have HF := Lib.hid hfin
    clear hs hcnt hfin ht hl
    go_enter Try.func5, Try.ntmps5
    go_wp2_with fail
    refine (shown_any _).mono ?_
    rintro r W1 ⟨rfl, hb1⟩
    have HI1 := Lib.hid (nx0 hb1 HI.out)
    go_wp2_with fail
    refine (script_any _ _ _ zs _ HL.out HI1.out hr).mono ?_
    rintro r W2 ⟨rfl, hb2⟩
    rw [HS.out]
    have HI2 := Lib.hid (nx0 hb2 HI1.out)
    go_wp2_with fail
    go_loop [7, 8, 9] (fun p s i => ∃ k : Nat, k ≤ len0 ∧ i = .int .i64 k ∧ p = .int .i64 (picks (zs.take k)) ∧ s = .int .i64 (stops (zs.take k))) (fun _ _ i => len0 - (intOf i).toNat)
    case atStart => exact ⟨0, by omega, rfl, by simp [picks], by simp [stops]⟩
    case round =>
      obtain ⟨k, hk, rfl, rfl, rfl⟩ := hrel
      by_cases hlt : k < len0
      · obtain ⟨b, off, ha, hb, hc⟩ := HI2.out.cells (p := k) (by rw [HL.out]; exact hlt)
        subst ha
        have hck := hc k (by rw [HL.out]; exact hlt)
        clear hc
        have hlt' : (k : Int) < (len0 : Int) := by omega
        have h1 := HC.out k (by rw [HL.out]; omega)
        have h2 := HC.out (k + 1) (by rw [HL.out]; omega)
        have hp := picks_snoc (zs.take k) (zat zs k)
        have hst := stops_snoc (zs.take k) (zat zs k)
        rw [← take_zat (by rw [HL.out]; exact hlt)] at hp hst
        obtain ⟨hP0, hP1, hS0, hS1, hd1, hd2⟩ : 0 ≤ picks (zs.take k) ∧ picks (zs.take k) ≤ k ∧ 0 ≤ stops (zs.take k) ∧ stops (zs.take k) ≤ k ∧ stops (zs.take (k + 1)) ≤ picks (zs.take (k + 1)) ∧ picks (zs.take (k + 1)) ≤ stops (zs.take (k + 1)) + 1 := by
          have hkl : (zs.take k).length = k := by rw [List.length_take, HL.out]; omega
          rw [hkl] at h1
          refine ⟨?_, h1.2.2.1, h1.2.1, h1.2.2.2, ?_, ?_⟩
          · have := h1.1; have := h1.2.1; split at * <;> omega
          · have := h2.1; split at this <;> omega
          · have := h2.1; split at this <;> omega
        clear h1 h2
        have HP := Lib.hid hp
        have HSt := Lib.hid hst
        clear hp hst
        generalize picks (zs.take k) = P at *
        generalize stops (zs.take k) = S at *
        generalize zat zs k = Z at *
        by_cases z101 : Z = 101
        · subst z101
          have e1 : picks (zs.take (k + 1)) = P + 1 := by rw [HP.out]; simp
          have e2 : stops (zs.take (k + 1)) = S := by rw [HSt.out]; simp
          rw [e1, e2] at hd1 hd2
          have H1 := Lib.hid e1
          have H2 := Lib.hid e2
          clear e1 e2
          go_wp2
          go_round
          case rel => exact ⟨k + 1, by omega, by go_num, by rw [H1.out], by rw [H2.out]⟩
          case measure => simp [intOf]; omega
        · have e1 : picks (zs.take (k + 1)) = P := by rw [HP.out, if_neg z101]; omega
          have b101 : (Z == 101) = false := by simpa using z101
          by_cases zst : Z = 8 ∨ Z = 9 ∨ Z = 10 ∨ Z = 102
          · have e2 : stops (zs.take (k + 1)) = S + 1 := by rw [HSt.out, if_pos zst]
            rw [e1, e2] at hd1 hd2
            have H1 := Lib.hid e1
            have H2 := Lib.hid e2
            clear e1 e2
            rcases zst with rfl | rfl | rfl | rfl
            all_goals
              clear z101 b101
              go_wp2
              go_round
              case rel => exact ⟨k + 1, by omega, by go_num, by rw [H1.out], by rw [H2.out]⟩
              case measure => simp [intOf]; omega
          · have e2 : stops (zs.take (k + 1)) = S := by rw [HSt.out, if_neg zst]; omega
            rw [e1, e2] at hd1 hd2
            have H1 := Lib.hid e1
            have H2 := Lib.hid e2
            clear e1 e2
            have b8 : (Z == 8) = false := by simp; omega
            have b9 : (Z == 9) = false := by simp; omega
            have b10 : (Z == 10) = false := by simp; omega
            have b102 : (Z == 102) = false := by simp; omega
            clear z101 zst
            go_wp2
            go_round
            case rel => exact ⟨k + 1, by omega, by go_num, by rw [H1.out], by rw [H2.out]⟩
            case measure => simp [intOf]; omega
      · obtain rfl : k = len0 := by omega
        have ht2 : zs.take k = zs := List.take_of_length_le (by rw [HL.out]; exact Nat.le_refl _)
        rw [ht2]
        have hF := HF.out
        clear ht2
        generalize picks zs = P at *
        generalize stops zs = S at *
        generalize runs 1 zs = R at *
        by_cases hR : R = 3
        · rw [if_pos hR] at hF
          have e1 : P = S + 1 := by omega
          subst e1 hR
          obtain ⟨_, f1, f2, f3⟩ := hF
          go_wp2
          go_ret
          exact ⟨by simp, nx hb1 hb2⟩
        · rw [if_neg hR] at hF
          have e1 : P = S := by omega
          subst e1
          obtain ⟨_, f1, f2, f3⟩ := hF
          have bR : (R == 3) = false := by simpa using hR
          have hW : ¬ P = wrap64 (P + 1) := by unfold wrap64; omega
          have HW := Lib.hid hW
          clear hR hW
          go_wp2
          go_ret
          exact ⟨by simp; exact HW.out, nx hb1 hb2⟩
  · have hs := script_stops (s := 1) M e2 e3
    rw [← e1] at hs
    have HS := Lib.hid hs
    have hE : ((next (runs 1 A) E).2 == 0) = false := by simpa using e3
    clear e1 e2 e3 hs hl
    generalize (next (runs 1 A) E).2 = X at *
    go_enter Try.func5, Try.ntmps5
    go_wp2_with fail
    refine (shown_any _).mono ?_
    rintro r W1 ⟨rfl, hb1⟩
    have HI1 := Lib.hid (nx0 hb1 HI.out)
    go_wp2_with fail
    refine (script_any _ _ _ zs _ HL.out HI1.out hr).mono ?_
    rintro r W2 ⟨rfl, hb2⟩
    rw [HS.out]
    go_wp2
    go_ret
    exact ⟨rfl, nx hb1 hb2⟩

set_option maxRecDepth 100000 in
theorem lifted (os : Os) (started : os.Started) (H : Type) (enc : TypeId × Value → H) :
    ReturnsInHanded {} Try.checked os 5 .any (Rows.stateRunsSpec.pre6 enc Try.prog Try.f5 Rows.stateRunsRow.domain false) (Rows.stateRunsSpec.post enc Try.prog Try.f5 false true false false) := by
  refine returnsInHanded_of_change (C := Try.checked) own started (by kernel_rfl) Try.func5
    (ChangeSpec.witness6 (enc := enc) (C := Try.checked) false ⟨#[], #[.slice none 0 0], []⟩ 8 (by kernel_rfl) (by kernel_rfl) (by kernel_rfl) (by kernel_rfl)) ?_
  intro W base args ds gs before hval0 hW hcnd _
  have hval : ∀ (j : Nat) t v, Try.f5.params[j]? = some t → args[j]? = some v → Value.okWide Try.prog W .any base t v := hval0
  have hW' := hW
  obtain ⟨p, q, hA0, hV, rfl, hfz, hnd⟩ := hW
  have hA : DataW.TrodAll enc Try.prog W 0 (fun _ => true) true Try.f5.params.toList args.toList ds p := hA0
  rw [Try.params5] at hA hval
  obtain ⟨v0, vs0, d0, ds0, p0, q0, hargs, rfl, rfl, h0, r0⟩ := trodAll_cons hA
  obtain ⟨rfl, rfl, rfl⟩ := trodAll_nil r0
  obtain rfl : args = #[v0] := by cases args; simp_all
  obtain ⟨rfl, rfl⟩ := trodVars_none hV
  obtain ⟨a0, len0, cap0, rfl⟩ := okWide_slice Try.underlying22 (hval 0 22 v0 rfl rfl)
  have k0 := h0
  have lt0 : ∀ x ∈ p0, x.block < W.heap.size := by obtain ⟨m, hm⟩ := k0; exact DataW.trod_lt m _ _ _ hm
  obtain ⟨z0, w0⟩ : ∃ zs, IsRow .i64 W a0 len0 cap0 zs := by
    obtain ⟨fuel, hf⟩ := h0
    rcases open_ints Try.underlying22 Try.underlying3 (by kernel_rfl) hf with ⟨hcs, _⟩ | ⟨x, l, c, zs, hcs, _, hl, hm, hz, _, hcell, hwz⟩
    · simp [Value.cells] at hcs
      obtain ⟨rfl, rfl, rfl⟩ := hcs
      exact ⟨[], .inl ⟨rfl, rfl, rfl, rfl⟩⟩
    · simp [Value.cells] at hcs
      obtain ⟨rfl, rfl, rfl⟩ := hcs
      exact ⟨zs, .inr ⟨_, rfl, hl, hm, by simpa using hz, hcell, hwz⟩⟩
  clear hA0 hval0
  refine (walk a0 len0 cap0 z0 W w0).mono fun e W' ⟨he, bel⟩ => ?_
  subst he
  exact ⟨_, rfl, _, _, _, [], _, [], hW', trodAll_mk1 (shut_bool Try.underlying4 _), (trodAll_cons_mk (Below.trod laidOut (by kernel_rfl) (of_decide_eq_true (by kernel_rfl)) k0 bel lt0) trodAll_mk0), rfl, bel.frame _, fun h => by cases h⟩

theorem over : Rows.stateRunsRow.holds Try.pinned (OpenSpec.ofChange Rows.stateRunsSpec) :=
  OpenClaim.holds_of_wide 5 Try.f5 rfl rfl rfl rfl rfl rfl rfl ⟨rfl, rfl, rfl, rfl, rfl⟩ rfl rfl rfl rfl rfl (by kernel_rfl) Try.func5 (by kernel_rfl)
    (of_decide_eq_true (by kernel_rfl)) (by unfold Func.isWrapper; first | (rw [if_pos (by decide +kernel)]; kernel_rfl) | (rw [if_neg (by decide +kernel)]; exact ⟨rfl, rfl⟩))
    (fun os started H enc _ => lifted os started H enc)

theorem proved : Rows.StateRunsSaid := over
#print axioms proved
end Go.Proofs.Ytenckibbjccebaa.stateRuns
