/- LoadIdles: at every input the law returns true and leaves its arguments as they were: where the least load is none the idle P is the least one, else there is none. Conditions: none beyond the row's own. -/
import Derived.Test.YtigpcjikdpknnaaRows
import Derived.Test.YtigpcjikdpknnaaLawB
import Derived.WalkKit
import Derived.ProofKit
import Derived.OpenShut
import Derived.ShutString
import Derived.ChangeOld
import Derived.Below
namespace Go.Proofs.Ytigpcjikdpknnaa.loadIdles
open Go.ChangeShapes Go.WideShapes Go.ChangeAt Go.RowKit
open Go.ChangeMaps (open_string shut_string)
set_option linter.unusedVariables false

theorem own : ownKnob Try.prog.godebug = none := by kernel_rfl
theorem laidOut : laidOutB Try.prog = true := by kernel_rfl

theorem walk (a0 : Option Addr) (len0 cap0 : Nat) (z0 : List Int) (a1 : Int) (w : World) (w0 : IsRow .u64 w a0 len0 cap0 z0) (w1 : (Lit.int .u64 a1).wf = true) :
    Calls Try.prog 5 #[.slice a0 len0 cap0, .int .u64 a1] w fun e w' => e = .returned (.bool true) ∧ Below w.heap.size w w' := by
  obtain ⟨zs, hn1, hn2, hI, hz, hf⟩ := pre w0
  have hr : zs.length * 8 ≤ 140737488351232 := by omega
  have HI := Lib.hid hI
  have HF := Lib.hid hf
  have hcase := idle_least (m := a1) hz
  clear hI hf w0 w1 hz
  rcases hcase with ⟨p, e1, e2, e3, e4⟩ | ⟨p, e1, e2, e3, e4⟩ | ⟨e1, e4⟩
  · have H1 := Lib.hid e1
    have H4 := Lib.hid e4
    have hzb : (zat zs p == 0) = true := by simp [e3]
    have e2' : (p : Int) < (zs.length : Int) := by omega
    clear e1 e3 e4
    go_enter Try.func5, Try.ntmps5
    go_wp2_with fail
    refine (shown_any _).mono ?_
    rintro e W1 ⟨rfl, hb1⟩
    have HI1 := Lib.hid (nx0 hb1 HI.out)
    go_wp2_with fail
    refine (HF.out _ _ (.inl rfl)).mono ?_
    rintro e W' ⟨rfl, rfl⟩
    go_wp2_with fail
    refine (idle0_any _ _ _ zs _ _ HI1.out hr).mono ?_
    rintro e W2 ⟨rfl, hb2⟩
    rw [H4.out]
    have HI2 := Lib.hid (nx0 hb2 HI1.out)
    go_wp2_with fail
    refine (least_any _ _ _ zs _ _ HI2.out hr).mono ?_
    rintro e W3 ⟨rfl, hb3⟩
    rw [H1.out]
    obtain ⟨b, off, ha, hb, hc⟩ := (nx0 hb3 HI2.out).cells e2
    subst ha
    have hcp := hc p e2
    clear hc
    go_wp2
    go_ret
    exact ⟨by simp, nx (nx hb1 hb2) hb3⟩
  · have H1 := Lib.hid e1
    have H4 := Lib.hid e4
    have hzb : (zat zs p == 0) = false := by simp [e3]
    have e2' : (p : Int) < (zs.length : Int) := by omega
    clear e1 e3 e4
    go_enter Try.func5, Try.ntmps5
    go_wp2_with fail
    refine (shown_any _).mono ?_
    rintro e W1 ⟨rfl, hb1⟩
    have HI1 := Lib.hid (nx0 hb1 HI.out)
    go_wp2_with fail
    refine (HF.out _ _ (.inl rfl)).mono ?_
    rintro e W' ⟨rfl, rfl⟩
    go_wp2_with fail
    refine (idle0_any _ _ _ zs _ _ HI1.out hr).mono ?_
    rintro e W2 ⟨rfl, hb2⟩
    rw [H4.out]
    have HI2 := Lib.hid (nx0 hb2 HI1.out)
    go_wp2_with fail
    refine (least_any _ _ _ zs _ _ HI2.out hr).mono ?_
    rintro e W3 ⟨rfl, hb3⟩
    rw [H1.out]
    obtain ⟨b, off, ha, hb, hc⟩ := (nx0 hb3 HI2.out).cells e2
    subst ha
    have hcp := hc p e2
    clear hc
    go_wp2
    go_ret
    exact ⟨rfl, nx (nx hb1 hb2) hb3⟩
  · have H1 := Lib.hid e1
    have H4 := Lib.hid e4
    clear e1 e4
    go_enter Try.func5, Try.ntmps5
    go_wp2_with fail
    refine (shown_any _).mono ?_
    rintro e W1 ⟨rfl, hb1⟩
    have HI1 := Lib.hid (nx0 hb1 HI.out)
    go_wp2_with fail
    refine (HF.out _ _ (.inl rfl)).mono ?_
    rintro e W' ⟨rfl, rfl⟩
    go_wp2_with fail
    refine (idle0_any _ _ _ zs _ _ HI1.out hr).mono ?_
    rintro e W2 ⟨rfl, hb2⟩
    rw [H4.out]
    have HI2 := Lib.hid (nx0 hb2 HI1.out)
    go_wp2_with fail
    refine (least_any _ _ _ zs _ _ HI2.out hr).mono ?_
    rintro e W3 ⟨rfl, hb3⟩
    rw [H1.out]
    go_wp2
    go_ret
    exact ⟨rfl, nx (nx hb1 hb2) hb3⟩

set_option maxRecDepth 100000 in
theorem lifted (os : Os) (started : os.Started) (H : Type) (enc : TypeId × Value → H) :
    ReturnsInHanded {} Try.checked os 5 .any (Rows.loadIdlesSpec.pre6 enc Try.prog Try.f5 Rows.loadIdlesRow.domain false) (Rows.loadIdlesSpec.post enc Try.prog Try.f5 false true false false) := by
  refine returnsInHanded_of_change (C := Try.checked) own started (by kernel_rfl) Try.func5
    (ChangeSpec.witness6 (enc := enc) (C := Try.checked) false ⟨#[], #[.slice none 0 0, .int .u64 0], []⟩ 8 (by kernel_rfl) (by kernel_rfl) (by kernel_rfl) (by kernel_rfl)) ?_
  intro W base args ds gs before hval0 hW hcnd _
  have hval : ∀ (j : Nat) t v, Try.f5.params[j]? = some t → args[j]? = some v → Value.okWide Try.prog W .any base t v := hval0
  have hW' := hW
  obtain ⟨p, q, hA0, hV, rfl, hfz, hnd⟩ := hW
  have hA : DataW.TrodAll enc Try.prog W 0 (fun _ => true) true Try.f5.params.toList args.toList ds p := hA0
  rw [Try.params5] at hA hval
  obtain ⟨v0, vs0, d0, ds0, p0, q0, hargs, rfl, rfl, h0, r0⟩ := trodAll_cons hA
  obtain ⟨v1, vs1, d1, ds1, p1, q1, rfl, rfl, rfl, h1, r1⟩ := trodAll_cons r0
  obtain ⟨rfl, rfl, rfl⟩ := trodAll_nil r1
  obtain rfl : args = #[v0, v1] := by cases args; simp_all
  obtain ⟨rfl, rfl⟩ := trodVars_none hV
  obtain ⟨a0, len0, cap0, rfl⟩ := okWide_slice Try.underlying22 (hval 0 22 v0 rfl rfl)
  have k0 := h0
  have lt0 : ∀ x ∈ p0, x.block < W.heap.size := by obtain ⟨m, hm⟩ := k0; exact DataW.trod_lt m _ _ _ hm
  obtain ⟨z0, w0⟩ : ∃ zs, IsRow .u64 W a0 len0 cap0 zs := by
    obtain ⟨fuel, hf⟩ := h0
    rcases open_ints Try.underlying22 Try.underlying23 (by kernel_rfl) hf with ⟨hcs, _⟩ | ⟨x, l, c, zs, hcs, _, hl, hm, hz, _, hcell, hwz⟩
    · simp [Value.cells] at hcs
      obtain ⟨rfl, rfl, rfl⟩ := hcs
      exact ⟨[], .inl ⟨rfl, rfl, rfl, rfl⟩⟩
    · simp [Value.cells] at hcs
      obtain ⟨rfl, rfl, rfl⟩ := hcs
      exact ⟨zs, .inr ⟨_, rfl, hl, hm, by simpa using hz, hcell, hwz⟩⟩
  obtain ⟨a1, rfl, rfl, rfl, w1⟩ := open_int Try.underlying23 (hval 1 23 v1 rfl rfl) h1
  clear hA0 hval0
  refine (walk a0 len0 cap0 z0 a1 W w0 w1).mono fun e W' ⟨he, bel⟩ => ?_
  subst he
  exact ⟨_, rfl, _, _, _, [], _, [], hW', trodAll_mk1 (shut_bool Try.underlying4 _), (trodAll_cons_mk (Below.trod laidOut (by kernel_rfl) (of_decide_eq_true (by kernel_rfl)) k0 bel lt0) (trodAll_cons_mk (shut_int Try.underlying23 w1) trodAll_mk0)), rfl, bel.frame _, fun h => by cases h⟩

theorem over : Rows.loadIdlesRow.holds Try.pinned (OpenSpec.ofChange Rows.loadIdlesSpec) :=
  OpenClaim.holds_of_wide 5 Try.f5 rfl rfl rfl rfl rfl rfl rfl ⟨rfl, rfl, rfl, rfl, rfl⟩ rfl rfl rfl rfl rfl (by kernel_rfl) Try.func5 (by kernel_rfl)
    (of_decide_eq_true (by kernel_rfl)) (by unfold Func.isWrapper; first | (rw [if_pos (by decide +kernel)]; kernel_rfl) | (rw [if_neg (by decide +kernel)]; exact ⟨rfl, rfl⟩))
    (fun os started H enc _ => lifted os started H enc)

theorem proved : Rows.LoadIdlesSaid := over
#print axioms proved
end Go.Proofs.Ytigpcjikdpknnaa.loadIdles
