/- AuditNumbers: at every input the law returns true and leaves its arguments as they were: whether just some had more, and whether any two are never far apart, is as the document says. Conditions: none beyond the row's own. -/
import Derived.Test.YtoclkhnejanlnaaRows
import Derived.Test.YtoclkhnejanlnaaSums
import Derived.Test.YtoclkhnejanlnaaRefFar
import Derived.WalkKit
import Derived.Deep.QuietTactic
import Derived.BigQuiet
import Derived.ProofKit
import Derived.OpenShut
import Derived.ShutString
import Derived.ChangeOld
import Derived.Below
namespace Go.Proofs.Ytoclkhnejanlnaa.auditNumbers
open Go.ChangeShapes Go.WideShapes Go.ChangeAt Go.RowKit
open Go.ChangeMaps (open_string shut_string)
set_option linter.unusedVariables false

theorem own : ownKnob Try.prog.godebug = none := by kernel_rfl
theorem laidOut : laidOutB Try.prog = true := by kernel_rfl

set_option maxRecDepth 100000 in
set_option maxHeartbeats 8000000 in
theorem walk (a0 : Option Addr) (len0 cap0 : Nat) (z0 : List Int) (a1 : Option Addr) (len1 cap1 : Nat) (z1 : List Int) (a2 : Option Addr) (len2 cap2 : Nat) (z2 : List Int) (a3 : Int) (a4 : Int) (a5 : Int) (w : World) (w0 : IsInts w a0 len0 cap0 z0) (w1 : IsInts w a1 len1 cap1 z1) (w2 : IsInts w a2 len2 cap2 z2) (w3 : (Lit.int .i64 a3).wf = true) (w4 : (Lit.int .u64 a4).wf = true) (w5 : (Lit.int .u64 a5).wf = true) :
    Calls Try.prog 7 #[.slice a0 len0 cap0, .slice a1 len1 cap1, .slice a2 len2 cap2, .int .i64 a3, .int .u64 a4, .int .u64 a5] w fun e w' => e = .returned (.bool true) ∧ Below w.heap.size w w' := by
  obtain ⟨hl0, hc0, _, hr0, _⟩ := w0
  obtain ⟨hl1, hc1, _, hr1, _⟩ := w1
  obtain ⟨hl2, hc2, _, hr2, _⟩ := w2
  have hU := bounds_u64 w4
  have hV := bounds_u64 w5
  have HR0 := Lib.hid hr0
  have HR1 := Lib.hid hr1
  have HR2 := Lib.hid hr2
  have m0 : len0 ≤ 9223372036854775807 := by omega
  have m1 : len1 ≤ 9223372036854775807 := by omega
  have m2 : len2 ≤ 9223372036854775807 := by omega
  clear hr0 hr1 hr2 w3 w4 w5
  by_cases g0 : (300 : Int) < (len0 : Int)
  · go_enter Try.func7, Try.ntmps7
    go_wp2_with fail
    refine (shown_any _).mono ?_
    rintro e W1 ⟨rfl, hb1⟩
    have HB1 := Lib.hid hb1
    clear hb1
    go_wp2
    go_ret
    exact ⟨rfl, HB1.out⟩
  · by_cases g1 : (300 : Int) < (len1 : Int)
    · go_enter Try.func7, Try.ntmps7
      go_wp2_with fail
      refine (shown_any _).mono ?_
      rintro e W1 ⟨rfl, hb1⟩
      have HB1 := Lib.hid hb1
      clear hb1
      go_wp2
      go_ret
      exact ⟨rfl, HB1.out⟩
    · by_cases g2 : (300 : Int) < (len2 : Int)
      · go_enter Try.func7, Try.ntmps7
        go_wp2_with fail
        refine (shown_any _).mono ?_
        rintro e W1 ⟨rfl, hb1⟩
        have HB1 := Lib.hid hb1
        clear hb1
        go_wp2
        go_ret
        exact ⟨rfl, HB1.out⟩
      · go_enter Try.func7, Try.ntmps7
        go_wp2_with fail
        refine (shown_any _).mono ?_
        rintro e W1 ⟨rfl, hb1⟩
        have HB1 := Lib.hid hb1
        clear hb1
        go_wp2_with fail
        refine (credits_any (zb := z0) (zo := z2) (za := z1) _ (HR0.out.next HB1.out) (HR2.out.next HB1.out) (HR1.out.next HB1.out) m0 m2).mono ?_
        rintro e W2 ⟨rfl, hb2⟩
        have HB2 := Lib.hid (nx HB1.out hb2)
        clear hb2
        go_wp2_with fail
        refine (refCredits_any (zb := z0) (zo := z2) (za := z1) _ (HR0.out.next HB2.out) (HR2.out.next HB2.out) (HR1.out.next HB2.out) m0 m2).mono ?_
        rintro e W3 ⟨rfl, hb3⟩
        have HB3 := Lib.hid (nx HB2.out hb3)
        clear hb3
        go_wp2_with fail
        refine (apart_any (za := z0) (zb := z1) a4 a5 a3 _ (HR0.out.next HB3.out) (HR1.out.next HB3.out) m0 m1 hU.1 hU.2 hV.1 hV.2).mono ?_
        rintro e W4 ⟨rfl, hb4⟩
        have HB4 := Lib.hid (nx HB3.out hb4)
        clear hb4
        go_wp2_with fail
        refine (refApart_any (za := z0) (zb := z1) a4 a5 a3 _ (HR0.out.next HB4.out) (HR1.out.next HB4.out) m0 m1 hU.1 hU.2 hV.1 hV.2).mono ?_
        rintro e W5 ⟨rfl, hb5⟩
        have HB5 := Lib.hid (nx HB4.out hb5)
        clear hb5
        go_wp2
        go_ret
        exact ⟨rfl, HB5.out⟩

set_option maxRecDepth 100000 in
theorem lifted (os : Os) (started : os.Started) (H : Type) (enc : TypeId × Value → H) :
    ReturnsInHanded {} Try.checked os 7 .any (Rows.auditNumbersSpec.pre6 enc Try.prog Try.f7 Rows.auditNumbersRow.domain false) (Rows.auditNumbersSpec.post enc Try.prog Try.f7 false true false false) := by
  refine returnsInHanded_of_change (C := Try.checked) own started (by kernel_rfl) Try.func7
    (ChangeSpec.witness6 (enc := enc) (C := Try.checked) false ⟨#[], #[.slice none 0 0, .slice none 0 0, .slice none 0 0, .int .i64 0, .int .u64 0, .int .u64 0], []⟩ 8 (by kernel_rfl) (by kernel_rfl) (by kernel_rfl) (by kernel_rfl)) ?_
  intro W base args ds gs before hval0 hW hcnd _
  have hval : ∀ (j : Nat) t v, Try.f7.params[j]? = some t → args[j]? = some v → Value.okWide Try.prog W .any base t v := hval0
  have hW' := hW
  obtain ⟨p, q, hA0, hV, rfl, hfz, hnd⟩ := hW
  have hA : DataW.TrodAll enc Try.prog W 0 (fun _ => true) true Try.f7.params.toList args.toList ds p := hA0
  rw [Try.params7] at hA hval
  obtain ⟨v0, vs0, d0, ds0, p0, q0, hargs, rfl, rfl, h0, r0⟩ := trodAll_cons hA
  obtain ⟨v1, vs1, d1, ds1, p1, q1, rfl, rfl, rfl, h1, r1⟩ := trodAll_cons r0
  obtain ⟨v2, vs2, d2, ds2, p2, q2, rfl, rfl, rfl, h2, r2⟩ := trodAll_cons r1
  obtain ⟨v3, vs3, d3, ds3, p3, q3, rfl, rfl, rfl, h3, r3⟩ := trodAll_cons r2
  obtain ⟨v4, vs4, d4, ds4, p4, q4, rfl, rfl, rfl, h4, r4⟩ := trodAll_cons r3
  obtain ⟨v5, vs5, d5, ds5, p5, q5, rfl, rfl, rfl, h5, r5⟩ := trodAll_cons r4
  obtain ⟨rfl, rfl, rfl⟩ := trodAll_nil r5
  obtain rfl : args = #[v0, v1, v2, v3, v4, v5] := by cases args; simp_all
  obtain ⟨rfl, rfl⟩ := trodVars_none hV
  obtain ⟨a0, len0, cap0, rfl⟩ := okWide_slice Try.underlying36 (hval 0 36 v0 rfl rfl)
  have k0 := h0
  have lt0 : ∀ x ∈ p0, x.block < W.heap.size := by obtain ⟨m, hm⟩ := k0; exact DataW.trod_lt m _ _ _ hm
  obtain ⟨z0, w0⟩ : ∃ z, IsInts W a0 len0 cap0 z := by
    obtain ⟨fuel, hf⟩ := h0
    exact open_longs hf
  obtain ⟨a1, len1, cap1, rfl⟩ := okWide_slice Try.underlying36 (hval 1 36 v1 rfl rfl)
  have k1 := h1
  have lt1 : ∀ x ∈ p1, x.block < W.heap.size := by obtain ⟨m, hm⟩ := k1; exact DataW.trod_lt m _ _ _ hm
  obtain ⟨z1, w1⟩ : ∃ z, IsInts W a1 len1 cap1 z := by
    obtain ⟨fuel, hf⟩ := h1
    exact open_longs hf
  obtain ⟨a2, len2, cap2, rfl⟩ := okWide_slice Try.underlying22 (hval 2 22 v2 rfl rfl)
  have k2 := h2
  have lt2 : ∀ x ∈ p2, x.block < W.heap.size := by obtain ⟨m, hm⟩ := k2; exact DataW.trod_lt m _ _ _ hm
  obtain ⟨z2, w2⟩ : ∃ z, IsInts W a2 len2 cap2 z := by
    obtain ⟨fuel, hf⟩ := h2
    exact open_ints' hf
  obtain ⟨a3, rfl, rfl, rfl, w3⟩ := open_int Try.underlying2 (hval 3 2 v3 rfl rfl) h3
  obtain ⟨a4, rfl, rfl, rfl, w4⟩ := open_int Try.underlying29 (hval 4 29 v4 rfl rfl) h4
  obtain ⟨a5, rfl, rfl, rfl, w5⟩ := open_int Try.underlying29 (hval 5 29 v5 rfl rfl) h5
  clear hA0 hval0
  refine (walk a0 len0 cap0 z0 a1 len1 cap1 z1 a2 len2 cap2 z2 a3 a4 a5 W w0 w1 w2 w3 w4 w5).mono fun e W' ⟨he, bel⟩ => ?_
  subst he
  exact ⟨_, rfl, _, _, _, [], _, [], hW', trodAll_mk1 (shut_bool Try.underlying4 _), (trodAll_cons_mk (Below.trod laidOut (by kernel_rfl) (of_decide_eq_true (by kernel_rfl)) k0 bel lt0) (trodAll_cons_mk (Below.trod laidOut (by kernel_rfl) (of_decide_eq_true (by kernel_rfl)) k1 bel lt1) (trodAll_cons_mk (Below.trod laidOut (by kernel_rfl) (of_decide_eq_true (by kernel_rfl)) k2 bel lt2) (trodAll_cons_mk (shut_int Try.underlying2 w3) (trodAll_cons_mk (shut_int Try.underlying29 w4) (trodAll_cons_mk (shut_int Try.underlying29 w5) trodAll_mk0)))))), rfl, bel.frame _, fun h => by cases h⟩

theorem over : Rows.auditNumbersRow.holds Try.pinned (OpenSpec.ofChange Rows.auditNumbersSpec) :=
  OpenClaim.holds_of_wide 7 Try.f7 rfl rfl rfl rfl rfl rfl rfl ⟨rfl, rfl, rfl, rfl, rfl⟩ rfl rfl rfl rfl rfl (by kernel_rfl) Try.func7 (by kernel_rfl)
    (of_decide_eq_true (by kernel_rfl)) (by unfold Func.isWrapper; first | (rw [if_pos (by decide +kernel)]; kernel_rfl) | (rw [if_neg (by decide +kernel)]; exact ⟨rfl, rfl⟩))
    (fun os started H enc _ => lifted os started H enc)

theorem proved : Rows.AuditNumbersSaid := over
#print axioms proved
end Go.Proofs.Ytoclkhnejanlnaa.auditNumbers
