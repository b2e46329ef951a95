/- LoadMasks: at every input the law returns true and leaves its arguments as they were: with a mask of none there is none, with a mask of one that is it. Conditions: none beyond the row's own. -/
import Derived.Test.YtigpcjikdpknnaaRows
import Derived.Test.YtigpcjikdpknnaaLawB
import Derived.WalkKit
import Derived.ProofKit
import Derived.OpenShut
import Derived.ShutString
import Derived.ChangeOld
import Derived.Below
namespace Go.Proofs.Ytigpcjikdpknnaa.loadMasks
open Go.ChangeShapes Go.WideShapes Go.ChangeAt Go.RowKit
open Go.ChangeMaps (open_string shut_string)
set_option linter.unusedVariables false

theorem own : ownKnob Try.prog.godebug = none := by kernel_rfl
theorem laidOut : laidOutB Try.prog = true := by kernel_rfl

theorem walk (a0 : Option Addr) (len0 cap0 : Nat) (z0 : List Int) (a1 : Int) (w : World) (w0 : IsRow .u64 w a0 len0 cap0 z0) (w1 : (Lit.int .u8 a1).wf = true) :
    Calls Try.prog 6 #[.slice a0 len0 cap0, .int .u8 a1] w fun e w' => e = .returned (.bool true) ∧ Below w.heap.size w w' := by
  obtain ⟨zs, hn1, hn2, hI, hz, hf⟩ := pre w0
  have hr : zs.length * 8 ≤ 140737488351232 := by omega
  have HI := Lib.hid hI
  have HF := Lib.hid hf
  have hA := bounds_u8 w1
  obtain ⟨A, rfl⟩ := Int.eq_ofNat_of_zero_le hA.1
  obtain ⟨k, hk⟩ : ∃ k : Nat, A % 64 = k := ⟨_, rfl⟩
  have hk64 : k < 64 := by omega
  have hrem : (A : Int) % 64 = (k : Int) := by omega
  have hA1 : (A : Int) ≤ 255 := hA.2
  have he2 : IntKind.u64.wrap (2 ^ (A % 64)) = (2 ^ k : Int) := by
    rw [hk, IntKind.wrap_u64]
    have h2 : (2 : Int) ^ k = ((2 ^ k : Nat) : Int) := by simp
    have h3 : 2 ^ k < 18446744073709551616 := Nat.lt_of_lt_of_le (Nat.pow_lt_pow_right (by decide) hk64) (by decide)
    rw [h2]
    generalize 2 ^ k = P at h3 ⊢
    omega
  have L1 := Lib.hid (least_zero zs)
  have L2 := Lib.hid (busiest_zero zs (-1))
  have L3 := Lib.hid (idle0_zero zs)
  have L4 := Lib.hid (least_pow zs k hk64)
  have L5 := Lib.hid (busiest_pow zs (-1) k hk64 (by omega))
  have L6 := Lib.hid (busiest_mine zs k hk64)
  have HR := Lib.hid hrem
  have HE := Lib.hid he2
  clear hI hf w0 w1 hz hA hk hrem he2
  by_cases hlt : k < zs.length
  · have hlt' : (A : Int) % 64 < (zs.length : Int) := by have := HR.out; omega
    have hw : wantOf zs k = k := by unfold wantOf; rw [if_pos hlt]
    have HW := Lib.hid hw
    clear hw
    go_enter Try.func6, Try.ntmps6
    go_wp2_with fail
    refine (shown_any _).mono ?_
    rintro e W1 ⟨rfl, hb1⟩
    have HI1 := Lib.hid (nx0 hb1 HI.out)
    go_wp2_with fail
    refine (HF.out _ _ (.inl rfl)).mono ?_
    rintro e W' ⟨rfl, rfl⟩
    go_wp2_with fail
    simp only [HR.out, HE.out]
    clear hlt'
    refine (least_any _ _ _ zs _ _ HI1.out hr).mono ?_
    rintro e W2 ⟨rfl, hb2⟩
    have HI2 := Lib.hid (nx0 hb2 HI1.out)
    rw [L1.out]
    go_wp2_with fail
    refine (busiest_any _ _ _ zs _ _ _ HI2.out hr).mono ?_
    rintro e W3 ⟨rfl, hb3⟩
    have HI3 := Lib.hid (nx0 hb3 HI2.out)
    rw [L2.out]
    go_wp2_with fail
    refine (idle0_any _ _ _ zs _ _ HI3.out hr).mono ?_
    rintro e W4 ⟨rfl, hb4⟩
    have HI4 := Lib.hid (nx0 hb4 HI3.out)
    rw [L3.out]
    go_wp2_with fail
    refine (least_any _ _ _ zs _ _ HI4.out hr).mono ?_
    rintro e W5 ⟨rfl, hb5⟩
    have HI5 := Lib.hid (nx0 hb5 HI4.out)
    rw [L4.out, HW.out]
    go_wp2_with fail
    refine (busiest_any _ _ _ zs _ _ _ HI5.out hr).mono ?_
    rintro e W6 ⟨rfl, hb6⟩
    have HI6 := Lib.hid (nx0 hb6 HI5.out)
    rw [L5.out, HW.out]
    go_wp2_with fail
    refine (busiest_any _ _ _ zs _ _ _ HI6.out hr).mono ?_
    rintro e W7 ⟨rfl, hb7⟩
    rw [L6.out]
    go_wp2
    go_ret
    exact ⟨by simp, nx (nx (nx (nx (nx (nx hb1 hb2) hb3) hb4) hb5) hb6) hb7⟩
  · have hlt' : ¬ (A : Int) % 64 < (zs.length : Int) := by have := HR.out; omega
    have hw : wantOf zs k = -1 := by unfold wantOf; rw [if_neg hlt]
    have HW := Lib.hid hw
    clear hw
    go_enter Try.func6, Try.ntmps6
    go_wp2_with fail
    refine (shown_any _).mono ?_
    rintro e W1 ⟨rfl, hb1⟩
    have HI1 := Lib.hid (nx0 hb1 HI.out)
    go_wp2_with fail
    refine (HF.out _ _ (.inl rfl)).mono ?_
    rintro e W' ⟨rfl, rfl⟩
    go_wp2_with fail
    simp only [HR.out, HE.out]
    clear hlt'
    refine (least_any _ _ _ zs _ _ HI1.out hr).mono ?_
    rintro e W2 ⟨rfl, hb2⟩
    have HI2 := Lib.hid (nx0 hb2 HI1.out)
    rw [L1.out]
    go_wp2_with fail
    refine (busiest_any _ _ _ zs _ _ _ HI2.out hr).mono ?_
    rintro e W3 ⟨rfl, hb3⟩
    have HI3 := Lib.hid (nx0 hb3 HI2.out)
    rw [L2.out]
    go_wp2_with fail
    refine (idle0_any _ _ _ zs _ _ HI3.out hr).mono ?_
    rintro e W4 ⟨rfl, hb4⟩
    have HI4 := Lib.hid (nx0 hb4 HI3.out)
    rw [L3.out]
    go_wp2_with fail
    refine (least_any _ _ _ zs _ _ HI4.out hr).mono ?_
    rintro e W5 ⟨rfl, hb5⟩
    have HI5 := Lib.hid (nx0 hb5 HI4.out)
    rw [L4.out, HW.out]
    go_wp2_with fail
    refine (busiest_any _ _ _ zs _ _ _ HI5.out hr).mono ?_
    rintro e W6 ⟨rfl, hb6⟩
    have HI6 := Lib.hid (nx0 hb6 HI5.out)
    rw [L5.out, HW.out]
    go_wp2_with fail
    refine (busiest_any _ _ _ zs _ _ _ HI6.out hr).mono ?_
    rintro e W7 ⟨rfl, hb7⟩
    rw [L6.out]
    go_wp2
    go_ret
    exact ⟨by simp, nx (nx (nx (nx (nx (nx hb1 hb2) hb3) hb4) hb5) hb6) hb7⟩

set_option maxRecDepth 100000 in
theorem lifted (os : Os) (started : os.Started) (H : Type) (enc : TypeId × Value → H) :
    ReturnsInHanded {} Try.checked os 6 .any (Rows.loadMasksSpec.pre6 enc Try.prog Try.f6 Rows.loadMasksRow.domain false) (Rows.loadMasksSpec.post enc Try.prog Try.f6 false true false false) := by
  refine returnsInHanded_of_change (C := Try.checked) own started (by kernel_rfl) Try.func6
    (ChangeSpec.witness6 (enc := enc) (C := Try.checked) false ⟨#[], #[.slice none 0 0, .int .u8 0], []⟩ 8 (by kernel_rfl) (by kernel_rfl) (by kernel_rfl) (by kernel_rfl)) ?_
  intro W base args ds gs before hval0 hW hcnd _
  have hval : ∀ (j : Nat) t v, Try.f6.params[j]? = some t → args[j]? = some v → Value.okWide Try.prog W .any base t v := hval0
  have hW' := hW
  obtain ⟨p, q, hA0, hV, rfl, hfz, hnd⟩ := hW
  have hA : DataW.TrodAll enc Try.prog W 0 (fun _ => true) true Try.f6.params.toList args.toList ds p := hA0
  rw [Try.params6] at hA hval
  obtain ⟨v0, vs0, d0, ds0, p0, q0, hargs, rfl, rfl, h0, r0⟩ := trodAll_cons hA
  obtain ⟨v1, vs1, d1, ds1, p1, q1, rfl, rfl, rfl, h1, r1⟩ := trodAll_cons r0
  obtain ⟨rfl, rfl, rfl⟩ := trodAll_nil r1
  obtain rfl : args = #[v0, v1] := by cases args; simp_all
  obtain ⟨rfl, rfl⟩ := trodVars_none hV
  obtain ⟨a0, len0, cap0, rfl⟩ := okWide_slice Try.underlying22 (hval 0 22 v0 rfl rfl)
  have k0 := h0
  have lt0 : ∀ x ∈ p0, x.block < W.heap.size := by obtain ⟨m, hm⟩ := k0; exact DataW.trod_lt m _ _ _ hm
  obtain ⟨z0, w0⟩ : ∃ zs, IsRow .u64 W a0 len0 cap0 zs := by
    obtain ⟨fuel, hf⟩ := h0
    rcases open_ints Try.underlying22 Try.underlying23 (by kernel_rfl) hf with ⟨hcs, _⟩ | ⟨x, l, c, zs, hcs, _, hl, hm, hz, _, hcell, hwz⟩
    · simp [Value.cells] at hcs
      obtain ⟨rfl, rfl, rfl⟩ := hcs
      exact ⟨[], .inl ⟨rfl, rfl, rfl, rfl⟩⟩
    · simp [Value.cells] at hcs
      obtain ⟨rfl, rfl, rfl⟩ := hcs
      exact ⟨zs, .inr ⟨_, rfl, hl, hm, by simpa using hz, hcell, hwz⟩⟩
  obtain ⟨a1, rfl, rfl, rfl, w1⟩ := open_int Try.underlying5 (hval 1 5 v1 rfl rfl) h1
  clear hA0 hval0
  refine (walk a0 len0 cap0 z0 a1 W w0 w1).mono fun e W' ⟨he, bel⟩ => ?_
  subst he
  exact ⟨_, rfl, _, _, _, [], _, [], hW', trodAll_mk1 (shut_bool Try.underlying4 _), (trodAll_cons_mk (Below.trod laidOut (by kernel_rfl) (of_decide_eq_true (by kernel_rfl)) k0 bel lt0) (trodAll_cons_mk (shut_int Try.underlying5 w1) trodAll_mk0)), rfl, bel.frame _, fun h => by cases h⟩

theorem over : Rows.loadMasksRow.holds Try.pinned (OpenSpec.ofChange Rows.loadMasksSpec) :=
  OpenClaim.holds_of_wide 6 Try.f6 rfl rfl rfl rfl rfl rfl rfl ⟨rfl, rfl, rfl, rfl, rfl⟩ rfl rfl rfl rfl rfl (by kernel_rfl) Try.func6 (by kernel_rfl)
    (of_decide_eq_true (by kernel_rfl)) (by unfold Func.isWrapper; first | (rw [if_pos (by decide +kernel)]; kernel_rfl) | (rw [if_neg (by decide +kernel)]; exact ⟨rfl, rfl⟩))
    (fun os started H enc _ => lifted os started H enc)

theorem proved : Rows.LoadMasksSaid := over
#print axioms proved
end Go.Proofs.Ytigpcjikdpknnaa.loadMasks
