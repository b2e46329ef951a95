/- PlaceMay: at every input the law returns true and leaves its arguments as they were: what is chosen may be, and it is refused just if none may. Conditions: none beyond the row's own. -/
import Derived.Test.YtigpcjikdpknnaaRows
import Derived.Test.YtigpcjikdpknnaaWake
import Derived.WalkKit
import Derived.Deep.QuietTactic
import Derived.BigQuiet
import Derived.ProofKit
import Derived.OpenShut
import Derived.ShutString
import Derived.ChangeOld
import Derived.Below
namespace Go.Proofs.Ytigpcjikdpknnaa.placeMay
open Go.ChangeShapes Go.WideShapes Go.ChangeAt Go.RowKit
open Go.ChangeMaps (open_string shut_string)
set_option linter.unusedVariables false

theorem own : ownKnob Try.prog.godebug = none := by kernel_rfl
theorem laidOut : laidOutB Try.prog = true := by kernel_rfl

set_option maxRecDepth 100000 in
set_option maxHeartbeats 8000000 in
theorem walk (a0 : Option Addr) (len0 cap0 : Nat) (z0 : List Int) (a1 : Option Addr) (len1 cap1 : Nat) (z1 : List Bool) (a2 : Int) (a3 : Int) (w : World) (w0 : IsRow .u64 w a0 len0 cap0 z0) (w1 : IsBools w a1 len1 cap1 z1) (w2 : (Lit.int .i64 a2).wf = true) (w3 : (Lit.int .u64 a3).wf = true) :
    Calls Try.prog 10 #[.slice a0 len0 cap0, .slice a1 len1 cap1, .int .i64 a2, .int .u64 a3] w fun e w' => e = .returned (.bool true) ∧ Below w.heap.size w w' := by
  obtain ⟨zs, hn1, hn2, hI, hz, hf⟩ := pre w0
  obtain ⟨hrl, hrm, hR⟩ := w1
  have hl : zs.length ≤ 1000 := by omega
  have hreach : zs.length * 8 ≤ 140737488351232 := by omega
  have HI := Lib.hid hI
  have HR := Lib.hid hR
  have HRL := Lib.hid hrl
  have HF := Lib.hid hf
  have hM := bounds_u64 w3
  have hm0 := hM.1
  have hm1 : a3 < 18446744073709551616 := by omega
  have hcs := choose_cases (bs := z1) (prev := a2) (m := a3) hz
  clear hI hR hrl hf w0 w2 w3 hz hM
  rcases hcs with ⟨hc, hno⟩ | ⟨p, hc, hp, hpm, _, _⟩
  · have HC := Lib.hid hc
    have HSM := Lib.hid (someTo_none hno)
    clear hc hno
    go_enter Try.func10, Try.ntmps10
    go_wp2_with fail
    refine (pshown_any _).mono ?_
    rintro e W1 ⟨rfl, hb1⟩
    have HI1 := Lib.hid (nx0 hb1 HI.out)
    have HR1 := Lib.hid (bx0 hb1 HR.out)
    go_wp2_with fail
    refine (HF.out _ _ (.inr rfl)).mono ?_
    rintro e W' ⟨rfl, rfl⟩
    go_wp2_with fail
    refine (choose_any _ _ _ _ _ zs z1 _ _ _ HI1.out HR1.out HRL.out hl hrm).mono ?_
    rintro e W2 ⟨rfl, hb2⟩
    rw [HC.out]
    have HI2 := Lib.hid (nx0 hb2 HI1.out)
    have HR2 := Lib.hid (bx0 hb2 HR1.out)
    go_wp2_with fail
    go_loop [13, 14] (fun s i => ∃ k : Nat, k ≤ zs.length ∧ k ≤ 64 ∧ i = .int .i64 k ∧ s = .bool (someTo zs a3 k)) (fun _ i => zs.length - (intOf i).toNat)
    case atStart => exact ⟨0, by omega, by omega, rfl, rfl⟩
    case round =>
      obtain ⟨k, hk, hk64, rfl, rfl⟩ := hrel
      by_cases hlt : k < zs.length ∧ k < 64
      · obtain ⟨h1, h2⟩ := hlt
        have h1' : (k : Int) < (zs.length : Int) := by omega
        have h2' : (k : Int) < 64 := by omega
        have hs := someTo_succ zs a3 k
        have HS := Lib.hid hs
        have hmk : mayB zs a3 k = (bits BinOp.and IntKind.u64 (a3 / 2 ^ k) 1 == 1) := by
          rw [tb_eq]; unfold mayB; rw [decide_eq_true h1, decide_eq_true h2]; rfl
        have HK := Lib.hid hmk
        clear hs hmk
        cases hst : someTo zs a3 k
        · have HST := Lib.hid hst
          clear hst
          go_wp2
          go_round
          case rel => exact ⟨k + 1, by omega, by omega, by go_num, by rw [HS.out, HST.out, HK.out]; simp⟩
          case measure => simp [intOf]; omega
        · have HST := Lib.hid hst
          clear hst
          go_wp2
          go_round
          case rel => exact ⟨k + 1, by omega, by omega, by go_num, by rw [HS.out, HST.out]; rfl⟩
          case measure => simp [intOf]; omega
      · have hend := someTo_of (m := a3) hk (by omega)
        rw [hend, HSM.out]
        clear hend
        have hcc : ¬ (k : Int) < (zs.length : Int) ∨ ((k : Int) < (zs.length : Int) ∧ ¬ (k : Int) < 64) := by omega
        rcases hcc with h1 | ⟨h1, h2⟩
        all_goals
          go_wp2
          go_ret
          exact ⟨rfl, nx hb1 hb2⟩
  · have HC := Lib.hid hc
    have HSM := Lib.hid (someTo_one hp hpm)
    have HPM := Lib.hid ((mayI_nat zs a3 p).trans hpm)
    clear hc hpm
    go_enter Try.func10, Try.ntmps10
    go_wp2_with fail
    refine (pshown_any _).mono ?_
    rintro e W1 ⟨rfl, hb1⟩
    have HI1 := Lib.hid (nx0 hb1 HI.out)
    have HR1 := Lib.hid (bx0 hb1 HR.out)
    go_wp2_with fail
    refine (HF.out _ _ (.inr rfl)).mono ?_
    rintro e W' ⟨rfl, rfl⟩
    go_wp2_with fail
    refine (choose_any _ _ _ _ _ zs z1 _ _ _ HI1.out HR1.out HRL.out hl hrm).mono ?_
    rintro e W2 ⟨rfl, hb2⟩
    rw [HC.out]
    have HI2 := Lib.hid (nx0 hb2 HI1.out)
    have HR2 := Lib.hid (bx0 hb2 HR1.out)
    go_wp2_with fail
    go_loop [13, 14] (fun s i => ∃ k : Nat, k ≤ zs.length ∧ k ≤ 64 ∧ i = .int .i64 k ∧ s = .bool (someTo zs a3 k)) (fun _ i => zs.length - (intOf i).toNat)
    case atStart => exact ⟨0, by omega, by omega, rfl, rfl⟩
    case round =>
      obtain ⟨k, hk, hk64, rfl, rfl⟩ := hrel
      by_cases hlt : k < zs.length ∧ k < 64
      · obtain ⟨h1, h2⟩ := hlt
        have h1' : (k : Int) < (zs.length : Int) := by omega
        have h2' : (k : Int) < 64 := by omega
        have hs := someTo_succ zs a3 k
        have HS := Lib.hid hs
        have hmk : mayB zs a3 k = (bits BinOp.and IntKind.u64 (a3 / 2 ^ k) 1 == 1) := by
          rw [tb_eq]; unfold mayB; rw [decide_eq_true h1, decide_eq_true h2]; rfl
        have HK := Lib.hid hmk
        clear hs hmk
        cases hst : someTo zs a3 k
        · have HST := Lib.hid hst
          clear hst
          go_wp2
          go_round
          case rel => exact ⟨k + 1, by omega, by omega, by go_num, by rw [HS.out, HST.out, HK.out]; simp⟩
          case measure => simp [intOf]; omega
        · have HST := Lib.hid hst
          clear hst
          go_wp2
          go_round
          case rel => exact ⟨k + 1, by omega, by omega, by go_num, by rw [HS.out, HST.out]; rfl⟩
          case measure => simp [intOf]; omega
      · have hend := someTo_of (m := a3) hk (by omega)
        rw [hend, HSM.out]
        clear hend
        have hcc : ¬ (k : Int) < (zs.length : Int) ∨ ((k : Int) < (zs.length : Int) ∧ ¬ (k : Int) < 64) := by omega
        rcases hcc with h1 | ⟨h1, h2⟩
        all_goals
          go_wp2_with fail
          refine (mayI_val _ _ _ zs a3 true _ HPM.out hm0 hm1 hl).mono ?_
          rintro e w' ⟨rfl, rfl⟩
          go_wp2
          go_ret
          exact ⟨rfl, nx hb1 hb2⟩

set_option maxRecDepth 100000 in
theorem lifted (os : Os) (started : os.Started) (H : Type) (enc : TypeId × Value → H) :
    ReturnsInHanded {} Try.checked os 10 .any (Rows.placeMaySpec.pre6 enc Try.prog Try.f10 Rows.placeMayRow.domain false) (Rows.placeMaySpec.post enc Try.prog Try.f10 false true false false) := by
  refine returnsInHanded_of_change (C := Try.checked) own started (by kernel_rfl) Try.func10
    (ChangeSpec.witness6 (enc := enc) (C := Try.checked) false ⟨#[], #[.slice none 0 0, .slice none 0 0, .int .i64 0, .int .u64 0], []⟩ 8 (by kernel_rfl) (by kernel_rfl) (by kernel_rfl) (by kernel_rfl)) ?_
  intro W base args ds gs before hval0 hW hcnd _
  have hval : ∀ (j : Nat) t v, Try.f10.params[j]? = some t → args[j]? = some v → Value.okWide Try.prog W .any base t v := hval0
  have hW' := hW
  obtain ⟨p, q, hA0, hV, rfl, hfz, hnd⟩ := hW
  have hA : DataW.TrodAll enc Try.prog W 0 (fun _ => true) true Try.f10.params.toList args.toList ds p := hA0
  rw [Try.params10] at hA hval
  obtain ⟨v0, vs0, d0, ds0, p0, q0, hargs, rfl, rfl, h0, r0⟩ := trodAll_cons hA
  obtain ⟨v1, vs1, d1, ds1, p1, q1, rfl, rfl, rfl, h1, r1⟩ := trodAll_cons r0
  obtain ⟨v2, vs2, d2, ds2, p2, q2, rfl, rfl, rfl, h2, r2⟩ := trodAll_cons r1
  obtain ⟨v3, vs3, d3, ds3, p3, q3, rfl, rfl, rfl, h3, r3⟩ := trodAll_cons r2
  obtain ⟨rfl, rfl, rfl⟩ := trodAll_nil r3
  obtain rfl : args = #[v0, v1, v2, v3] := by cases args; simp_all
  obtain ⟨rfl, rfl⟩ := trodVars_none hV
  obtain ⟨a0, len0, cap0, rfl⟩ := okWide_slice Try.underlying22 (hval 0 22 v0 rfl rfl)
  have k0 := h0
  have lt0 : ∀ x ∈ p0, x.block < W.heap.size := by obtain ⟨m, hm⟩ := k0; exact DataW.trod_lt m _ _ _ hm
  obtain ⟨z0, w0⟩ : ∃ zs, IsRow .u64 W a0 len0 cap0 zs := by
    obtain ⟨fuel, hf⟩ := h0
    rcases open_ints Try.underlying22 Try.underlying23 (by kernel_rfl) hf with ⟨hcs, hx⟩ | ⟨x, l, c, zs, hcs, _, hl, hm, hz, hx, hcell, hwz⟩
    · simp [Value.cells] at hcs
      obtain ⟨rfl, rfl, rfl⟩ := hcs
      exact ⟨[], .inl ⟨rfl, rfl, rfl, rfl⟩⟩
    · simp [Value.cells] at hcs
      obtain ⟨rfl, rfl, rfl⟩ := hcs
      exact ⟨zs, .inr ⟨_, rfl, hl, hm, by simpa using hz, hcell, hwz⟩⟩
  obtain ⟨a1, len1, cap1, rfl⟩ := okWide_slice Try.underlying34 (hval 1 34 v1 rfl rfl)
  have k1 := h1
  have lt1 : ∀ x ∈ p1, x.block < W.heap.size := by obtain ⟨m, hm⟩ := k1; exact DataW.trod_lt m _ _ _ hm
  obtain ⟨z1, w1⟩ : ∃ z, IsBools W a1 len1 cap1 z := by
    obtain ⟨fuel, hf⟩ := h1
    exact open_bools hf
  obtain ⟨a2, rfl, rfl, rfl, w2⟩ := open_int Try.underlying3 (hval 2 3 v2 rfl rfl) h2
  obtain ⟨a3, rfl, rfl, rfl, w3⟩ := open_int Try.underlying23 (hval 3 23 v3 rfl rfl) h3
  clear hA0 hval0
  refine (walk a0 len0 cap0 z0 a1 len1 cap1 z1 a2 a3 W w0 w1 w2 w3).mono fun e W' ⟨he, bel⟩ => ?_
  subst he
  exact ⟨_, rfl, _, _, _, [], _, [], hW', trodAll_mk1 (shut_bool Try.underlying4 _), (trodAll_cons_mk (Below.trod laidOut (by kernel_rfl) (of_decide_eq_true (by kernel_rfl)) k0 bel lt0) (trodAll_cons_mk (Below.trod laidOut (by kernel_rfl) (of_decide_eq_true (by kernel_rfl)) k1 bel lt1) (trodAll_cons_mk (shut_int Try.underlying3 w2) (trodAll_cons_mk (shut_int Try.underlying23 w3) trodAll_mk0)))), rfl, bel.frame _, fun h => by cases h⟩

theorem over : Rows.placeMayRow.holds Try.pinned (OpenSpec.ofChange Rows.placeMaySpec) :=
  OpenClaim.holds_of_wide 10 Try.f10 rfl rfl rfl rfl rfl rfl rfl ⟨rfl, rfl, rfl, rfl, rfl⟩ rfl rfl rfl rfl rfl (by kernel_rfl) Try.func10 (by kernel_rfl)
    (of_decide_eq_true (by kernel_rfl)) (by unfold Func.isWrapper; first | (rw [if_pos (by decide +kernel)]; kernel_rfl) | (rw [if_neg (by decide +kernel)]; exact ⟨rfl, rfl⟩))
    (fun os started H enc _ => lifted os started H enc)

theorem proved : Rows.PlaceMaySaid := over
#print axioms proved
end Go.Proofs.Ytigpcjikdpknnaa.placeMay
