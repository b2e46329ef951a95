/- PlaceStays: at every input the law returns true and leaves its arguments as they were: a task wakes where it was if that P is idle, or if it may be there, no P is idle and none has less. Conditions: none beyond the row's own. -/
import Derived.Test.YtigpcjikdpknnaaRows
import Derived.Test.YtigpcjikdpknnaaWake
import Derived.WalkKit
import Derived.Deep.QuietTactic
import Derived.BigQuiet
import Derived.ProofKit
import Derived.OpenShut
import Derived.ShutString
import Derived.ChangeOld
import Derived.Below
namespace Go.Proofs.Ytigpcjikdpknnaa.placeStays
open Go.ChangeShapes Go.WideShapes Go.ChangeAt Go.RowKit
open Go.ChangeMaps (open_string shut_string)
set_option linter.unusedVariables false

theorem own : ownKnob Try.prog.godebug = none := by kernel_rfl
theorem laidOut : laidOutB Try.prog = true := by kernel_rfl

set_option maxRecDepth 100000 in
set_option maxHeartbeats 8000000 in
theorem walk (a0 : Option Addr) (len0 cap0 : Nat) (z0 : List Int) (a1 : Option Addr) (len1 cap1 : Nat) (z1 : List Bool) (a2 : Int) (a3 : Int) (w : World) (w0 : IsRow .u64 w a0 len0 cap0 z0) (w1 : IsBools w a1 len1 cap1 z1) (w2 : (Lit.int .u8 a2).wf = true) (w3 : (Lit.int .u64 a3).wf = true) :
    Calls Try.prog 12 #[.slice a0 len0 cap0, .slice a1 len1 cap1, .int .u8 a2, .int .u64 a3] w fun e w' => e = .returned (.bool true) ∧ Below w.heap.size w w' := by
  obtain ⟨zs, hn1, hn2, hI, hz, hf⟩ := pre w0
  obtain ⟨hrl, hrm, hR⟩ := w1
  have hl : zs.length ≤ 1000 := by omega
  have hreach : zs.length * 8 ≤ 140737488351232 := by omega
  have HI := Lib.hid hI
  have HR := Lib.hid hR
  have HRL := Lib.hid hrl
  have HF := Lib.hid hf
  have hM := bounds_u64 w3
  have hm0 := hM.1
  have hm1 : a3 < 18446744073709551616 := by omega
  have hA := bounds_u8 w2
  obtain ⟨A, rfl⟩ := Int.eq_ofNat_of_zero_le hA.1
  obtain ⟨k, hk⟩ : ∃ k : Nat, A % 64 = k := ⟨_, rfl⟩
  have hk64 : k < 64 := by omega
  have hA1 : (A : Int) ≤ 255 := hA.2
  have HRM := Lib.hid (show (A : Int) % 64 = (k : Int) by omega)
  cases hmk : mayB zs a3 k
  · obtain ⟨p, E, hc, hpe⟩ := choose_not (bs := z1) hmk hz
    have HC := Lib.hid hc
    have HM := Lib.hid ((mayI_nat zs a3 k).trans hmk)
    clear hI hR hrl hf w0 w2 w3 hz hM hA hk hmk hc
    have hcase : (E = 9 ∧ True) ∨ (E = 0 ∧ (p != (k : Int)) = true) := by
      rcases hpe with h | ⟨h1, h2⟩
      · exact .inl ⟨h, trivial⟩
      · exact .inr ⟨h1, by simpa using h2⟩
    clear hpe
    rcases hcase with ⟨rfl, hx⟩ | ⟨rfl, hx⟩
    all_goals
      go_enter Try.func12, Try.ntmps12
      go_wp2_with fail
      refine (pshown_any _).mono ?_
      rintro e W1 ⟨rfl, hb1⟩
      have HI1 := Lib.hid (nx0 hb1 HI.out)
      have HR1 := Lib.hid (bx0 hb1 HR.out)
      go_wp2_with fail
      refine (HF.out _ _ (.inr rfl)).mono ?_
      rintro e W' ⟨rfl, rfl⟩
      go_wp2_with fail
      simp only [HRM.out]
      refine (choose_any _ _ _ _ _ zs z1 _ _ _ HI1.out HR1.out HRL.out hl hrm).mono ?_
      rintro e W2 ⟨rfl, hb2⟩
      rw [HC.out]
      have HI2 := Lib.hid (nx0 hb2 HI1.out)
      have HR2 := Lib.hid (bx0 hb2 HR1.out)
      go_wp2_with (go_at_call 23; refine (mayI_val _ _ _ zs a3 false _ HM.out hm0 hm1 hl).mono ?_; rintro e w' ⟨rfl, rfl⟩)
      go_ret
      exact ⟨by simp, nx hb1 hb2⟩
  · have hkl := (mayB_iff.1 hmk).1
    have hkl' : (k : Int) < (zs.length : Int) := by omega
    obtain ⟨L, hlt0⟩ : ∃ L, leastTo zs a3 k zs.length = L := ⟨_, rfl⟩
    obtain ⟨I, hi0⟩ : ∃ I, idleB zs z1 a3 k = I := ⟨_, rfl⟩
    obtain ⟨P, hp0⟩ : ∃ P, placeIdle zs z1 a3 = P := ⟨_, rfl⟩
    have hwas := choose_was (bs := z1) hmk hz
    rw [hlt0, hi0, hp0] at hwas
    have HLT := Lib.hid hlt0
    have HID := Lib.hid ((idleI_nat zs z1 a3 k).trans hi0)
    have HPI := Lib.hid hp0
    clear hI hR hrl hf w0 w2 w3 hz hM hA hk hlt0 hi0 hp0
    rcases hwas with ⟨hc, hy⟩ | ⟨p, hc, hpk, hy⟩
    · have HC := Lib.hid hc
      clear hc
      have hcase : (I = true ∧ True ∧ True) ∨ (I = false ∧ P < 0 ∧ L = true) := by
        cases I
        · rcases hy with h | h
          · cases h
          · exact .inr ⟨rfl, h⟩
        · exact .inl ⟨rfl, trivial, trivial⟩
      clear hy
      rcases hcase with ⟨rfl, hy1, hy2⟩ | ⟨rfl, hy1, rfl⟩
      all_goals
        go_enter Try.func12, Try.ntmps12
        go_wp2_with fail
        refine (pshown_any _).mono ?_
        rintro e W1 ⟨rfl, hb1⟩
        have HI1 := Lib.hid (nx0 hb1 HI.out)
        have HR1 := Lib.hid (bx0 hb1 HR.out)
        go_wp2_with fail
        refine (HF.out _ _ (.inr rfl)).mono ?_
        rintro e W' ⟨rfl, rfl⟩
        go_wp2_with fail
        simp only [HRM.out]
        refine (choose_any _ _ _ _ _ zs z1 _ _ _ HI1.out HR1.out HRL.out hl hrm).mono ?_
        rintro e W2 ⟨rfl, hb2⟩
        rw [HC.out]
        have HI2 := Lib.hid (nx0 hb2 HI1.out)
        have HR2 := Lib.hid (bx0 hb2 HR1.out)
        have HM := Lib.hid ((mayI_nat zs a3 k).trans hmk)
        go_wp2_with (go_at_call 23; refine (mayI_val _ _ _ zs a3 true _ HM.out hm0 hm1 hl).mono ?_; rintro e w' ⟨rfl, rfl⟩)
        obtain ⟨b, off, ha, hb, hc⟩ := HI2.out.cells hkl
        subst ha
        have HCL := Lib.hid hc
        clear hc
        go_loopw [14, 15] (fun s i wr => ∃ q : Nat, q ≤ zs.length ∧ i = .int .i64 q ∧ s = .bool (leastTo zs a3 k q) ∧ Drew w' wr) (fun _ i _ => zs.length - (intOf i).toNat)
        case atStart => exact ⟨0, by omega, rfl, rfl, Drew.refl _⟩
        case round =>
          obtain ⟨q, hq, rfl, rfl, hd⟩ := hrel
          by_cases hlt : q < zs.length
          · have hlt' : (q : Int) < (zs.length : Int) := by omega
            have hcq : wr.cell? ⟨b, off + q, none⟩ = some (.int .u64 (zat zs q)) := (hd.cell _).trans (HCL.out q hlt)
            have hck : wr.cell? ⟨b, off + k, none⟩ = some (.int .u64 (zat zs k)) := (hd.cell _).trans (HCL.out k hkl)
            have HS := Lib.hid (leastTo_succ zs a3 k q)
            cases hst : leastTo zs a3 k q
            · have HST := Lib.hid hst
              clear hst
              go_wp2
              go_quiet (fail)
              go_wp2
              go_roundw
              case rel => exact ⟨q + 1, by omega, by go_num, by rw [HS.out, HST.out] <;> rfl, hd.drewN _⟩
              case measure => simp [intOf]; omega
            · have HST := Lib.hid hst
              clear hst
              have hmm : (mayB zs a3 q = false ∧ True) ∨ (mayB zs a3 q = true ∧ True) := by cases mayB zs a3 q <;> simp
              by_cases hle : zat zs k ≤ zat zs q
              all_goals
                rcases hmm with ⟨hm, hx⟩ | ⟨hm, hx⟩
                all_goals
                  have HMQ := Lib.hid ((mayI_nat zs a3 q).trans hm)
                  have HMB := Lib.hid hm
                  clear hm
                  go_wp2
                  go_quiet ((go_at_call 23; exact Calls.quiet_of_same (mayI_val _ _ _ zs a3 _ _ HMQ.out hm0 hm1 hl)))
                  go_wp2
                  go_roundw
                  case rel => exact ⟨q + 1, by omega, by go_num, by rw [HS.out, HST.out, HMB.out] <;> simp <;> omega, hd.drewN _⟩
                  case measure => simp [intOf]; omega
          · obtain rfl : q = zs.length := by omega
            have HB := Lib.hid (hd.below w'.heap.size)
            have HI3 := Lib.hid (nx0 HB.out HI2.out)
            have HR3 := Lib.hid (bx0 HB.out HR2.out)
            rw [HLT.out]
            go_wp2_with fail
            refine (placeIdle_any _ _ _ _ _ zs z1 _ _ HI3.out HR3.out HRL.out hl hrm).mono ?_
            rintro e W4 ⟨rfl, hb4⟩
            have HI4 := Lib.hid (nx0 hb4 HI3.out)
            have HR4 := Lib.hid (bx0 hb4 HR3.out)
            rw [HPI.out]
            go_wp2_with fail
            refine (isIdle_any _ _ _ _ _ zs z1 _ a3 _ HI4.out HR4.out HRL.out hl hrm hm0 hm1).mono ?_
            rintro e w'' ⟨rfl, rfl⟩
            rw [HID.out]
            go_wp2
            go_ret
            exact ⟨by simp, nx (nx (nx hb1 hb2) HB.out) hb4⟩
    · have HC := Lib.hid hc
      have hpb : (p == (k : Int)) = false := by simpa using hpk
      have hpn : (p != (k : Int)) = true := by simpa using hpk
      clear hc hpk
      have hcase : (I = false ∧ ¬ P < 0) ∨ (I = false ∧ P < 0 ∧ L = false) := by
        cases I
        · by_cases hP : P < 0
          · cases L
            · exact .inr ⟨rfl, hP, rfl⟩
            · exact absurd (.inr ⟨hP, rfl⟩) hy
          · exact .inl ⟨rfl, hP⟩
        · exact absurd (.inl rfl) hy
      clear hy
      rcases hcase with ⟨rfl, hy1⟩ | ⟨rfl, hy1, rfl⟩
      all_goals
        go_enter Try.func12, Try.ntmps12
        go_wp2_with fail
        refine (pshown_any _).mono ?_
        rintro e W1 ⟨rfl, hb1⟩
        have HI1 := Lib.hid (nx0 hb1 HI.out)
        have HR1 := Lib.hid (bx0 hb1 HR.out)
        go_wp2_with fail
        refine (HF.out _ _ (.inr rfl)).mono ?_
        rintro e W' ⟨rfl, rfl⟩
        go_wp2_with fail
        simp only [HRM.out]
        refine (choose_any _ _ _ _ _ zs z1 _ _ _ HI1.out HR1.out HRL.out hl hrm).mono ?_
        rintro e W2 ⟨rfl, hb2⟩
        rw [HC.out]
        have HI2 := Lib.hid (nx0 hb2 HI1.out)
        have HR2 := Lib.hid (bx0 hb2 HR1.out)
        have HM := Lib.hid ((mayI_nat zs a3 k).trans hmk)
        go_wp2_with (go_at_call 23; refine (mayI_val _ _ _ zs a3 true _ HM.out hm0 hm1 hl).mono ?_; rintro e w' ⟨rfl, rfl⟩)
        obtain ⟨b, off, ha, hb, hc⟩ := HI2.out.cells hkl
        subst ha
        have HCL := Lib.hid hc
        clear hc
        go_loopw [14, 15] (fun s i wr => ∃ q : Nat, q ≤ zs.length ∧ i = .int .i64 q ∧ s = .bool (leastTo zs a3 k q) ∧ Drew w' wr) (fun _ i _ => zs.length - (intOf i).toNat)
        case atStart => exact ⟨0, by omega, rfl, rfl, Drew.refl _⟩
        case round =>
          obtain ⟨q, hq, rfl, rfl, hd⟩ := hrel
          by_cases hlt : q < zs.length
          · have hlt' : (q : Int) < (zs.length : Int) := by omega
            have hcq : wr.cell? ⟨b, off + q, none⟩ = some (.int .u64 (zat zs q)) := (hd.cell _).trans (HCL.out q hlt)
            have hck : wr.cell? ⟨b, off + k, none⟩ = some (.int .u64 (zat zs k)) := (hd.cell _).trans (HCL.out k hkl)
            have HS := Lib.hid (leastTo_succ zs a3 k q)
            cases hst : leastTo zs a3 k q
            · have HST := Lib.hid hst
              clear hst
              go_wp2
              go_quiet (fail)
              go_wp2
              go_roundw
              case rel => exact ⟨q + 1, by omega, by go_num, by rw [HS.out, HST.out] <;> rfl, hd.drewN _⟩
              case measure => simp [intOf]; omega
            · have HST := Lib.hid hst
              clear hst
              have hmm : (mayB zs a3 q = false ∧ True) ∨ (mayB zs a3 q = true ∧ True) := by cases mayB zs a3 q <;> simp
              by_cases hle : zat zs k ≤ zat zs q
              all_goals
                rcases hmm with ⟨hm, hx⟩ | ⟨hm, hx⟩
                all_goals
                  have HMQ := Lib.hid ((mayI_nat zs a3 q).trans hm)
                  have HMB := Lib.hid hm
                  clear hm
                  go_wp2
                  go_quiet ((go_at_call 23; exact Calls.quiet_of_same (mayI_val _ _ _ zs a3 _ _ HMQ.out hm0 hm1 hl)))
                  go_wp2
                  go_roundw
                  case rel => exact ⟨q + 1, by omega, by go_num, by rw [HS.out, HST.out, HMB.out] <;> simp <;> omega, hd.drewN _⟩
                  case measure => simp [intOf]; omega
          · obtain rfl : q = zs.length := by omega
            have HB := Lib.hid (hd.below w'.heap.size)
            have HI3 := Lib.hid (nx0 HB.out HI2.out)
            have HR3 := Lib.hid (bx0 HB.out HR2.out)
            rw [HLT.out]
            go_wp2_with fail
            refine (placeIdle_any _ _ _ _ _ zs z1 _ _ HI3.out HR3.out HRL.out hl hrm).mono ?_
            rintro e W4 ⟨rfl, hb4⟩
            have HI4 := Lib.hid (nx0 hb4 HI3.out)
            have HR4 := Lib.hid (bx0 hb4 HR3.out)
            rw [HPI.out]
            go_wp2_with fail
            refine (isIdle_any _ _ _ _ _ zs z1 _ a3 _ HI4.out HR4.out HRL.out hl hrm hm0 hm1).mono ?_
            rintro e w'' ⟨rfl, rfl⟩
            rw [HID.out]
            go_wp2
            go_ret
            exact ⟨by simp, nx (nx (nx hb1 hb2) HB.out) hb4⟩

set_option maxRecDepth 100000 in
theorem lifted (os : Os) (started : os.Started) (H : Type) (enc : TypeId × Value → H) :
    ReturnsInHanded {} Try.checked os 12 .any (Rows.placeStaysSpec.pre6 enc Try.prog Try.f12 Rows.placeStaysRow.domain false) (Rows.placeStaysSpec.post enc Try.prog Try.f12 false true false false) := by
  refine returnsInHanded_of_change (C := Try.checked) own started (by kernel_rfl) Try.func12
    (ChangeSpec.witness6 (enc := enc) (C := Try.checked) false ⟨#[], #[.slice none 0 0, .slice none 0 0, .int .u8 0, .int .u64 0], []⟩ 8 (by kernel_rfl) (by kernel_rfl) (by kernel_rfl) (by kernel_rfl)) ?_
  intro W base args ds gs before hval0 hW hcnd _
  have hval : ∀ (j : Nat) t v, Try.f12.params[j]? = some t → args[j]? = some v → Value.okWide Try.prog W .any base t v := hval0
  have hW' := hW
  obtain ⟨p, q, hA0, hV, rfl, hfz, hnd⟩ := hW
  have hA : DataW.TrodAll enc Try.prog W 0 (fun _ => true) true Try.f12.params.toList args.toList ds p := hA0
  rw [Try.params12] at hA hval
  obtain ⟨v0, vs0, d0, ds0, p0, q0, hargs, rfl, rfl, h0, r0⟩ := trodAll_cons hA
  obtain ⟨v1, vs1, d1, ds1, p1, q1, rfl, rfl, rfl, h1, r1⟩ := trodAll_cons r0
  obtain ⟨v2, vs2, d2, ds2, p2, q2, rfl, rfl, rfl, h2, r2⟩ := trodAll_cons r1
  obtain ⟨v3, vs3, d3, ds3, p3, q3, rfl, rfl, rfl, h3, r3⟩ := trodAll_cons r2
  obtain ⟨rfl, rfl, rfl⟩ := trodAll_nil r3
  obtain rfl : args = #[v0, v1, v2, v3] := by cases args; simp_all
  obtain ⟨rfl, rfl⟩ := trodVars_none hV
  obtain ⟨a0, len0, cap0, rfl⟩ := okWide_slice Try.underlying22 (hval 0 22 v0 rfl rfl)
  have k0 := h0
  have lt0 : ∀ x ∈ p0, x.block < W.heap.size := by obtain ⟨m, hm⟩ := k0; exact DataW.trod_lt m _ _ _ hm
  obtain ⟨z0, w0⟩ : ∃ zs, IsRow .u64 W a0 len0 cap0 zs := by
    obtain ⟨fuel, hf⟩ := h0
    rcases open_ints Try.underlying22 Try.underlying23 (by kernel_rfl) hf with ⟨hcs, hx⟩ | ⟨x, l, c, zs, hcs, _, hl, hm, hz, hx, hcell, hwz⟩
    · simp [Value.cells] at hcs
      obtain ⟨rfl, rfl, rfl⟩ := hcs
      exact ⟨[], .inl ⟨rfl, rfl, rfl, rfl⟩⟩
    · simp [Value.cells] at hcs
      obtain ⟨rfl, rfl, rfl⟩ := hcs
      exact ⟨zs, .inr ⟨_, rfl, hl, hm, by simpa using hz, hcell, hwz⟩⟩
  obtain ⟨a1, len1, cap1, rfl⟩ := okWide_slice Try.underlying34 (hval 1 34 v1 rfl rfl)
  have k1 := h1
  have lt1 : ∀ x ∈ p1, x.block < W.heap.size := by obtain ⟨m, hm⟩ := k1; exact DataW.trod_lt m _ _ _ hm
  obtain ⟨z1, w1⟩ : ∃ z, IsBools W a1 len1 cap1 z := by
    obtain ⟨fuel, hf⟩ := h1
    exact open_bools hf
  obtain ⟨a2, rfl, rfl, rfl, w2⟩ := open_int Try.underlying5 (hval 2 5 v2 rfl rfl) h2
  obtain ⟨a3, rfl, rfl, rfl, w3⟩ := open_int Try.underlying23 (hval 3 23 v3 rfl rfl) h3
  clear hA0 hval0
  refine (walk a0 len0 cap0 z0 a1 len1 cap1 z1 a2 a3 W w0 w1 w2 w3).mono fun e W' ⟨he, bel⟩ => ?_
  subst he
  exact ⟨_, rfl, _, _, _, [], _, [], hW', trodAll_mk1 (shut_bool Try.underlying4 _), (trodAll_cons_mk (Below.trod laidOut (by kernel_rfl) (of_decide_eq_true (by kernel_rfl)) k0 bel lt0) (trodAll_cons_mk (Below.trod laidOut (by kernel_rfl) (of_decide_eq_true (by kernel_rfl)) k1 bel lt1) (trodAll_cons_mk (shut_int Try.underlying5 w2) (trodAll_cons_mk (shut_int Try.underlying23 w3) trodAll_mk0)))), rfl, bel.frame _, fun h => by cases h⟩

theorem over : Rows.placeStaysRow.holds Try.pinned (OpenSpec.ofChange Rows.placeStaysSpec) :=
  OpenClaim.holds_of_wide 12 Try.f12 rfl rfl rfl rfl rfl rfl rfl ⟨rfl, rfl, rfl, rfl, rfl⟩ rfl rfl rfl rfl rfl (by kernel_rfl) Try.func12 (by kernel_rfl)
    (of_decide_eq_true (by kernel_rfl)) (by unfold Func.isWrapper; first | (rw [if_pos (by decide +kernel)]; kernel_rfl) | (rw [if_neg (by decide +kernel)]; exact ⟨rfl, rfl⟩))
    (fun os started H enc _ => lifted os started H enc)

theorem proved : Rows.PlaceStaysSaid := over
#print axioms proved
end Go.Proofs.Ytigpcjikdpknnaa.placeStays
