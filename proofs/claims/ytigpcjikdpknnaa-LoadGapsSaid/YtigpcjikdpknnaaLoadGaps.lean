/- LoadGaps: at every input the law returns true and leaves its arguments as they were: a sum is no less than each part and the same turned round; the gap and the lesser one are the greater one. Conditions: none beyond the row's own. -/
import Derived.Test.YtigpcjikdpknnaaRows
import Derived.Test.YtigpcjikdpknnaaLawB
import Derived.WalkKit
import Derived.ProofKit
import Derived.OpenShut
import Derived.ShutString
import Derived.ChangeOld
import Derived.Below
namespace Go.Proofs.Ytigpcjikdpknnaa.loadGaps
open Go.ChangeShapes Go.WideShapes Go.ChangeAt Go.RowKit
open Go.ChangeMaps (open_string shut_string)
set_option linter.unusedVariables false

theorem own : ownKnob Try.prog.godebug = none := by kernel_rfl
theorem laidOut : laidOutB Try.prog = true := by kernel_rfl

theorem walk (a0 : Option Addr) (len0 cap0 : Nat) (z0 : List Int) (a1 : Int) (a2 : Int) (w : World) (w0 : IsRow .u64 w a0 len0 cap0 z0) (w1 : (Lit.int .u64 a1).wf = true) (w2 : (Lit.int .u64 a2).wf = true) :
    Calls Try.prog 8 #[.slice a0 len0 cap0, .int .u64 a1, .int .u64 a2] w fun e w' => e = .returned (.bool true) ∧ Below w.heap.size w w' := by
  obtain ⟨zs, hn1, hn2, hI, hz, hf⟩ := pre w0
  have hr : zs.length ≤ 140737488351232 := by omega
  have hA := bounds_u64 w1
  have hB := bounds_u64 w2
  have hA0 := hA.1
  have hB0 := hB.1
  have hA1 : a1 < 18446744073709551616 := by omega
  have hB1 : a2 < 18446744073709551616 := by omega
  have HI := Lib.hid hI
  have HF := Lib.hid hf
  have HZ := Lib.hid hz
  clear hI hf w0 w1 w2 hz hA hB
  go_enter Try.func8, Try.ntmps8
  go_wp2_with fail
  refine (shown_any _).mono ?_
  rintro e W1 ⟨rfl, hb1⟩
  have HI1 := Lib.hid (nx0 hb1 HI.out)
  go_wp2_with fail
  refine (HF.out _ _ (.inl rfl)).mono ?_
  rintro e W' ⟨rfl, rfl⟩
  go_wp2_with fail
  refine (sum_any _ _ zs _ HI1.out HZ.out hr).mono ?_
  rintro e W' ⟨rfl, rfl⟩
  generalize hS : satSum zs = S
  have HS := Lib.hid hS
  clear hS
  go_wp2_with fail
  obtain ⟨i0, hi, hz0, hz1, hz2⟩ := info_parts Try.info23
  have HP := Lib.hid hi
  have HP1 := Lib.hid hz0
  have HP2 := Lib.hid hz1
  have HP3 := Lib.hid hz2
  clear hi hz0 hz1 hz2
  obtain ⟨len, hlen⟩ : ∃ len, zs.length = len := ⟨_, rfl⟩
  have HL := Lib.hid hlen
  rw [hlen] at hr hn2 HI1 ⊢
  clear hlen hn1
  go_loopw [9, 11] (fun v i wr => ∃ k : Nat, k ≤ len ∧ i = .int .i64 ((len : Int) - 1 - (k : Int)) ∧ wr.ownsRow W1.heap.size 23 1 v k ((backTo zs k).map (Value.int .u64)) ∧ Below W1.heap.size W1 wr)
    (fun _ i _ => (intOf i + 1).toNat)
  case atStart => exact ⟨0, Nat.zero_le _, by go_num, World.ownsRow_nil _ _ _ _, Below.refl _ _⟩
  case round =>
    obtain ⟨k, hk, rfl, hown, hbW⟩ := hrel
    by_cases hlt : k < len
    · obtain ⟨p, hp⟩ : ∃ p : Nat, p + k + 1 = len := ⟨len - 1 - k, by omega⟩
      have hpl : p < len := by omega
      have hpi : (len : Int) - 1 - (k : Int) = (p : Int) := by omega
      have hpi2 : (p : Int) - 1 = (len : Int) - 1 - ((k + 1 : Nat) : Int) := by omega
      have HP5 := Lib.hid hpi2
      rw [hpi]
      obtain ⟨b, off, ha, hb, hc⟩ := HI1.out.cells (p := p) (by rw [HL.out]; exact hpl)
      subst ha
      have hcp : wr.cell? ⟨b, off + p, none⟩ = some (.int .u64 (zat zs p)) := (hbW.cell (p := ⟨b, off + p, none⟩) hb).trans (hc p (by rw [HL.out]; exact hpl))
      have hbs := backTo_succ (zs := zs) (k := k) (by rw [HL.out]; exact hlt)
      rw [HL.out, show len - 1 - k = p by omega] at hbs
      have HB := Lib.hid hbs
      have hbl := backTo_length (zs := zs) (k := k) (by rw [HL.out]; exact hk)
      have HBL := Lib.hid hbl
      have hle := satSum_part HZ.out (p := p) (by rw [HL.out]; exact hpl)
      rw [HS.out] at hle
      have hno : ¬ S < zat zs p := by omega
      have hpl' : (p : Int) < (len : Int) := by omega
      have hsz := hbW.size
      have hlr := hown.lt
      have HLR := Lib.hid hlr
      clear hc hbs hpi hpi2 hp hle hbl hlr
      have h3 : k + 1 ≤ maxLen := by unfold maxLen; omega
      have h4 : (k + 1) * 8 ≤ 140737488355328 := by omega
      have h5 : W1.heap.size ≤ (wr.alloc (.cells #[.int .u64 (zat zs p)] 23)).heap.size := by simp; omega
      go_wp2_with (at_builtin; refine wpList_append_own _ rfl _ _ 22 rfl W1.heap.size 23 i0 (.int .u64 0) 1 8 Try.underlying22 HP.out HP1.out HP2.out HP3.out rfl (by decide) _ _ _ rfl (hown.alloc _) ⟨wr.heap.size, 0, none⟩ 1 1 [.int .u64 (zat zs p)] rfl rfl (cell_one_new _ _ _) (one_int _ _) h3 h4 h5 ?_; intro v' w1 hown' hgrow _; have hbW' : Below W1.heap.size W1 w1 := (hbW.alloc hsz _).grown hgrow (by simp; omega) (fun j e => (HLR.out j e).1); have hcp' : w1.cell? ⟨b, off + p, none⟩ = some (.int .u64 (zat zs p)) := (hbW'.cell (p := ⟨b, off + p, none⟩) hb).trans ((hbW.cell (p := ⟨b, off + p, none⟩) hb).symm.trans hcp); have HO := Lib.hid (back_own (HB.out) hown'); clear hown' hgrow hown hcp)
      go_roundw
      case rel => exact ⟨k + 1, by omega, by rw [← HP5.out], HO.out, hbW'⟩
      case measure => simp [intOf]
    · obtain rfl : k = len := by omega
      have hm1 : (k : Int) - 1 - (k : Int) = -1 := by omega
      rw [hm1]
      clear hm1
      have hl2 : (backTo zs k).length = k := backTo_length (by rw [HL.out]; exact hk)
      obtain ⟨a', cap', rfl, hI2⟩ := ownsRow_intsn hl2 hown
      have hall : backTo zs k = zs.reverse := by have := backTo_all zs; rwa [HL.out] at this
      rw [hall] at hI2
      have HI2 := Lib.hid hI2
      have hlr : zs.reverse.length = k := by rw [List.length_reverse]; exact HL.out
      have HLR := Lib.hid hlr
      have HSR := Lib.hid (satSum_reverse zs)
      clear hown hI2 hall hl2 hlr
      have hrr : zs.reverse.length ≤ 140737488351232 := by have := HLR.out; omega
      have HRR := Lib.hid hrr
      clear hrr
      by_cases hab : a1 < a2
      · have HG1 := Lib.hid (gap_if (show a1 ≤ a2 by omega))
        have HG2 := Lib.hid (gap_no (show a1 ≤ a2 by omega))
        go_wp2_with fail
        refine (sum_len _ _ _ zs.reverse _ HLR.out (by rw [HLR.out]; exact HI2.out) (zat_reverse_bd HZ.out) HRR.out).mono ?_
        rintro e W' ⟨rfl, rfl⟩
        rw [HSR.out, HS.out]
        go_wp2_with fail
        refine (gap_any _ _ _ hB0 hA0 hB1 hA1).mono ?_
        rintro e W' ⟨rfl, rfl⟩
        rw [HG1.out]
        go_wp2_with fail
        refine (gap_any _ _ _ hA0 hB0 hA1 hB1).mono ?_
        rintro e W' ⟨rfl, rfl⟩
        rw [HG2.out]
        go_wp2
        go_ret
        exact ⟨by simp, nx hb1 hbW⟩
      · by_cases hab2 : a2 < a1
        · have HG1 := Lib.hid (gap_if (show a2 ≤ a1 by omega))
          have HG2 := Lib.hid (gap_no (show a2 ≤ a1 by omega))
          go_wp2_with fail
          refine (sum_len _ _ _ zs.reverse _ HLR.out (by rw [HLR.out]; exact HI2.out) (zat_reverse_bd HZ.out) HRR.out).mono ?_
          rintro e W' ⟨rfl, rfl⟩
          rw [HSR.out, HS.out]
          go_wp2_with fail
          refine (gap_any _ _ _ hA0 hB0 hA1 hB1).mono ?_
          rintro e W' ⟨rfl, rfl⟩
          rw [HG1.out]
          go_wp2_with fail
          refine (gap_any _ _ _ hB0 hA0 hB1 hA1).mono ?_
          rintro e W' ⟨rfl, rfl⟩
          rw [HG2.out]
          go_wp2
          go_ret
          exact ⟨by simp, nx hb1 hbW⟩
        · obtain rfl : a1 = a2 := by omega
          have HG2 := Lib.hid (gap_no (show a1 ≤ a1 by omega))
          go_wp2_with fail
          refine (sum_len _ _ _ zs.reverse _ HLR.out (by rw [HLR.out]; exact HI2.out) (zat_reverse_bd HZ.out) HRR.out).mono ?_
          rintro e W' ⟨rfl, rfl⟩
          rw [HSR.out, HS.out]
          go_wp2_with fail
          refine (gap_any _ _ _ hA0 hA0 hA1 hA1).mono ?_
          rintro e W' ⟨rfl, rfl⟩
          rw [HG2.out]
          go_wp2_with fail
          refine (gap_any _ _ _ hA0 hA0 hA1 hA1).mono ?_
          rintro e W' ⟨rfl, rfl⟩
          rw [HG2.out]
          go_wp2
          go_ret
          exact ⟨by simp, nx hb1 hbW⟩

set_option maxRecDepth 100000 in
theorem lifted (os : Os) (started : os.Started) (H : Type) (enc : TypeId × Value → H) :
    ReturnsInHanded {} Try.checked os 8 .any (Rows.loadGapsSpec.pre6 enc Try.prog Try.f8 Rows.loadGapsRow.domain false) (Rows.loadGapsSpec.post enc Try.prog Try.f8 false true false false) := by
  refine returnsInHanded_of_change (C := Try.checked) own started (by kernel_rfl) Try.func8
    (ChangeSpec.witness6 (enc := enc) (C := Try.checked) false ⟨#[], #[.slice none 0 0, .int .u64 0, .int .u64 0], []⟩ 8 (by kernel_rfl) (by kernel_rfl) (by kernel_rfl) (by kernel_rfl)) ?_
  intro W base args ds gs before hval0 hW hcnd _
  have hval : ∀ (j : Nat) t v, Try.f8.params[j]? = some t → args[j]? = some v → Value.okWide Try.prog W .any base t v := hval0
  have hW' := hW
  obtain ⟨p, q, hA0, hV, rfl, hfz, hnd⟩ := hW
  have hA : DataW.TrodAll enc Try.prog W 0 (fun _ => true) true Try.f8.params.toList args.toList ds p := hA0
  rw [Try.params8] at hA hval
  obtain ⟨v0, vs0, d0, ds0, p0, q0, hargs, rfl, rfl, h0, r0⟩ := trodAll_cons hA
  obtain ⟨v1, vs1, d1, ds1, p1, q1, rfl, rfl, rfl, h1, r1⟩ := trodAll_cons r0
  obtain ⟨v2, vs2, d2, ds2, p2, q2, rfl, rfl, rfl, h2, r2⟩ := trodAll_cons r1
  obtain ⟨rfl, rfl, rfl⟩ := trodAll_nil r2
  obtain rfl : args = #[v0, v1, v2] := by cases args; simp_all
  obtain ⟨rfl, rfl⟩ := trodVars_none hV
  obtain ⟨a0, len0, cap0, rfl⟩ := okWide_slice Try.underlying22 (hval 0 22 v0 rfl rfl)
  have k0 := h0
  have lt0 : ∀ x ∈ p0, x.block < W.heap.size := by obtain ⟨m, hm⟩ := k0; exact DataW.trod_lt m _ _ _ hm
  obtain ⟨z0, w0⟩ : ∃ zs, IsRow .u64 W a0 len0 cap0 zs := by
    obtain ⟨fuel, hf⟩ := h0
    rcases open_ints Try.underlying22 Try.underlying23 (by kernel_rfl) hf with ⟨hcs, _⟩ | ⟨x, l, c, zs, hcs, _, hl, hm, hz, _, hcell, hwz⟩
    · simp [Value.cells] at hcs
      obtain ⟨rfl, rfl, rfl⟩ := hcs
      exact ⟨[], .inl ⟨rfl, rfl, rfl, rfl⟩⟩
    · simp [Value.cells] at hcs
      obtain ⟨rfl, rfl, rfl⟩ := hcs
      exact ⟨zs, .inr ⟨_, rfl, hl, hm, by simpa using hz, hcell, hwz⟩⟩
  obtain ⟨a1, rfl, rfl, rfl, w1⟩ := open_int Try.underlying23 (hval 1 23 v1 rfl rfl) h1
  obtain ⟨a2, rfl, rfl, rfl, w2⟩ := open_int Try.underlying23 (hval 2 23 v2 rfl rfl) h2
  clear hA0 hval0
  refine (walk a0 len0 cap0 z0 a1 a2 W w0 w1 w2).mono fun e W' ⟨he, bel⟩ => ?_
  subst he
  exact ⟨_, rfl, _, _, _, [], _, [], hW', trodAll_mk1 (shut_bool Try.underlying4 _), (trodAll_cons_mk (Below.trod laidOut (by kernel_rfl) (of_decide_eq_true (by kernel_rfl)) k0 bel lt0) (trodAll_cons_mk (shut_int Try.underlying23 w1) (trodAll_cons_mk (shut_int Try.underlying23 w2) trodAll_mk0))), rfl, bel.frame _, fun h => by cases h⟩

theorem over : Rows.loadGapsRow.holds Try.pinned (OpenSpec.ofChange Rows.loadGapsSpec) :=
  OpenClaim.holds_of_wide 8 Try.f8 rfl rfl rfl rfl rfl rfl rfl ⟨rfl, rfl, rfl, rfl, rfl⟩ rfl rfl rfl rfl rfl (by kernel_rfl) Try.func8 (by kernel_rfl)
    (of_decide_eq_true (by kernel_rfl)) (by unfold Func.isWrapper; first | (rw [if_pos (by decide +kernel)]; kernel_rfl) | (rw [if_neg (by decide +kernel)]; exact ⟨rfl, rfl⟩))
    (fun os started H enc _ => lifted os started H enc)

theorem proved : Rows.LoadGapsSaid := over
#print axioms proved
end Go.Proofs.Ytigpcjikdpknnaa.loadGaps
