/- AuditApart: at every input the law returns true and leaves its arguments as they were: what is never more than so far apart is never more than farther; one is never apart from itself, if both weigh the same; turned round it is the same. Conditions: none beyond the row's own. -/
import Derived.Test.YtoclkhnejanlnaaRows
import Derived.Test.YtoclkhnejanlnaaSums
import Derived.Deep.Cut
import Derived.WalkKit
import Derived.Deep.QuietTactic
import Derived.BigQuiet
import Derived.ProofKit
import Derived.OpenShut
import Derived.ShutString
import Derived.ChangeOld
import Derived.Below
namespace Go.Proofs.Ytoclkhnejanlnaa.auditApart
open Go.ChangeShapes Go.WideShapes Go.ChangeAt Go.RowKit
open Go.ChangeMaps (open_string shut_string)
set_option linter.unusedVariables false

theorem own : ownKnob Try.prog.godebug = none := by kernel_rfl
theorem laidOut : laidOutB Try.prog = true := by kernel_rfl

set_option maxRecDepth 100000 in
set_option maxHeartbeats 8000000 in
theorem walk (a0 : Option Addr) (len0 cap0 : Nat) (z0 : List Int) (a1 : Option Addr) (len1 cap1 : Nat) (z1 : List Int) (a2 : Int) (a3 : Int) (a4 : Int) (w : World) (w0 : IsHalfs w a0 len0 cap0 z0) (w1 : IsHalfs w a1 len1 cap1 z1) (w2 : (Lit.int .u16 a2).wf = true) (w3 : (Lit.int .u16 a3).wf = true) (w4 : (Lit.int .u32 a4).wf = true) :
    Calls Try.prog 8 #[.slice a0 len0 cap0, .slice a1 len1 cap1, .int .u16 a2, .int .u16 a3, .int .u32 a4] w fun e w' => e = .returned (.bool true) ∧ Below w.heap.size w w' := by
  obtain ⟨hl0, hc0, hr0, hb0⟩ := w0
  obtain ⟨hl1, hc1, hr1, hb1⟩ := w1
  have hA := bounds_u16 w2
  have hB := bounds_u16 w3
  have hM := bounds_u32 w4
  have HR0 := Lib.hid hr0
  have HR1 := Lib.hid hr1
  have HB0 := Lib.hid hb0
  have HB1 := Lib.hid hb1
  clear hr0 hr1 hb0 hb1 w2 w3 w4
  have hnot : ∀ (x : Bool) (w : World), (Op.unary .not (.bool x)).run Try.prog w = .ok (.bool (!x)) w := fun _ _ => rfl
  go_enter Try.func8, Try.ntmps8
  go_wp2_with fail
  refine (shown_any _).mono ?_
  rintro e W1 ⟨rfl, hb1⟩
  have HW := Lib.hid hb1
  clear hb1
  go_wp2_with fail
  go_loopw [12, 13, 14, 15, 16] (fun va vb x y i wr => ∃ k : Nat, k ≤ len0 ∧ k ≤ len1 ∧ k ≤ 100 ∧ i = .int .i64 k ∧ x = .int .i64 (preSum z0 k) ∧ y = .int .i64 (preSum z1 k) ∧ Own encI wr W1.heap.size 2 va k (sums z0 k) ∧ Own encI wr W1.heap.size 2 vb k (sums z1 k) ∧ Other va vb ∧ Below W1.heap.size W1 wr) (fun _ _ _ _ i _ => 100 - (intOf i).toNat)
  case atStart => exact ⟨0, Nat.zero_le _, Nat.zero_le _, Nat.zero_le _, rfl, rfl, rfl, Own.nil _ _ _, Own.nil _ _ _, fun g e => by simp [Value.ownBlock] at e, Below.refl _ _⟩
  case round =>
    obtain ⟨k, hk0, hk1, hk2, rfl, rfl, rfl, hOa, hOb, hOt, hB⟩ := hrel
    have HOA := Lib.hid hOa
    have HOB := Lib.hid hOb
    have HOT := Lib.hid hOt
    have HBw := Lib.hid hB
    have hpx := preSum_bd HB0.out k
    have hpy := preSum_bd HB1.out k
    clear hOa hOb hOt hB
    by_cases hlt0 : k < len0
    · by_cases hlt1 : k < len1
      · by_cases hlt2 : k < 100
        · have g0 : (k : Int) < (len0 : Int) := by omega
          have g1 : (k : Int) < (len1 : Int) := by omega
          have g2 : (k : Int) < 100 := by omega
          obtain ⟨b, off, ha, hbl, hc⟩ := HR0.out.halfs (by omega)
          obtain ⟨b', off', ha', hbl', hc'⟩ := HR1.out.halfs (by omega)
          subst ha ha'
          have hwW := HW.out.size
          have c0 := cellb HBw.out (by omega) (cellb HW.out hbl (hc k hlt0))
          have c1 := cellb HBw.out (by omega) (cellb HW.out hbl' (hc' k hlt1))
          have p0 := HB0.out k
          have p1 := HB1.out k
          have q0 : preSum z0 k + rat z0 k = preSum z0 (k + 1) := rfl
          have q1 : preSum z1 k + rat z1 k = preSum z1 (k + 1) := rfl
          have r0 : rat z0 k + preSum z0 k = preSum z0 (k + 1) := by rw [← q0, Int.add_comm]
          have hpx' := preSum_bd HB0.out (k + 1)
          have hpy' := preSum_bd HB1.out (k + 1)
          have hsz := HBw.out.size
          have hk3 : k ≤ 100000 := by omega
          have HS0 := Lib.hid (sums_succ z0 k)
          have HS1 := Lib.hid (sums_succ z1 k)
          have HQ0 := Lib.hid q0
          have HQ1 := Lib.hid q1
          have HOA1 := Lib.hid (HOA.out.alloc (.cells #[.int .i64 (preSum z0 (k + 1))] 2))
          have HOB1 := Lib.hid (HOB.out.alloc (.cells #[.int .i64 (preSum z0 (k + 1))] 2))
          clear hc hc' r0
          go_upto_region 11 with fail
          clear q0 q1
          go_upto_region 12 with ((at_builtin; refine append_long Try.underlying36 long_info rfl _ _ rfl W1.heap.size _ k (sums z0 k) rfl HOA1.out wr.heap.size _ (preSum z0 (k + 1)) rfl (cnewb.trans rfl) hk3 (by simp; omega) ?_; intro va' u1 ho1 hg1 hloc1))
          have HO1 := Lib.hid ho1
          have HP1 := Lib.hid (HOT.out.keep HOB1.out hg1)
          have HT1 := Lib.hid (HOT.out.grown HOB1.out hloc1)
          have HB1' := Lib.hid ((HBw.out.alloc hsz (.cells #[.int .i64 (preSum z0 (k + 1))] 2)).grown hg1 (by simp; omega) (fun j e => (HOA.out.lt j e).1))
          have hsz1 := HB1'.out.size
          clear ho1 hg1 hloc1
          have HOA2 := Lib.hid (HO1.out.alloc (.cells #[.int .i64 (preSum z1 (k + 1))] 2))
          have HOB2 := Lib.hid (HP1.out.alloc (.cells #[.int .i64 (preSum z1 (k + 1))] 2))
          go_wp2_with ((at_builtin; refine append_long Try.underlying36 long_info rfl _ _ rfl W1.heap.size _ k (sums z1 k) rfl HOB2.out u1.heap.size _ (preSum z1 (k + 1)) rfl (cnewb.trans rfl) hk3 (by simp; omega) ?_; intro vb' u2 ho2 hg2 hloc2))
          have HO2 := Lib.hid ho2
          have HP2 := Lib.hid (HT1.out.symm.keep HOA2.out hg2)
          have HT2 := Lib.hid (HT1.out.symm.grown HOA2.out hloc2)
          have HB2' := Lib.hid ((HB1'.out.alloc hsz1 (.cells #[.int .i64 (preSum z1 (k + 1))] 2)).grown hg2 (by simp; omega) (fun j e => (HOB2.out.lt j e).1))
          clear ho2 hg2 hloc2
          go_roundw
          case rel => exact ⟨k + 1, by omega, by omega, by omega, by go_num, rfl, rfl, by rw [HS0.out]; exact HP2.out, by rw [HS1.out]; exact HO2.out, HT2.out.symm, HB2'.out⟩
          case measure => simp [intOf]; omega
        · obtain ⟨hla, aa, ca, hva, hca1, hca2, _, hra⟩ := HOA.out.rd
          obtain ⟨hlb, ab, cb, hvb, hcb1, hcb2, _, hrb⟩ := HOB.out.rd
          subst hva hvb
          have HRA := Lib.hid hra
          have HRB := Lib.hid hrb
          have hkm : k ≤ 9223372036854775807 := by omega
          have HIS := Lib.hid (apart_turn (sums z0 k) (sums z1 k) (a2 + 1) (a3 + 1) a4)
          have HMO := Lib.hid (fun h : apartB (sums z0 k) (sums z1 k) (a2 + 1) (a3 + 1) a4 = true => apart_more h)
          have HSE := Lib.hid (apart_self (a := sums z0 k) (wa := a2 + 1) (by unfold fitB; rw [sums_rise HB0.out hk2]; simp; omega))
          have HZE := Lib.hid (apart_wa (za := sums z0 k) (zb := sums z1 k) (a3 + 1) a4)
          clear hra hrb hla hlb hca1 hca2 hcb1 hcb2 hpx hpy
          have hlt3 : ¬ (k : Int) < 100 := by omega
          have g0 : (k : Int) < (len0 : Int) := by omega
          have g1 : (k : Int) < (len1 : Int) := by omega
          go_wp2_with fail
          refine (apart_any (za := sums z0 k) (zb := sums z1 k) (a2 + 1) (a3 + 1) a4 _ (HRA.out) (HRB.out) hkm hkm (by omega) (by omega) (by omega) (by omega)).mono ?_
          rintro e Y1 ⟨rfl, hy⟩
          have HY1 := Lib.hid (nx HBw.out hy)
          have HRA1 := Lib.hid (HRA.out.next hy)
          have HRB1 := Lib.hid (HRB.out.next hy)
          clear hy
          cases his : apartB (sums z0 k) (sums z1 k) (a2 + 1) (a3 + 1) a4
          · have HI := Lib.hid his
            have HI2 := Lib.hid (HIS.out.symm.trans his)
            clear his
            go_wp2_with fail
            refine (apart_any (za := sums z1 k) (zb := sums z0 k) (a3 + 1) (a2 + 1) a4 _ (HRB1.out) (HRA1.out) hkm hkm (by omega) (by omega) (by omega) (by omega)).mono ?_
            rintro e Y2 ⟨rfl, hy⟩
            have HY2 := Lib.hid (nx HY1.out hy)
            have HRA2 := Lib.hid (HRA1.out.next hy)
            have HRB2 := Lib.hid (HRB1.out.next hy)
            rw [HI2.out]
            clear hy
            go_wp2_with fail
            refine (apart_any (za := sums z0 k) (zb := sums z0 k) (a2 + 1) (a2 + 1) 0 _ (HRA2.out) (HRA2.out) hkm hkm (by omega) (by omega) (by omega) (by omega)).mono ?_
            rintro e Y3 ⟨rfl, hy⟩
            have HY3 := Lib.hid (nx HY2.out hy)
            have HRA3 := Lib.hid (HRA2.out.next hy)
            have HRB3 := Lib.hid (HRB2.out.next hy)
            rw [HSE.out]
            clear hy
            go_wp2_with fail
            refine (apart_any (za := sums z0 k) (zb := sums z1 k) 0 (a3 + 1) a4 _ (HRA3.out) (HRB3.out) hkm hkm (by omega) (by omega) (by omega) (by omega)).mono ?_
            rintro e Y4 ⟨rfl, hy⟩
            have HY4 := Lib.hid (nx HY3.out hy)
            have HRA4 := Lib.hid (HRA3.out.next hy)
            have HRB4 := Lib.hid (HRB3.out.next hy)
            rw [HZE.out]
            clear hy
            go_wp2
            go_ret
            exact ⟨rfl, nx HW.out HY4.out⟩
          · have HI := Lib.hid his
            have HI2 := Lib.hid (HIS.out.symm.trans his)
            clear his
            go_wp2_with fail
            refine (apart_any (za := sums z1 k) (zb := sums z0 k) (a3 + 1) (a2 + 1) a4 _ (HRB1.out) (HRA1.out) hkm hkm (by omega) (by omega) (by omega) (by omega)).mono ?_
            rintro e Y2 ⟨rfl, hy⟩
            have HY2 := Lib.hid (nx HY1.out hy)
            have HRA2 := Lib.hid (HRA1.out.next hy)
            have HRB2 := Lib.hid (HRB1.out.next hy)
            rw [HI2.out]
            clear hy
            have HM2 := Lib.hid (HMO.out HI.out)
            go_wp2_with fail
            refine (apart_any (za := sums z0 k) (zb := sums z1 k) (a2 + 1) (a3 + 1) (a4 + 1) _ (HRA2.out) (HRB2.out) hkm hkm (by omega) (by omega) (by omega) (by omega)).mono ?_
            rintro e Y3 ⟨rfl, hy⟩
            have HY3 := Lib.hid (nx HY2.out hy)
            have HRA3 := Lib.hid (HRA2.out.next hy)
            have HRB3 := Lib.hid (HRB2.out.next hy)
            rw [HM2.out]
            clear hy
            go_wp2_with fail
            refine (apart_any (za := sums z0 k) (zb := sums z0 k) (a2 + 1) (a2 + 1) 0 _ (HRA3.out) (HRA3.out) hkm hkm (by omega) (by omega) (by omega) (by omega)).mono ?_
            rintro e Y4 ⟨rfl, hy⟩
            have HY4 := Lib.hid (nx HY3.out hy)
            have HRA4 := Lib.hid (HRA3.out.next hy)
            have HRB4 := Lib.hid (HRB3.out.next hy)
            rw [HSE.out]
            clear hy
            go_wp2_with fail
            refine (apart_any (za := sums z0 k) (zb := sums z1 k) 0 (a3 + 1) a4 _ (HRA4.out) (HRB4.out) hkm hkm (by omega) (by omega) (by omega) (by omega)).mono ?_
            rintro e Y5 ⟨rfl, hy⟩
            have HY5 := Lib.hid (nx HY4.out hy)
            have HRA5 := Lib.hid (HRA4.out.next hy)
            have HRB5 := Lib.hid (HRB4.out.next hy)
            rw [HZE.out]
            clear hy
            go_wp2
            go_ret
            exact ⟨rfl, nx HW.out HY5.out⟩
      · obtain ⟨hla, aa, ca, hva, hca1, hca2, _, hra⟩ := HOA.out.rd
        obtain ⟨hlb, ab, cb, hvb, hcb1, hcb2, _, hrb⟩ := HOB.out.rd
        subst hva hvb
        have HRA := Lib.hid hra
        have HRB := Lib.hid hrb
        have hkm : k ≤ 9223372036854775807 := by omega
        have HIS := Lib.hid (apart_turn (sums z0 k) (sums z1 k) (a2 + 1) (a3 + 1) a4)
        have HMO := Lib.hid (fun h : apartB (sums z0 k) (sums z1 k) (a2 + 1) (a3 + 1) a4 = true => apart_more h)
        have HSE := Lib.hid (apart_self (a := sums z0 k) (wa := a2 + 1) (by unfold fitB; rw [sums_rise HB0.out hk2]; simp; omega))
        have HZE := Lib.hid (apart_wa (za := sums z0 k) (zb := sums z1 k) (a3 + 1) a4)
        clear hra hrb hla hlb hca1 hca2 hcb1 hcb2 hpx hpy
        have hlt3 : ¬ (k : Int) < (len1 : Int) := by omega
        have g0 : (k : Int) < (len0 : Int) := by omega
        go_wp2_with fail
        refine (apart_any (za := sums z0 k) (zb := sums z1 k) (a2 + 1) (a3 + 1) a4 _ (HRA.out) (HRB.out) hkm hkm (by omega) (by omega) (by omega) (by omega)).mono ?_
        rintro e Y1 ⟨rfl, hy⟩
        have HY1 := Lib.hid (nx HBw.out hy)
        have HRA1 := Lib.hid (HRA.out.next hy)
        have HRB1 := Lib.hid (HRB.out.next hy)
        clear hy
        cases his : apartB (sums z0 k) (sums z1 k) (a2 + 1) (a3 + 1) a4
        · have HI := Lib.hid his
          have HI2 := Lib.hid (HIS.out.symm.trans his)
          clear his
          go_wp2_with fail
          refine (apart_any (za := sums z1 k) (zb := sums z0 k) (a3 + 1) (a2 + 1) a4 _ (HRB1.out) (HRA1.out) hkm hkm (by omega) (by omega) (by omega) (by omega)).mono ?_
          rintro e Y2 ⟨rfl, hy⟩
          have HY2 := Lib.hid (nx HY1.out hy)
          have HRA2 := Lib.hid (HRA1.out.next hy)
          have HRB2 := Lib.hid (HRB1.out.next hy)
          rw [HI2.out]
          clear hy
          go_wp2_with fail
          refine (apart_any (za := sums z0 k) (zb := sums z0 k) (a2 + 1) (a2 + 1) 0 _ (HRA2.out) (HRA2.out) hkm hkm (by omega) (by omega) (by omega) (by omega)).mono ?_
          rintro e Y3 ⟨rfl, hy⟩
          have HY3 := Lib.hid (nx HY2.out hy)
          have HRA3 := Lib.hid (HRA2.out.next hy)
          have HRB3 := Lib.hid (HRB2.out.next hy)
          rw [HSE.out]
          clear hy
          go_wp2_with fail
          refine (apart_any (za := sums z0 k) (zb := sums z1 k) 0 (a3 + 1) a4 _ (HRA3.out) (HRB3.out) hkm hkm (by omega) (by omega) (by omega) (by omega)).mono ?_
          rintro e Y4 ⟨rfl, hy⟩
          have HY4 := Lib.hid (nx HY3.out hy)
          have HRA4 := Lib.hid (HRA3.out.next hy)
          have HRB4 := Lib.hid (HRB3.out.next hy)
          rw [HZE.out]
          clear hy
          go_wp2
          go_ret
          exact ⟨rfl, nx HW.out HY4.out⟩
        · have HI := Lib.hid his
          have HI2 := Lib.hid (HIS.out.symm.trans his)
          clear his
          go_wp2_with fail
          refine (apart_any (za := sums z1 k) (zb := sums z0 k) (a3 + 1) (a2 + 1) a4 _ (HRB1.out) (HRA1.out) hkm hkm (by omega) (by omega) (by omega) (by omega)).mono ?_
          rintro e Y2 ⟨rfl, hy⟩
          have HY2 := Lib.hid (nx HY1.out hy)
          have HRA2 := Lib.hid (HRA1.out.next hy)
          have HRB2 := Lib.hid (HRB1.out.next hy)
          rw [HI2.out]
          clear hy
          have HM2 := Lib.hid (HMO.out HI.out)
          go_wp2_with fail
          refine (apart_any (za := sums z0 k) (zb := sums z1 k) (a2 + 1) (a3 + 1) (a4 + 1) _ (HRA2.out) (HRB2.out) hkm hkm (by omega) (by omega) (by omega) (by omega)).mono ?_
          rintro e Y3 ⟨rfl, hy⟩
          have HY3 := Lib.hid (nx HY2.out hy)
          have HRA3 := Lib.hid (HRA2.out.next hy)
          have HRB3 := Lib.hid (HRB2.out.next hy)
          rw [HM2.out]
          clear hy
          go_wp2_with fail
          refine (apart_any (za := sums z0 k) (zb := sums z0 k) (a2 + 1) (a2 + 1) 0 _ (HRA3.out) (HRA3.out) hkm hkm (by omega) (by omega) (by omega) (by omega)).mono ?_
          rintro e Y4 ⟨rfl, hy⟩
          have HY4 := Lib.hid (nx HY3.out hy)
          have HRA4 := Lib.hid (HRA3.out.next hy)
          have HRB4 := Lib.hid (HRB3.out.next hy)
          rw [HSE.out]
          clear hy
          go_wp2_with fail
          refine (apart_any (za := sums z0 k) (zb := sums z1 k) 0 (a3 + 1) a4 _ (HRA4.out) (HRB4.out) hkm hkm (by omega) (by omega) (by omega) (by omega)).mono ?_
          rintro e Y5 ⟨rfl, hy⟩
          have HY5 := Lib.hid (nx HY4.out hy)
          have HRA5 := Lib.hid (HRA4.out.next hy)
          have HRB5 := Lib.hid (HRB4.out.next hy)
          rw [HZE.out]
          clear hy
          go_wp2
          go_ret
          exact ⟨rfl, nx HW.out HY5.out⟩
    · obtain ⟨hla, aa, ca, hva, hca1, hca2, _, hra⟩ := HOA.out.rd
      obtain ⟨hlb, ab, cb, hvb, hcb1, hcb2, _, hrb⟩ := HOB.out.rd
      subst hva hvb
      have HRA := Lib.hid hra
      have HRB := Lib.hid hrb
      have hkm : k ≤ 9223372036854775807 := by omega
      have HIS := Lib.hid (apart_turn (sums z0 k) (sums z1 k) (a2 + 1) (a3 + 1) a4)
      have HMO := Lib.hid (fun h : apartB (sums z0 k) (sums z1 k) (a2 + 1) (a3 + 1) a4 = true => apart_more h)
      have HSE := Lib.hid (apart_self (a := sums z0 k) (wa := a2 + 1) (by unfold fitB; rw [sums_rise HB0.out hk2]; simp; omega))
      have HZE := Lib.hid (apart_wa (za := sums z0 k) (zb := sums z1 k) (a3 + 1) a4)
      clear hra hrb hla hlb hca1 hca2 hcb1 hcb2 hpx hpy
      have hlt3 : ¬ (k : Int) < (len0 : Int) := by omega
      go_wp2_with fail
      refine (apart_any (za := sums z0 k) (zb := sums z1 k) (a2 + 1) (a3 + 1) a4 _ (HRA.out) (HRB.out) hkm hkm (by omega) (by omega) (by omega) (by omega)).mono ?_
      rintro e Y1 ⟨rfl, hy⟩
      have HY1 := Lib.hid (nx HBw.out hy)
      have HRA1 := Lib.hid (HRA.out.next hy)
      have HRB1 := Lib.hid (HRB.out.next hy)
      clear hy
      cases his : apartB (sums z0 k) (sums z1 k) (a2 + 1) (a3 + 1) a4
      · have HI := Lib.hid his
        have HI2 := Lib.hid (HIS.out.symm.trans his)
        clear his
        go_wp2_with fail
        refine (apart_any (za := sums z1 k) (zb := sums z0 k) (a3 + 1) (a2 + 1) a4 _ (HRB1.out) (HRA1.out) hkm hkm (by omega) (by omega) (by omega) (by omega)).mono ?_
        rintro e Y2 ⟨rfl, hy⟩
        have HY2 := Lib.hid (nx HY1.out hy)
        have HRA2 := Lib.hid (HRA1.out.next hy)
        have HRB2 := Lib.hid (HRB1.out.next hy)
        rw [HI2.out]
        clear hy
        go_wp2_with fail
        refine (apart_any (za := sums z0 k) (zb := sums z0 k) (a2 + 1) (a2 + 1) 0 _ (HRA2.out) (HRA2.out) hkm hkm (by omega) (by omega) (by omega) (by omega)).mono ?_
        rintro e Y3 ⟨rfl, hy⟩
        have HY3 := Lib.hid (nx HY2.out hy)
        have HRA3 := Lib.hid (HRA2.out.next hy)
        have HRB3 := Lib.hid (HRB2.out.next hy)
        rw [HSE.out]
        clear hy
        go_wp2_with fail
        refine (apart_any (za := sums z0 k) (zb := sums z1 k) 0 (a3 + 1) a4 _ (HRA3.out) (HRB3.out) hkm hkm (by omega) (by omega) (by omega) (by omega)).mono ?_
        rintro e Y4 ⟨rfl, hy⟩
        have HY4 := Lib.hid (nx HY3.out hy)
        have HRA4 := Lib.hid (HRA3.out.next hy)
        have HRB4 := Lib.hid (HRB3.out.next hy)
        rw [HZE.out]
        clear hy
        go_wp2
        go_ret
        exact ⟨rfl, nx HW.out HY4.out⟩
      · have HI := Lib.hid his
        have HI2 := Lib.hid (HIS.out.symm.trans his)
        clear his
        go_wp2_with fail
        refine (apart_any (za := sums z1 k) (zb := sums z0 k) (a3 + 1) (a2 + 1) a4 _ (HRB1.out) (HRA1.out) hkm hkm (by omega) (by omega) (by omega) (by omega)).mono ?_
        rintro e Y2 ⟨rfl, hy⟩
        have HY2 := Lib.hid (nx HY1.out hy)
        have HRA2 := Lib.hid (HRA1.out.next hy)
        have HRB2 := Lib.hid (HRB1.out.next hy)
        rw [HI2.out]
        clear hy
        have HM2 := Lib.hid (HMO.out HI.out)
        go_wp2_with fail
        refine (apart_any (za := sums z0 k) (zb := sums z1 k) (a2 + 1) (a3 + 1) (a4 + 1) _ (HRA2.out) (HRB2.out) hkm hkm (by omega) (by omega) (by omega) (by omega)).mono ?_
        rintro e Y3 ⟨rfl, hy⟩
        have HY3 := Lib.hid (nx HY2.out hy)
        have HRA3 := Lib.hid (HRA2.out.next hy)
        have HRB3 := Lib.hid (HRB2.out.next hy)
        rw [HM2.out]
        clear hy
        go_wp2_with fail
        refine (apart_any (za := sums z0 k) (zb := sums z0 k) (a2 + 1) (a2 + 1) 0 _ (HRA3.out) (HRA3.out) hkm hkm (by omega) (by omega) (by omega) (by omega)).mono ?_
        rintro e Y4 ⟨rfl, hy⟩
        have HY4 := Lib.hid (nx HY3.out hy)
        have HRA4 := Lib.hid (HRA3.out.next hy)
        have HRB4 := Lib.hid (HRB3.out.next hy)
        rw [HSE.out]
        clear hy
        go_wp2_with fail
        refine (apart_any (za := sums z0 k) (zb := sums z1 k) 0 (a3 + 1) a4 _ (HRA4.out) (HRB4.out) hkm hkm (by omega) (by omega) (by omega) (by omega)).mono ?_
        rintro e Y5 ⟨rfl, hy⟩
        have HY5 := Lib.hid (nx HY4.out hy)
        have HRA5 := Lib.hid (HRA4.out.next hy)
        have HRB5 := Lib.hid (HRB4.out.next hy)
        rw [HZE.out]
        clear hy
        go_wp2
        go_ret
        exact ⟨rfl, nx HW.out HY5.out⟩

set_option maxRecDepth 100000 in
theorem lifted (os : Os) (started : os.Started) (H : Type) (enc : TypeId × Value → H) :
    ReturnsInHanded {} Try.checked os 8 .any (Rows.auditApartSpec.pre6 enc Try.prog Try.f8 Rows.auditApartRow.domain false) (Rows.auditApartSpec.post enc Try.prog Try.f8 false true false false) := by
  refine returnsInHanded_of_change (C := Try.checked) own started (by kernel_rfl) Try.func8
    (ChangeSpec.witness6 (enc := enc) (C := Try.checked) false ⟨#[], #[.slice none 0 0, .slice none 0 0, .int .u16 0, .int .u16 0, .int .u32 0], []⟩ 8 (by kernel_rfl) (by kernel_rfl) (by kernel_rfl) (by kernel_rfl)) ?_
  intro W base args ds gs before hval0 hW hcnd _
  have hval : ∀ (j : Nat) t v, Try.f8.params[j]? = some t → args[j]? = some v → Value.okWide Try.prog W .any base t v := hval0
  have hW' := hW
  obtain ⟨p, q, hA0, hV, rfl, hfz, hnd⟩ := hW
  have hA : DataW.TrodAll enc Try.prog W 0 (fun _ => true) true Try.f8.params.toList args.toList ds p := hA0
  rw [Try.params8] at hA hval
  obtain ⟨v0, vs0, d0, ds0, p0, q0, hargs, rfl, rfl, h0, r0⟩ := trodAll_cons hA
  obtain ⟨v1, vs1, d1, ds1, p1, q1, rfl, rfl, rfl, h1, r1⟩ := trodAll_cons r0
  obtain ⟨v2, vs2, d2, ds2, p2, q2, rfl, rfl, rfl, h2, r2⟩ := trodAll_cons r1
  obtain ⟨v3, vs3, d3, ds3, p3, q3, rfl, rfl, rfl, h3, r3⟩ := trodAll_cons r2
  obtain ⟨v4, vs4, d4, ds4, p4, q4, rfl, rfl, rfl, h4, r4⟩ := trodAll_cons r3
  obtain ⟨rfl, rfl, rfl⟩ := trodAll_nil r4
  obtain rfl : args = #[v0, v1, v2, v3, v4] := by cases args; simp_all
  obtain ⟨rfl, rfl⟩ := trodVars_none hV
  obtain ⟨a0, len0, cap0, rfl⟩ := okWide_slice Try.underlying45 (hval 0 45 v0 rfl rfl)
  have k0 := h0
  have lt0 : ∀ x ∈ p0, x.block < W.heap.size := by obtain ⟨m, hm⟩ := k0; exact DataW.trod_lt m _ _ _ hm
  obtain ⟨z0, w0⟩ : ∃ z, IsHalfs W a0 len0 cap0 z := by
    obtain ⟨fuel, hf⟩ := h0
    exact open_halfs hf
  obtain ⟨a1, len1, cap1, rfl⟩ := okWide_slice Try.underlying45 (hval 1 45 v1 rfl rfl)
  have k1 := h1
  have lt1 : ∀ x ∈ p1, x.block < W.heap.size := by obtain ⟨m, hm⟩ := k1; exact DataW.trod_lt m _ _ _ hm
  obtain ⟨z1, w1⟩ : ∃ z, IsHalfs W a1 len1 cap1 z := by
    obtain ⟨fuel, hf⟩ := h1
    exact open_halfs hf
  obtain ⟨a2, rfl, rfl, rfl, w2⟩ := open_int Try.underlying46 (hval 2 46 v2 rfl rfl) h2
  obtain ⟨a3, rfl, rfl, rfl, w3⟩ := open_int Try.underlying46 (hval 3 46 v3 rfl rfl) h3
  obtain ⟨a4, rfl, rfl, rfl, w4⟩ := open_int Try.underlying47 (hval 4 47 v4 rfl rfl) h4
  clear hA0 hval0
  refine (walk a0 len0 cap0 z0 a1 len1 cap1 z1 a2 a3 a4 W w0 w1 w2 w3 w4).mono fun e W' ⟨he, bel⟩ => ?_
  subst he
  exact ⟨_, rfl, _, _, _, [], _, [], hW', trodAll_mk1 (shut_bool Try.underlying4 _), (trodAll_cons_mk (Below.trod laidOut (by kernel_rfl) (of_decide_eq_true (by kernel_rfl)) k0 bel lt0) (trodAll_cons_mk (Below.trod laidOut (by kernel_rfl) (of_decide_eq_true (by kernel_rfl)) k1 bel lt1) (trodAll_cons_mk (shut_int Try.underlying46 w2) (trodAll_cons_mk (shut_int Try.underlying46 w3) (trodAll_cons_mk (shut_int Try.underlying47 w4) trodAll_mk0))))), rfl, bel.frame _, fun h => by cases h⟩

theorem over : Rows.auditApartRow.holds Try.pinned (OpenSpec.ofChange Rows.auditApartSpec) :=
  OpenClaim.holds_of_wide 8 Try.f8 rfl rfl rfl rfl rfl rfl rfl ⟨rfl, rfl, rfl, rfl, rfl⟩ rfl rfl rfl rfl rfl (by kernel_rfl) Try.func8 (by kernel_rfl)
    (of_decide_eq_true (by kernel_rfl)) (by unfold Func.isWrapper; first | (rw [if_pos (by decide +kernel)]; kernel_rfl) | (rw [if_neg (by decide +kernel)]; exact ⟨rfl, rfl⟩))
    (fun os started H enc _ => lifted os started H enc)

theorem proved : Rows.AuditApartSaid := over
#print axioms proved
end Go.Proofs.Ytoclkhnejanlnaa.auditApart
