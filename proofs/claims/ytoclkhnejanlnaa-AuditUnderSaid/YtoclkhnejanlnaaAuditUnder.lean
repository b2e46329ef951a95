/- AuditUnder: at every input the law returns true and leaves its arguments as they were: each group of a sound snapshot is under itself, and under the root; what is under what is under a third one is under that. Conditions: none beyond the row's own. -/
import Derived.Test.YtoclkhnejanlnaaRows
import Derived.Test.YtoclkhnejanlnaaSnap
import Derived.WalkKit
import Derived.Deep.QuietTactic
import Derived.BigQuiet
import Derived.ProofKit
import Derived.OpenShut
import Derived.ShutString
import Derived.ChangeOld
import Derived.Below
namespace Go.Proofs.Ytoclkhnejanlnaa.auditUnder
open Go.ChangeShapes Go.WideShapes Go.ChangeAt Go.RowKit
open Go.ChangeMaps (open_string shut_string)
set_option linter.unusedVariables false

theorem own : ownKnob Try.prog.godebug = none := by kernel_rfl
theorem laidOut : laidOutB Try.prog = true := by kernel_rfl

set_option maxRecDepth 100000 in
set_option maxHeartbeats 8000000 in
theorem walk (a0 : Value) (z0 : Sn) (a1 : Int) (a2 : Int) (a3 : Int) (w : World) (w0 : IsSnap w a0 z0) (w1 : (Lit.int .u8 a1).wf = true) (w2 : (Lit.int .u8 a2).wf = true) (w3 : (Lit.int .u8 a3).wf = true) :
    Calls Try.prog 6 #[a0, .int .u8 a1, .int .u8 a2, .int .u8 a3] w fun e w' => e = .returned (.bool true) ∧ Below w.heap.size w w' := by
  obtain ⟨ra, ta, ga, rn, rc, tn, tc, gn, gc, rfl, hs, hok, _, _, hg⟩ := w0
  have HS := Lib.hid hs
  have HO := Lib.hid hok
  have hA := bounds_u8 w1
  have hB := bounds_u8 w2
  have hC := bounds_u8 w3
  obtain ⟨x, rfl⟩ := Int.eq_ofNat_of_zero_le hA.1
  obtain ⟨y, rfl⟩ := Int.eq_ofNat_of_zero_le hB.1
  obtain ⟨z, rfl⟩ := Int.eq_ofNat_of_zero_le hC.1
  have hgc := hg.1
  have hgm := hg.2.1
  have HGL := Lib.hid hs.g.1
  clear hs hok hg w1 w2 w3
  by_cases h100 : (100 : Int) < (gn : Int)
  · go_enter Try.func6, Try.ntmps6
    go_wp2_with fail
    refine (shown_any _).mono ?_
    rintro e W1 ⟨rfl, hb1⟩
    have HB1 := Lib.hid (nx (belowA _ _) hb1)
    have c2 := cellb hb1 (o := 2) (b := w.heap.size) (by simp) (cnewb.trans rfl)
    clear hb1
    go_wp2
    go_ret
    exact ⟨rfl, HB1.out⟩
  · go_enter Try.func6, Try.ntmps6
    go_wp2_with fail
    refine (shown_any _).mono ?_
    rintro e W1 ⟨rfl, hb1⟩
    have HB1 := Lib.hid (nx (belowA _ _) hb1)
    have c0 := cellb hb1 (o := 0) (b := w.heap.size) (by simp) (cnewb.trans rfl)
    have c1 := cellb hb1 (o := 1) (b := w.heap.size) (by simp) (cnewb.trans rfl)
    have c2 := cellb hb1 (o := 2) (b := w.heap.size) (by simp) (cnewb.trans rfl)
    clear hb1
    go_wp2_with fail
    refine (sound_any _ (HS.out.next HB1.out) HO.out).mono ?_
    rintro e W2 ⟨rfl, hb2⟩
    have HB2 := Lib.hid (nx HB1.out hb2)
    clear hb2
    cases hz : (((soundI z0 : Nat) : Int) != 0)
    · have h0 : soundI z0 = 0 := by simpa using hz
      have HZ := Lib.hid h0
      clear h0
      have hsz := sound_sizes HZ.out
      have hg0 : 0 < gn := by rw [← HGL.out]; exact hsz.2.2.2
      have hne : ((gn : Int) == 0) = false := by simp; omega
      clear hsz
      obtain ⟨X, hX, hXl⟩ : ∃ X : Nat, (x : Int) % (gn : Int) = X ∧ X < gn := ⟨x % gn, by simp, Nat.mod_lt _ hg0⟩
      obtain ⟨Y, hY, hYl⟩ : ∃ X : Nat, (y : Int) % (gn : Int) = X ∧ X < gn := ⟨y % gn, by simp, Nat.mod_lt _ hg0⟩
      obtain ⟨Z, hZ, hZl⟩ : ∃ X : Nat, (z : Int) % (gn : Int) = X ∧ X < gn := ⟨z % gn, by simp, Nat.mod_lt _ hg0⟩
      have hnot : ∀ (x : Bool) (w : World), (Op.unary .not (.bool x)).run Try.prog w = .ok (.bool (!x)) w := fun _ _ => rfl
      have HGS := Lib.hid (HS.out.g.next HB2.out)
      have hr := sound_root HZ.out
      have K1 := Lib.hid (underB_iff.2 (above_self (gs := z0.gs) (x := (X : Int)) (by omega) (by rw [HGL.out]; omega)))
      have K2 := Lib.hid (underB_iff.2 (hr.2 X (by rw [HGL.out]; exact hXl)))
      have K3 := Lib.hid (fun h : ((X : Int) == 0) = false => (show underB z0.gs 0 X = false by
        cases hu : underB z0.gs 0 X
        · rfl
        · have := above_root hr.1 (underB_iff.1 hu); simp at h; omega))
      have K4 := Lib.hid (fun (h1 : underB z0.gs X Y = true) (h2 : underB z0.gs Y Z = true) => underB_iff.2 (above_trans hr.1 (hr.2 X (by rw [HGL.out]; exact hXl)) (underB_iff.1 h1) (underB_iff.1 h2)))
      have K5 := Lib.hid (show underB z0.gs (-1) 0 = false by unfold underB; rw [above_none (by omega)]; rfl)
      have K6 := Lib.hid (show underB z0.gs gn 0 = false by unfold underB; rw [above_none (by rw [HGL.out]; omega)]; rfl)
      clear hr
      cases hx0 : ((X : Int) == 0)
      · have K3' := Lib.hid (K3.out hx0)
        cases hxy : underB z0.gs X Y
        · have HXY := Lib.hid hxy
          clear hxy
          go_wp2_with fail
          refine (under_any _ _ _ z0.gs (X : Int) (X : Int) _ HGS.out (by omega)).mono ?_
          rintro e V1 ⟨rfl, hv⟩
          have HBV1 := Lib.hid (nx HB2.out hv)
          have HGS1 := Lib.hid (HGS.out.next hv)
          rw [K1.out]
          clear hv
          go_wp2_with fail
          refine (under_any _ _ _ z0.gs (X : Int) 0 _ HGS1.out (by omega)).mono ?_
          rintro e V2 ⟨rfl, hv⟩
          have HBV2 := Lib.hid (nx HBV1.out hv)
          have HGS2 := Lib.hid (HGS1.out.next hv)
          rw [K2.out]
          clear hv
          go_wp2_with fail
          refine (under_any _ _ _ z0.gs 0 (X : Int) _ HGS2.out (by omega)).mono ?_
          rintro e V3 ⟨rfl, hv⟩
          have HBV3 := Lib.hid (nx HBV2.out hv)
          have HGS3 := Lib.hid (HGS2.out.next hv)
          rw [K3'.out]
          clear hv
          go_wp2_with fail
          refine (under_any _ _ _ z0.gs (X : Int) (Y : Int) _ HGS3.out (by omega)).mono ?_
          rintro e V4 ⟨rfl, hv⟩
          have HBV4 := Lib.hid (nx HBV3.out hv)
          have HGS4 := Lib.hid (HGS3.out.next hv)
          rw [HXY.out]
          clear hv
          go_wp2_with fail
          refine (under_any _ _ _ z0.gs (-1) 0 _ HGS4.out (by omega)).mono ?_
          rintro e V5 ⟨rfl, hv⟩
          have HBV5 := Lib.hid (nx HBV4.out hv)
          have HGS5 := Lib.hid (HGS4.out.next hv)
          rw [K5.out]
          clear hv
          go_wp2_with fail
          refine (under_any _ _ _ z0.gs (gn : Int) 0 _ HGS5.out (by omega)).mono ?_
          rintro e V6 ⟨rfl, hv⟩
          have HBV6 := Lib.hid (nx HBV5.out hv)
          have HGS6 := Lib.hid (HGS5.out.next hv)
          rw [K6.out]
          clear hv
          go_wp2
          go_ret
          exact ⟨rfl, HBV6.out⟩
        · have HXY := Lib.hid hxy
          clear hxy
          cases hyz : underB z0.gs Y Z
          · have HYZ := Lib.hid hyz
            clear hyz
            go_wp2_with fail
            refine (under_any _ _ _ z0.gs (X : Int) (X : Int) _ HGS.out (by omega)).mono ?_
            rintro e V1 ⟨rfl, hv⟩
            have HBV1 := Lib.hid (nx HB2.out hv)
            have HGS1 := Lib.hid (HGS.out.next hv)
            rw [K1.out]
            clear hv
            go_wp2_with fail
            refine (under_any _ _ _ z0.gs (X : Int) 0 _ HGS1.out (by omega)).mono ?_
            rintro e V2 ⟨rfl, hv⟩
            have HBV2 := Lib.hid (nx HBV1.out hv)
            have HGS2 := Lib.hid (HGS1.out.next hv)
            rw [K2.out]
            clear hv
            go_wp2_with fail
            refine (under_any _ _ _ z0.gs 0 (X : Int) _ HGS2.out (by omega)).mono ?_
            rintro e V3 ⟨rfl, hv⟩
            have HBV3 := Lib.hid (nx HBV2.out hv)
            have HGS3 := Lib.hid (HGS2.out.next hv)
            rw [K3'.out]
            clear hv
            go_wp2_with fail
            refine (under_any _ _ _ z0.gs (X : Int) (Y : Int) _ HGS3.out (by omega)).mono ?_
            rintro e V4 ⟨rfl, hv⟩
            have HBV4 := Lib.hid (nx HBV3.out hv)
            have HGS4 := Lib.hid (HGS3.out.next hv)
            rw [HXY.out]
            clear hv
            go_wp2_with fail
            refine (under_any _ _ _ z0.gs (Y : Int) (Z : Int) _ HGS4.out (by omega)).mono ?_
            rintro e V5 ⟨rfl, hv⟩
            have HBV5 := Lib.hid (nx HBV4.out hv)
            have HGS5 := Lib.hid (HGS4.out.next hv)
            rw [HYZ.out]
            clear hv
            go_wp2_with fail
            refine (under_any _ _ _ z0.gs (-1) 0 _ HGS5.out (by omega)).mono ?_
            rintro e V6 ⟨rfl, hv⟩
            have HBV6 := Lib.hid (nx HBV5.out hv)
            have HGS6 := Lib.hid (HGS5.out.next hv)
            rw [K5.out]
            clear hv
            go_wp2_with fail
            refine (under_any _ _ _ z0.gs (gn : Int) 0 _ HGS6.out (by omega)).mono ?_
            rintro e V7 ⟨rfl, hv⟩
            have HBV7 := Lib.hid (nx HBV6.out hv)
            have HGS7 := Lib.hid (HGS6.out.next hv)
            rw [K6.out]
            clear hv
            go_wp2
            go_ret
            exact ⟨rfl, HBV7.out⟩
          · have HYZ := Lib.hid hyz
            clear hyz
            have HXZ := Lib.hid (K4.out HXY.out HYZ.out)
            go_wp2_with fail
            refine (under_any _ _ _ z0.gs (X : Int) (X : Int) _ HGS.out (by omega)).mono ?_
            rintro e V1 ⟨rfl, hv⟩
            have HBV1 := Lib.hid (nx HB2.out hv)
            have HGS1 := Lib.hid (HGS.out.next hv)
            rw [K1.out]
            clear hv
            go_wp2_with fail
            refine (under_any _ _ _ z0.gs (X : Int) 0 _ HGS1.out (by omega)).mono ?_
            rintro e V2 ⟨rfl, hv⟩
            have HBV2 := Lib.hid (nx HBV1.out hv)
            have HGS2 := Lib.hid (HGS1.out.next hv)
            rw [K2.out]
            clear hv
            go_wp2_with fail
            refine (under_any _ _ _ z0.gs 0 (X : Int) _ HGS2.out (by omega)).mono ?_
            rintro e V3 ⟨rfl, hv⟩
            have HBV3 := Lib.hid (nx HBV2.out hv)
            have HGS3 := Lib.hid (HGS2.out.next hv)
            rw [K3'.out]
            clear hv
            go_wp2_with fail
            refine (under_any _ _ _ z0.gs (X : Int) (Y : Int) _ HGS3.out (by omega)).mono ?_
            rintro e V4 ⟨rfl, hv⟩
            have HBV4 := Lib.hid (nx HBV3.out hv)
            have HGS4 := Lib.hid (HGS3.out.next hv)
            rw [HXY.out]
            clear hv
            go_wp2_with fail
            refine (under_any _ _ _ z0.gs (Y : Int) (Z : Int) _ HGS4.out (by omega)).mono ?_
            rintro e V5 ⟨rfl, hv⟩
            have HBV5 := Lib.hid (nx HBV4.out hv)
            have HGS5 := Lib.hid (HGS4.out.next hv)
            rw [HYZ.out]
            clear hv
            go_wp2_with fail
            refine (under_any _ _ _ z0.gs (X : Int) (Z : Int) _ HGS5.out (by omega)).mono ?_
            rintro e V6 ⟨rfl, hv⟩
            have HBV6 := Lib.hid (nx HBV5.out hv)
            have HGS6 := Lib.hid (HGS5.out.next hv)
            rw [HXZ.out]
            clear hv
            go_wp2_with fail
            refine (under_any _ _ _ z0.gs (-1) 0 _ HGS6.out (by omega)).mono ?_
            rintro e V7 ⟨rfl, hv⟩
            have HBV7 := Lib.hid (nx HBV6.out hv)
            have HGS7 := Lib.hid (HGS6.out.next hv)
            rw [K5.out]
            clear hv
            go_wp2_with fail
            refine (under_any _ _ _ z0.gs (gn : Int) 0 _ HGS7.out (by omega)).mono ?_
            rintro e V8 ⟨rfl, hv⟩
            have HBV8 := Lib.hid (nx HBV7.out hv)
            have HGS8 := Lib.hid (HGS7.out.next hv)
            rw [K6.out]
            clear hv
            go_wp2
            go_ret
            exact ⟨rfl, HBV8.out⟩
      · have K3' := K3
        cases hxy : underB z0.gs X Y
        · have HXY := Lib.hid hxy
          clear hxy
          go_wp2_with fail
          refine (under_any _ _ _ z0.gs (X : Int) (X : Int) _ HGS.out (by omega)).mono ?_
          rintro e V1 ⟨rfl, hv⟩
          have HBV1 := Lib.hid (nx HB2.out hv)
          have HGS1 := Lib.hid (HGS.out.next hv)
          rw [K1.out]
          clear hv
          go_wp2_with fail
          refine (under_any _ _ _ z0.gs (X : Int) 0 _ HGS1.out (by omega)).mono ?_
          rintro e V2 ⟨rfl, hv⟩
          have HBV2 := Lib.hid (nx HBV1.out hv)
          have HGS2 := Lib.hid (HGS1.out.next hv)
          rw [K2.out]
          clear hv
          go_wp2_with fail
          refine (under_any _ _ _ z0.gs (X : Int) (Y : Int) _ HGS2.out (by omega)).mono ?_
          rintro e V3 ⟨rfl, hv⟩
          have HBV3 := Lib.hid (nx HBV2.out hv)
          have HGS3 := Lib.hid (HGS2.out.next hv)
          rw [HXY.out]
          clear hv
          go_wp2_with fail
          refine (under_any _ _ _ z0.gs (-1) 0 _ HGS3.out (by omega)).mono ?_
          rintro e V4 ⟨rfl, hv⟩
          have HBV4 := Lib.hid (nx HBV3.out hv)
          have HGS4 := Lib.hid (HGS3.out.next hv)
          rw [K5.out]
          clear hv
          go_wp2_with fail
          refine (under_any _ _ _ z0.gs (gn : Int) 0 _ HGS4.out (by omega)).mono ?_
          rintro e V5 ⟨rfl, hv⟩
          have HBV5 := Lib.hid (nx HBV4.out hv)
          have HGS5 := Lib.hid (HGS4.out.next hv)
          rw [K6.out]
          clear hv
          go_wp2
          go_ret
          exact ⟨rfl, HBV5.out⟩
        · have HXY := Lib.hid hxy
          clear hxy
          cases hyz : underB z0.gs Y Z
          · have HYZ := Lib.hid hyz
            clear hyz
            go_wp2_with fail
            refine (under_any _ _ _ z0.gs (X : Int) (X : Int) _ HGS.out (by omega)).mono ?_
            rintro e V1 ⟨rfl, hv⟩
            have HBV1 := Lib.hid (nx HB2.out hv)
            have HGS1 := Lib.hid (HGS.out.next hv)
            rw [K1.out]
            clear hv
            go_wp2_with fail
            refine (under_any _ _ _ z0.gs (X : Int) 0 _ HGS1.out (by omega)).mono ?_
            rintro e V2 ⟨rfl, hv⟩
            have HBV2 := Lib.hid (nx HBV1.out hv)
            have HGS2 := Lib.hid (HGS1.out.next hv)
            rw [K2.out]
            clear hv
            go_wp2_with fail
            refine (under_any _ _ _ z0.gs (X : Int) (Y : Int) _ HGS2.out (by omega)).mono ?_
            rintro e V3 ⟨rfl, hv⟩
            have HBV3 := Lib.hid (nx HBV2.out hv)
            have HGS3 := Lib.hid (HGS2.out.next hv)
            rw [HXY.out]
            clear hv
            go_wp2_with fail
            refine (under_any _ _ _ z0.gs (Y : Int) (Z : Int) _ HGS3.out (by omega)).mono ?_
            rintro e V4 ⟨rfl, hv⟩
            have HBV4 := Lib.hid (nx HBV3.out hv)
            have HGS4 := Lib.hid (HGS3.out.next hv)
            rw [HYZ.out]
            clear hv
            go_wp2_with fail
            refine (under_any _ _ _ z0.gs (-1) 0 _ HGS4.out (by omega)).mono ?_
            rintro e V5 ⟨rfl, hv⟩
            have HBV5 := Lib.hid (nx HBV4.out hv)
            have HGS5 := Lib.hid (HGS4.out.next hv)
            rw [K5.out]
            clear hv
            go_wp2_with fail
            refine (under_any _ _ _ z0.gs (gn : Int) 0 _ HGS5.out (by omega)).mono ?_
            rintro e V6 ⟨rfl, hv⟩
            have HBV6 := Lib.hid (nx HBV5.out hv)
            have HGS6 := Lib.hid (HGS5.out.next hv)
            rw [K6.out]
            clear hv
            go_wp2
            go_ret
            exact ⟨rfl, HBV6.out⟩
          · have HYZ := Lib.hid hyz
            clear hyz
            have HXZ := Lib.hid (K4.out HXY.out HYZ.out)
            go_wp2_with fail
            refine (under_any _ _ _ z0.gs (X : Int) (X : Int) _ HGS.out (by omega)).mono ?_
            rintro e V1 ⟨rfl, hv⟩
            have HBV1 := Lib.hid (nx HB2.out hv)
            have HGS1 := Lib.hid (HGS.out.next hv)
            rw [K1.out]
            clear hv
            go_wp2_with fail
            refine (under_any _ _ _ z0.gs (X : Int) 0 _ HGS1.out (by omega)).mono ?_
            rintro e V2 ⟨rfl, hv⟩
            have HBV2 := Lib.hid (nx HBV1.out hv)
            have HGS2 := Lib.hid (HGS1.out.next hv)
            rw [K2.out]
            clear hv
            go_wp2_with fail
            refine (under_any _ _ _ z0.gs (X : Int) (Y : Int) _ HGS2.out (by omega)).mono ?_
            rintro e V3 ⟨rfl, hv⟩
            have HBV3 := Lib.hid (nx HBV2.out hv)
            have HGS3 := Lib.hid (HGS2.out.next hv)
            rw [HXY.out]
            clear hv
            go_wp2_with fail
            refine (under_any _ _ _ z0.gs (Y : Int) (Z : Int) _ HGS3.out (by omega)).mono ?_
            rintro e V4 ⟨rfl, hv⟩
            have HBV4 := Lib.hid (nx HBV3.out hv)
            have HGS4 := Lib.hid (HGS3.out.next hv)
            rw [HYZ.out]
            clear hv
            go_wp2_with fail
            refine (under_any _ _ _ z0.gs (X : Int) (Z : Int) _ HGS4.out (by omega)).mono ?_
            rintro e V5 ⟨rfl, hv⟩
            have HBV5 := Lib.hid (nx HBV4.out hv)
            have HGS5 := Lib.hid (HGS4.out.next hv)
            rw [HXZ.out]
            clear hv
            go_wp2_with fail
            refine (under_any _ _ _ z0.gs (-1) 0 _ HGS5.out (by omega)).mono ?_
            rintro e V6 ⟨rfl, hv⟩
            have HBV6 := Lib.hid (nx HBV5.out hv)
            have HGS6 := Lib.hid (HGS5.out.next hv)
            rw [K5.out]
            clear hv
            go_wp2_with fail
            refine (under_any _ _ _ z0.gs (gn : Int) 0 _ HGS6.out (by omega)).mono ?_
            rintro e V7 ⟨rfl, hv⟩
            have HBV7 := Lib.hid (nx HBV6.out hv)
            have HGS7 := Lib.hid (HGS6.out.next hv)
            rw [K6.out]
            clear hv
            go_wp2
            go_ret
            exact ⟨rfl, HBV7.out⟩
    · go_wp2
      go_ret
      exact ⟨rfl, HB2.out⟩

set_option maxRecDepth 100000 in
theorem lifted (os : Os) (started : os.Started) (H : Type) (enc : TypeId × Value → H) :
    ReturnsInHanded {} Try.checked os 6 .any (Rows.auditUnderSpec.pre6 enc Try.prog Try.f6 Rows.auditUnderRow.domain false) (Rows.auditUnderSpec.post enc Try.prog Try.f6 false true false false) := by
  refine returnsInHanded_of_change (C := Try.checked) own started (by kernel_rfl) Try.func6
    (ChangeSpec.witness6 (enc := enc) (C := Try.checked) false ⟨#[], #[.agg #[.slice none 0 0, .slice none 0 0, .slice none 0 0], .int .u8 0, .int .u8 0, .int .u8 0], []⟩ 8 (by kernel_rfl) (by kernel_rfl) (by kernel_rfl) (by kernel_rfl)) ?_
  intro W base args ds gs before hval0 hW hcnd _
  have hval : ∀ (j : Nat) t v, Try.f6.params[j]? = some t → args[j]? = some v → Value.okWide Try.prog W .any base t v := hval0
  have hW' := hW
  obtain ⟨p, q, hA0, hV, rfl, hfz, hnd⟩ := hW
  have hA : DataW.TrodAll enc Try.prog W 0 (fun _ => true) true Try.f6.params.toList args.toList ds p := hA0
  rw [Try.params6] at hA hval
  obtain ⟨v0, vs0, d0, ds0, p0, q0, hargs, rfl, rfl, h0, r0⟩ := trodAll_cons hA
  obtain ⟨v1, vs1, d1, ds1, p1, q1, rfl, rfl, rfl, h1, r1⟩ := trodAll_cons r0
  obtain ⟨v2, vs2, d2, ds2, p2, q2, rfl, rfl, rfl, h2, r2⟩ := trodAll_cons r1
  obtain ⟨v3, vs3, d3, ds3, p3, q3, rfl, rfl, rfl, h3, r3⟩ := trodAll_cons r2
  obtain ⟨rfl, rfl, rfl⟩ := trodAll_nil r3
  obtain rfl : args = #[v0, v1, v2, v3] := by cases args; simp_all
  obtain ⟨rfl, rfl⟩ := trodVars_none hV
  have k0 := h0
  have lt0 : ∀ x ∈ p0, x.block < W.heap.size := by obtain ⟨m, hm⟩ := k0; exact DataW.trod_lt m _ _ _ hm
  obtain ⟨z0, w0⟩ : ∃ z, IsSnap W v0 z := open_snap (hval 0 26 v0 rfl rfl) h0
  obtain ⟨a1, rfl, rfl, rfl, w1⟩ := open_int Try.underlying5 (hval 1 5 v1 rfl rfl) h1
  obtain ⟨a2, rfl, rfl, rfl, w2⟩ := open_int Try.underlying5 (hval 2 5 v2 rfl rfl) h2
  obtain ⟨a3, rfl, rfl, rfl, w3⟩ := open_int Try.underlying5 (hval 3 5 v3 rfl rfl) h3
  clear hA0 hval0
  refine (walk v0 z0 a1 a2 a3 W w0 w1 w2 w3).mono fun e W' ⟨he, bel⟩ => ?_
  subst he
  exact ⟨_, rfl, _, _, _, [], _, [], hW', trodAll_mk1 (shut_bool Try.underlying4 _), (trodAll_cons_mk (Below.trod laidOut (by kernel_rfl) (of_decide_eq_true (by kernel_rfl)) k0 bel lt0) (trodAll_cons_mk (shut_int Try.underlying5 w1) (trodAll_cons_mk (shut_int Try.underlying5 w2) (trodAll_cons_mk (shut_int Try.underlying5 w3) trodAll_mk0)))), rfl, bel.frame _, fun h => by cases h⟩

theorem over : Rows.auditUnderRow.holds Try.pinned (OpenSpec.ofChange Rows.auditUnderSpec) :=
  OpenClaim.holds_of_wide 6 Try.f6 rfl rfl rfl rfl rfl rfl rfl ⟨rfl, rfl, rfl, rfl, rfl⟩ rfl rfl rfl rfl rfl (by kernel_rfl) Try.func6 (by kernel_rfl)
    (of_decide_eq_true (by kernel_rfl)) (by unfold Func.isWrapper; first | (rw [if_pos (by decide +kernel)]; kernel_rfl) | (rw [if_neg (by decide +kernel)]; exact ⟨rfl, rfl⟩))
    (fun os started H enc _ => lifted os started H enc)

theorem proved : Rows.AuditUnderSaid := over
#print axioms proved
end Go.Proofs.Ytoclkhnejanlnaa.auditUnder
