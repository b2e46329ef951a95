/- The P where a task wakes, by package place and by the document's own words: both are the plain word 'choose'. Conditions: the slices read as lists within the reach. -/
import Derived.Test.YtigpcjikdpknnaaPlace
namespace Go.Proofs.Ytigpcjikdpknnaa
set_option linter.unusedVariables false
open Go.RowKit

section
variable {zs : List Int} {bs : List Bool} {prev m : Int}
theorem choose_none (h : least zs m < 0) : choose zs bs prev m = (0, 9) := by unfold choose; rw [if_pos h]
theorem choose_prev (h : ¬ least zs m < 0) (h1 : idleI zs bs m prev = true) : choose zs bs prev m = (prev, 0) := by unfold choose; rw [if_neg h, if_pos h1]
theorem choose_idle (h : ¬ least zs m < 0) (h1 : idleI zs bs m prev = false) (h2 : 0 ≤ placeIdle zs bs m) : choose zs bs prev m = (placeIdle zs bs m, 0) := by
  unfold choose; rw [if_neg h, if_neg (by rw [h1]; decide), if_pos h2]
theorem choose_stay (h : ¬ least zs m < 0) (h1 : idleI zs bs m prev = false) (h2 : ¬ 0 ≤ placeIdle zs bs m) (h3 : mayI zs m prev = true ∧ zat zs prev.toNat ≤ zat zs (least zs m).toNat) : choose zs bs prev m = (prev, 0) := by
  unfold choose; rw [if_neg h, if_neg (by rw [h1]; decide), if_neg h2, if_pos h3]
theorem choose_least (h : ¬ least zs m < 0) (h1 : idleI zs bs m prev = false) (h2 : ¬ 0 ≤ placeIdle zs bs m) (h3 : ¬ (mayI zs m prev = true ∧ zat zs prev.toNat ≤ zat zs (least zs m).toNat)) : choose zs bs prev m = (least zs m, 0) := by
  unfold choose; rw [if_neg h, if_neg (by rw [h1]; decide), if_neg h2, if_neg h3]
end
/-- What a P that was may be: none of those that may, or one of them. -/
theorem mayI_cases (zs : List Int) (m p : Int) : (mayI zs m p = false ∧ p < 0) ∨ (∃ k : Nat, p = k ∧ mayI zs m p = false ∧ ¬ k < zs.length) ∨ (∃ k : Nat, p = k ∧ mayI zs m p = false ∧ k < zs.length ∧ ¬ k < 64) ∨
    (∃ k : Nat, p = k ∧ mayI zs m p = false ∧ k < zs.length ∧ k < 64 ∧ tb m k = false) ∨ (∃ k : Nat, p = k ∧ mayI zs m p = true ∧ mayB zs m k = true ∧ k < zs.length ∧ k < 64 ∧ tb m k = true) := by
  by_cases hp : 0 ≤ p
  · obtain ⟨k, rfl⟩ := Int.eq_ofNat_of_zero_le hp
    rw [mayI_nat]
    rcases may_cases zs m k with ⟨hm, h1⟩ | ⟨hm, h1, h2⟩ | ⟨h1, h2, hm⟩
    · exact .inr (.inl ⟨k, rfl, hm, h1⟩)
    · exact .inr (.inr (.inl ⟨k, rfl, hm, h1, h2⟩))
    · cases ht : tb m k
      · exact .inr (.inr (.inr (.inl ⟨k, rfl, by rw [hm, ht], h1, h2, ht⟩)))
      · exact .inr (.inr (.inr (.inr ⟨k, rfl, by rw [hm, ht], by rw [hm, ht], h1, h2, ht⟩)))
  · exact .inl ⟨by unfold mayI; rw [decide_eq_false hp]; rfl, by omega⟩

set_option maxRecDepth 100000 in
set_option maxHeartbeats 8000000 in
theorem choose_any (a : Option Addr) (cap : Nat) (ra : Option Addr) (rlen rcap : Nat) (zs : List Int) (bs : List Bool) (prev m : Int) (w : World)
    (hI : Ints w.heap.size w (.slice a zs.length cap) zs) (hR : Bools w.heap.size w (.slice ra rlen rcap) bs) (hrl : bs.length = rlen) (hl : zs.length ≤ 1000) (hrm : rlen ≤ 9223372036854775807) :
    Calls Try.prog 30 #[.slice a zs.length cap, .slice ra rlen rcap, .int .i64 prev, .int .u64 m] w fun e w' => e = .returned (.tuple #[.int .i64 (choose zs bs prev m).1, .int .i64 (choose zs bs prev m).2]) ∧ Below w.heap.size w w' := by
  have HI := Lib.hid hI
  have HR := Lib.hid hR
  have HRL := Lib.hid hrl
  have hreach : zs.length * 8 ≤ 140737488351232 := by omega
  clear hI hR hrl
  rcases least_spec zs m with ⟨l1, l2⟩ | ⟨L, l1, l2, l3, l4⟩
  · have HL := Lib.hid l1
    have HC := Lib.hid (choose_none (bs := bs) (prev := prev) (show least zs m < 0 by omega))
    clear l1 l2
    go_enter Try.func30, Try.ntmps30
    go_wp2_with fail
    refine (least_any _ _ _ zs _ _ HI.out hreach).mono ?_
    rintro e w1 ⟨rfl, hb1⟩
    rw [HL.out]
    go_wp2
    go_ret2
    exact ⟨by rw [HC.out]; rfl, hb1⟩
  · have HL := Lib.hid l1
    have hln : ¬ least zs m < 0 := by omega
    cases hid : idleI zs bs m prev
    · have HD := Lib.hid hid
      by_cases hp0 : 0 ≤ placeIdle zs bs m
      · have HC := Lib.hid (choose_idle hln hid hp0)
        clear l1 l4 hln hid
        go_enter Try.func30, Try.ntmps30
        go_wp2_with fail
        refine (least_any _ _ _ zs _ _ HI.out hreach).mono ?_
        rintro e w1 ⟨rfl, hb1⟩
        rw [HL.out]
        have HI1 := Lib.hid (nx0 hb1 HI.out)
        have HR1 := Lib.hid (bx0 hb1 HR.out)
        go_wp2_with fail
        refine (mkidle_any _ _ _ _ _ _ _ _).mono ?_
        rintro e w2 ⟨rfl, hb2, hs2, c0, c1, c2⟩
        have HI2 := Lib.hid (nx0 hb2 HI1.out)
        have HR2 := Lib.hid (bx0 hb2 HR1.out)
        go_wp2_with fail
        refine (idle1_any _ _ _ _ _ _ zs bs m _ _ _ _ _ HI2.out HR2.out HRL.out hl hrm c0 c2 c1).mono ?_
        rintro e w' ⟨rfl, rfl⟩
        rw [HD.out]
        clear c0 c1 c2
        go_wp2_with fail
        refine (placeIdle_any _ _ _ _ _ zs bs m _ HI2.out HR2.out HRL.out hl hrm).mono ?_
        rintro e w3 ⟨rfl, hb3⟩
        go_wp2
        go_ret2
        exact ⟨by rw [HC.out]; rfl, nx (nx hb1 hb2) hb3⟩
      · have key : ∀ (R : Int), choose zs bs prev m = (R, 0) → ((R = prev ∧ mayI zs m prev = true ∧ zat zs prev.toNat ≤ zat zs L) ∨ (R = L ∧ ¬ (mayI zs m prev = true ∧ zat zs prev.toNat ≤ zat zs L))) →
            Calls Try.prog 30 #[.slice a zs.length cap, .slice ra rlen rcap, .int .i64 prev, .int .u64 m] w fun e w' => e = .returned (.tuple #[.int .i64 (choose zs bs prev m).1, .int .i64 (choose zs bs prev m).2]) ∧ Below w.heap.size w w' := by
          intro R hC hcase
          have HC := Lib.hid hC
          have HP := Lib.hid hp0
          rw [hC]
          have HI' := HI.out
          have hLi : (L : Int) < (zs.length : Int) := by omega
          rcases mayI_cases zs m prev with ⟨hm, h1⟩ | ⟨k, rfl, hm, h1⟩ | ⟨k, rfl, hm, h1, h2⟩ | ⟨k, rfl, hm, h1, h2, h3⟩ | ⟨k, rfl, hm, hmb, h1, h2, h3⟩
          · have hR : R = L := by
              rcases hcase with ⟨_, h, _⟩ | ⟨h, _⟩
              · rw [hm] at h; cases h
              · exact h
            subst hR
            have h1' : ¬ (0 : Int) ≤ prev := by omega
            clear hcase hm l1 l4 hln hid hp0 hC HI'
            go_enter Try.func30, Try.ntmps30
            go_wp2_with fail
            refine (least_any _ _ _ zs _ _ HI.out hreach).mono ?_
            rintro e w1 ⟨rfl, hb1⟩
            rw [HL.out]
            have HI1 := Lib.hid (nx0 hb1 HI.out)
            have HR1 := Lib.hid (bx0 hb1 HR.out)
            go_wp2_with fail
            refine (mkidle_any _ _ _ _ _ _ _ _).mono ?_
            rintro e w2 ⟨rfl, hb2, hs2, c0, c1, c2⟩
            have HI2 := Lib.hid (nx0 hb2 HI1.out)
            have HR2 := Lib.hid (bx0 hb2 HR1.out)
            go_wp2_with fail
            refine (idle1_any _ _ _ _ _ _ zs bs m _ _ _ _ _ HI2.out HR2.out HRL.out hl hrm c0 c2 c1).mono ?_
            rintro e w' ⟨rfl, rfl⟩
            rw [HD.out]
            clear c0 c1 c2
            go_wp2_with fail
            refine (placeIdle_any _ _ _ _ _ zs bs m _ HI2.out HR2.out HRL.out hl hrm).mono ?_
            rintro e w3 ⟨rfl, hb3⟩
            have hp1 : placeIdle zs bs m < 0 := HP.out
            go_wp2
            go_quiet (fail)
            go_wp2
            go_ret2
            exact ⟨rfl, nx (nx hb1 hb2) (hb3.trans ((Drew.refl _).drewN _ |>.below _))⟩
          · have hR : R = L := by
              rcases hcase with ⟨_, h, _⟩ | ⟨h, _⟩
              · rw [hm] at h; cases h
              · exact h
            subst hR
            have h1' : ¬ (k : Int) < (zs.length : Int) := by omega
            clear hcase hm l1 l4 hln hid hp0 hC HI'
            go_enter Try.func30, Try.ntmps30
            go_wp2_with fail
            refine (least_any _ _ _ zs _ _ HI.out hreach).mono ?_
            rintro e w1 ⟨rfl, hb1⟩
            rw [HL.out]
            have HI1 := Lib.hid (nx0 hb1 HI.out)
            have HR1 := Lib.hid (bx0 hb1 HR.out)
            go_wp2_with fail
            refine (mkidle_any _ _ _ _ _ _ _ _).mono ?_
            rintro e w2 ⟨rfl, hb2, hs2, c0, c1, c2⟩
            have HI2 := Lib.hid (nx0 hb2 HI1.out)
            have HR2 := Lib.hid (bx0 hb2 HR1.out)
            go_wp2_with fail
            refine (idle1_any _ _ _ _ _ _ zs bs m _ _ _ _ _ HI2.out HR2.out HRL.out hl hrm c0 c2 c1).mono ?_
            rintro e w' ⟨rfl, rfl⟩
            rw [HD.out]
            clear c0 c1 c2
            go_wp2_with fail
            refine (placeIdle_any _ _ _ _ _ zs bs m _ HI2.out HR2.out HRL.out hl hrm).mono ?_
            rintro e w3 ⟨rfl, hb3⟩
            have hp1 : placeIdle zs bs m < 0 := HP.out
            go_wp2
            go_quiet (fail)
            go_wp2
            go_ret2
            exact ⟨rfl, nx (nx hb1 hb2) (hb3.trans ((Drew.refl _).drewN _ |>.below _))⟩
          · have hR : R = L := by
              rcases hcase with ⟨_, h, _⟩ | ⟨h, _⟩
              · rw [hm] at h; cases h
              · exact h
            subst hR
            have h1' : (k : Int) < (zs.length : Int) := by omega
            have h2' : ¬ (k : Int) < 64 := by omega
            clear hcase hm l1 l4 hln hid hp0 hC HI'
            go_enter Try.func30, Try.ntmps30
            go_wp2_with fail
            refine (least_any _ _ _ zs _ _ HI.out hreach).mono ?_
            rintro e w1 ⟨rfl, hb1⟩
            rw [HL.out]
            have HI1 := Lib.hid (nx0 hb1 HI.out)
            have HR1 := Lib.hid (bx0 hb1 HR.out)
            go_wp2_with fail
            refine (mkidle_any _ _ _ _ _ _ _ _).mono ?_
            rintro e w2 ⟨rfl, hb2, hs2, c0, c1, c2⟩
            have HI2 := Lib.hid (nx0 hb2 HI1.out)
            have HR2 := Lib.hid (bx0 hb2 HR1.out)
            go_wp2_with fail
            refine (idle1_any _ _ _ _ _ _ zs bs m _ _ _ _ _ HI2.out HR2.out HRL.out hl hrm c0 c2 c1).mono ?_
            rintro e w' ⟨rfl, rfl⟩
            rw [HD.out]
            clear c0 c1 c2
            go_wp2_with fail
            refine (placeIdle_any _ _ _ _ _ zs bs m _ HI2.out HR2.out HRL.out hl hrm).mono ?_
            rintro e w3 ⟨rfl, hb3⟩
            have hp1 : placeIdle zs bs m < 0 := HP.out
            go_wp2
            go_quiet (fail)
            go_wp2
            go_ret2
            exact ⟨rfl, nx (nx hb1 hb2) (hb3.trans ((Drew.refl _).drewN _ |>.below _))⟩
          · have hR : R = L := by
              rcases hcase with ⟨_, h, _⟩ | ⟨h, _⟩
              · rw [hm] at h; cases h
              · exact h
            subst hR
            have h1' : (k : Int) < (zs.length : Int) := by omega
            have h2' : (k : Int) < 64 := by omega
            have hte : (bits BinOp.and IntKind.u64 (m / 2 ^ k) 1 == 1) = false := h3
            clear h3
            clear hcase hm l1 l4 hln hid hp0 hC HI'
            go_enter Try.func30, Try.ntmps30
            go_wp2_with fail
            refine (least_any _ _ _ zs _ _ HI.out hreach).mono ?_
            rintro e w1 ⟨rfl, hb1⟩
            rw [HL.out]
            have HI1 := Lib.hid (nx0 hb1 HI.out)
            have HR1 := Lib.hid (bx0 hb1 HR.out)
            go_wp2_with fail
            refine (mkidle_any _ _ _ _ _ _ _ _).mono ?_
            rintro e w2 ⟨rfl, hb2, hs2, c0, c1, c2⟩
            have HI2 := Lib.hid (nx0 hb2 HI1.out)
            have HR2 := Lib.hid (bx0 hb2 HR1.out)
            go_wp2_with fail
            refine (idle1_any _ _ _ _ _ _ zs bs m _ _ _ _ _ HI2.out HR2.out HRL.out hl hrm c0 c2 c1).mono ?_
            rintro e w' ⟨rfl, rfl⟩
            rw [HD.out]
            clear c0 c1 c2
            go_wp2_with fail
            refine (placeIdle_any _ _ _ _ _ zs bs m _ HI2.out HR2.out HRL.out hl hrm).mono ?_
            rintro e w3 ⟨rfl, hb3⟩
            have hp1 : placeIdle zs bs m < 0 := HP.out
            go_wp2
            go_quiet (fail)
            go_wp2
            go_ret2
            exact ⟨rfl, nx (nx hb1 hb2) (hb3.trans ((Drew.refl _).drewN _ |>.below _))⟩
          · have h1' : (k : Int) < (zs.length : Int) := by omega
            have h2' : (k : Int) < 64 := by omega
            have hte : (bits BinOp.and IntKind.u64 (m / 2 ^ k) 1 == 1) = true := h3
            have hcc : (R = (k : Int) ∧ zat zs k ≤ zat zs L) ∨ (R = L ∧ ¬ zat zs k ≤ zat zs L) := by
              rcases hcase with ⟨a, _, b⟩ | ⟨a, b⟩
              · exact .inl ⟨a, by simpa using b⟩
              · exact .inr ⟨a, fun h => b ⟨hm, by simpa using h⟩⟩
            clear hcase hm hmb h3 l1 l4 hln hid hp0 hC HI'
            rcases hcc with ⟨rfl, hle⟩ | ⟨rfl, hle⟩
            · go_enter Try.func30, Try.ntmps30
              go_wp2_with fail
              refine (least_any _ _ _ zs _ _ HI.out hreach).mono ?_
              rintro e w1 ⟨rfl, hb1⟩
              rw [HL.out]
              have HI1 := Lib.hid (nx0 hb1 HI.out)
              have HR1 := Lib.hid (bx0 hb1 HR.out)
              go_wp2_with fail
              refine (mkidle_any _ _ _ _ _ _ _ _).mono ?_
              rintro e w2 ⟨rfl, hb2, hs2, c0, c1, c2⟩
              have HI2 := Lib.hid (nx0 hb2 HI1.out)
              have HR2 := Lib.hid (bx0 hb2 HR1.out)
              go_wp2_with fail
              refine (idle1_any _ _ _ _ _ _ zs bs m _ _ _ _ _ HI2.out HR2.out HRL.out hl hrm c0 c2 c1).mono ?_
              rintro e w' ⟨rfl, rfl⟩
              rw [HD.out]
              clear c0 c1 c2
              go_wp2_with fail
              refine (placeIdle_any _ _ _ _ _ zs bs m _ HI2.out HR2.out HRL.out hl hrm).mono ?_
              rintro e w3 ⟨rfl, hb3⟩
              have hp1 : placeIdle zs bs m < 0 := HP.out
              obtain ⟨b, off, ha, hb, hc⟩ := (nx0 hb3 HI2.out).cells h1
              subst ha
              have hck := hc k h1
              have hcL := hc L l2
              clear hc
              go_wp2
              go_quiet (fail)
              go_wp2
              go_ret2
              exact ⟨rfl, nx (nx hb1 hb2) (hb3.trans ((Drew.refl _).drewN _ |>.below _))⟩
            · go_enter Try.func30, Try.ntmps30
              go_wp2_with fail
              refine (least_any _ _ _ zs _ _ HI.out hreach).mono ?_
              rintro e w1 ⟨rfl, hb1⟩
              rw [HL.out]
              have HI1 := Lib.hid (nx0 hb1 HI.out)
              have HR1 := Lib.hid (bx0 hb1 HR.out)
              go_wp2_with fail
              refine (mkidle_any _ _ _ _ _ _ _ _).mono ?_
              rintro e w2 ⟨rfl, hb2, hs2, c0, c1, c2⟩
              have HI2 := Lib.hid (nx0 hb2 HI1.out)
              have HR2 := Lib.hid (bx0 hb2 HR1.out)
              go_wp2_with fail
              refine (idle1_any _ _ _ _ _ _ zs bs m _ _ _ _ _ HI2.out HR2.out HRL.out hl hrm c0 c2 c1).mono ?_
              rintro e w' ⟨rfl, rfl⟩
              rw [HD.out]
              clear c0 c1 c2
              go_wp2_with fail
              refine (placeIdle_any _ _ _ _ _ zs bs m _ HI2.out HR2.out HRL.out hl hrm).mono ?_
              rintro e w3 ⟨rfl, hb3⟩
              have hp1 : placeIdle zs bs m < 0 := HP.out
              obtain ⟨b, off, ha, hb, hc⟩ := (nx0 hb3 HI2.out).cells h1
              subst ha
              have hck := hc k h1
              have hcL := hc L l2
              clear hc
              go_wp2
              go_quiet (fail)
              go_wp2
              go_ret2
              exact ⟨rfl, nx (nx hb1 hb2) (hb3.trans ((Drew.refl _).drewN _ |>.below _))⟩
        by_cases h3 : mayI zs m prev = true ∧ zat zs prev.toNat ≤ zat zs (least zs m).toNat
        · have h3' := h3
          rw [l1] at h3'
          exact key prev (choose_stay hln hid hp0 h3) (.inl ⟨rfl, h3'.1, by simpa using h3'.2⟩)
        · have h3' := h3
          rw [l1] at h3'
          exact key L (by rw [choose_least hln hid hp0 h3, l1]) (.inr ⟨rfl, by simpa using h3'⟩)
    · have HC := Lib.hid (choose_prev hln hid)
      have HD := Lib.hid hid
      clear l1 l4 hln hid
      go_enter Try.func30, Try.ntmps30
      go_wp2_with fail
      refine (least_any _ _ _ zs _ _ HI.out hreach).mono ?_
      rintro e w1 ⟨rfl, hb1⟩
      rw [HL.out]
      have HI1 := Lib.hid (nx0 hb1 HI.out)
      have HR1 := Lib.hid (bx0 hb1 HR.out)
      go_wp2_with fail
      refine (mkidle_any _ _ _ _ _ _ _ _).mono ?_
      rintro e w2 ⟨rfl, hb2, hs2, c0, c1, c2⟩
      have HI2 := Lib.hid (nx0 hb2 HI1.out)
      have HR2 := Lib.hid (bx0 hb2 HR1.out)
      go_wp2_with fail
      refine (idle1_any _ _ _ _ _ _ zs bs m _ _ _ _ _ HI2.out HR2.out HRL.out hl hrm c0 c2 c1).mono ?_
      rintro e w' ⟨rfl, rfl⟩
      rw [HD.out]
      go_wp2
      go_ret2
      exact ⟨by rw [HC.out]; rfl, nx hb1 hb2⟩
end Go.Proofs.Ytigpcjikdpknnaa
