/- The document's own words for package place, and the head of its statements: IsIdle, Idle and Choose are the plain words. Conditions: the slices read as lists within the reach. -/
import Derived.Test.YtigpcjikdpknnaaChoose
namespace Go.Proofs.Ytigpcjikdpknnaa
set_option linter.unusedVariables false
open Go.RowKit

/-- May, of any P, with its answer known. -/
theorem mayI_val (a : Option Addr) (cap : Nat) (p : Int) (zs : List Int) (m : Int) (v : Bool) (w : World) (h : mayI zs m p = v) (hm : 0 ≤ m) (hm2 : m < 18446744073709551616) (hlen : zs.length ≤ 1000) :
    Calls Try.prog 23 #[.slice a zs.length cap, .int .i64 p, .int .u64 m] w fun e w' => e = .returned (.bool v) ∧ w' = w := by
  by_cases hp : 0 ≤ p
  · obtain ⟨k, rfl⟩ := Int.eq_ofNat_of_zero_le hp
    rw [mayI_nat] at h
    exact may_val a zs.length cap k zs m v w h rfl hm hm2 (by omega)
  · have : v = false := by rw [← h]; unfold mayI; rw [decide_eq_false hp]; rfl
    subst this
    exact may_neg a zs.length cap p m w (by omega)

set_option maxRecDepth 100000 in
set_option maxHeartbeats 4000000 in
theorem isIdle_any (a : Option Addr) (cap : Nat) (ra : Option Addr) (rlen rcap : Nat) (zs : List Int) (bs : List Bool) (p m : Int) (w : World)
    (hI : Ints w.heap.size w (.slice a zs.length cap) zs) (hR : Bools w.heap.size w (.slice ra rlen rcap) bs) (hrl : bs.length = rlen) (hl : zs.length ≤ 1000) (hrm : rlen ≤ 9223372036854775807) (hm : 0 ≤ m) (hm2 : m < 18446744073709551616) :
    Calls Try.prog 34 #[.slice a zs.length cap, .slice ra rlen rcap, .int .i64 p, .int .u64 m] w fun e w' => e = .returned (.bool (idleI zs bs m p)) ∧ w = w' := by
  have HI := Lib.hid hI
  have HR := Lib.hid hR
  have HRL := Lib.hid hrl
  clear hI hR hrl
  cases hmy : mayI zs m p
  · have hd : idleI zs bs m p = false := by
      by_cases hp : 0 ≤ p
      · obtain ⟨k, rfl⟩ := Int.eq_ofNat_of_zero_le hp
        rw [mayI_nat] at hmy
        rw [idleI_nat]; unfold idleB; rw [hmy]; rfl
      · unfold idleI; rw [decide_eq_false hp]; rfl
    have HD := Lib.hid hd
    have HM := Lib.hid hmy
    clear hd hmy
    go_enter Try.func34, Try.ntmps34
    go_wp2_with (go_at_call 23; refine (mayI_val _ _ _ zs m false _ HM.out hm hm2 hl).mono ?_; rintro e w' ⟨rfl, rfl⟩)
    go_ret
    exact ⟨by rw [HD.out]; rfl, rfl⟩
  · have hp : 0 ≤ p := by
      by_cases hp : 0 ≤ p
      · exact hp
      · unfold mayI at hmy; rw [decide_eq_false hp] at hmy; cases hmy
    obtain ⟨k, rfl⟩ := Int.eq_ofNat_of_zero_le hp
    have HM := Lib.hid hmy
    rw [mayI_nat] at hmy
    obtain ⟨h1, h2, h3⟩ := mayB_iff.1 hmy
    rw [idleI_nat]
    have h1' : (k : Int) < (zs.length : Int) := by omega
    obtain ⟨b, off, ha, hb, hc⟩ := HI.out.cells h1
    subst ha
    have hck := hc k h1
    cases hz : (zat zs k == 0)
    · have hzn : (zat zs k != 0) = true := by simpa using hz
      have HD := Lib.hid (show idleB zs bs m k = false by unfold idleB; rw [hmy, hz]; rfl)
      clear hmy h1 h2 h3 hc
      go_enter Try.func34, Try.ntmps34
      go_wp2_with (go_at_call 23; refine (mayI_val _ _ _ zs m true _ HM.out hm hm2 hl).mono ?_; rintro e w' ⟨rfl, rfl⟩)
      go_ret
      exact ⟨by rw [HD.out]; rfl, rfl⟩
    · have hzn : (zat zs k != 0) = false := by simpa using hz
      by_cases hr : bs.length ≤ k
      · have HD := Lib.hid (show idleB zs bs m k = true by unfold idleB; rw [hmy, hz]; simp [hr])
        have hr' : ¬ (k : Int) < (rlen : Int) := by have := HRL.out; omega
        clear hmy h1 h2 h3 hc hr
        go_enter Try.func34, Try.ntmps34
        go_wp2_with (go_at_call 23; refine (mayI_val _ _ _ zs m true _ HM.out hm hm2 hl).mono ?_; rintro e w' ⟨rfl, rfl⟩)
        go_ret
        exact ⟨by rw [HD.out]; rfl, rfl⟩
      · have HD := Lib.hid (show idleB zs bs m k = !bat bs k by unfold idleB; rw [hmy, hz]; simp [hr])
        have hr2 : (k : Int) < (rlen : Int) := by have := HRL.out; omega
        have hr3 : k < rlen := by omega
        obtain ⟨b', off', ha', hb', hc'⟩ := HR.out.cells (show k < bs.length by omega)
        subst ha'
        have hcr := hc' k (by omega)
        clear hmy h1 h2 h3 hc hc' hr
        go_enter Try.func34, Try.ntmps34
        go_wp2_with (go_at_call 23; refine (mayI_val _ _ _ zs m true _ HM.out hm hm2 hl).mono ?_; rintro e w' ⟨rfl, rfl⟩)
        go_ret
        exact ⟨by rw [HD.out]; rfl, rfl⟩

set_option maxRecDepth 100000 in
set_option maxHeartbeats 4000000 in
theorem refIdle_any (a : Option Addr) (cap : Nat) (ra : Option Addr) (rlen rcap : Nat) (zs : List Int) (bs : List Bool) (m : Int) (w : World)
    (hI : Ints w.heap.size w (.slice a zs.length cap) zs) (hR : Bools w.heap.size w (.slice ra rlen rcap) bs) (hrl : bs.length = rlen) (hl : zs.length ≤ 1000) (hrm : rlen ≤ 9223372036854775807) (hm : 0 ≤ m) (hm2 : m < 18446744073709551616) :
    Calls Try.prog 33 #[.slice a zs.length cap, .slice ra rlen rcap, .int .u64 m] w fun e w' => e = .returned (.int .i64 (placeIdle zs bs m)) ∧ w = w' := by
  have HI := Lib.hid hI
  have HR := Lib.hid hR
  have HRL := Lib.hid hrl
  clear hI hR hrl
  go_enter Try.func33, Try.ntmps33
  go_wp2_with fail
  go_loop [7] (fun i => ∃ k : Nat, k ≤ zs.length ∧ i = .int .i64 k ∧ ∀ q, q < k → idleB zs bs m q = false) (fun i => zs.length - (intOf i).toNat)
  case atStart => exact ⟨0, by omega, rfl, fun q h => by omega⟩
  case round =>
    obtain ⟨k, hk, rfl, hno⟩ := hrel
    have HN := Lib.hid hno
    clear hno
    by_cases hlt : k < zs.length
    · have hlt' : (k : Int) < (zs.length : Int) := by omega
      cases hid : idleB zs bs m k
      · have HD := Lib.hid (show idleI zs bs m k = false by rw [idleI_nat]; exact hid)
        have HD2 := Lib.hid hid
        clear hid
        go_wp2_with fail
        refine (isIdle_any _ _ _ _ _ zs bs _ m _ HI.out HR.out HRL.out hl hrm hm hm2).mono ?_
        rintro e w' ⟨rfl, rfl⟩
        rw [HD.out]
        go_wp2
        go_round
        case rel => exact ⟨k + 1, by omega, by go_num, fun q hq => by
          by_cases e : q = k
          · subst e; exact HD2.out
          · exact HN.out q (by omega)⟩
        case measure => simp [intOf]; omega
      · have HD := Lib.hid (show idleI zs bs m k = true by rw [idleI_nat]; exact hid)
        have HF := Lib.hid (show placeIdle zs bs m = k from firstP_at hlt hid HN.out)
        clear hid
        go_wp2_with fail
        refine (isIdle_any _ _ _ _ _ zs bs _ m _ HI.out HR.out HRL.out hl hrm hm hm2).mono ?_
        rintro e w' ⟨rfl, rfl⟩
        rw [HD.out]
        go_wp2
        go_ret
        exact ⟨by rw [HF.out]; rfl, rfl⟩
    · obtain rfl : k = zs.length := by omega
      have HF := Lib.hid (show placeIdle zs bs m = -1 from firstP_none HN.out)
      go_wp2
      go_ret
      exact ⟨by rw [HF.out]; rfl, rfl⟩

/-- Some of the first k may be. -/
def someTo (zs : List Int) (m : Int) (k : Nat) : Bool := (List.range k).any fun q => mayB zs m q
theorem someTo_succ (zs : List Int) (m : Int) (k : Nat) : someTo zs m (k + 1) = (someTo zs m k || mayB zs m k) := by simp [someTo, List.range_succ]
theorem someTo_least (zs : List Int) (m : Int) : someTo zs m zs.length = decide (0 ≤ least zs m) := by
  rcases least_spec zs m with ⟨l1, l2⟩ | ⟨L, l1, l2, l3, _⟩
  · rw [l1]
    have : someTo zs m zs.length = false := by
      unfold someTo
      rw [List.any_eq_false]
      intro q hq
      rw [l2 q (by simpa using hq)]; decide
    rw [this]; rfl
  · rw [l1]
    have : someTo zs m zs.length = true := by
      unfold someTo
      rw [List.any_eq_true]
      exact ⟨L, by simpa using l2, l3⟩
    rw [this]; simp
theorem least_or (a : Option Addr) (cap : Nat) (zs : List Int) (m : Int) (w : World) (hI : Ints w.heap.size w (.slice a zs.length cap) zs) (hreach : zs.length * 8 ≤ 140737488351232) (hm : 0 ≤ m) (hm2 : m < 18446744073709551616) :
    Calls Try.prog 20 #[.slice a zs.length cap, .int .u64 m] w fun e W' => e = .returned (.int .i64 (least zs m)) ∧ Drew w W' := refLeast_any a zs.length cap zs m w hI hreach hm hm2

set_option maxRecDepth 100000 in
set_option maxHeartbeats 8000000 in
theorem refChoose_any (a : Option Addr) (cap : Nat) (ra : Option Addr) (rlen rcap : Nat) (zs : List Int) (bs : List Bool) (prev m : Int) (w : World)
    (hI : Ints w.heap.size w (.slice a zs.length cap) zs) (hR : Bools w.heap.size w (.slice ra rlen rcap) bs) (hrl : bs.length = rlen) (hl : zs.length ≤ 1000) (hrm : rlen ≤ 9223372036854775807) (hm : 0 ≤ m) (hm2 : m < 18446744073709551616) :
    Calls Try.prog 31 #[.slice a zs.length cap, .slice ra rlen rcap, .int .i64 prev, .int .u64 m] w fun e w' => e = .returned (.tuple #[.int .i64 (choose zs bs prev m).1, .int .i64 (choose zs bs prev m).2]) ∧ Below w.heap.size w w' := by
  have HI := Lib.hid hI
  have HR := Lib.hid hR
  have HRL := Lib.hid hrl
  have hreach : zs.length * 8 ≤ 140737488351232 := by omega
  have hsl := someTo_least zs m
  clear hI hR hrl
  rcases least_spec zs m with ⟨l1, l2⟩ | ⟨L, l1, l2, l3, l4⟩
  · have HL := Lib.hid l1
    have HC := Lib.hid (choose_none (bs := bs) (prev := prev) (show least zs m < 0 by omega))
    have HSL := Lib.hid (show someTo zs m zs.length = false by rw [hsl, l1]; rfl)
    clear l1 l2 hsl
    go_enter Try.func31, Try.ntmps31
    go_wp2_with fail
    go_loop [10, 11] (fun s i => ∃ k : Nat, k ≤ zs.length ∧ i = .int .i64 k ∧ s = .bool (someTo zs m k)) (fun _ i => zs.length - (intOf i).toNat)
    case atStart => exact ⟨0, by omega, rfl, rfl⟩
    case round =>
      obtain ⟨k, hk, rfl, rfl⟩ := hrel
      by_cases hlt : k < zs.length
      · have hlt' : (k : Int) < (zs.length : Int) := by omega
        have hs := someTo_succ zs m k
        have HS := Lib.hid hs
        clear hs
        cases hmk : mayB zs m k
        all_goals
          have HK := Lib.hid ((mayI_nat zs m k).trans hmk)
          have HK2 := Lib.hid hmk
          clear hmk
          cases hst : someTo zs m k
          all_goals
            have HST := Lib.hid hst
            clear hst
            go_wp2_with (go_at_call 23; refine (mayI_val _ _ _ zs m _ _ HK.out hm hm2 hl).mono ?_; rintro e w' ⟨rfl, rfl⟩)
            go_round
            case rel => exact ⟨k + 1, by omega, by go_num, by rw [HS.out, HK2.out, HST.out] <;> rfl⟩
            case measure => simp [intOf]; omega
      · obtain rfl : k = zs.length := by omega
        rw [HSL.out]
        go_wp2
        go_ret2
        exact ⟨by rw [HC.out]; rfl, Below.refl _ _⟩
  · have HL := Lib.hid l1
    have hln : ¬ least zs m < 0 := by omega
    have HSL := Lib.hid (show someTo zs m zs.length = true by rw [hsl, l1]; simp)
    clear hsl
    cases hid : idleI zs bs m prev
    · have HD := Lib.hid hid
      by_cases hp0 : 0 ≤ placeIdle zs bs m
      · have HC := Lib.hid (choose_idle hln hid hp0)
        clear l1 l4 hln hid
        go_enter Try.func31, Try.ntmps31
        go_wp2_with fail
        go_loop [10, 11] (fun s i => ∃ k : Nat, k ≤ zs.length ∧ i = .int .i64 k ∧ s = .bool (someTo zs m k)) (fun _ i => zs.length - (intOf i).toNat)
        case atStart => exact ⟨0, by omega, rfl, rfl⟩
        case round =>
          obtain ⟨k, hk, rfl, rfl⟩ := hrel
          by_cases hlt : k < zs.length
          · have hlt' : (k : Int) < (zs.length : Int) := by omega
            have hs := someTo_succ zs m k
            have HS := Lib.hid hs
            clear hs
            cases hmk : mayB zs m k
            all_goals
              have HK := Lib.hid ((mayI_nat zs m k).trans hmk)
              have HK2 := Lib.hid hmk
              clear hmk
              cases hst : someTo zs m k
              all_goals
                have HST := Lib.hid hst
                clear hst
                go_wp2_with (go_at_call 23; refine (mayI_val _ _ _ zs m _ _ HK.out hm hm2 hl).mono ?_; rintro e w' ⟨rfl, rfl⟩)
                go_round
                case rel => exact ⟨k + 1, by omega, by go_num, by rw [HS.out, HK2.out, HST.out] <;> rfl⟩
                case measure => simp [intOf]; omega
          · obtain rfl : k = zs.length := by omega
            rw [HSL.out]
            go_wp2_with fail
            refine (isIdle_any _ _ _ _ _ zs bs _ m _ HI.out HR.out HRL.out hl hrm hm hm2).mono ?_
            rintro e w' ⟨rfl, rfl⟩
            rw [HD.out]
            go_wp2_with fail
            refine (refIdle_any _ _ _ _ _ zs bs m _ HI.out HR.out HRL.out hl hrm hm hm2).mono ?_
            rintro e w' ⟨rfl, rfl⟩
            go_wp2_with fail
            refine (refIdle_any _ _ _ _ _ zs bs m _ HI.out HR.out HRL.out hl hrm hm hm2).mono ?_
            rintro e w' ⟨rfl, rfl⟩
            go_wp2
            go_ret2
            exact ⟨by rw [HC.out]; rfl, Below.refl _ _⟩
      · have HP := Lib.hid (show placeIdle zs bs m < 0 by omega)
        by_cases h3 : mayI zs m prev = true ∧ zat zs prev.toNat ≤ zat zs (least zs m).toNat
        · have HC := Lib.hid (choose_stay hln hid hp0 h3)
          have h3' := h3
          rw [l1] at h3'
          obtain ⟨hmy, hle⟩ := h3'
          have hpn : 0 ≤ prev := by
            by_cases hp : 0 ≤ prev
            · exact hp
            · unfold mayI at hmy; rw [decide_eq_false hp] at hmy; cases hmy
          obtain ⟨q, rfl⟩ := Int.eq_ofNat_of_zero_le hpn
          have HM := Lib.hid hmy
          rw [mayI_nat] at hmy
          have hq := (mayB_iff.1 hmy).1
          have hle' : zat zs q ≤ zat zs L := by simpa using hle
          have hq' : (q : Int) < (zs.length : Int) := by omega
          have hLi : (L : Int) < (zs.length : Int) := by omega
          obtain ⟨b, off, ha, hb, hc⟩ := HI.out.cells hq
          subst ha
          have hcq := hc q hq
          have hcL := hc L l2
          clear l1 l4 hln hid hp0 h3 hmy hle hc
          go_enter Try.func31, Try.ntmps31
          go_wp2_with fail
          go_loop [10, 11] (fun s i => ∃ k : Nat, k ≤ zs.length ∧ i = .int .i64 k ∧ s = .bool (someTo zs m k)) (fun _ i => zs.length - (intOf i).toNat)
          case atStart => exact ⟨0, by omega, rfl, rfl⟩
          case round =>
            obtain ⟨k, hk, rfl, rfl⟩ := hrel
            by_cases hlt : k < zs.length
            · have hlt' : (k : Int) < (zs.length : Int) := by omega
              have hs := someTo_succ zs m k
              have HS := Lib.hid hs
              clear hs
              cases hmk : mayB zs m k
              all_goals
                have HK := Lib.hid ((mayI_nat zs m k).trans hmk)
                have HK2 := Lib.hid hmk
                clear hmk
                cases hst : someTo zs m k
                all_goals
                  have HST := Lib.hid hst
                  clear hst
                  go_wp2_with (go_at_call 23; refine (mayI_val _ _ _ zs m _ _ HK.out hm hm2 hl).mono ?_; rintro e w' ⟨rfl, rfl⟩)
                  go_round
                  case rel => exact ⟨k + 1, by omega, by go_num, by rw [HS.out, HK2.out, HST.out] <;> rfl⟩
                  case measure => simp [intOf]; omega
            · obtain rfl : k = zs.length := by omega
              rw [HSL.out]
              go_wp2_with fail
              refine (isIdle_any _ _ _ _ _ zs bs _ m _ HI.out HR.out HRL.out hl hrm hm hm2).mono ?_
              rintro e w' ⟨rfl, rfl⟩
              rw [HD.out]
              go_wp2_with fail
              refine (refIdle_any _ _ _ _ _ zs bs m _ HI.out HR.out HRL.out hl hrm hm hm2).mono ?_
              rintro e w' ⟨rfl, rfl⟩
              have hp1 : placeIdle zs bs m < 0 := HP.out
              go_wp2_with fail
              refine (least_or _ _ zs m _ HI.out hreach hm hm2).mono ?_
              rintro e w1 ⟨rfl, hd1⟩
              rw [HL.out]
              have hcq1 : w1.cell? ⟨b, off + q, none⟩ = some (.int .u64 (zat zs q)) := (hd1.cell _).trans hcq
              have hcL1 : w1.cell? ⟨b, off + L, none⟩ = some (.int .u64 (zat zs L)) := (hd1.cell _).trans hcL
              go_wp2
              go_quiet ((go_at_call 23; exact Calls.quiet_of_same (mayI_val _ _ _ zs m true _ HM.out hm hm2 hl)))
              go_wp2
              go_ret2
              exact ⟨by rw [HC.out]; rfl, (hd1.drewN _).below _⟩
        · have HC := Lib.hid (choose_least hln hid hp0 h3)
          rw [l1] at h3
          cases hmy : mayI zs m prev
          · have HM := Lib.hid hmy
            clear l4 hln hid hp0 h3 hmy
            go_enter Try.func31, Try.ntmps31
            go_wp2_with fail
            go_loop [10, 11] (fun s i => ∃ k : Nat, k ≤ zs.length ∧ i = .int .i64 k ∧ s = .bool (someTo zs m k)) (fun _ i => zs.length - (intOf i).toNat)
            case atStart => exact ⟨0, by omega, rfl, rfl⟩
            case round =>
              obtain ⟨k, hk, rfl, rfl⟩ := hrel
              by_cases hlt : k < zs.length
              · have hlt' : (k : Int) < (zs.length : Int) := by omega
                have hs := someTo_succ zs m k
                have HS := Lib.hid hs
                clear hs
                cases hmk : mayB zs m k
                all_goals
                  have HK := Lib.hid ((mayI_nat zs m k).trans hmk)
                  have HK2 := Lib.hid hmk
                  clear hmk
                  cases hst : someTo zs m k
                  all_goals
                    have HST := Lib.hid hst
                    clear hst
                    go_wp2_with (go_at_call 23; refine (mayI_val _ _ _ zs m _ _ HK.out hm hm2 hl).mono ?_; rintro e w' ⟨rfl, rfl⟩)
                    go_round
                    case rel => exact ⟨k + 1, by omega, by go_num, by rw [HS.out, HK2.out, HST.out] <;> rfl⟩
                    case measure => simp [intOf]; omega
              · obtain rfl : k = zs.length := by omega
                rw [HSL.out]
                go_wp2_with fail
                refine (isIdle_any _ _ _ _ _ zs bs _ m _ HI.out HR.out HRL.out hl hrm hm hm2).mono ?_
                rintro e w' ⟨rfl, rfl⟩
                rw [HD.out]
                go_wp2_with fail
                refine (refIdle_any _ _ _ _ _ zs bs m _ HI.out HR.out HRL.out hl hrm hm hm2).mono ?_
                rintro e w' ⟨rfl, rfl⟩
                have hp1 : placeIdle zs bs m < 0 := HP.out
                go_wp2_with fail
                refine (least_or _ _ zs m _ HI.out hreach hm hm2).mono ?_
                rintro e w1 ⟨rfl, hd1⟩
                rw [HL.out]
                go_wp2
                go_quiet ((go_at_call 23; exact Calls.quiet_of_same (mayI_val _ _ _ zs m false _ HM.out hm hm2 hl)))
                go_wp2
                go_ret2
                exact ⟨by rw [HC.out, HL.out]; rfl, (hd1.drewN _).below _⟩
          · have hpn : 0 ≤ prev := by
              by_cases hp : 0 ≤ prev
              · exact hp
              · unfold mayI at hmy; rw [decide_eq_false hp] at hmy; cases hmy
            obtain ⟨q, rfl⟩ := Int.eq_ofNat_of_zero_le hpn
            have HM := Lib.hid hmy
            have hle' : ¬ zat zs q ≤ zat zs L := fun h => h3 ⟨hmy, by simpa using h⟩
            rw [mayI_nat] at hmy
            have hq := (mayB_iff.1 hmy).1
            have hq' : (q : Int) < (zs.length : Int) := by omega
            have hLi : (L : Int) < (zs.length : Int) := by omega
            obtain ⟨b, off, ha, hb, hc⟩ := HI.out.cells hq
            subst ha
            have hcq := hc q hq
            have hcL := hc L l2
            clear l1 l4 hln hid hp0 h3 hmy hc
            go_enter Try.func31, Try.ntmps31
            go_wp2_with fail
            go_loop [10, 11] (fun s i => ∃ k : Nat, k ≤ zs.length ∧ i = .int .i64 k ∧ s = .bool (someTo zs m k)) (fun _ i => zs.length - (intOf i).toNat)
            case atStart => exact ⟨0, by omega, rfl, rfl⟩
            case round =>
              obtain ⟨k, hk, rfl, rfl⟩ := hrel
              by_cases hlt : k < zs.length
              · have hlt' : (k : Int) < (zs.length : Int) := by omega
                have hs := someTo_succ zs m k
                have HS := Lib.hid hs
                clear hs
                cases hmk : mayB zs m k
                all_goals
                  have HK := Lib.hid ((mayI_nat zs m k).trans hmk)
                  have HK2 := Lib.hid hmk
                  clear hmk
                  cases hst : someTo zs m k
                  all_goals
                    have HST := Lib.hid hst
                    clear hst
                    go_wp2_with (go_at_call 23; refine (mayI_val _ _ _ zs m _ _ HK.out hm hm2 hl).mono ?_; rintro e w' ⟨rfl, rfl⟩)
                    go_round
                    case rel => exact ⟨k + 1, by omega, by go_num, by rw [HS.out, HK2.out, HST.out] <;> rfl⟩
                    case measure => simp [intOf]; omega
              · obtain rfl : k = zs.length := by omega
                rw [HSL.out]
                go_wp2_with fail
                refine (isIdle_any _ _ _ _ _ zs bs _ m _ HI.out HR.out HRL.out hl hrm hm hm2).mono ?_
                rintro e w' ⟨rfl, rfl⟩
                rw [HD.out]
                go_wp2_with fail
                refine (refIdle_any _ _ _ _ _ zs bs m _ HI.out HR.out HRL.out hl hrm hm hm2).mono ?_
                rintro e w' ⟨rfl, rfl⟩
                have hp1 : placeIdle zs bs m < 0 := HP.out
                go_wp2_with fail
                refine (least_or _ _ zs m _ HI.out hreach hm hm2).mono ?_
                rintro e w1 ⟨rfl, hd1⟩
                rw [HL.out]
                have hcq1 : w1.cell? ⟨b, off + q, none⟩ = some (.int .u64 (zat zs q)) := (hd1.cell _).trans hcq
                have hcL1 : w1.cell? ⟨b, off + L, none⟩ = some (.int .u64 (zat zs L)) := (hd1.cell _).trans hcL
                go_wp2
                go_quiet ((go_at_call 23; exact Calls.quiet_of_same (mayI_val _ _ _ zs m true _ HM.out hm hm2 hl)))
                go_wp2
                go_ret2
                exact ⟨by rw [HC.out, HL.out]; rfl, (hd1.drewN _).below _⟩
    · have HC := Lib.hid (choose_prev hln hid)
      have HD := Lib.hid hid
      clear l1 l4 hln hid
      go_enter Try.func31, Try.ntmps31
      go_wp2_with fail
      go_loop [10, 11] (fun s i => ∃ k : Nat, k ≤ zs.length ∧ i = .int .i64 k ∧ s = .bool (someTo zs m k)) (fun _ i => zs.length - (intOf i).toNat)
      case atStart => exact ⟨0, by omega, rfl, rfl⟩
      case round =>
        obtain ⟨k, hk, rfl, rfl⟩ := hrel
        by_cases hlt : k < zs.length
        · have hlt' : (k : Int) < (zs.length : Int) := by omega
          have hs := someTo_succ zs m k
          have HS := Lib.hid hs
          clear hs
          cases hmk : mayB zs m k
          all_goals
            have HK := Lib.hid ((mayI_nat zs m k).trans hmk)
            have HK2 := Lib.hid hmk
            clear hmk
            cases hst : someTo zs m k
            all_goals
              have HST := Lib.hid hst
              clear hst
              go_wp2_with (go_at_call 23; refine (mayI_val _ _ _ zs m _ _ HK.out hm hm2 hl).mono ?_; rintro e w' ⟨rfl, rfl⟩)
              go_round
              case rel => exact ⟨k + 1, by omega, by go_num, by rw [HS.out, HK2.out, HST.out] <;> rfl⟩
              case measure => simp [intOf]; omega
        · obtain rfl : k = zs.length := by omega
          rw [HSL.out]
          go_wp2_with fail
          refine (isIdle_any _ _ _ _ _ zs bs _ m _ HI.out HR.out HRL.out hl hrm hm hm2).mono ?_
          rintro e w' ⟨rfl, rfl⟩
          rw [HD.out]
          go_wp2
          go_ret2
          exact ⟨by rw [HC.out]; rfl, Below.refl _ _⟩

theorem Ints.new3 (w : World) (x y z : Int) : Ints (w.heap.size + 1) (w.alloc (.cells #[.int .u64 x, .int .u64 y, .int .u64 z] 23)) (.slice (some ⟨w.heap.size, 0, none⟩) 3 3) [x, y, z] :=
  .inr ⟨w.heap.size, 0, 3, rfl, by omega, fun j hj => by
    have h : j = 0 ∨ j = 1 ∨ j = 2 := by simp at hj; omega
    rcases h with rfl | rfl | rfl <;> simp [zat]⟩
theorem Bools.new3 (w : World) (x y z : Bool) : Bools (w.heap.size + 1) (w.alloc (.cells #[.bool x, .bool y, .bool z] 4)) (.slice (some ⟨w.heap.size, 0, none⟩) 3 3) [x, y, z] :=
  .inr ⟨w.heap.size, 0, 3, rfl, by omega, fun j hj => by
    have h : j = 0 ∨ j = 1 ∨ j = 2 := by simp at hj; omega
    rcases h with rfl | rfl | rfl <;> simp [bat]⟩
theorem Bools.nil (n₀ : Nat) (w : World) : Bools n₀ w (.slice none 0 0) [] := .inl ⟨⟨_, _, rfl⟩, rfl⟩
/-- The head of all statements of place. -/
theorem pshown_any (w : World) : Calls Try.prog 28 #[] w fun e w' => e = .returned (.bool true) ∧ Below w.heap.size w w' := by
  have E1 := Lib.hid (show choose [5, 0, 3] [true, true, true] 2 7 = (1, 0) by decide +kernel)
  have E2 := Lib.hid (show choose [5, 0, 3] [] 2 5 = (2, 0) by decide +kernel)
  have E3 := Lib.hid (show placeIdle [5, 0, 3] [] 7 = 1 by decide +kernel)
  have h0 : ∃ W, w.alloc (.cells #[.int .u64 5, .int .u64 0, .int .u64 3] 23) = W ∧ W.heap.size = w.heap.size + 1 ∧ Below w.heap.size w W ∧ Ints W.heap.size W (.slice (some ⟨w.heap.size, 0, none⟩) 3 3) [5, 0, 3] :=
    ⟨_, rfl, by simp, (Below.refl _ _).alloc (Nat.le_refl _) _, by rw [World.size_alloc]; exact Ints.new3 w 5 0 3⟩
  have H0 := Lib.hid h0
  go_enter Try.func28, Try.ntmps28
  clear h0
  go_wp2_with fail
  obtain ⟨W, e, hs, hb, hI⟩ := H0.out
  rw [e]
  have h1 : ∃ V, W.alloc (.cells #[.bool true, .bool true, .bool true] 4) = V ∧ Below W.heap.size W V ∧ Bools V.heap.size V (.slice (some ⟨W.heap.size, 0, none⟩) 3 3) [true, true, true] :=
    ⟨_, rfl, (Below.refl _ _).alloc (Nat.le_refl _) _, by rw [World.size_alloc]; exact Bools.new3 W true true true⟩
  obtain ⟨V, e1, hb1, hB⟩ := h1
  rw [e1, ← hs]
  have HI := Lib.hid (nx0 hb1 hI)
  have HB := Lib.hid (nx hb hb1)
  clear e e1 hb hI hb1
  refine (choose_any _ _ _ _ _ [5, 0, 3] [true, true, true] 2 7 V HI.out hB rfl (by decide) (by decide)).mono ?_
  rintro r w1 ⟨rfl, hb1⟩
  rw [E1.out]
  have HI1 := Lib.hid (nx0 hb1 HI.out)
  clear hB hs
  go_wp2_with fail
  refine (choose_any _ _ _ _ _ [5, 0, 3] [] 2 5 w1 HI1.out (Bools.nil _ _) rfl (by decide) (by decide)).mono ?_
  rintro r w2 ⟨rfl, hb2⟩
  rw [E2.out]
  have HI2 := Lib.hid (nx0 hb2 HI1.out)
  go_wp2_with fail
  refine (placeIdle_any _ _ _ _ _ [5, 0, 3] [] 7 w2 HI2.out (Bools.nil _ _) rfl (by decide) (by decide)).mono ?_
  rintro r w3 ⟨rfl, hb3⟩
  rw [E3.out]
  go_wp2
  go_ret
  exact ⟨rfl, nx (nx (nx HB.out hb1) hb2) hb3⟩
end Go.Proofs.Ytigpcjikdpknnaa
