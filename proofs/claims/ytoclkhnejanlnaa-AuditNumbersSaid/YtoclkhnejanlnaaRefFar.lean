/- The document's answer whether two are never far apart. Conditions: the slices read as lists; the weights are within their kind. -/
import Derived.Test.YtoclkhnejanlnaaApart
namespace Go.Proofs.Ytoclkhnejanlnaa
set_option linter.unusedVariables false
open Go.RowKit
section
variable {aa ba : Option Addr} {an ac bn bc : Nat} {za zb : List Int}
theorem apart_far {wa wb most : Int} {i j : Nat} (hij : i < j) (hj : j < za.length) (h : farB za zb wa wb most i j = true) : apartB za zb wa wb most = false := by
  cases hb : apartB za zb wa wb most
  · rfl
  · exact absurd (far_iff.1 h) ((apart_iff.1 hb).2 j hj i hij)
theorem apart_all (hl : za.length = zb.length) {wa wb : Int} (ha : (wa == 0) = false) (hb : (wb == 0) = false) (hra : riseB za = true) (hrb : riseB zb = true) {most : Int} (h : ∀ i j, i < j → j < za.length → farB za zb wa wb most i j = false) : apartB za zb wa wb most = true := by
  rw [apart_is hl ha hb hra hrb, Bool.not_eq_true']
  exact anyB_false.2 fun j hj => anyB_false.2 fun i hi => h i j hi hj
set_option maxHeartbeats 4000000 in
theorem refApart_any (wa wb most : Int) (w : World) (ha : Rd encI w.heap.size w aa an za) (hb : Rd encI w.heap.size w ba bn zb) (han : an ≤ 9223372036854775807) (hbn : bn ≤ 9223372036854775807) (hwa : 0 ≤ wa) (hwa1 : wa ≤ 18446744073709551615) (hwb : 0 ≤ wb) (hwb1 : wb ≤ 18446744073709551615) :
    Calls Try.prog 16 #[.slice aa an ac, .slice ba bn bc, .int .u64 wa, .int .u64 wb, .int .i64 most] w fun e w' => e = .returned (.bool (apartB za zb wa wb most)) ∧ Below w.heap.size w w' := by
  have hnot : ∀ (x : Bool) (w : World), (Op.unary .not (.bool x)).run Try.prog w = .ok (.bool (!x)) w := fun _ _ => rfl
  have HA := Lib.hid ha
  have HB := Lib.hid hb
  have HAL := Lib.hid ha.1
  have HBL := Lib.hid hb.1
  clear ha hb
  cases hne : ((an : Int) != (bn : Int))
  · have hba : bn = an := by simp at hne; omega
    subst hba
    cases hza : (wa == 0)
    · cases hzb : (wb == 0)
      · have HZA := Lib.hid hza
        have HZB := Lib.hid hzb
        have hwa0 : 0 < wa := by simp at hza; omega
        have hwb0 : 0 < wb := by simp at hzb; omega
        have k7 : ¬ wa = 0 := by omega
        have k8 : ¬ wb = 0 := by omega
        go_enter Try.func16, Try.ntmps16
        go_wp2_with fail
        refine (fine_any _ HA.out han).mono ?_
        rintro e W1 ⟨rfl, hb1⟩
        have G1 := Lib.hid hb1
        clear hb1
        cases hra : riseB za
        · have HD := Lib.hid (apart_ra (zb := zb) hra wa wb most)
          clear hra
          go_wp2
          go_ret
          exact ⟨by rw [HD.out]; rfl, G1.out⟩
        · have HRA := Lib.hid hra
          clear hra
          go_wp2_with fail
          refine (fine_any _ (HB.out.next G1.out) hbn).mono ?_
          rintro e W2 ⟨rfl, hb2⟩
          have G2 := Lib.hid (nx G1.out hb2)
          clear hb2
          cases hrb : riseB zb
          · have HD := Lib.hid (apart_rb (za := za) hrb wa wb most)
            clear hrb
            go_wp2
            go_ret
            exact ⟨by rw [HD.out]; rfl, G2.out⟩
          · have HRB := Lib.hid hrb
            clear hrb
            have HALL := Lib.hid (apart_all (by rw [HAL.out, HBL.out]) HZA.out HZB.out HRA.out HRB.out (most := most))
            have h200 := (rise_iff.1 HRA.out).1
            rw [HAL.out] at h200
            go_wp2_with fail
            go_loopw [11] (fun i wr => ∃ k : Nat, k ≤ bn ∧ i = .int .i64 k ∧ (∀ q j, q < k → q < j → j < bn → farB za zb wa wb most q j = false) ∧ Below w.heap.size w wr) (fun i _ => bn - (intOf i).toNat)
            case atStart => exact ⟨0, Nat.zero_le _, rfl, fun q j h => by omega, G2.out⟩
            case round =>
              obtain ⟨k, hk, rfl, hq, hBr⟩ := hrel
              have HQ := Lib.hid hq
              have HBr := Lib.hid hBr
              clear hq hBr
              by_cases hlt : k < bn
              · have hlt' : (k : Int) < (bn : Int) := by omega
                obtain ⟨wo, rfl⟩ : ∃ wo : World, wo = wr := ⟨_, rfl⟩
                go_wp2_with fail
                go_loopw [12] (fun i wr => ∃ m : Nat, k < m ∧ m ≤ bn ∧ i = .int .i64 m ∧ (∀ j, k < j → j < m → farB za zb wa wb most k j = false) ∧ Below w.heap.size w wr) (fun i _ => bn - (intOf i).toNat)
                case atStart => exact ⟨k + 1, by omega, by omega, by go_num, fun j h1 h2 => by omega, HBr.out⟩
                case round =>
                  obtain ⟨m, hkm, hm, rfl, hqm, hBm⟩ := hrel
                  have HQM := Lib.hid hqm
                  have HBm := Lib.hid hBm
                  clear hqm hBm
                  by_cases hmlt : m < bn
                  · have hmlt' : (m : Int) < (bn : Int) := by omega
                    obtain ⟨b, off, hab, hbl, hc⟩ := HA.out.ints (by omega)
                    obtain ⟨b', off', hab', hbl', hc'⟩ := HB.out.ints (by omega)
                    subst hab hab'
                    have ci := cellb HBm.out hbl (hc k hlt)
                    have cj := cellb HBm.out hbl (hc m hmlt)
                    have di := cellb HBm.out hbl' (hc' k hlt)
                    have dj := cellb HBm.out hbl' (hc' m hmlt)
                    have ma := rise_mono HRA.out (Nat.le_of_lt hkm) (by rw [HAL.out]; exact hmlt)
                    have mb := rise_mono HRB.out (Nat.le_of_lt hkm) (by rw [HBL.out]; exact hmlt)
                    have a1 := (rise_iff.1 HRA.out).2.1 k (by rw [HAL.out]; omega)
                    have a2 := (rise_iff.1 HRA.out).2.1 m (by rw [HAL.out]; omega)
                    have b1 := (rise_iff.1 HRB.out).2.1 k (by rw [HBL.out]; omega)
                    have b2 := (rise_iff.1 HRB.out).2.1 m (by rw [HBL.out]; omega)
                    obtain ⟨d, hd⟩ : ∃ d, rat za m - rat za k = d := ⟨_, rfl⟩
                    obtain ⟨f, hf⟩ : ∃ d, rat zb m - rat zb k = d := ⟨_, rfl⟩
                    have hd0 : 0 ≤ d ∧ d ≤ 1099511627776 := by omega
                    have hf0 : 0 ≤ f ∧ f ≤ 1099511627776 := by omega
                    have ga := grow_bd HRA.out (Nat.le_of_lt hkm) (by rw [HAL.out]; exact hmlt) hwa0
                    have gb := grow_bd HRB.out (Nat.le_of_lt hkm) (by rw [HBL.out]; exact hmlt) hwb0
                    obtain ⟨q, hqq⟩ : ∃ q, growI za k m wa = q := ⟨_, rfl⟩
                    obtain ⟨r, hrr⟩ : ∃ q, growI zb k m wb = q := ⟨_, rfl⟩
                    rw [hqq] at ga
                    rw [hrr] at gb
                    have HQQ := Lib.hid hqq
                    have HRR := Lib.hid hrr
                    have HDD := Lib.hid hd
                    have HFF := Lib.hid hf
                    have HFAR := Lib.hid (far_iff (a := za) (b := zb) (wa := wa) (wb := wb) (most := most) (i := k) (j := m))
                    have HAP := Lib.hid (fun h : farB za zb wa wb most k m = true => apart_far hkm (by rw [HAL.out]; exact hmlt) h)
                    have g1 : (0 : Int) ≤ (k : Int) := by omega
                    have g3 : (0 : Int) ≤ (m : Int) := by omega
                    have k1 : IntKind.i64.wrap (rat za m - rat za k) = d := by rw [HDD.out, IntKind.wrap_i64]; omega
                    have k2 : IntKind.i64.wrap (1024 * d) = 1024 * d := by rw [IntKind.wrap_i64]; omega
                    have k3 : IntKind.u64.wrap (1024 * d) = 1024 * d := by rw [IntKind.wrap_u64]; omega
                    have k4 : (1024 * d).tdiv wa = q := by rw [Int.tdiv_eq_ediv_of_nonneg (by omega), ← HQQ.out]; unfold growI; rw [HDD.out, Int.mul_comm]
                    have k5 : IntKind.u64.wrap q = q := by rw [IntKind.wrap_u64]; omega
                    have k6 : IntKind.i64.wrap q = q := by rw [IntKind.wrap_i64]; omega
                    have l1 : IntKind.i64.wrap (rat zb m - rat zb k) = f := by rw [HFF.out, IntKind.wrap_i64]; omega
                    have l2 : IntKind.i64.wrap (1024 * f) = 1024 * f := by rw [IntKind.wrap_i64]; omega
                    have l3 : IntKind.u64.wrap (1024 * f) = 1024 * f := by rw [IntKind.wrap_u64]; omega
                    have l4 : (1024 * f).tdiv wb = r := by rw [Int.tdiv_eq_ediv_of_nonneg (by omega), ← HRR.out]; unfold growI; rw [HFF.out, Int.mul_comm]
                    have l5 : IntKind.u64.wrap r = r := by rw [IntKind.wrap_u64]; omega
                    have l6 : IntKind.i64.wrap r = r := by rw [IntKind.wrap_i64]; omega
                    clear hc hc' ma mb a1 a2 b1 b2 hd hf hqq hrr
                    go_wp2_with fail
                    go_quiet (fail)
                    go_wp2_with fail
                    go_quiet (fail)
                    clear k1 k2 k3 k4 k5 k6 l1 l2 l3 l4 l5 l6
                    by_cases h1 : most < q - r
                    · have HD := Lib.hid (HAP.out (HFAR.out.2 (.inl (by rw [HQQ.out, HRR.out]; exact h1))))
                      go_wp2
                      go_ret
                      exact ⟨by rw [HD.out]; rfl, below_drewN HBm.out _⟩
                    · by_cases h2 : most < r - q
                      · have HD := Lib.hid (HAP.out (HFAR.out.2 (.inr (by rw [HQQ.out, HRR.out]; exact h2))))
                        go_wp2
                        go_ret
                        exact ⟨by rw [HD.out]; rfl, below_drewN HBm.out _⟩
                      · have HN := Lib.hid (show farB za zb wa wb most k m = false by
                          cases hh : farB za zb wa wb most k m
                          · rfl
                          · have := HFAR.out.1 hh
                            rw [HQQ.out, HRR.out] at this
                            omega)
                        go_wp2
                        go_roundw
                        case rel => exact ⟨m + 1, by omega, by omega, by go_num, fun j h1 h2 => by
                          by_cases e : j = m
                          · subst e; exact HN.out
                          · exact HQM.out j h1 (by omega), below_drewN HBm.out _⟩
                        case measure => simp [intOf]; omega
                  · obtain rfl : m = bn := by omega
                    go_wp2
                    go_roundw
                    case rel => exact ⟨k + 1, by omega, by go_num, fun q j h1 h2 h3 => by
                      by_cases e : q = k
                      · subst e; exact HQM.out j h2 h3
                      · exact HQ.out q j (by omega) h2 h3, HBm.out⟩
                    case measure => simp [intOf]; omega
              · obtain rfl : k = bn := by omega
                have HD := Lib.hid (HALL.out (fun i j h1 h2 => HQ.out i j (by rw [HAL.out] at h2; omega) h1 (by rw [HAL.out] at h2; exact h2)))
                go_wp2
                go_ret
                exact ⟨by rw [HD.out]; rfl, HBr.out⟩
      · have h0 : wb = 0 := by simpa using hzb
        subst h0
        have HD := Lib.hid (apart_wb (za := za) (zb := zb) wa most)
        go_enter Try.func16, Try.ntmps16
        go_wp2
        go_ret
        exact ⟨by rw [HD.out]; rfl, Below.refl _ _⟩
    · have h0 : wa = 0 := by simpa using hza
      subst h0
      have HD := Lib.hid (apart_wa (za := za) (zb := zb) wb most)
      go_enter Try.func16, Try.ntmps16
      go_wp2
      go_ret
      exact ⟨by rw [HD.out]; rfl, Below.refl _ _⟩
  · have HD := Lib.hid (apart_len (za := za) (zb := zb) (by rw [HAL.out, HBL.out]; simp at hne; omega) wa wb most)
    go_enter Try.func16, Try.ntmps16
    go_wp2
    go_ret
    exact ⟨by rw [HD.out]; rfl, Below.refl _ _⟩
end
end Go.Proofs.Ytoclkhnejanlnaa
