/- Whether just some had more: the program's answer, and the document's. Conditions: the slices read as lists. -/
import Derived.Test.YtoclkhnejanlnaaRules
import Derived.Test.YtoclkhnejanlnaaNums
import Derived.IntWalk
namespace Go.Proofs.Ytoclkhnejanlnaa
set_option linter.unusedVariables false
open Go.RowKit
theorem cnewq {W : World} {t j b : Nat} {C : Array Value} (h : b = W.heap.size) : (W.alloc (.cells C t)).cell? ⟨b, j, none⟩ = C[j]? := by subst h; exact cnewb
section
variable {ba oa aa : Option Addr} {bn bc on oc an ac : Nat} {zb zo za : List Int} {ns : Int}
set_option maxHeartbeats 1000000 in
theorem cred1_any (b1 b2 b3 b4 k : Nat) (w : World) (hb : Rd encI w.heap.size w ba bn zb) (ho : Rd encI w.heap.size w oa on zo) (ha : Rd encI w.heap.size w aa an za) (hkb : k < bn) (hka : k < an) (hon : on ≤ 9223372036854775807)
    (d1 : w.cell? ⟨b1, 0, none⟩ = some (.slice ba bn bc)) (d2 : w.cell? ⟨b2, 0, none⟩ = some (.slice oa on oc)) (d3 : w.cell? ⟨b3, 0, none⟩ = some (.int .i64 ns)) (d4 : w.cell? ⟨b4, 0, none⟩ = some (.slice aa an ac)) :
    Calls Try.prog 33 #[.int .i64 (k : Int), .pointer (some ⟨b1, 0, none⟩), .pointer (some ⟨b2, 0, none⟩), .pointer (some ⟨b3, 0, none⟩), .pointer (some ⟨b4, 0, none⟩)] w fun e w' => e = .returned (.bool (rat za k != wantI zb zo ns k)) ∧ w = w' := by
  obtain ⟨x, xo, hx, hxb, hxc⟩ := hb.ints (by omega)
  obtain ⟨y, yo, hy, hyb, hyc⟩ := ha.ints (by omega)
  subst hx hy
  have x0 := hxc k hkb
  have y0 := hyc k hka
  have hkb' : (k : Int) < (bn : Int) := by omega
  have hka' : (k : Int) < (an : Int) := by omega
  have HO := Lib.hid ho
  clear hxc hyc hb ho ha
  have HE : Hid ((zo.any fun x => x == (k : Int)) = hasI zo k) := rfl
  cases hh : hasI zo k
  · have HW := Lib.hid (show wantI zb zo ns k = rat zb k by unfold wantI; rw [hh]; rfl)
    have HH := Lib.hid (HE.out.trans hh)
    clear hh HE
    go_enter Try.func33, Try.ntmps33
    go_wp2_with fail
    refine (contains_any oa on oc zo k _ HO.out hon).mono ?_
    rintro e w' ⟨rfl, rfl⟩
    rw [HH.out]
    go_wp2
    go_ret
    exact ⟨by rw [HW.out]; rfl, rfl⟩
  · have HW := Lib.hid (show wantI zb zo ns k = wi (rat zb k + ns) by unfold wantI; rw [hh]; rfl)
    have HH := Lib.hid (HE.out.trans hh)
    clear hh HE
    go_enter Try.func33, Try.ntmps33
    go_wp2_with fail
    refine (contains_any oa on oc zo k _ HO.out hon).mono ?_
    rintro e w' ⟨rfl, rfl⟩
    rw [HH.out]
    go_wp2
    go_ret
    exact ⟨by rw [HW.out]; rfl, rfl⟩
theorem enters33 : Enters 33 := fun _ _ => by kernel_rfl
set_option maxHeartbeats 1000000 in
theorem credits_any (w : World) (hb : Rd encI w.heap.size w ba bn zb) (ho : Rd encI w.heap.size w oa on zo) (ha : Rd encI w.heap.size w aa an za) (hbn : bn ≤ 9223372036854775807) (hon : on ≤ 9223372036854775807) :
    Calls Try.prog 12 #[.slice ba bn bc, .slice aa an ac, .slice oa on oc, .int .i64 ns] w fun e w' => e = .returned (.bool (credB zb za zo ns)) ∧ Below w.heap.size w w' := by
  have hnot : ∀ (x : Bool) (w : World), (Op.unary .not (.bool x)).run Try.prog w = .ok (.bool (!x)) w := fun _ _ => rfl
  have HB := Lib.hid hb
  have HO := Lib.hid ho
  have HA := Lib.hid ha
  have HBL := Lib.hid hb.1
  have HAL := Lib.hid ha.1
  clear hb ho ha
  cases hne : ((bn : Int) != (an : Int))
  · have hba : an = bn := by simp at hne; omega
    subst hba
    go_enter Try.func12, Try.ntmps12
    go_wp2_with fail
    have hW := (((belowA w (.cells #[.slice ba an bc] 36)).alloc (by simp) (.cells #[.slice aa an ac] 36)).alloc (by simp <;> omega) (.cells #[.slice oa on oc] 22)).alloc (by simp <;> omega) (.cells #[.int .i64 ns] 2)
    refine (among_any 33 #[.pointer (some ⟨w.heap.size, 0, none⟩), .pointer (some ⟨w.heap.size + 2, 0, none⟩), .pointer (some ⟨w.heap.size + 3, 0, none⟩), .pointer (some ⟨w.heap.size + 1, 0, none⟩)] an (fun i => rat za i != wantI zb zo ns i) _ hbn enters33 (fun k W hk hbW => ?_)).mono ?_
    · refine (cred1_any (ba := ba) (oa := oa) (aa := aa) (bc := bc) (oc := oc) (ac := ac) w.heap.size (w.heap.size + 2) (w.heap.size + 3) (w.heap.size + 1) k W ((HB.out.next hW).next hbW) ((HO.out.next hW).next hbW) ((HA.out.next hW).next hbW) hk hk hon ?_ ?_ ?_ ?_).mono (fun e W' ⟨h1, h2⟩ => ⟨h1, by subst h2; exact Below.refl _ _⟩)
      · exact cellb hbW (by simp <;> omega) (cella _ (by simp <;> omega) (cella _ (by simp <;> omega) (cella _ (by simp) ((cnewq rfl).trans rfl))))
      · exact cellb hbW (by simp) (cella _ (by simp) ((cnewq (by simp)).trans rfl))
      · exact cellb hbW (by simp) ((cnewq (by simp)).trans rfl)
      · exact cellb hbW (by simp <;> omega) (cella _ (by simp <;> omega) (cella _ (by simp) ((cnewq (by simp)).trans rfl)))
    · rintro e w' ⟨rfl, hb1⟩
      have HW := Lib.hid (nx hW hb1)
      clear hb1 hW
      have HD := Lib.hid (show credB zb za zo ns = !anyB an fun i => rat za i != wantI zb zo ns i by unfold credB; rw [HBL.out, HAL.out]; simp)
      go_wp2
      go_ret
      exact ⟨by rw [HD.out]; rfl, HW.out⟩
  · have HD := Lib.hid (show credB zb za zo ns = false from cred_len (by rw [HBL.out, HAL.out]; simp at hne; omega))
    go_enter Try.func12, Try.ntmps12
    go_wp2
    go_ret
    exact ⟨by rw [HD.out]; rfl, (((belowA w (.cells #[.slice ba bn bc] 36)).alloc (by simp) (.cells #[.slice aa an ac] 36)).alloc (by simp <;> omega) (.cells #[.slice oa on oc] 22)).alloc (by simp <;> omega) (.cells #[.int .i64 ns] 2)⟩
set_option maxHeartbeats 1000000 in
theorem refHas_any (zo : List Int) (v : Int) (w : World) (ho : Rd encI w.heap.size w oa on zo) (hon : on ≤ 9223372036854775807) :
    Calls Try.prog 11 #[.slice oa on oc, .int .i64 v] w fun e w' => e = .returned (.bool (hasI zo v)) ∧ w = w' := by
  have HR := Lib.hid ho
  have HL := Lib.hid ho.1
  clear ho
  go_enter Try.func11, Try.ntmps11
  go_wp2_with fail
  go_loop [5] (fun i => ∃ k : Nat, k ≤ on ∧ i = .int .i64 k ∧ (∀ q, q < k → (rat zo q == v) = false)) (fun i => on - (intOf i).toNat)
  case atStart => exact ⟨0, Nat.zero_le _, rfl, fun q h => by omega⟩
  case round =>
    obtain ⟨k, hk, rfl, hq⟩ := hrel
    have HQ := Lib.hid hq
    clear hq
    by_cases hlt : k < on
    · have hlt' : (k : Int) < (on : Int) := by omega
      obtain ⟨b, off, ha, hb, hc⟩ := HR.out.ints (by omega)
      subst ha
      have c0 := hc k hlt
      clear hc
      cases hv : (rat zo k == v)
      · have HH := Lib.hid hv
        go_wp2
        go_round
        case rel => exact ⟨k + 1, by omega, by go_num, fun q hq => by
          by_cases e : q = k
          · subst e; exact HH.out
          · exact HQ.out q (by omega)⟩
        case measure => simp [intOf]; omega
      · have HH := Lib.hid (show hasI zo v = true by
          unfold hasI; rw [← any_list, HL.out]; exact anyB_true (P := fun k => rat zo k == v) hlt hv)
        go_wp2
        go_ret
        exact ⟨by rw [HH.out]; rfl, rfl⟩
    · obtain rfl : k = on := by omega
      have HH := Lib.hid (show hasI zo v = false by unfold hasI; rw [← any_list, HL.out]; exact anyB_false.2 HQ.out)
      go_wp2
      go_ret
      exact ⟨by rw [HH.out]; rfl, rfl⟩
theorem refHas_is {b : Bool} (zo : List Int) (v : Int) (w : World) (ho : Rd encI w.heap.size w oa on zo) (hon : on ≤ 9223372036854775807) (h : hasI zo v = b) :
    Calls Try.prog 11 #[.slice oa on oc, .int .i64 v] w fun e w' => e = .returned (.bool b) ∧ w' = w := by
  subst h
  exact (refHas_any zo v w ho hon).mono fun e w' ⟨h1, h2⟩ => ⟨h1, h2.symm⟩
set_option maxHeartbeats 2000000 in
theorem refCredits_any (w : World) (hb : Rd encI w.heap.size w ba bn zb) (ho : Rd encI w.heap.size w oa on zo) (ha : Rd encI w.heap.size w aa an za) (hbn : bn ≤ 9223372036854775807) (hon : on ≤ 9223372036854775807) :
    Calls Try.prog 14 #[.slice ba bn bc, .slice aa an ac, .slice oa on oc, .int .i64 ns] w fun e w' => e = .returned (.bool (credB zb za zo ns)) ∧ Below w.heap.size w w' := by
  have hnot : ∀ (x : Bool) (w : World), (Op.unary .not (.bool x)).run Try.prog w = .ok (.bool (!x)) w := fun _ _ => rfl
  have HB := Lib.hid hb
  have HO := Lib.hid ho
  have HA := Lib.hid ha
  have HBL := Lib.hid hb.1
  have HAL := Lib.hid ha.1
  clear hb ho ha
  cases hne : ((bn : Int) != (an : Int))
  · have hba : an = bn := by simp at hne; omega
    subst hba
    go_enter Try.func14, Try.ntmps14
    go_wp2_with fail
    go_loopw [9] (fun i wr => ∃ k : Nat, k ≤ an ∧ i = .int .i64 k ∧ (∀ q, q < k → (rat za q != wantI zb zo ns q) = false) ∧ Below w.heap.size w wr) (fun i _ => an - (intOf i).toNat)
    case atStart => exact ⟨0, Nat.zero_le _, rfl, fun q h => by omega, Below.refl _ _⟩
    case round =>
      obtain ⟨k, hk, rfl, hq, hB⟩ := hrel
      have HQ := Lib.hid hq
      have HBw := Lib.hid hB
      clear hq hB
      by_cases hlt : k < an
      · have hlt' : (k : Int) < (an : Int) := by omega
        have hk0 : (0 : Int) ≤ (k : Int) := by omega
        obtain ⟨x, xo, hx, hxb, hxc⟩ := HB.out.ints (by omega)
        obtain ⟨y, yo, hy, hyb, hyc⟩ := HA.out.ints (by omega)
        subst hx hy
        have x0 := cellb HBw.out hxb (hxc k hlt)
        have y0 := cellb HBw.out hyb (hyc k hlt)
        have HOw := Lib.hid (HO.out.next HBw.out)
        clear hxc hyc
        cases hh : hasI zo k
        · have HW := Lib.hid (show wantI zb zo ns k = rat zb k by unfold wantI; rw [hh]; rfl)
          have HH := Lib.hid hh
          clear hh
          cases hv : (rat za k != rat zb k)
          · have HV := Lib.hid (show (rat za k != wantI zb zo ns k) = false by rw [HW.out]; exact hv)
            go_wp2_with fail
            go_quiet ((go_at_call 11; exact Calls.quiet_of_same (refHas_is zo k _ HOw.out hon HH.out)))
            go_wp2
            go_roundw
            case rel => exact ⟨k + 1, by omega, by go_num, fun q hq => by
              by_cases e : q = k
              · subst e; exact HV.out
              · exact HQ.out q (by omega), below_drewN HBw.out _⟩
            case measure => simp [intOf]; omega
          · have HV := Lib.hid (show credB zb za zo ns = false from cred_not (i := k) (by rw [HBL.out]; exact hlt) (by rw [HW.out]; have e := hv; simpa using e))
            go_wp2_with fail
            go_quiet ((go_at_call 11; exact Calls.quiet_of_same (refHas_is zo k _ HOw.out hon HH.out)))
            go_wp2
            go_ret
            exact ⟨by rw [HV.out]; rfl, below_drewN HBw.out _⟩
        · have HW := Lib.hid (show wantI zb zo ns k = wi (rat zb k + ns) by unfold wantI; rw [hh]; rfl)
          have HH := Lib.hid hh
          clear hh
          obtain ⟨S, hS⟩ : ∃ S, IntKind.i64.wrap (rat zb k + ns) = S := ⟨_, rfl⟩
          have HS := Lib.hid (show wi (rat zb k + ns) = S by rw [← hS, IntWalk.i64_left]; rfl)
          cases hv : (rat za k != S)
          · have HV := Lib.hid (show (rat za k != wantI zb zo ns k) = false by rw [HW.out, HS.out]; exact hv)
            go_wp2_with fail
            go_quiet ((go_at_call 11; exact Calls.quiet_of_same (refHas_is zo k _ HOw.out hon HH.out)))
            go_wp2
            go_roundw
            case rel => exact ⟨k + 1, by omega, by go_num, fun q hq => by
              by_cases e : q = k
              · subst e; exact HV.out
              · exact HQ.out q (by omega), below_drewN HBw.out _⟩
            case measure => simp [intOf]; omega
          · have HV := Lib.hid (show credB zb za zo ns = false from cred_not (i := k) (by rw [HBL.out]; exact hlt) (by rw [HW.out, HS.out]; have e := hv; simpa using e))
            go_wp2_with fail
            go_quiet ((go_at_call 11; exact Calls.quiet_of_same (refHas_is zo k _ HOw.out hon HH.out)))
            go_wp2
            go_ret
            exact ⟨by rw [HV.out]; rfl, below_drewN HBw.out _⟩
      · obtain rfl : k = an := by omega
        have HV := Lib.hid (show credB zb za zo ns = true from cred_of (by rw [HBL.out, HAL.out]) (fun i hi => by have := HQ.out i (by rw [HBL.out] at hi; exact hi); simpa using this))
        go_wp2
        go_ret
        exact ⟨by rw [HV.out]; rfl, HBw.out⟩
  · have HD := Lib.hid (show credB zb za zo ns = false from cred_len (by rw [HBL.out, HAL.out]; simp at hne; omega))
    go_enter Try.func14, Try.ntmps14
    go_wp2
    go_ret
    exact ⟨by rw [HD.out]; rfl, Below.refl _ _⟩
end
end Go.Proofs.Ytoclkhnejanlnaa
