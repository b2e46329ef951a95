/- The document's choice of the task that is pulled is the program's. Conditions: the slice reads as a list of tasks within the reach. -/
import Derived.Test.YtkgpjcoapopgmaaRef
namespace Go.Proofs.Ytkgpjcoapopgmaa
set_option linter.unusedVariables false
open Go.RowKit
theorem ne_nat {j k : Nat} {v : Bool} (h : ((j : Int) != (k : Int)) = v) : (j != k) = v := by
  have e : ((j : Int) == (k : Int)) = (j == k) := by rw [Bool.eq_iff_iff]; simp; omega
  rw [← h]; unfold bne; rw [e]
theorem topTo_zero (zs : List Cd) (gap p : Int) (a : Nat) : topTo zs gap p a 0 = mayP zs gap p a := by simp [topTo]
theorem topTo_succ (zs : List Cd) (gap p : Int) (a b : Nat) : topTo zs gap p a (b + 1) = (topTo zs gap p a b && !(b != a && (mayP zs gap p b && aheadC zs gap b a))) := by
  simp [topTo, List.range_succ, Bool.and_assoc]
theorem topTo_false {zs : List Cd} {gap p : Int} {a b n : Nat} (h : topTo zs gap p a b = false) (hb : b ≤ n) : topTo zs gap p a n = false := by
  obtain ⟨d, rfl⟩ : ∃ d, n = b + d := ⟨n - b, by omega⟩
  clear hb
  induction d with
  | zero => exact h
  | succ d ih => rw [← Nat.add_assoc, topTo_succ, ih]; rfl
theorem refMay_val (c : Cd) (gap p : Int) (v : Bool) (w : World) (h : mayC c gap p = v) (hc : CdOk c) :
    Calls Try.prog 17 #[.agg #[.int .i64 c.id, .int .u64 c.w, .int .u64 c.m, .bool c.r], .int .u64 gap, .int .i64 p] w fun e w' => e = .returned (.bool v) ∧ Below w.heap.size w w' := by
  subst h
  exact (refMay_any c gap p w hc).mono fun e w' ⟨h1, h2⟩ => ⟨h1, by rw [h2]; exact (Below.refl _ _).alloc (Nat.le_refl _) _⟩
set_option maxRecDepth 100000 in
set_option maxHeartbeats 4000000 in
theorem refChoose_any (a : Option Addr) (len cap : Nat) (zs : List Cd) (fr to p : Int) (w : World) (hl : zs.length = len) (hI : Cds w.heap.size w (.slice a len cap) zs) (hok : CdsOk zs) (hlen : len ≤ 1000) (hf : U64 fr) (ht : U64 to) :
    Calls Try.prog 12 #[.slice a len cap, .int .u64 fr, .int .u64 to, .int .i64 p] w fun e w' => (∃ u v, e = .returned (.tuple #[u, v]) ∧ Slots (chosen zs (gapI fr to) p) len u v) ∧ Below w.heap.size w w' := by
  have HI := Lib.hid hI
  have HL := Lib.hid hl
  have HOK := Lib.hid hok
  have HG := Lib.hid (gap_bd hf ht)
  have HGP := Lib.hid (refGap_any fr to · hf.1 ht.1 hf.2 ht.2)
  have HCH := Lib.hid (refChosen_eq zs (gapI fr to) p)
  clear hI hl hok hf ht
  generalize gapI fr to = gap at *
  go_enter Try.func12, Try.ntmps12
  go_wp2_with fail
  refine (HGP.out _).mono ?_
  rintro e w' ⟨rfl, rfl⟩
  go_wp2_with fail
  go_loopw [11] (fun i wr => ∃ k : Nat, k ≤ len ∧ i = .int .i64 k ∧ (∀ q, q < k → topB zs gap p q = false) ∧ Below w.heap.size w wr) (fun i _ => len - (intOf i).toNat)
  case atStart => exact ⟨0, Nat.zero_le _, rfl, fun q h => by omega, Below.refl _ _⟩
  case round =>
    obtain ⟨k, hk, rfl, hN, hB⟩ := hrel
    have HN := Lib.hid hN
    have HB := Lib.hid hB
    clear hN hB
    by_cases hlt : k < len
    · have hlt' : (k : Int) < (len : Int) := by omega
      obtain ⟨b, off, ha, hb, hc⟩ := HI.out.cells (p := k) (by rw [HL.out]; exact hlt)
      subst ha
      have HC := Lib.hid hc
      obtain ⟨x0, x1, x2, x3⟩ := hc k (by rw [HL.out]; exact hlt)
      have y0 := cellb HB.out hb x0
      have y1 := cellb HB.out hb x1
      have y2 := cellb HB.out hb x2
      have y3 := cellb HB.out hb x3
      clear hc x0 x1 x2 x3
      have HT0 := Lib.hid (topTo_zero zs gap p k)
      go_wp2_with fail
      refine (refMay_val (cat zs k) gap p (topTo zs gap p k 0) _ HT0.out.symm (HOK.out k)).mono ?_
      rintro e W2 ⟨rfl, hb2⟩
      have HB2 := Lib.hid (nx HB.out hb2)
      clear hb2 y0 y1 y2 y3
      go_wp2_with fail
      obtain ⟨wo, rfl⟩ : ∃ wo : World, wo = W2 := ⟨_, rfl⟩
      go_loopw [12, 13] (fun s i wr => ∃ j : Nat, j ≤ len ∧ i = .int .i64 j ∧ s = .bool (topTo zs gap p k j) ∧ Below w.heap.size w wr) (fun _ i _ => len - (intOf i).toNat)
      case atStart => exact ⟨0, Nat.zero_le _, rfl, rfl, HB2.out⟩
      case round =>
        obtain ⟨j, hj, rfl, rfl, hB3⟩ := hrel
        have HB3 := Lib.hid hB3
        clear hB3
        have HTS := Lib.hid (topTo_succ zs gap p k j)
        cases hv : topTo zs gap p k j
        · have HF := Lib.hid (show topB zs gap p k = false from topTo_false hv (by have := HL.out; omega))
          have HV := Lib.hid hv
          clear hv
          have hcase : ¬ (j : Int) < (len : Int) ∨ (j : Int) < (len : Int) := by omega
          rcases hcase with hjl | hjl
          all_goals
            go_wp2
            go_roundw
            case rel => exact ⟨k + 1, by omega, by go_num, fun q hq => by
              by_cases e : q = k
              · subst e; exact HF.out
              · exact HN.out q (by omega), HB3.out⟩
            case measure => simp [intOf]; omega
        · have HV := Lib.hid hv
          clear hv
          by_cases hjl : j < len
          · have hjl' : (j : Int) < (len : Int) := by omega
            obtain ⟨x0, x1, x2, x3⟩ := HC.out j (by rw [HL.out]; exact hjl)
            have y0 := cellb HB3.out hb x0
            have y1 := cellb HB3.out hb x1
            have y2 := cellb HB3.out hb x2
            have y3 := cellb HB3.out hb x3
            clear x0 x1 x2 x3
            cases hne : ((j : Int) != (k : Int))
            · have HV2 := Lib.hid (show topTo zs gap p k (j + 1) = true by rw [HTS.out, HV.out, ne_nat hne]; rfl)
              go_wp2
              go_roundw
              case rel => exact ⟨j + 1, by omega, by go_num, by rw [HV2.out], HB3.out⟩
              case measure => simp [intOf]; omega
            · have HNE := Lib.hid (ne_nat hne)
              cases hm : mayP zs gap p j
              · have HM := Lib.hid (show mayC (cat zs j) gap p = false from hm)
                have HV2 := Lib.hid (show topTo zs gap p k (j + 1) = true by rw [HTS.out, HV.out, HNE.out, hm]; rfl)
                clear hm
                go_wp2_with fail
                refine (refMay_val (cat zs j) gap p false _ HM.out (HOK.out j)).mono ?_
                rintro e W4 ⟨rfl, hb4⟩
                have HB4 := Lib.hid (nx HB3.out hb4)
                clear hb4
                go_wp2
                go_roundw
                case rel => exact ⟨j + 1, by omega, by go_num, by rw [HV2.out], HB4.out⟩
                case measure => simp [intOf]; omega
              · have HM := Lib.hid (show mayC (cat zs j) gap p = true from hm)
                obtain ⟨t, ht⟩ : ∃ t, aheadC zs gap j k = t := ⟨_, rfl⟩
                have HV2 := Lib.hid (show topTo zs gap p k (j + 1) = !t by rw [HTS.out, HV.out, HNE.out, hm, ht]; rfl)
                have HTT := Lib.hid ht
                clear hm ht
                cases t
                all_goals
                  go_wp2_with fail
                  refine (refMay_val (cat zs j) gap p true _ HM.out (HOK.out j)).mono ?_
                  rintro e W4 ⟨rfl, hb4⟩
                  have HB4 := Lib.hid (nx HB3.out hb4)
                  have HI4 := Lib.hid (Cds.next HB4.out HI.out)
                  clear hb4
                  go_wp2_with fail
                  refine (ahead_any _ len cap j k zs gap _ HL.out HI4.out HOK.out hlen HG.out hjl hlt).mono ?_
                  rintro e W5 ⟨rfl, hd5⟩
                  rw [HTT.out]
                  have HB5 := Lib.hid (HB4.out.trans (hd5.below _))
                  clear hd5
                  go_wp2
                  go_roundw
                  case rel => exact ⟨j + 1, by omega, by go_num, by rw [HV2.out] <;> rfl, HB5.out⟩
                  case measure => simp [intOf]; omega
          · obtain rfl : j = len := by omega
            have HCC := Lib.hid (show chosen zs gap p = k by rw [← HCH.out]; exact firstP_at (by have := HL.out; omega) (by unfold topB; rw [HL.out]; exact HV.out) HN.out)
            go_wp2
            go_ret2
            exact ⟨⟨_, _, rfl, .inr ⟨k, HCC.out, hlt, rfl, rfl⟩⟩, HB3.out⟩
    · obtain rfl : k = len := by omega
      have HCC := Lib.hid (show chosen zs gap p = -1 by rw [← HCH.out]; exact firstP_none (fun q hq => HN.out q (by have := HL.out; omega)))
      go_wp2
      go_ret2
      exact ⟨⟨_, _, rfl, .inl ⟨HCC.out, rfl, rfl⟩⟩, HB.out⟩
end Go.Proofs.Ytkgpjcoapopgmaa
