/- A set's numbers as a list, by the program and by the document; two lists that are the same. Conditions: as each says. -/
import Derived.Test.YtdbhdjjepgdomaaDoorMaskSets
import Derived.Test.YtdbhdjjepgdomaaDoorInts
namespace Go.Proofs.YtdbhdjjepgdomaaDoor
set_option linter.unusedVariables false
open Go.RowKit
def bitsTo (m k : Nat) : List Int := ((List.range k).filter fun p => m.testBit p).map Int.ofNat
def bitsI (m : Nat) : List Int := bitsTo m 64
theorem bitsTo_yes {m k : Nat} (h : m.testBit k = true) : bitsTo m (k + 1) = bitsTo m k ++ [(k : Int)] := by
  unfold bitsTo; rw [List.range_succ, List.filter_append, List.map_append]; simp [h]
theorem bitsTo_no {m k : Nat} (h : m.testBit k = false) : bitsTo m (k + 1) = bitsTo m k := by
  unfold bitsTo; rw [List.range_succ, List.filter_append, List.map_append]; simp [h]
theorem bitsTo_len (m k : Nat) : (bitsTo m k).length ≤ k := by
  unfold bitsTo; rw [List.length_map]; exact Nat.le_trans (List.length_filter_le _ _) (by simp)
theorem bitsI_len (m : Nat) : (bitsI m).length = cnt m := by unfold bitsI bitsTo cnt bitsL; rw [List.length_map]
set_option maxHeartbeats 2000000 in
theorem list_any (m : Nat) (hm : m < 18446744073709551616) (w : World) :
    Calls Tryd.prog 21 #[.int .u64 (m : Int)] w (GivesI (bitsI m) w) := by
  go_enter Tryd.func21, Tryd.ntmps21
  go_wp2_with fail
  go_loopw [3, 5] (fun vl vp wr => ∃ k : Nat, k ≤ 64 ∧ vp = .int .i64 k ∧ Own encI wr w.heap.size 3 vl (bitsTo m k).length (bitsTo m k) ∧ Below w.heap.size w wr) (fun _ vp _ => 64 - (intOf vp).toNat)
  case atStart => exact ⟨0, by omega, rfl, Own.nil _ _ _, Below.refl _ _⟩
  case round =>
    obtain ⟨k, hk, rfl, hown, hB⟩ := hrel
    have HO := Lib.hid hown
    have HB := Lib.hid hB
    have hlen := bitsTo_len m k
    clear hown hB
    by_cases g1 : k < 64
    · have g2 : (k : Int) < 64 := by omega
      go_wp2_with fail
      refine (has_any m hm (k : Int) _ (by omega) (by omega)).mono ?_
      rintro e w' ⟨rfl, rfl⟩
      rw [hasB_nat g1]
      cases hb : m.testBit k
      · have HN := Lib.hid (bitsTo_no hb)
        clear hb
        go_wp2
        go_roundw
        case rel => exact ⟨k + 1, by omega, by go_num, by rw [HN.out]; exact HO.out, HB.out⟩
        case measure => simp [intOf]; omega
      · have HN := Lib.hid (bitsTo_yes hb)
        clear hb
        go_upto_region 6 with fail
        have HOA := Lib.hid (HO.out.alloc (.cells #[.int .i64 (k : Int)] 3))
        have hszw := HB.out.size
        go_wp2_with ((at_builtin; refine append_int rfl _ _ rfl w.heap.size _ (bitsTo m k).length (bitsTo m k) rfl HOA.out wr.heap.size _ (k : Int) rfl (cnewb.trans rfl) (by omega) (by simp; omega) ?_; intro vl' u2 ho2 hg2 hloc2))
        have HO2 := Lib.hid ho2
        have HB2 := Lib.hid ((HB.out.alloc hszw (.cells #[.int .i64 (k : Int)] 3)).grown hg2 (by simp; omega) (fun j e => (HO.out.lt j e).1))
        clear ho2 hg2 hloc2 hszw
        go_roundw
        case rel => exact ⟨k + 1, by omega, by go_num, by rw [HN.out, List.length_append]; exact HO2.out, HB2.out⟩
        case measure => simp [intOf]; omega
    · have g2 : ¬ (k : Int) < 64 := by omega
      obtain rfl : k = 64 := by omega
      obtain ⟨_, a, cap, hv, hc1, hc2, hc3, hrd⟩ := HO.out.rd
      subst hv
      have HR := Lib.hid hrd
      unfold maxLen at hc2
      clear hrd
      go_wp2
      go_ret
      exact ⟨a, cap, rfl, HR.out, hc1, hc2, HB.out⟩
set_option maxHeartbeats 2000000 in
theorem refList_any (m : Nat) (hm : m < 18446744073709551616) (w : World) :
    Calls Tryd.prog 18 #[.int .u64 (m : Int)] w (GivesI (bitsI m) w) := by
  go_enter Tryd.func18, Tryd.ntmps18
  go_wp2_with fail
  go_loopw [3, 4] (fun vl vp wr => ∃ k : Nat, k ≤ 64 ∧ vp = .int .i64 k ∧ Own encI wr w.heap.size 3 vl (bitsTo m k).length (bitsTo m k) ∧ Below w.heap.size w wr) (fun _ vp _ => 64 - (intOf vp).toNat)
  case atStart => exact ⟨0, by omega, rfl, Own.nil _ _ _, Below.refl _ _⟩
  case round =>
    obtain ⟨k, hk, rfl, hown, hB⟩ := hrel
    have HO := Lib.hid hown
    have HB := Lib.hid hB
    have hlen := bitsTo_len m k
    clear hown hB
    by_cases g1 : k < 64
    · have g2 : (k : Int) < 64 := by omega
      go_wp2_with fail
      refine (refHas_any m hm (k : Int) _ (by omega) (by omega)).mono ?_
      rintro e w' ⟨rfl, rfl⟩
      rw [hasB_nat g1]
      cases hb : m.testBit k
      · have HN := Lib.hid (bitsTo_no hb)
        clear hb
        go_wp2
        go_roundw
        case rel => exact ⟨k + 1, by omega, by go_num, by rw [HN.out]; exact HO.out, HB.out⟩
        case measure => simp [intOf]; omega
      · have HN := Lib.hid (bitsTo_yes hb)
        clear hb
        go_upto_region 6 with fail
        have HOA := Lib.hid (HO.out.alloc (.cells #[.int .i64 (k : Int)] 3))
        have hszw := HB.out.size
        go_wp2_with ((at_builtin; refine append_int rfl _ _ rfl w.heap.size _ (bitsTo m k).length (bitsTo m k) rfl HOA.out wr.heap.size _ (k : Int) rfl (cnewb.trans rfl) (by omega) (by simp; omega) ?_; intro vl' u2 ho2 hg2 hloc2))
        have HO2 := Lib.hid ho2
        have HB2 := Lib.hid ((HB.out.alloc hszw (.cells #[.int .i64 (k : Int)] 3)).grown hg2 (by simp; omega) (fun j e => (HO.out.lt j e).1))
        clear ho2 hg2 hloc2 hszw
        go_roundw
        case rel => exact ⟨k + 1, by omega, by go_num, by rw [HN.out, List.length_append]; exact HO2.out, HB2.out⟩
        case measure => simp [intOf]; omega
    · have g2 : ¬ (k : Int) < 64 := by omega
      obtain rfl : k = 64 := by omega
      obtain ⟨_, a, cap, hv, hc1, hc2, hc3, hrd⟩ := HO.out.rd
      subst hv
      have HR := Lib.hid hrd
      unfold maxLen at hc2
      clear hrd
      go_wp2
      go_ret
      exact ⟨a, cap, rfl, HR.out, hc1, hc2, HB.out⟩
set_option maxHeartbeats 2000000 in
theorem ints_same (a b : Option Addr) (n ca cb : Nat) (zs : List Int) (w : World) (ha : Rd encI w.heap.size w a n zs) (hb : Rd encI w.heap.size w b n zs) (hn : n ≤ 9223372036854775807) :
    Calls Tryd.prog 20 #[.slice a n ca, .slice b n cb] w fun e w' => e = .returned (.bool true) ∧ ∃ k, w' = w.drewN k := by
  have HA := Lib.hid ha
  have HB := Lib.hid hb
  clear ha hb
  go_enter Tryd.func20, Tryd.ntmps20
  go_wp2_with fail
  go_loopw [5] (fun vi wr => ∃ k d : Nat, k ≤ n ∧ vi = .int .i64 k ∧ wr = w.drewN d) (fun vi _ => n - (intOf vi).toNat)
  case atStart => exact ⟨0, 0, Nat.zero_le _, rfl, rfl⟩
  case round =>
    obtain ⟨k, d, hk, rfl, rfl⟩ := hrel
    by_cases g1 : k < n
    · have g2 : (k : Int) < (n : Int) := by omega
      obtain ⟨x, xo, hx, hxb, hxc⟩ := HA.out.ints (by omega)
      obtain ⟨y, yo, hy, hyb, hyc⟩ := HB.out.ints (by omega)
      subst hx hy
      have c1 := hxc k g1
      have c2 := hyc k g1
      clear hxc hyc
      go_wp2_with fail
      go_quiet (fail)
      go_wp2
      go_roundw
      case rel => exact ⟨k + 1, _, by omega, by go_num, rfl⟩
      case measure => simp [intOf]; omega
    · have g2 : ¬ (k : Int) < (n : Int) := by omega
      go_wp2
      go_ret
      exact ⟨rfl, d, rfl⟩
end Go.Proofs.YtdbhdjjepgdomaaDoor
