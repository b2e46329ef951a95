/- A set's text is read: mask.Parse at every string. Conditions: none. -/
import Derived.Test.YtcboopkalpmglaaDoorMaskFns
import Derived.Test.YtcboopkalpmglaaDoorBytes
import Derived.Lib.OthersKept
import Derived.Laws.RangeAny
import Derived.WalkSmall
import Derived.Lib.Strings
namespace Go.Proofs.YtcboopkalpmglaaDoor
set_option linter.unusedVariables false
open Go.RowKit
theorem take_high (r : Rdg) {c : Nat} (h : 58 ≤ c) : take1 r c = none := by unfold take1; rw [if_neg (by omega), if_neg (by omega), if_neg (by omega)]
/-- The reading stops at a byte that may not stand there. -/
theorem parse_stop {s : ByteArray} {p : Nat} (h : p < s.size) {r : Rdg} (hr : runL rd0 ((bl s).take p) = some r) (ht : take1 r (s[p]'h).toNat = none) : parseL (bl s) = (0, 11) := by
  unfold parseL
  rw [if_neg (by rw [bl_nil]; omega)]
  have e : bl s = (bl s).take p ++ (s[p]'h).toNat :: (bl s).drop (p + 1) := by rw [← bl_drop s p h, List.take_append_drop]
  rw [e, runL_append, hr]
  show fin (((take1 r _).bind _).bind part) = _
  rw [ht]
  rfl
theorem parse_end {s : ByteArray} (h : s.size ≠ 0) {r : Rdg} (hr : runL rd0 (bl s) = some r) : parseL (bl s) = fin (part r) := by
  unfold parseL
  rw [if_neg (by rw [bl_nil]; omega), hr]
  rfl
theorem fits0 : Fits rd0 := by unfold Fits rd0; simp
set_option maxHeartbeats 4000000 in
set_option maxRecDepth 100000 in
theorem parse_any (s : ByteArray) (w : World) (hs : s.size ≤ maxLen) :
    Calls Tryd.prog 49 #[.string s] w fun e w' => e = .returned (.tuple #[.int .u64 ((parseL (bl s)).1 : Int), .int .i64 ((parseL (bl s)).2 : Int)]) ∧ Below w.heap.size w w' := by
  unfold maxLen at hs
  cases he : s.toList.isEmpty
  · have hs0 : s.size ≠ 0 := by
      rw [Lib.toList_data] at he
      intro h
      have h2 := (bl_nil s).2 h
      unfold bl at h2
      rw [List.map_eq_nil_iff] at h2
      rw [h2] at he
      cases he
    go_enter Tryd.func49, Tryd.ntmps49
    go_wp2
    go_loopw [6] (fun _ wr => ∃ (p : Nat) (r : Rdg), p ≤ s.size ∧ wr.heap[w.heap.size + 1]? = some (.stringIter s p) ∧ runL rd0 ((bl s).take p) = some r ∧ Fits r ∧ RdgAt wr w.heap.size r ∧ Below w.heap.size w wr) (fun _ wr => s.size - wr.iterPos (w.heap.size + 1))
    case atStart =>
      refine ⟨0, rd0, Nat.zero_le _, ?_, by simp [runL], fits0, ?_, ((Below.refl _ w).alloc (Nat.le_refl _) _).alloc (by simp) _⟩
      · have := World.iter_heap (w.alloc (.cells #[.int .u64 0, .int .i64 0, .int .i64 0, .int .i64 0, .bool false, .bool false] 112)) s 0
        simpa using this
      · exact block_keep (block_alloc w _)
    case round =>
      obtain ⟨p, r, hp, hit, hrun, hfit, hat, hbw⟩ := hrel
      have hsz : w.heap.size + 1 < wr.heap.size := (Array.getElem?_eq_some_iff.1 hit).1
      have HIT := Lib.hid hit
      have HRUN := Lib.hid hrun
      have HFIT := Lib.hid hfit
      have HAT := Lib.hid hat
      have HBW := Lib.hid hbw
      clear hrun hfit hat hbw
      by_cases hlt : p < s.size
      · have hd1 := decode_le s p
        have hnx : ∀ ty, (Instr.next (.pointer (some ⟨w.heap.size + 1, 0, none⟩)) true ty).run Tryd.prog wr = _ := fun ty => Lib.run_next_any_at wr (w.heap.size + 1) s p ty hit hlt
        have HAT2 := Lib.hid (show RdgAt (wr.iterAt (w.heap.size + 1) s (p + (Utf8.decode s p).2)) w.heap.size r from (Lib.iterAt_other wr (w.heap.size + 1) w.heap.size s _ (by omega)).trans HAT.out)
        have HIT2 := Lib.hid (Lib.iterAt_heap wr (w.heap.size + 1) s p (p + (Utf8.decode s p).2) hit)
        have HBW2 := Lib.hid (Lib.below_iterAt HBW.out (k := w.heap.size + 1) (by omega) s (p + (Utf8.decode s p).2))
        have hsz2 : w.heap.size + 1 < (wr.iterAt (w.heap.size + 1) s (p + (Utf8.decode s p).2)).heap.size := by rw [Lib.iterAt_size]; omega
        clear hit
        go_wp2_with fail
        clear hnx
        refine (take_any w.heap.size (Utf8.decode s p).1 r _ HAT2.out HFIT.out (by omega)).mono ?_
        rintro e w1 ⟨rfl, hk, hq⟩
        generalize wr.iterAt (w.heap.size + 1) s (p + (Utf8.decode s p).2) = wi at HAT2 HIT2 HBW2 hsz2 hk ⊢
        have HK := Lib.hid hk
        have HQ := Lib.hid hq
        clear hk hq
        cases ht : take1 r (Utf8.decode s p).1 with
        | none =>
          have HY := Lib.hid (show parseL (bl s) = (0, 11) from parse_stop hlt HRUN.out (by
            by_cases ha : (s[p]'hlt).toNat < 128
            · rw [decode_ascii s p hlt ha] at ht; exact ht
            · exact take_high r (by omega)))
          clear ht
          go_wp2
          go_ret2
          exact ⟨by rw [HY.out]; rfl, HBW2.out.trans (HK.out.below (Nat.le_refl _) (by omega))⟩
        | some q =>
          have hasc : (s[p]'hlt).toNat < 128 := by
            by_cases ha : (s[p]'hlt).toNat < 128
            · exact ha
            · have := (decode_high s p hlt (by omega)).1
              rw [take_high r (by omega)] at ht; cases ht
          have hde := decode_ascii s p hlt hasc
          rw [hde] at ht HIT2
          have HT := Lib.hid ht
          have HQ2 := Lib.hid (HQ.out q (by rw [hde]; exact HT.out))
          have HIT3 := Lib.hid ((HK.out.block (w.heap.size + 1) hsz2 (by omega)).trans HIT2.out)
          have HB3 := Lib.hid (HBW2.out.trans (HK.out.below (Nat.le_refl _) (by omega)))
          clear hde ht HQ hd1
          go_wp2
          go_roundw
          case rel => exact ⟨p + 1, q, by omega, HIT3.out, by rw [bl_snoc s p hlt, runL_append, HRUN.out]; show (take1 r _).bind _ = _; rw [HT.out]; rfl, fits_take HFIT.out HT.out, HQ2.out, HB3.out⟩
          case measure => rw [iterPos_of HIT3.out, iterPos_of HIT.out]; omega
      · have hnx : ∀ ty, (Instr.next (.pointer (some ⟨w.heap.size + 1, 0, none⟩)) true ty).run Tryd.prog wr = _ := fun ty => Lib.run_next_end_at wr (w.heap.size + 1) s p ty hit hlt
        obtain rfl : p = s.size := by omega
        have hall : (bl s).take s.size = bl s := List.take_of_length_le (by rw [bl_length]; exact Nat.le_refl _)
        rw [hall] at HRUN
        obtain ⟨f1, f2, f3, f4, f5, f6⟩ := HFIT.out
        clear hit hall f2 f5 f6
        go_wp2_with fail
        clear hnx
        refine (part_any w.heap.size r _ HAT.out f1 f3 f4).mono ?_
        rintro e w1 ⟨rfl, hk, hq⟩
        have HB3 := Lib.hid (HBW.out.trans (hk.below (Nat.le_refl _) (by omega)))
        have HQ := Lib.hid hq
        clear hk hq
        cases ht : part r with
        | none =>
          have HY := Lib.hid (show parseL (bl s) = (0, 11) by rw [parse_end hs0 HRUN.out, ht]; rfl)
          clear ht
          go_wp2
          go_ret2
          exact ⟨by rw [HY.out]; rfl, HB3.out⟩
        | some q =>
          have hQ := HQ.out q ht
          have c0 : w1.cell? ⟨w.heap.size, 0, none⟩ = some (.int .u64 (q.set : Int)) := hQ.six.c0
          have c5 : w1.cell? ⟨w.heap.size, 5, none⟩ = some (.bool q.over) := hQ.six.c5
          cases ho : q.over
          · have HY := Lib.hid (show parseL (bl s) = (q.set, 0) by rw [parse_end hs0 HRUN.out, ht, fin_ok ho])
            rw [ho] at c5
            clear ht ho hQ HQ
            go_wp2
            go_ret2
            exact ⟨by rw [HY.out]; rfl, HB3.out⟩
          · have HY := Lib.hid (show parseL (bl s) = (0, 1) by rw [parse_end hs0 HRUN.out, ht, fin_over ho])
            rw [ho] at c5
            clear ht ho hQ HQ
            go_wp2
            go_ret2
            exact ⟨by rw [HY.out]; rfl, HB3.out⟩
  · have hs0 : s.size = 0 := by
      rw [Lib.toList_data, List.isEmpty_iff] at he
      exact (bl_nil s).1 (by unfold bl; rw [he]; rfl)
    have HY := Lib.hid (show parseL (bl s) = (0, 0) by unfold parseL; rw [if_pos ((bl_nil s).2 hs0)])
    go_enter Tryd.func49, Tryd.ntmps49
    go_wp2
    go_ret2
    exact ⟨by rw [HY.out]; rfl, Below.refl _ _⟩
theorem parseL_lt (l : List Nat) : (parseL l).1 < 18446744073709551616 := by
  unfold parseL
  by_cases h : l = []
  · rw [if_pos h]; decide
  · rw [if_neg h]
    cases hr : (runL rd0 l).bind part with
    | none => decide
    | some q =>
      have hq : Fits q := by
        cases hx : runL rd0 l with
        | none => rw [hx] at hr; cases hr
        | some r =>
          rw [hx] at hr
          exact fits_take (c := 44) (fits_run fits0 hx) (by unfold take1; rw [if_neg (by omega), if_pos rfl]; exact hr)
      cases ho : q.over
      · rw [fin_ok ho]; exact hq.2.2.2.1
      · rw [fin_over ho]; decide
end Go.Proofs.YtcboopkalpmglaaDoor
