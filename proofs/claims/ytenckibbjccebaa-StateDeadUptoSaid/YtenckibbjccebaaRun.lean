/- State.Script is the plain word 'script', and writes nothing that was there; the head of all statements returns true. Conditions: the row of events reads as a list. -/
import Derived.Test.YtenckibbjccebaaScript
import Derived.Test.YtenckibbjccebaaWords
namespace Go.Proofs.Ytenckibbjccebaa
set_option linter.unusedVariables false
open Go.RowKit
set_option maxHeartbeats 4000000 in
theorem script_any (a : Option Addr) (len cap : Nat) (zs : List Int) (w : World) (hl : zs.length = len) (hI : Ints w.heap.size w (.slice a len cap) zs) (hr : len ≤ 9223372036854775807) :
    Calls Try.prog 7 #[.slice a len cap] w fun r w' => r = .returned (.tuple #[.int .i64 (script 1 zs).1, .int .i64 (script 1 zs).2.1, .int .i64 (script 1 zs).2.2]) ∧ Below w.heap.size w w' := by
  have HL := Lib.hid hl
  have HI := Lib.hid hI
  clear hl hI
  go_enter Try.func7, Try.ntmps7
  go_wp2
  go_loopw [5, 12] (fun s i wr => ∃ k : Nat, k ≤ len ∧ i = .int .i64 k ∧ s = .int .i64 (runs 1 (zs.take k)) ∧ takes 1 (zs.take k) = true ∧ Below w.heap.size w wr) (fun _ i _ => len - (intOf i).toNat)
  case atStart => exact ⟨0, by omega, rfl, by simp [runs], by simp [takes], Below.refl _ _⟩
  case round =>
    obtain ⟨k, hk, rfl, rfl, htk, hB⟩ := hrel
    have HT := Lib.hid htk
    clear htk
    by_cases hlt : k < len
    · obtain ⟨b, off, ha, hb, hc⟩ := HI.out.cells (p := k) (by rw [HL.out]; exact hlt)
      have hck : wr.cell? ⟨b, off + k, none⟩ = some (.int .i64 (zat zs k)) := (hB.cell (p := ⟨b, off + k, none⟩) hb).trans (hc k (by rw [HL.out]; exact hlt))
      clear hc
      subst ha
      have hlt' : (k : Int) < (len : Int) := by omega
      have h1 := take_zat (zs := zs) (k := k) (by rw [HL.out]; exact hlt)
      have h2 := runs_snoc 1 (zs.take k) (zat zs k)
      have h3 := takes_snoc 1 (zs.take k) (zat zs k)
      rw [← h1] at h2 h3
      rw [HT.out] at h3
      have h4 := take_split (zs := zs) (k := k) (by rw [HL.out]; exact hlt)
      have hbd := next_err_bd (runs 1 (zs.take k)) (zat zs k)
      by_cases hz : (next (runs 1 (zs.take k)) (zat zs k)).2 = 0
      · have H2 := Lib.hid h2
        have H3 := Lib.hid h3
        have HZ := Lib.hid hz
        clear h1 h2 h3 h4 hbd hz
        go_wp2_with fail
        refine (next_any _ _ _).mono ?_
        rintro r w1 ⟨rfl, hb1⟩
        rw [HZ.out]
        go_wp2
        go_roundw
        case rel => exact ⟨k + 1, by omega, by go_num, by rw [H2.out], by rw [H3.out, HZ.out]; rfl, hB.trans (hb1.mono hB.size)⟩
        case measure => simp [intOf]; omega
      · have hs := script_stops (s := 1) (zs.drop (k + 1)) HT.out hz
        rw [← h4] at hs
        have hlk : (zs.take k).length = k := by rw [List.length_take, HL.out]; omega
        rw [hlk] at hs
        have HS := Lib.hid hs
        have hzb : ((next (runs 1 (zs.take k)) (zat zs k)).2 == 0) = false := by simpa using hz
        clear h1 h2 h3 h4 hz hs hbd hlk
        go_wp2_with fail
        refine (next_any _ _ _).mono ?_
        rintro r w1 ⟨rfl, hb1⟩
        go_wp2
        go_ret3
        exact ⟨by rw [HS.out]; rfl, hB.trans (hb1.mono hB.size)⟩
    · obtain rfl : k = len := by omega
      have ht : zs.take k = zs := List.take_of_length_le (by rw [HL.out]; exact Nat.le_refl _)
      have hs := script_takes HT.out
      rw [ht, HL.out] at hs
      have HS := Lib.hid hs
      rw [ht]
      clear ht hs
      go_wp2
      go_ret3
      exact ⟨by rw [HS.out]; rfl, hB⟩
end Go.Proofs.Ytenckibbjccebaa
