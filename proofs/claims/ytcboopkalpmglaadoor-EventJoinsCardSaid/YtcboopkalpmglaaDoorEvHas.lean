/- Has a text a byte, and the words' rows. Conditions: the text below 2^47 bytes. -/
import Derived.Test.YtcboopkalpmglaaDoorEvForm
import Derived.Test.YtcboopkalpmglaaDoorEvPlain
import Derived.Laws.RangeAny
import Derived.WalkSmall
import Derived.Outline
namespace Go.Proofs.YtcboopkalpmglaaDoor
set_option linter.unusedVariables false
open Go.RowKit
theorem mem_take_succ {s : ByteArray} {i c : Nat} (hi : i < s.size) (h : c ∉ (bl s).take i) (hx : (s[i]'hi).toNat ≠ c) : c ∉ (bl s).take (i + 1) := by
  rw [bl_snoc s i hi, List.mem_append, List.mem_singleton]
  rintro (h1 | h1)
  · exact h h1
  · exact hx h1.symm
theorem mem_of_at {s : ByteArray} {i c : Nat} (hi : i < s.size) (hx : (s[i]'hi).toNat = c) : c ∈ bl s := by
  have := bl_at hi
  rw [hx] at this
  exact List.mem_of_getElem? this
set_option maxRecDepth 20000 in
set_option maxHeartbeats 4000000 in
theorem has_any (s : ByteArray) (c : Nat) (w : World) (hs : s.size ≤ 140737488351232) (hc : c < 256) :
    Calls Tryd.prog 32 #[.string s, .int .u8 (c : Int)] w fun e w' => e = .returned (.bool (decide (c ∈ bl s))) ∧ w' = w := by
  go_enter Tryd.func32, Tryd.ntmps32
  go_wp2_with fail
  go_loopw [5] (fun vi wr => ∃ i : Nat, vi = .int .i64 (i : Int) ∧ i ≤ s.size ∧ c ∉ (bl s).take i ∧ wr = w) (fun vi _ => s.size - (intOf vi).toNat)
  case atStart => exact ⟨0, rfl, Nat.zero_le _, by simp, rfl⟩
  case round =>
    obtain ⟨i, rfl, hi, hm, rfl⟩ := hrel
    have HM := Lib.hid hm
    clear hm
    by_cases hlt : i < s.size
    · have hlt' : (i : Int) < (s.size : Int) := by omega
      by_cases he : (s[i]'hlt).toNat = c
      · have HE := Lib.hid he
        have e1 : (((s[i]'hlt).toNat : Int) == (c : Int)) = true := by simp; omega
        clear he
        go_wp2
        go_ret
        exact ⟨by rw [decide_eq_true (mem_of_at hlt HE.out)]; rfl, rfl⟩
      · have HE := Lib.hid he
        have e1 : (((s[i]'hlt).toNat : Int) == (c : Int)) = false := by simp; omega
        clear he
        go_wp2
        go_roundw
        case rel => exact ⟨i + 1, by go_num, hlt, mem_take_succ hlt HM.out HE.out, trivial⟩
        case measure => simp [intOf]; omega
    · have hlt' : ¬ (i : Int) < (s.size : Int) := by omega
      obtain rfl : i = s.size := by omega
      have HM' := Lib.hid (show c ∉ bl s by have := HM.out; rwa [List.take_of_length_le (by rw [bl_length]; exact Nat.le_refl _)] at this)
      go_wp2
      go_ret
      exact ⟨by rw [decide_eq_false HM'.out]; rfl, rfl⟩
/-- The words, as a row's cells. -/
def wordCs : Array Value := (wordsL.map fun x => Value.string (str x)).toArray
theorem words_any (w : World) : Calls Tryd.prog 15 #[] w fun e w' => e = .returned (.slice (some ⟨w.heap.size, 0, none⟩) 15 15) ∧ w' = w.alloc (.cells wordCs 9) := by
  go_enter Tryd.func15, Tryd.ntmps15
  go_wp2
  go_ret
  exact ⟨rfl, rfl⟩
theorem refWords_any (w : World) : Calls Tryd.prog 16 #[] w fun e w' => e = .returned (.slice (some ⟨w.heap.size, 0, none⟩) 15 15) ∧ w' = w.alloc (.cells wordCs 9) := by
  go_enter Tryd.func16, Tryd.ntmps16
  go_wp2
  go_ret
  exact ⟨rfl, rfl⟩
theorem word_cell {w : World} {j : Nat} (h : j < 15) : (w.alloc (.cells wordCs 9)).cell? ⟨w.heap.size, j, none⟩ = some (.string (str (wordL ((j : Int) + 1)))) := by
  rw [cnewb]
  unfold wordCs wordL
  rw [List.getElem?_toArray, List.getElem?_map, show ((j : Int) + 1).toNat - 1 = j by omega, List.getD_eq_getElem?_getD]
  have hj : j < wordsL.length := h
  rw [List.getElem?_eq_getElem hj]; rfl
end Go.Proofs.YtcboopkalpmglaaDoor
