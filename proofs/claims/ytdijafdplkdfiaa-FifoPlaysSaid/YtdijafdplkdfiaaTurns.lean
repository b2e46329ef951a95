/- Is a number in a list, and the length of a line, for the laws of lines. Conditions: the list's cells read as numbers. -/
import Derived.Test.YtdijafdplkdfiaaLawK
namespace Go.Proofs.Ytdijafdplkdfiaa
set_option linter.unusedVariables false
open Go.RowKit
theorem hasI_false_of {xs : List Int} {p : Int} (h : ∀ j, j < xs.length → zat xs j ≠ p) : hasI xs p = false := by
  unfold hasI; rw [indexI_none h]; rfl
theorem hasI_true_of {xs : List Int} {p : Int} {k : Nat} (hk : k < xs.length) (h : zat xs k = p) : hasI xs p = true := by
  rw [hasI_iff, ← h]
  unfold zat; rw [List.getElem?_eq_getElem hk]; exact List.getElem_mem _
set_option maxHeartbeats 1000000 in
theorem refHas_any (a : Option Addr) (len cap : Nat) (xs : List Int) (p : Int) (w : World) (hl : xs.length = len) (hI : Ints w.heap.size w (.slice a len cap) xs) (hm : len ≤ 9223372036854775807) :
    Calls Try.prog 15 #[.slice a len cap, .int .i64 p] w fun e w' => e = .returned (.bool (hasI xs p)) ∧ w = w' := by
  have HI := Lib.hid hI
  have HL := Lib.hid hl
  clear hI hl
  go_enter Try.func15, Try.ntmps15
  go_wp2
  go_loop [5] (fun i => ∃ k : Nat, k ≤ len ∧ i = .int .i64 k ∧ ∀ j, j < k → zat xs j ≠ p) (fun i => len - (intOf i).toNat)
  case atStart => exact ⟨0, by omega, rfl, fun j h => by omega⟩
  case round =>
    obtain ⟨k, hk, rfl, hno⟩ := hrel
    have HN := Lib.hid hno
    clear hno
    by_cases hlt : k < len
    · have hlt' : (k : Int) < (len : Int) := by omega
      obtain ⟨b, off, ha, hb, hc⟩ := HI.out.cells (p := k) (by rw [HL.out]; exact hlt)
      subst ha
      have hck := hc k (by rw [HL.out]; exact hlt)
      clear hc
      by_cases hz : zat xs k = p
      · have HF := Lib.hid (hasI_true_of (k := k) (by rw [HL.out]; exact hlt) hz)
        have hzb : (zat xs k == p) = true := by simp [hz]
        clear hz
        go_wp2
        go_ret
        exact ⟨by rw [HF.out]; rfl, rfl⟩
      · have hzb : (zat xs k == p) = false := by simpa using hz
        have HZ := Lib.hid hz
        clear hz
        go_wp2
        go_round
        case rel => exact ⟨k + 1, by omega, by go_num, fun j hj => by
          by_cases e : j = k
          · subst e; exact HZ.out
          · exact HN.out j (by omega)⟩
        case measure => simp [intOf]; omega
    · obtain rfl : k = len := by omega
      have HF := Lib.hid (hasI_false_of (xs := xs) (p := p) (fun j hj => HN.out j (by rw [← HL.out]; exact hj)))
      go_wp2
      go_ret
      exact ⟨by rw [HF.out]; rfl, rfl⟩
theorem len_line (b : Nat) (xs : List Int) (w : World) (hL : LineAt w b xs) : Calls Try.prog 17 #[.pointer (some ⟨b, 0, none⟩)] w fun e w' => e = .returned (.int .i64 xs.length) ∧ w = w' := by
  obtain ⟨r, f, n, h, rfl⟩ := hL
  rw [waits_length]
  exact len_any b r f n w h
/-- A row of the call's own, of numbers. -/
def OwnI (W : World) (B : Nat) (v : Value) (n : Nat) (xs : List Int) : Prop := W.ownsRow B 3 1 v n (xs.map (Value.int .i64))
theorem OwnI.grownL {W U : World} {B n b : Nat} {v : Value} {xs : List Int} (h : OwnI W B v n xs) (hg : W.grownBy U (some b)) (hb : b < B) : OwnI U B v n xs :=
  World.ownsRow.kept h hg (.inr fun e => by have := (World.ownsRow.lt h b e).1; omega)
theorem OwnI.ints {W : World} {B n : Nat} {v : Value} {xs : List Int} (hn : xs.length = n) (h : OwnI W B v n xs) : ∃ a cap, v = .slice a n cap ∧ (a = none → cap = 0) ∧ Ints W.heap.size W (.slice a n cap) xs := ownsRow_intsn hn h
theorem LineAt.app {W U : World} {B n b : Nat} {v : Value} {xs ys : List Int} (hL : LineAt W b xs) (h : OwnI W B v n ys) (hb : b < B) (hg : W.grownBy U v.ownBlock) : LineAt U b xs :=
  hL.grown hg (fun e => by have := (World.ownsRow.lt h b e).1; omega)
theorem LineAt.alloc {W : World} {b : Nat} {xs : List Int} (hL : LineAt W b xs) (o : Obj) : LineAt (W.alloc o) b xs := hL.grown (World.grownBy_alloc W o none) (by simp)
theorem putOk_lt {xs : List Int} {p : Int} (hp : 0 ≤ p) (hl : xs.length < 64) : putOk xs p = !hasI xs p := by
  unfold putOk
  rw [decide_eq_true hp]
  have : (xs.length != 64) = true := by simp; omega
  rw [this]; rfl
theorem hd_drop {xs : List Int} {k : Nat} (h : k < xs.length) : hdI (xs.drop k) = zat xs k ∧ (xs.drop k).isEmpty = false ∧ (xs.drop k).tail = xs.drop (k + 1) := by
  rw [List.drop_eq_getElem_cons h]
  refine ⟨?_, rfl, rfl⟩
  unfold zat; rw [List.getElem?_eq_getElem h]; rfl
theorem drop_all {W : World} {b n : Nat} {xs : List Int} (hx : xs.length = n) (h : LineAt W b (xs.drop n)) : LineAt W b [] := by
  rwa [List.drop_of_length_le (by omega)] at h
end Go.Proofs.Ytdijafdplkdfiaa
