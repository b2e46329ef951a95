/- The document's example of layer 13, that all statements run first. Conditions: none. -/
import Derived.Test.YtdijafdplkdfiaaPut
namespace Go.Proofs.Ytdijafdplkdfiaa
set_option linter.unusedVariables false
open Go.RowKit
theorem Ints.new2 (w : World) (E : TypeId) (x y : Int) : Ints (w.alloc (.cells #[.int .i64 x, .int .i64 y] E)).heap.size (w.alloc (.cells #[.int .i64 x, .int .i64 y] E)) (.slice (some ⟨w.heap.size, 0, none⟩) 2 2) [x, y] :=
  .inr ⟨w.heap.size, 0, 2, rfl, by simp, fun j hj => by
    have h : j = 0 ∨ j = 1 := by simp at hj; omega
    rcases h with rfl | rfl <;> simp [zat]⟩
theorem zat2 (x y : Int) (hx : -9223372036854775808 ≤ x ∧ x ≤ 9223372036854775807) (hy : -9223372036854775808 ≤ y ∧ y ≤ 9223372036854775807) (j : Nat) : -9223372036854775808 ≤ zat [x, y] j ∧ zat [x, y] j ≤ 9223372036854775807 := by
  match j with
  | 0 => exact hx
  | 1 => exact hy
  | j + 2 => simp [zat]
theorem new_line (w : World) : Calls Try.prog 13 #[] w fun e w' => ∃ b, e = .returned (.pointer (some ⟨b, 0, none⟩)) ∧ w.heap.size ≤ b ∧ LineAt w' b [] ∧ Below w.heap.size w w' :=
  (new_any w).mono fun e w' ⟨h1, h2, h3⟩ => ⟨_, h1, Nat.le_refl _, ⟨_, _, _, h2, rfl⟩, (Below.refl _ _).grown h3 (Nat.le_refl _) (fun j e => by cases e)⟩
theorem line_new {w : World} {b : Nat} (h : Ring w b (fun _ => 0) 0 0) : LineAt w b [] := ⟨_, _, _, h, rfl⟩
set_option maxRecDepth 100000 in
set_option maxHeartbeats 4000000 in
theorem shown_any (w : World) : Calls Try.prog 9 #[] w fun e w' => e = .returned (.bool true) ∧ Below w.heap.size w w' := by
  have HGE := Lib.hid (show gots 4 10 [3, 5] 2 = [4, 6] by decide)
  have hle : leftTo 4 10 [3, 5] 2 = 0 := by decide
  go_enter Try.func9, Try.ntmps9
  go_wp2_with fail
  have HA := Lib.hid (Ints.new2 w 2 3 5)
  have HB0 := Lib.hid ((Below.refl w.heap.size w).alloc (Nat.le_refl _) (.cells #[.int .i64 3, .int .i64 5] 2))
  generalize w.alloc (.cells #[.int .i64 3, .int .i64 5] 2) = W at HA HB0 ⊢
  refine (give_any _ _ [3, 5] 10 4 _ HA.out (by decide) (zat2 _ _ (by omega) (by omega)) (by omega) (by omega)).mono ?_
  rintro e w1 ⟨⟨a1, c1, rfl, hI1⟩, hB1⟩
  change Ints w1.heap.size w1 (.slice a1 2 c1) (gots 4 10 [3, 5] 2) at hI1
  rw [HGE.out] at hI1
  have HI1 := Lib.hid hI1
  have HB1 := Lib.hid (nx HB0.out hB1)
  clear hI1 hB1
  rw [show ([3, 5] : List Int).length = 2 from rfl, hle]
  go_wp2_with fail
  refine (new_line _).mono ?_
  rintro e w2 ⟨b, rfl, hb, hL2, hB2⟩
  have HL2 := Lib.hid hL2
  have HB2 := Lib.hid hB2
  have HBB := Lib.hid hb
  clear hL2 hB2 hb
  go_wp2_with fail
  refine (put_any b [] 7 w2 HL2.out).mono ?_
  rintro e w3 ⟨rfl, hL3, hg3⟩
  have HL3 := Lib.hid (show LineAt w3 b [7] from hL3)
  have HB3 := Lib.hid (HB2.out.trans (gto hg3 HBB.out HB2.out.size))
  rw [show putOk [] 7 = true from by decide]
  clear hL3 hg3
  go_wp2_with fail
  refine (put_any b [7] 7 w3 HL3.out).mono ?_
  rintro e w4 ⟨rfl, hL4, hg4⟩
  have HL4 := Lib.hid (show LineAt w4 b [7] from hL4)
  have HB4 := Lib.hid (HB3.out.trans (gto hg4 HBB.out HB3.out.size))
  rw [show putOk [7] 7 = false from by decide]
  clear hL4 hg4
  go_wp2_with fail
  refine (take_any b [7] w4 HL4.out).mono ?_
  rintro e w5 ⟨rfl, hL5, hg5⟩
  have HB5 := Lib.hid (HB4.out.trans (gto hg5 HBB.out HB4.out.size))
  rw [show hdI [7] = 7 from rfl, show (!([7] : List Int).isEmpty) = true from rfl]
  have HI5 := Lib.hid (nx0 HB5.out HI1.out)
  have HB5' := Lib.hid (nx HB1.out HB5.out)
  clear hL5 hg5
  go_wp2_with fail
  have HN := Lib.hid (Ints.new2 w5 2 4 6)
  have HBN := Lib.hid ((Below.refl w5.heap.size w5).alloc (Nat.le_refl _) (.cells #[.int .i64 4, .int .i64 6] 2))
  generalize w5.alloc (.cells #[.int .i64 4, .int .i64 6] 2) = W6 at HN HBN ⊢
  have HI6 := Lib.hid (nx0 HBN.out HI5.out)
  refine (nums_same _ _ 2 _ _ [4, 6] W6 rfl HI6.out HN.out (by omega)).mono ?_
  rintro e w7 ⟨rfl, hD⟩
  have HB7 := Lib.hid (nx HB5'.out (bx HBN.out hD))
  go_wp2
  go_ret
  exact ⟨rfl, HB7.out⟩
end Go.Proofs.Ytdijafdplkdfiaa
