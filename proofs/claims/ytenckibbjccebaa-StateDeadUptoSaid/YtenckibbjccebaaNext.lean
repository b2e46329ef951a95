/- State.Next is the plain word 'next', and writes nothing that was there. No condition. -/
import Derived.Test.YtenckibbjccebaaChecked
import Derived.Test.YtenckibbjccebaaBase
import Derived.Outline
namespace Go.Proofs.Ytenckibbjccebaa
set_option linter.unusedVariables false
open Go.RowKit
theorem is_any (s : Int) (w : World) : Calls Try.prog 10 #[.int .i64 s] w fun e w' => e = .returned (.bool (isB s)) ∧ w = w' := by
  by_cases h1 : 1 ≤ s
  · by_cases h2 : s ≤ 4
    · have HD := Lib.hid (show isB s = true from decide_eq_true ⟨h1, h2⟩)
      go_enter Try.func10, Try.ntmps10
      go_wp2
      go_ret
      exact ⟨by rw [HD.out]; rfl, rfl⟩
    · have HD := Lib.hid (show isB s = false from decide_eq_false (by omega))
      go_enter Try.func10, Try.ntmps10
      go_wp2
      go_ret
      exact ⟨by rw [HD.out]; rfl, rfl⟩
  · have HD := Lib.hid (show isB s = false from decide_eq_false (by omega))
    go_enter Try.func10, Try.ntmps10
    go_wp2
    go_ret
    exact ⟨by rw [HD.out]; rfl, rfl⟩
theorem steps_any (w : World) : Calls Try.prog 9 #[] w fun e w' => e = .returned (.slice (some ⟨w.heap.size, 0, none⟩) 6 6) ∧ Below w.heap.size w w' ∧ Tab w' w.heap.size ∧ w'.heap.size = w.heap.size + 1 := by
  go_enter Try.func9, Try.ntmps9
  go_wp2
  go_ret
  refine ⟨rfl, (Below.refl _ _).alloc (Nat.le_refl _) _, ?_, by simp⟩
  intro j hj
  have : j = 0 ∨ j = 1 ∨ j = 2 ∨ j = 3 ∨ j = 4 ∨ j = 5 ∨ j = 6 ∨ j = 7 ∨ j = 8 ∨ j = 9 ∨ j = 10 ∨ j = 11 ∨ j = 12 ∨ j = 13 ∨ j = 14 ∨ j = 15 ∨ j = 16 ∨ j = 17 := by omega
  rcases this with rfl | rfl | rfl | rfl | rfl | rfl | rfl | rfl | rfl | rfl | rfl | rfl | rfl | rfl | rfl | rfl | rfl | rfl <;> simp [tab]
theorem same_any (a b c e : Int) (bx : Nat) (w : World) (hb : bx < w.heap.size) (hc : w.cell? ⟨bx, 0, none⟩ = some (.int .i64 e)) :
    Calls Try.prog 12 #[.agg #[.int .i64 a, .int .i64 b, .int .i64 c], .pointer (some ⟨bx, 0, none⟩)] w fun r w' => r = .returned (.bool (b == e)) ∧ w' = w.alloc (.cells #[.int .i64 a, .int .i64 b, .int .i64 c] 36) := by
  go_enter Try.func12, Try.ntmps12
  go_wp2
  go_ret
  exact ⟨rfl, rfl⟩

theorem Tab.below {W W' : World} {b : Nat} (h : Tab W b) (hb : b < W.heap.size) (hB : Below W.heap.size W W') : Tab W' b := fun j hj => (hB.cell (p := ⟨b, j, none⟩) hb).trans (h j hj)

set_option maxHeartbeats 4000000 in
theorem index_any (b bx : Nat) (e : Int) (w : World) (hb : b < w.heap.size) (hx : bx < w.heap.size) (hT : Tab w b) (hc : w.cell? ⟨bx, 0, none⟩ = some (.int .i64 e)) :
    Calls Try.prog 13 #[.slice (some ⟨b, 0, none⟩) 6 6, .func (.func 12) #[] #[.pointer (some ⟨bx, 0, none⟩)]] w fun r w' => (∃ i : Int, r = .returned (.int .i64 i) ∧ ((known e = true ∧ 0 ≤ i) ∨ (known e = false ∧ i < 0))) ∧ Below w.heap.size w w' := by
  have HT := Lib.hid hT
  clear hT
  go_enter Try.func13, Try.ntmps13
  go_wp2
  go_loopw [8] (fun i wr => ∃ k : Nat, k ≤ 6 ∧ i = .int .i64 k ∧ (∀ j, j < k → ev e j = false) ∧ Below w.heap.size w wr) (fun i _ => 6 - (intOf i).toNat)
  case atStart => exact ⟨0, by omega, rfl, fun j h => by omega, Below.refl _ _⟩
  case round =>
    obtain ⟨k, hk, rfl, hno, hB⟩ := hrel
    have HN := Lib.hid hno
    clear hno
    have hcx : wr.cell? ⟨bx, 0, none⟩ = some (.int .i64 e) := (hB.cell (p := ⟨bx, 0, none⟩) hx).trans hc
    have hxr : bx < wr.heap.size := by have := hB.size; omega
    have HTr := Lib.hid (HT.out.below hb hB)
    by_cases hlt : k < 6
    · have hk6 : k = 0 ∨ k = 1 ∨ k = 2 ∨ k = 3 ∨ k = 4 ∨ k = 5 := by omega
      have hsize := hB.size
      rcases hk6 with rfl | rfl | rfl | rfl | rfl | rfl
      · have c0 : wr.cell? ⟨b, 0, none⟩ = some (.int .i64 1) := HTr.out 0 (by omega)
        have c1 : wr.cell? ⟨b, 1, none⟩ = some (.int .i64 7) := HTr.out 1 (by omega)
        have c2 : wr.cell? ⟨b, 2, none⟩ = some (.int .i64 2) := HTr.out 2 (by omega)
        cases he : ((7 : Int) == e)
        · have HE := Lib.hid (show ev e 0 = false from he)
          go_wp2_with (go_at_call 12; refine (same_any _ _ _ e bx _ hxr hcx).mono ?_; rintro r' w' ⟨rfl, rfl⟩)
          go_roundw
          case rel => exact ⟨1, by omega, by go_num, fun j hj => by
            by_cases e' : j = 0
            · subst e'; exact HE.out
            · exact HN.out j (by omega), hB.alloc hsize _⟩
          case measure => simp [intOf]
        · have HE := Lib.hid (show known e = true by unfold known; rw [show ev e 0 = true from he]; simp)
          go_wp2_with (go_at_call 12; refine (same_any _ _ _ e bx _ hxr hcx).mono ?_; rintro r' w' ⟨rfl, rfl⟩)
          go_ret
          exact ⟨⟨_, rfl, .inl ⟨HE.out, by decide⟩⟩, hB.alloc hsize _⟩
      · have c0 : wr.cell? ⟨b, 3, none⟩ = some (.int .i64 2) := HTr.out 3 (by omega)
        have c1 : wr.cell? ⟨b, 4, none⟩ = some (.int .i64 101) := HTr.out 4 (by omega)
        have c2 : wr.cell? ⟨b, 5, none⟩ = some (.int .i64 3) := HTr.out 5 (by omega)
        cases he : ((101 : Int) == e)
        · have HE := Lib.hid (show ev e 1 = false from he)
          go_wp2_with (go_at_call 12; refine (same_any _ _ _ e bx _ hxr hcx).mono ?_; rintro r' w' ⟨rfl, rfl⟩)
          go_roundw
          case rel => exact ⟨2, by omega, by go_num, fun j hj => by
            by_cases e' : j = 1
            · subst e'; exact HE.out
            · exact HN.out j (by omega), hB.alloc hsize _⟩
          case measure => simp [intOf]
        · have HE := Lib.hid (show known e = true by unfold known; rw [show ev e 1 = true from he]; simp)
          go_wp2_with (go_at_call 12; refine (same_any _ _ _ e bx _ hxr hcx).mono ?_; rintro r' w' ⟨rfl, rfl⟩)
          go_ret
          exact ⟨⟨_, rfl, .inl ⟨HE.out, by decide⟩⟩, hB.alloc hsize _⟩
      · have c0 : wr.cell? ⟨b, 6, none⟩ = some (.int .i64 3) := HTr.out 6 (by omega)
        have c1 : wr.cell? ⟨b, 7, none⟩ = some (.int .i64 8) := HTr.out 7 (by omega)
        have c2 : wr.cell? ⟨b, 8, none⟩ = some (.int .i64 1) := HTr.out 8 (by omega)
        cases he : ((8 : Int) == e)
        · have HE := Lib.hid (show ev e 2 = false from he)
          go_wp2_with (go_at_call 12; refine (same_any _ _ _ e bx _ hxr hcx).mono ?_; rintro r' w' ⟨rfl, rfl⟩)
          go_roundw
          case rel => exact ⟨3, by omega, by go_num, fun j hj => by
            by_cases e' : j = 2
            · subst e'; exact HE.out
            · exact HN.out j (by omega), hB.alloc hsize _⟩
          case measure => simp [intOf]
        · have HE := Lib.hid (show known e = true by unfold known; rw [show ev e 2 = true from he]; simp)
          go_wp2_with (go_at_call 12; refine (same_any _ _ _ e bx _ hxr hcx).mono ?_; rintro r' w' ⟨rfl, rfl⟩)
          go_ret
          exact ⟨⟨_, rfl, .inl ⟨HE.out, by decide⟩⟩, hB.alloc hsize _⟩
      · have c0 : wr.cell? ⟨b, 9, none⟩ = some (.int .i64 3) := HTr.out 9 (by omega)
        have c1 : wr.cell? ⟨b, 10, none⟩ = some (.int .i64 9) := HTr.out 10 (by omega)
        have c2 : wr.cell? ⟨b, 11, none⟩ = some (.int .i64 2) := HTr.out 11 (by omega)
        cases he : ((9 : Int) == e)
        · have HE := Lib.hid (show ev e 3 = false from he)
          go_wp2_with (go_at_call 12; refine (same_any _ _ _ e bx _ hxr hcx).mono ?_; rintro r' w' ⟨rfl, rfl⟩)
          go_roundw
          case rel => exact ⟨4, by omega, by go_num, fun j hj => by
            by_cases e' : j = 3
            · subst e'; exact HE.out
            · exact HN.out j (by omega), hB.alloc hsize _⟩
          case measure => simp [intOf]
        · have HE := Lib.hid (show known e = true by unfold known; rw [show ev e 3 = true from he]; simp)
          go_wp2_with (go_at_call 12; refine (same_any _ _ _ e bx _ hxr hcx).mono ?_; rintro r' w' ⟨rfl, rfl⟩)
          go_ret
          exact ⟨⟨_, rfl, .inl ⟨HE.out, by decide⟩⟩, hB.alloc hsize _⟩
      · have c0 : wr.cell? ⟨b, 12, none⟩ = some (.int .i64 3) := HTr.out 12 (by omega)
        have c1 : wr.cell? ⟨b, 13, none⟩ = some (.int .i64 10) := HTr.out 13 (by omega)
        have c2 : wr.cell? ⟨b, 14, none⟩ = some (.int .i64 4) := HTr.out 14 (by omega)
        cases he : ((10 : Int) == e)
        · have HE := Lib.hid (show ev e 4 = false from he)
          go_wp2_with (go_at_call 12; refine (same_any _ _ _ e bx _ hxr hcx).mono ?_; rintro r' w' ⟨rfl, rfl⟩)
          go_roundw
          case rel => exact ⟨5, by omega, by go_num, fun j hj => by
            by_cases e' : j = 4
            · subst e'; exact HE.out
            · exact HN.out j (by omega), hB.alloc hsize _⟩
          case measure => simp [intOf]
        · have HE := Lib.hid (show known e = true by unfold known; rw [show ev e 4 = true from he]; simp)
          go_wp2_with (go_at_call 12; refine (same_any _ _ _ e bx _ hxr hcx).mono ?_; rintro r' w' ⟨rfl, rfl⟩)
          go_ret
          exact ⟨⟨_, rfl, .inl ⟨HE.out, by decide⟩⟩, hB.alloc hsize _⟩
      · have c0 : wr.cell? ⟨b, 15, none⟩ = some (.int .i64 3) := HTr.out 15 (by omega)
        have c1 : wr.cell? ⟨b, 16, none⟩ = some (.int .i64 102) := HTr.out 16 (by omega)
        have c2 : wr.cell? ⟨b, 17, none⟩ = some (.int .i64 2) := HTr.out 17 (by omega)
        cases he : ((102 : Int) == e)
        · have HE := Lib.hid (show ev e 5 = false from he)
          go_wp2_with (go_at_call 12; refine (same_any _ _ _ e bx _ hxr hcx).mono ?_; rintro r' w' ⟨rfl, rfl⟩)
          go_roundw
          case rel => exact ⟨6, by omega, by go_num, fun j hj => by
            by_cases e' : j = 5
            · subst e'; exact HE.out
            · exact HN.out j (by omega), hB.alloc hsize _⟩
          case measure => simp [intOf]
        · have HE := Lib.hid (show known e = true by unfold known; rw [show ev e 5 = true from he]; simp)
          go_wp2_with (go_at_call 12; refine (same_any _ _ _ e bx _ hxr hcx).mono ?_; rintro r' w' ⟨rfl, rfl⟩)
          go_ret
          exact ⟨⟨_, rfl, .inl ⟨HE.out, by decide⟩⟩, hB.alloc hsize _⟩
    · obtain rfl : k = 6 := by omega
      have hkn : known e = false := by unfold known; rw [HN.out 0 (by omega), HN.out 1 (by omega), HN.out 2 (by omega), HN.out 3 (by omega), HN.out 4 (by omega), HN.out 5 (by omega)]; rfl
      have HK := Lib.hid hkn
      clear hkn
      go_wp2
      go_ret
      exact ⟨⟨_, rfl, .inr ⟨HK.out, by decide⟩⟩, hB⟩
end Go.Proofs.Ytenckibbjccebaa
