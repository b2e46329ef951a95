/- State.Next is the plain word 'next', state.Script the plain word 'script'; neither writes what was there. Conditions: the row of events reads as a list. -/
import Derived.Test.YtenckibbjccebaaNext
namespace Go.Proofs.Ytenckibbjccebaa
set_option linter.unusedVariables false
open Go.RowKit
theorem contains_any (b bx : Nat) (e : Int) (w : World) (hb : b < w.heap.size) (hx : bx < w.heap.size) (hT : Tab w b) (hc : w.cell? ⟨bx, 0, none⟩ = some (.int .i64 e)) :
    Calls Try.prog 11 #[.slice (some ⟨b, 0, none⟩) 6 6, .func (.func 12) #[] #[.pointer (some ⟨bx, 0, none⟩)]] w fun r w' => r = .returned (.bool (known e)) ∧ Below w.heap.size w w' := by
  go_enter Try.func11, Try.ntmps11
  go_wp2_with fail
  refine (index_any b bx e w hb hx hT hc).mono ?_
  rintro r w1 ⟨⟨i, rfl, h⟩, hB⟩
  rcases h with ⟨hk, hi⟩ | ⟨hk, hi⟩
  · have HK := Lib.hid hk
    clear hk
    go_wp2
    go_ret
    exact ⟨by rw [HK.out]; rfl, hB⟩
  · have HK := Lib.hid hk
    have hi' : decide (0 ≤ i) = false := by simp; omega
    have HI := Lib.hid hi'
    clear hk hi'
    go_wp2
    go_ret
    exact ⟨by rw [HK.out, ← HI.out]; rfl, hB⟩

theorem next_no {s e : Int} (h : isB s = false) : next s e = (0, 1) := by unfold next; rw [if_pos h]
theorem next_unknown {s e : Int} (h : known e = false) : next s e = (0, 1) := by unfold next; split <;> rfl
def toOf : Nat → Int
  | 0 => 2 | 1 => 3 | 2 => 1 | 3 => 2 | 4 => 4 | 5 => 2 | _ => 0
theorem next_hit {s e : Int} {k : Nat} (hs : isB s = true) (hk : known e = true) (h6 : k < 6) (h : hit s e k = true) (hno : ∀ j, j < k → hit s e j = false) : next s e = (toOf k, 0) := by
  unfold next
  rw [if_neg (by rw [hs]; decide), if_neg (by rw [hk]; decide)]
  have : k = 0 ∨ k = 1 ∨ k = 2 ∨ k = 3 ∨ k = 4 ∨ k = 5 := by omega
  rcases this with rfl | rfl | rfl | rfl | rfl | rfl
  · rw [if_pos h]; rfl
  · rw [if_neg (by rw [hno 0 (by omega)]; decide), if_pos h]; rfl
  · rw [if_neg (by rw [hno 0 (by omega)]; decide), if_neg (by rw [hno 1 (by omega)]; decide), if_pos h]; rfl
  · rw [if_neg (by rw [hno 0 (by omega)]; decide), if_neg (by rw [hno 1 (by omega)]; decide), if_neg (by rw [hno 2 (by omega)]; decide), if_pos h]; rfl
  · rw [if_neg (by rw [hno 0 (by omega)]; decide), if_neg (by rw [hno 1 (by omega)]; decide), if_neg (by rw [hno 2 (by omega)]; decide), if_neg (by rw [hno 3 (by omega)]; decide), if_pos h]; rfl
  · rw [if_neg (by rw [hno 0 (by omega)]; decide), if_neg (by rw [hno 1 (by omega)]; decide), if_neg (by rw [hno 2 (by omega)]; decide), if_neg (by rw [hno 3 (by omega)]; decide), if_neg (by rw [hno 4 (by omega)]; decide), if_pos h]; rfl
theorem next_none {s e : Int} (hs : isB s = true) (hk : known e = true) (hno : ∀ j, j < 6 → hit s e j = false) : next s e = (0, 7) := by
  unfold next
  rw [if_neg (by rw [hs]; decide), if_neg (by rw [hk]; decide), if_neg (by rw [hno 0 (by omega)]; decide), if_neg (by rw [hno 1 (by omega)]; decide), if_neg (by rw [hno 2 (by omega)]; decide), if_neg (by rw [hno 3 (by omega)]; decide), if_neg (by rw [hno 4 (by omega)]; decide), if_neg (by rw [hno 5 (by omega)]; decide)]

theorem Boxed_new (w : World) (e : Int) : (w.alloc (.cells #[.int .i64 e] 3)).heap.size = w.heap.size + 1 ∧ (w.alloc (.cells #[.int .i64 e] 3)).cell? ⟨w.heap.size, 0, none⟩ = some (.int .i64 e) ∧ Below w.heap.size w (w.alloc (.cells #[.int .i64 e] 3)) :=
  ⟨by simp, by simp, (Below.refl _ _).alloc (Nat.le_refl _) _⟩
theorem laid {w W w1 : World} {e : Int} (h : W.heap.size = w.heap.size + 1 ∧ W.cell? ⟨w.heap.size, 0, none⟩ = some (.int .i64 e) ∧ Below w.heap.size w W) (hb : Below W.heap.size W w1) (hT : Tab w1 W.heap.size) (hs : w1.heap.size = W.heap.size + 1) :
    w1.heap.size = w.heap.size + 2 ∧ Below w.heap.size w w1 ∧ w1.cell? ⟨w.heap.size, 0, none⟩ = some (.int .i64 e) ∧ Tab w1 (w.heap.size + 1) := by
  obtain ⟨h1, h2, h3⟩ := h
  refine ⟨by omega, h3.trans (hb.mono (by omega)), (hb.cell (p := ⟨w.heap.size, 0, none⟩) (by show w.heap.size < W.heap.size; omega)).trans h2, ?_⟩
  rw [h1] at hT; exact hT
set_option maxHeartbeats 8000000 in
set_option maxRecDepth 100000 in
theorem next_any (s e : Int) (w : World) : Calls Try.prog 8 #[.int .i64 s, .int .i64 e] w fun r w' => r = .returned (.tuple #[.int .i64 (next s e).1, .int .i64 (next s e).2]) ∧ Below w.heap.size w w' := by
  cases hs : isB s
  · have hn : next s e = (0, 1) := next_no hs
    have HN := Lib.hid hn
    have HS := Lib.hid hs
    clear hn hs
    go_enter Try.func8, Try.ntmps8
    go_wp2_with fail
    refine (steps_any _).mono ?_
    rintro r w1 ⟨rfl, hb1, hT, hsz⟩
    go_wp2_with fail
    refine (is_any _ _).mono ?_
    rintro r w' ⟨rfl, rfl⟩
    rw [HS.out]
    go_wp2
    go_ret2
    exact ⟨by rw [HN.out]; rfl, ((Below.refl _ _).alloc (Nat.le_refl _) _).trans (hb1.mono (by simp))⟩
  · have HS := Lib.hid hs
    clear hs
    have HX := Lib.hid (Boxed_new w e)
    cases hk : known e
    · have hn : next s e = (0, 1) := next_unknown hk
      have HN := Lib.hid hn
      have HK := Lib.hid hk
      clear hn hk
      go_enter Try.func8, Try.ntmps8
      go_wp2_with fail
      refine (steps_any _).mono ?_
      rintro r w1 ⟨rfl, hb1, hT, hsz⟩
      obtain ⟨hz1, hB1, hbx, hT1⟩ := laid HX.out hb1 hT hsz
      have HT := Lib.hid hT1
      clear hT hsz hb1 hT1
      go_wp2_with fail
      refine (is_any _ _).mono ?_
      rintro r w' ⟨rfl, rfl⟩
      rw [HS.out]
      go_wp2_with fail
      refine (contains_any _ _ e _ (by omega) (by omega) HT.out hbx).mono ?_
      rintro r w2 ⟨rfl, hb2⟩
      rw [HK.out]
      go_wp2
      go_ret2
      exact ⟨by rw [HN.out]; rfl, hB1.trans (hb2.mono (by omega))⟩
    · have HK := Lib.hid hk
      clear hk
      go_enter Try.func8, Try.ntmps8
      go_wp2_with fail
      refine (steps_any _).mono ?_
      rintro r w1 ⟨rfl, hb1, hT, hsz⟩
      obtain ⟨hz1, hB1, hbx, hT1⟩ := laid HX.out hb1 hT hsz
      have HT := Lib.hid hT1
      clear hT hsz hb1 hT1
      go_wp2_with fail
      refine (is_any _ _).mono ?_
      rintro r w' ⟨rfl, rfl⟩
      rw [HS.out]
      go_wp2_with fail
      refine (contains_any _ _ e _ (by omega) (by omega) HT.out hbx).mono ?_
      rintro r w2 ⟨rfl, hb2⟩
      rw [HK.out]
      have hbx2 : w2.cell? ⟨w.heap.size, 0, none⟩ = some (.int .i64 e) := (hb2.cell (p := ⟨w.heap.size, 0, none⟩) (by show w.heap.size < w1.heap.size; omega)).trans hbx
      have HT2 := Lib.hid (HT.out.below (by omega) hb2)
      have hz2 : w.heap.size + 2 ≤ w2.heap.size := by have := hb2.size; omega
      have hb1 : Below w.heap.size w w2 := hB1.trans (hb2.mono (by omega))
      clear hbx hz1 hB1 hb2
      go_wp2_with fail
      go_loopw [21] (fun i wr => ∃ k : Nat, k ≤ 6 ∧ i = .int .i64 k ∧ (∀ j, j < k → hit s e j = false) ∧ Below w2.heap.size w2 wr) (fun i _ => 6 - (intOf i).toNat)
      case atStart => exact ⟨0, by omega, rfl, fun j h => by omega, Below.refl _ _⟩
      case round =>
        obtain ⟨k, hk, rfl, hno, hB⟩ := hrel
        have HN := Lib.hid hno
        clear hno
        have hsize := hB.size
        have hcx : wr.cell? ⟨w.heap.size, 0, none⟩ = some (.int .i64 e) := (hB.cell (p := ⟨w.heap.size, 0, none⟩) (by show w.heap.size < w2.heap.size; omega)).trans hbx2
        have hcx' : ∀ o, (wr.alloc o).cell? ⟨w.heap.size, 0, none⟩ = some (.int .i64 e) := fun o => (((Below.refl wr.heap.size wr).alloc (Nat.le_refl _) o).cell (p := ⟨w.heap.size, 0, none⟩) (by show w.heap.size < wr.heap.size; omega)).trans hcx
        have HTr := Lib.hid (HT2.out.below (by omega) hB)
        by_cases hlt : k < 6
        · have hk6 : k = 0 ∨ k = 1 ∨ k = 2 ∨ k = 3 ∨ k = 4 ∨ k = 5 := by omega
          rcases hk6 with rfl | rfl | rfl | rfl | rfl | rfl
          · have c0 : wr.cell? ⟨w.heap.size + 1, 0, none⟩ = some (.int .i64 1) := HTr.out 0 (by omega)
            have c1 : wr.cell? ⟨w.heap.size + 1, 1, none⟩ = some (.int .i64 7) := HTr.out 1 (by omega)
            have c2 : wr.cell? ⟨w.heap.size + 1, 2, none⟩ = some (.int .i64 2) := HTr.out 2 (by omega)
            cases hs1 : ((1 : Int) == s)
            · have HE := Lib.hid (show hit s e 0 = false by unfold hit; rw [show (tab (3 * 0) == s) = false from hs1]; rfl)
              go_wp2
              go_roundw
              case rel => exact ⟨1, by omega, by go_num, fun j hj => by
                by_cases e' : j = 0
                · subst e'; exact HE.out
                · exact HN.out j (by omega), hB.alloc hsize _⟩
              case measure => simp [intOf]
            · cases he1 : ((7 : Int) == e)
              · have HE := Lib.hid (show hit s e 0 = false by unfold hit; rw [show (tab (3 * 0 + 1) == e) = false from he1]; simp)
                go_wp2
                go_roundw
                case rel => exact ⟨1, by omega, by go_num, fun j hj => by
                  by_cases e' : j = 0
                  · subst e'; exact HE.out
                  · exact HN.out j (by omega), hB.alloc hsize _⟩
                case measure => simp [intOf]
              · have HE := Lib.hid (next_hit HS.out HK.out (show 0 < 6 by omega) (show hit s e 0 = true by unfold hit; rw [show (tab (3 * 0) == s) = true from hs1, show (tab (3 * 0 + 1) == e) = true from he1]; rfl) HN.out)
                go_wp2
                go_ret2
                exact ⟨by rw [HE.out]; rfl, hb1.trans ((hB.alloc hsize _).mono (by omega))⟩
          · have c0 : wr.cell? ⟨w.heap.size + 1, 3, none⟩ = some (.int .i64 2) := HTr.out 3 (by omega)
            have c1 : wr.cell? ⟨w.heap.size + 1, 4, none⟩ = some (.int .i64 101) := HTr.out 4 (by omega)
            have c2 : wr.cell? ⟨w.heap.size + 1, 5, none⟩ = some (.int .i64 3) := HTr.out 5 (by omega)
            cases hs1 : ((2 : Int) == s)
            · have HE := Lib.hid (show hit s e 1 = false by unfold hit; rw [show (tab (3 * 1) == s) = false from hs1]; rfl)
              go_wp2
              go_roundw
              case rel => exact ⟨2, by omega, by go_num, fun j hj => by
                by_cases e' : j = 1
                · subst e'; exact HE.out
                · exact HN.out j (by omega), hB.alloc hsize _⟩
              case measure => simp [intOf]
            · cases he1 : ((101 : Int) == e)
              · have HE := Lib.hid (show hit s e 1 = false by unfold hit; rw [show (tab (3 * 1 + 1) == e) = false from he1]; simp)
                go_wp2
                go_roundw
                case rel => exact ⟨2, by omega, by go_num, fun j hj => by
                  by_cases e' : j = 1
                  · subst e'; exact HE.out
                  · exact HN.out j (by omega), hB.alloc hsize _⟩
                case measure => simp [intOf]
              · have HE := Lib.hid (next_hit HS.out HK.out (show 1 < 6 by omega) (show hit s e 1 = true by unfold hit; rw [show (tab (3 * 1) == s) = true from hs1, show (tab (3 * 1 + 1) == e) = true from he1]; rfl) HN.out)
                go_wp2
                go_ret2
                exact ⟨by rw [HE.out]; rfl, hb1.trans ((hB.alloc hsize _).mono (by omega))⟩
          · have c0 : wr.cell? ⟨w.heap.size + 1, 6, none⟩ = some (.int .i64 3) := HTr.out 6 (by omega)
            have c1 : wr.cell? ⟨w.heap.size + 1, 7, none⟩ = some (.int .i64 8) := HTr.out 7 (by omega)
            have c2 : wr.cell? ⟨w.heap.size + 1, 8, none⟩ = some (.int .i64 1) := HTr.out 8 (by omega)
            cases hs1 : ((3 : Int) == s)
            · have HE := Lib.hid (show hit s e 2 = false by unfold hit; rw [show (tab (3 * 2) == s) = false from hs1]; rfl)
              go_wp2
              go_roundw
              case rel => exact ⟨3, by omega, by go_num, fun j hj => by
                by_cases e' : j = 2
                · subst e'; exact HE.out
                · exact HN.out j (by omega), hB.alloc hsize _⟩
              case measure => simp [intOf]
            · cases he1 : ((8 : Int) == e)
              · have HE := Lib.hid (show hit s e 2 = false by unfold hit; rw [show (tab (3 * 2 + 1) == e) = false from he1]; simp)
                go_wp2
                go_roundw
                case rel => exact ⟨3, by omega, by go_num, fun j hj => by
                  by_cases e' : j = 2
                  · subst e'; exact HE.out
                  · exact HN.out j (by omega), hB.alloc hsize _⟩
                case measure => simp [intOf]
              · have HE := Lib.hid (next_hit HS.out HK.out (show 2 < 6 by omega) (show hit s e 2 = true by unfold hit; rw [show (tab (3 * 2) == s) = true from hs1, show (tab (3 * 2 + 1) == e) = true from he1]; rfl) HN.out)
                go_wp2
                go_ret2
                exact ⟨by rw [HE.out]; rfl, hb1.trans ((hB.alloc hsize _).mono (by omega))⟩
          · have c0 : wr.cell? ⟨w.heap.size + 1, 9, none⟩ = some (.int .i64 3) := HTr.out 9 (by omega)
            have c1 : wr.cell? ⟨w.heap.size + 1, 10, none⟩ = some (.int .i64 9) := HTr.out 10 (by omega)
            have c2 : wr.cell? ⟨w.heap.size + 1, 11, none⟩ = some (.int .i64 2) := HTr.out 11 (by omega)
            cases hs1 : ((3 : Int) == s)
            · have HE := Lib.hid (show hit s e 3 = false by unfold hit; rw [show (tab (3 * 3) == s) = false from hs1]; rfl)
              go_wp2
              go_roundw
              case rel => exact ⟨4, by omega, by go_num, fun j hj => by
                by_cases e' : j = 3
                · subst e'; exact HE.out
                · exact HN.out j (by omega), hB.alloc hsize _⟩
              case measure => simp [intOf]
            · cases he1 : ((9 : Int) == e)
              · have HE := Lib.hid (show hit s e 3 = false by unfold hit; rw [show (tab (3 * 3 + 1) == e) = false from he1]; simp)
                go_wp2
                go_roundw
                case rel => exact ⟨4, by omega, by go_num, fun j hj => by
                  by_cases e' : j = 3
                  · subst e'; exact HE.out
                  · exact HN.out j (by omega), hB.alloc hsize _⟩
                case measure => simp [intOf]
              · have HE := Lib.hid (next_hit HS.out HK.out (show 3 < 6 by omega) (show hit s e 3 = true by unfold hit; rw [show (tab (3 * 3) == s) = true from hs1, show (tab (3 * 3 + 1) == e) = true from he1]; rfl) HN.out)
                go_wp2
                go_ret2
                exact ⟨by rw [HE.out]; rfl, hb1.trans ((hB.alloc hsize _).mono (by omega))⟩
          · have c0 : wr.cell? ⟨w.heap.size + 1, 12, none⟩ = some (.int .i64 3) := HTr.out 12 (by omega)
            have c1 : wr.cell? ⟨w.heap.size + 1, 13, none⟩ = some (.int .i64 10) := HTr.out 13 (by omega)
            have c2 : wr.cell? ⟨w.heap.size + 1, 14, none⟩ = some (.int .i64 4) := HTr.out 14 (by omega)
            cases hs1 : ((3 : Int) == s)
            · have HE := Lib.hid (show hit s e 4 = false by unfold hit; rw [show (tab (3 * 4) == s) = false from hs1]; rfl)
              go_wp2
              go_roundw
              case rel => exact ⟨5, by omega, by go_num, fun j hj => by
                by_cases e' : j = 4
                · subst e'; exact HE.out
                · exact HN.out j (by omega), hB.alloc hsize _⟩
              case measure => simp [intOf]
            · cases he1 : ((10 : Int) == e)
              · have HE := Lib.hid (show hit s e 4 = false by unfold hit; rw [show (tab (3 * 4 + 1) == e) = false from he1]; simp)
                go_wp2
                go_roundw
                case rel => exact ⟨5, by omega, by go_num, fun j hj => by
                  by_cases e' : j = 4
                  · subst e'; exact HE.out
                  · exact HN.out j (by omega), hB.alloc hsize _⟩
                case measure => simp [intOf]
              · have HE := Lib.hid (next_hit HS.out HK.out (show 4 < 6 by omega) (show hit s e 4 = true by unfold hit; rw [show (tab (3 * 4) == s) = true from hs1, show (tab (3 * 4 + 1) == e) = true from he1]; rfl) HN.out)
                go_wp2
                go_ret2
                exact ⟨by rw [HE.out]; rfl, hb1.trans ((hB.alloc hsize _).mono (by omega))⟩
          · have c0 : wr.cell? ⟨w.heap.size + 1, 15, none⟩ = some (.int .i64 3) := HTr.out 15 (by omega)
            have c1 : wr.cell? ⟨w.heap.size + 1, 16, none⟩ = some (.int .i64 102) := HTr.out 16 (by omega)
            have c2 : wr.cell? ⟨w.heap.size + 1, 17, none⟩ = some (.int .i64 2) := HTr.out 17 (by omega)
            cases hs1 : ((3 : Int) == s)
            · have HE := Lib.hid (show hit s e 5 = false by unfold hit; rw [show (tab (3 * 5) == s) = false from hs1]; rfl)
              go_wp2
              go_roundw
              case rel => exact ⟨6, by omega, by go_num, fun j hj => by
                by_cases e' : j = 5
                · subst e'; exact HE.out
                · exact HN.out j (by omega), hB.alloc hsize _⟩
              case measure => simp [intOf]
            · cases he1 : ((102 : Int) == e)
              · have HE := Lib.hid (show hit s e 5 = false by unfold hit; rw [show (tab (3 * 5 + 1) == e) = false from he1]; simp)
                go_wp2
                go_roundw
                case rel => exact ⟨6, by omega, by go_num, fun j hj => by
                  by_cases e' : j = 5
                  · subst e'; exact HE.out
                  · exact HN.out j (by omega), hB.alloc hsize _⟩
                case measure => simp [intOf]
              · have HE := Lib.hid (next_hit HS.out HK.out (show 5 < 6 by omega) (show hit s e 5 = true by unfold hit; rw [show (tab (3 * 5) == s) = true from hs1, show (tab (3 * 5 + 1) == e) = true from he1]; rfl) HN.out)
                go_wp2
                go_ret2
                exact ⟨by rw [HE.out]; rfl, hb1.trans ((hB.alloc hsize _).mono (by omega))⟩
        · obtain rfl : k = 6 := by omega
          have HE := Lib.hid (next_none HS.out HK.out HN.out)
          go_wp2
          go_ret2
          exact ⟨by rw [HE.out]; rfl, hb1.trans (hB.mono (by omega))⟩
end Go.Proofs.Ytenckibbjccebaa
