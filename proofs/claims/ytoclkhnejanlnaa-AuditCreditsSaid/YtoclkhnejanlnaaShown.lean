/- The document's example of layer 23, at the head of all statements. No condition. -/
import Derived.Test.YtoclkhnejanlnaaWhole
import Derived.Test.YtoclkhnejanlnaaCred
namespace Go.Proofs.Ytoclkhnejanlnaa
set_option linter.unusedVariables false
open Go.RowKit
def s1 : Sn := ⟨[0], [⟨3, 0, 1, 0⟩], [⟨-1, 0⟩]⟩
def s2 : Sn := ⟨[], [⟨3, 0, 1, 0⟩], [⟨-1, 0⟩]⟩
theorem s1_sound : soundI s1 = 0 := by decide +kernel
theorem s2_sound : soundI s2 = 6 := by decide +kernel
theorem cred12 : credB [1, 2] [1, 7] [1] 5 = true := by decide +kernel
theorem rd_one {α : Type} {E : Enc α} {W : World} {b n₀ : Nat} {z : α} (hb : b < n₀) (hc : ∀ q v, (E.e z)[q]? = some v → W.cell? ⟨b, q, none⟩ = some v) : Rd E n₀ W (some ⟨b, 0, none⟩) 1 [z] :=
  ⟨rfl, fun _ => ⟨b, 0, rfl, hb, fun j y hj q v hq => by
    have hj0 : j = 0 := by have := (List.getElem?_eq_some_iff.1 hj).1; simpa using this
    subst hj0
    simp at hj
    subst hj
    rw [Nat.zero_mul, Nat.zero_add, Nat.zero_add]
    exact hc q v hq⟩⟩
theorem rd_two {W : World} {b n₀ : Nat} {x y : Int} (hb : b < n₀) (h0 : W.cell? ⟨b, 0, none⟩ = some (.int .i64 x)) (h1 : W.cell? ⟨b, 1, none⟩ = some (.int .i64 y)) : Rd encI n₀ W (some ⟨b, 0, none⟩) 2 [x, y] :=
  ⟨rfl, fun _ => ⟨b, 0, rfl, hb, fun j z hj q v hq => by
    have hq0 : q = 0 := by have := (List.getElem?_eq_some_iff.1 hq).1; simpa [encI] using this
    subst hq0
    have hj2 : j < 2 := by have := (List.getElem?_eq_some_iff.1 hj).1; simpa using this
    have e : j = 0 ∨ j = 1 := by omega
    rcases e with rfl | rfl
    · simp [encI] at hj hq ⊢
      subst hj hq; exact h0
    · simp [encI] at hj hq ⊢
      subst hj hq; exact h1⟩⟩
theorem s1_ok : SnOk s1 := ⟨fun i => by
    rcases i with _ | i
    · exact ⟨by decide, by decide⟩
    · have : tat s1.ts (i + 1) = ⟨0, 0, 0, 0⟩ := by simp [tat, s1]
      rw [this]; exact ⟨by decide, by decide⟩, fun i => by
    rcases i with _ | i
    · exact ⟨by decide, by decide⟩
    · have : gat s1.gs (i + 1) = ⟨0, 0⟩ := by simp [gat, s1]
      rw [this]; exact ⟨by decide, by decide⟩⟩
theorem s2_ok : SnOk s2 := s1_ok
theorem fnew {W : World} {t j b : Nat} {C : Array Value} (h : b = W.heap.size) : (W.alloc (.cells C t)).frozen? ⟨b, j, none⟩ = false := by
  subst h
  simp only [World.frozen?, heap_alloc_new]
  simp
set_option maxHeartbeats 1000000 in
theorem shown_any (w : World) : Calls Try.prog 9 #[] w fun e w' => e = .returned (.bool true) ∧ Below w.heap.size w w' := by
  go_enter Try.func9, Try.ntmps9
  go_wp2_with fail
  have facts : Below w.heap.size w ((((w.alloc (.cells #[.int .i64 0] 3)).alloc (.cells #[.int .i64 3, .int .i64 0, .int .u64 1, .int .i64 0] 31)).alloc (.cells #[.int .i64 (-1), .int .u64 0] 34)).alloc (.cells #[.slice (some ⟨w.heap.size, 0, none⟩) 1 1, .slice (some ⟨w.heap.size + 1, 0, none⟩) 1 1, .slice (some ⟨w.heap.size + 2, 0, none⟩) 1 1] 26)) ∧ w.heap.size + 3 < ((((w.alloc (.cells #[.int .i64 0] 3)).alloc (.cells #[.int .i64 3, .int .i64 0, .int .u64 1, .int .i64 0] 31)).alloc (.cells #[.int .i64 (-1), .int .u64 0] 34)).alloc (.cells #[.slice (some ⟨w.heap.size, 0, none⟩) 1 1, .slice (some ⟨w.heap.size + 1, 0, none⟩) 1 1, .slice (some ⟨w.heap.size + 2, 0, none⟩) 1 1] 26)).heap.size ∧ Snp (w.heap.size + 3) ((((w.alloc (.cells #[.int .i64 0] 3)).alloc (.cells #[.int .i64 3, .int .i64 0, .int .u64 1, .int .i64 0] 31)).alloc (.cells #[.int .i64 (-1), .int .u64 0] 34)).alloc (.cells #[.slice (some ⟨w.heap.size, 0, none⟩) 1 1, .slice (some ⟨w.heap.size + 1, 0, none⟩) 1 1, .slice (some ⟨w.heap.size + 2, 0, none⟩) 1 1] 26)) s1 (some ⟨w.heap.size, 0, none⟩) (some ⟨w.heap.size + 1, 0, none⟩) (some ⟨w.heap.size + 2, 0, none⟩) 1 1 1 ∧
      ((((w.alloc (.cells #[.int .i64 0] 3)).alloc (.cells #[.int .i64 3, .int .i64 0, .int .u64 1, .int .i64 0] 31)).alloc (.cells #[.int .i64 (-1), .int .u64 0] 34)).alloc (.cells #[.slice (some ⟨w.heap.size, 0, none⟩) 1 1, .slice (some ⟨w.heap.size + 1, 0, none⟩) 1 1, .slice (some ⟨w.heap.size + 2, 0, none⟩) 1 1] 26)).cell? ⟨w.heap.size + 3, 0, none⟩ = some (.slice (some ⟨w.heap.size, 0, none⟩) 1 1) ∧ ((((w.alloc (.cells #[.int .i64 0] 3)).alloc (.cells #[.int .i64 3, .int .i64 0, .int .u64 1, .int .i64 0] 31)).alloc (.cells #[.int .i64 (-1), .int .u64 0] 34)).alloc (.cells #[.slice (some ⟨w.heap.size, 0, none⟩) 1 1, .slice (some ⟨w.heap.size + 1, 0, none⟩) 1 1, .slice (some ⟨w.heap.size + 2, 0, none⟩) 1 1] 26)).cell? ⟨w.heap.size + 3, 1, none⟩ = some (.slice (some ⟨w.heap.size + 1, 0, none⟩) 1 1) ∧ ((((w.alloc (.cells #[.int .i64 0] 3)).alloc (.cells #[.int .i64 3, .int .i64 0, .int .u64 1, .int .i64 0] 31)).alloc (.cells #[.int .i64 (-1), .int .u64 0] 34)).alloc (.cells #[.slice (some ⟨w.heap.size, 0, none⟩) 1 1, .slice (some ⟨w.heap.size + 1, 0, none⟩) 1 1, .slice (some ⟨w.heap.size + 2, 0, none⟩) 1 1] 26)).cell? ⟨w.heap.size + 3, 2, none⟩ = some (.slice (some ⟨w.heap.size + 2, 0, none⟩) 1 1) ∧
      (∀ j, ((((w.alloc (.cells #[.int .i64 0] 3)).alloc (.cells #[.int .i64 3, .int .i64 0, .int .u64 1, .int .i64 0] 31)).alloc (.cells #[.int .i64 (-1), .int .u64 0] 34)).alloc (.cells #[.slice (some ⟨w.heap.size, 0, none⟩) 1 1, .slice (some ⟨w.heap.size + 1, 0, none⟩) 1 1, .slice (some ⟨w.heap.size + 2, 0, none⟩) 1 1] 26)).frozen? ⟨w.heap.size + 3, j, none⟩ = false) := by
    refine ⟨(((belowA w _).alloc (by simp) _).alloc (by simp <;> omega) _).alloc (by simp <;> omega) _, by simp, ⟨?_, ?_, ?_⟩, (cnewq (by simp)).trans rfl, (cnewq (by simp)).trans rfl, (cnewq (by simp)).trans rfl, fun j => fnew (by simp)⟩
    · exact rd_one (by simp <;> omega) fun q v hq => cella _ (by simp <;> omega) (cella _ (by simp <;> omega) (cella _ (by simp) ((cnewq rfl).trans (by simpa [encI] using hq))))
    · exact rd_one (by simp <;> omega) fun q v hq => cella _ (by simp <;> omega) (cella _ (by simp <;> omega) ((cnewq (by simp)).trans (by simpa [encT] using hq)))
    · exact rd_one (by simp <;> omega) fun q v hq => cella _ (by simp <;> omega) ((cnewq (by simp)).trans (by simpa [encG] using hq))
  generalize ((((w.alloc (.cells #[.int .i64 0] 3)).alloc (.cells #[.int .i64 3, .int .i64 0, .int .u64 1, .int .i64 0] 31)).alloc (.cells #[.int .i64 (-1), .int .u64 0] 34)).alloc (.cells #[.slice (some ⟨w.heap.size, 0, none⟩) 1 1, .slice (some ⟨w.heap.size + 1, 0, none⟩) 1 1, .slice (some ⟨w.heap.size + 2, 0, none⟩) 1 1] 26)) = W0 at facts ⊢
  obtain ⟨f0, f1, f2, f3, f4, f5, f6⟩ := facts
  have H0 := Lib.hid f0
  have H2 := Lib.hid f2
  have H3 := Lib.hid f3
  have H4 := Lib.hid f4
  have H5 := Lib.hid f5
  have H6 := Lib.hid f6
  clear f0 f2 f3 f4 f5 f6
  refine (sound_any (s := s1) _ (H2.out.grow (by omega)) s1_ok).mono ?_
  rintro e W1 ⟨rfl, hb1⟩
  rw [s1_sound]
  have H7 := Lib.hid hb1
  have hsz := hb1.size
  have d0 := cellb hb1 f1 H3.out
  have d1 := cellb hb1 f1 H4.out
  have d2 := cellb hb1 f1 H5.out
  have fr : W1.frozen? ⟨w.heap.size + 3, 0, none⟩ = false := (hb1.frozen (p := ⟨w.heap.size + 3, 0, none⟩) f1).trans (H6.out 0)
  clear hb1
  go_wp2_with fail
  have hb2 : Below (w.heap.size + 3) W0 (W1.setCell ⟨w.heap.size + 1 + 1 + 1, 0, none⟩ (.slice none 0 0)) := (H7.out.mono (by omega)).setCell (by simp) _
  have hb3 : Below w.heap.size w (W1.setCell ⟨w.heap.size + 1 + 1 + 1, 0, none⟩ (.slice none 0 0)) := (nx H0.out H7.out).setCell (by simp <;> omega) _
  have hS2 := (H2.out.below hb2).grow (n₁ := (W1.setCell ⟨w.heap.size + 1 + 1 + 1, 0, none⟩ (.slice none 0 0)).heap.size) (Nat.le_trans (by omega) hb2.size)
  have H8 := Lib.hid hS2
  have H9 := Lib.hid hb3
  clear hb2 hb3 hS2
  refine (sound_any (s := s2) (ra := none) (rn := 0) (rc := 0) _ ⟨Rd.nil, H8.out.t, H8.out.g⟩ s2_ok).mono ?_
  rintro e W2 ⟨rfl, hb4⟩
  rw [s2_sound]
  have H10 := Lib.hid (nx H9.out hb4)
  clear hb4
  go_wp2_with fail
  have hb5 := ((belowA W2 (.cells #[.int .i64 1, .int .i64 2] 2)).alloc (by simp) (.cells #[.int .i64 1, .int .i64 7] 2)).alloc (by simp <;> omega) (.cells #[.int .i64 1] 3)
  refine (credits_any (zb := [1, 2]) (zo := [1]) (za := [1, 7]) _ ?_ ?_ ?_ (by omega) (by omega)).mono ?_
  · exact rd_two (by simp <;> omega) (cella _ (by simp <;> omega) (cella _ (by simp) ((cnewq rfl).trans rfl))) (cella _ (by simp <;> omega) (cella _ (by simp) ((cnewq rfl).trans rfl)))
  · exact rd_one (by simp <;> omega) fun q v hq => (cnewq (by simp)).trans (by simpa [encI] using hq)
  · exact rd_two (by simp <;> omega) (cella _ (by simp <;> omega) ((cnewq (by simp)).trans rfl)) (cella _ (by simp <;> omega) ((cnewq (by simp)).trans rfl))
  · rintro e W3 ⟨rfl, hb6⟩
    rw [cred12]
    have H11 := Lib.hid (nx (nx H10.out hb5) hb6)
    clear hb5 hb6
    go_wp2
    go_ret
    exact ⟨rfl, H11.out⟩
end Go.Proofs.Ytoclkhnejanlnaa
