/- audit.Sound: the first of the eight rules that is broken. Conditions: the slices read as lists; the masks are within their kind. -/
import Derived.Test.YtoclkhnejanlnaaSound
import Derived.Test.YtoclkhnejanlnaaLaws
namespace Go.Proofs.Ytoclkhnejanlnaa
set_option linter.unusedVariables false
open Go.RowKit
section
variable {ra ta ga : Option Addr} {rn rc tn tc gn gc : Nat} {s : Sn}
theorem many_no (h : rule s 0 = false) : s.run.length ≤ 64 ∧ s.ts.length ≤ 64 ∧ s.gs.length ≤ 32 ∧ 0 < s.gs.length := by
  simp [rule, manyB] at h
  have hne : s.gs.length ≠ 0 := by simpa using h.2.2.2
  omega
set_option maxRecDepth 100000 in
set_option maxHeartbeats 4000000 in
theorem sound_any (w : World) (hs : Snp w.heap.size w s ra ta ga rn tn gn) (hok : SnOk s) :
    Calls Try.prog 10 #[.agg #[.slice ra rn rc, .slice ta tn tc, .slice ga gn gc]] w fun e w' => e = .returned (.int .i64 (soundI s : Int)) ∧ Below w.heap.size w w' := by
  have HS := Lib.hid hs
  have HO := Lib.hid hok
  have HRL := Lib.hid hs.r.1
  have HTL := Lib.hid hs.t.1
  have HGL := Lib.hid hs.g.1
  clear hs hok
  go_enter Try.func10, Try.ntmps10
  go_wp2_with fail
  have facts : Below w.heap.size w ((w.alloc (.cells #[.slice ra rn rc, .slice ta tn tc, .slice ga gn gc] 26)).alloc (.cells #[.func (.func 17) #[.agg #[.slice ra rn rc, .slice ta tn tc, .slice ga gn gc]] #[], .func (.func 18) #[.agg #[.slice ra rn rc, .slice ta tn tc, .slice ga gn gc]] #[], .func (.func 19) #[.agg #[.slice ra rn rc, .slice ta tn tc, .slice ga gn gc]] #[], .func (.func 20) #[] #[.pointer (some ⟨w.heap.size, 0, none⟩)], .func (.func 23) #[] #[.pointer (some ⟨w.heap.size, 0, none⟩)], .func (.func 26) #[.agg #[.slice ra rn rc, .slice ta tn tc, .slice ga gn gc]] #[], .func (.func 27) #[] #[.pointer (some ⟨w.heap.size, 0, none⟩)], .func (.func 30) #[] #[.pointer (some ⟨w.heap.size, 0, none⟩)]] 27)) ∧ w.heap.size + 1 < ((w.alloc (.cells #[.slice ra rn rc, .slice ta tn tc, .slice ga gn gc] 26)).alloc (.cells #[.func (.func 17) #[.agg #[.slice ra rn rc, .slice ta tn tc, .slice ga gn gc]] #[], .func (.func 18) #[.agg #[.slice ra rn rc, .slice ta tn tc, .slice ga gn gc]] #[], .func (.func 19) #[.agg #[.slice ra rn rc, .slice ta tn tc, .slice ga gn gc]] #[], .func (.func 20) #[] #[.pointer (some ⟨w.heap.size, 0, none⟩)], .func (.func 23) #[] #[.pointer (some ⟨w.heap.size, 0, none⟩)], .func (.func 26) #[.agg #[.slice ra rn rc, .slice ta tn tc, .slice ga gn gc]] #[], .func (.func 27) #[] #[.pointer (some ⟨w.heap.size, 0, none⟩)], .func (.func 30) #[] #[.pointer (some ⟨w.heap.size, 0, none⟩)]] 27)).heap.size ∧ ((w.alloc (.cells #[.slice ra rn rc, .slice ta tn tc, .slice ga gn gc] 26)).alloc (.cells #[.func (.func 17) #[.agg #[.slice ra rn rc, .slice ta tn tc, .slice ga gn gc]] #[], .func (.func 18) #[.agg #[.slice ra rn rc, .slice ta tn tc, .slice ga gn gc]] #[], .func (.func 19) #[.agg #[.slice ra rn rc, .slice ta tn tc, .slice ga gn gc]] #[], .func (.func 20) #[] #[.pointer (some ⟨w.heap.size, 0, none⟩)], .func (.func 23) #[] #[.pointer (some ⟨w.heap.size, 0, none⟩)], .func (.func 26) #[.agg #[.slice ra rn rc, .slice ta tn tc, .slice ga gn gc]] #[], .func (.func 27) #[] #[.pointer (some ⟨w.heap.size, 0, none⟩)], .func (.func 30) #[] #[.pointer (some ⟨w.heap.size, 0, none⟩)]] 27)).cell? ⟨w.heap.size, 0, none⟩ = some (.slice ra rn rc) ∧ ((w.alloc (.cells #[.slice ra rn rc, .slice ta tn tc, .slice ga gn gc] 26)).alloc (.cells #[.func (.func 17) #[.agg #[.slice ra rn rc, .slice ta tn tc, .slice ga gn gc]] #[], .func (.func 18) #[.agg #[.slice ra rn rc, .slice ta tn tc, .slice ga gn gc]] #[], .func (.func 19) #[.agg #[.slice ra rn rc, .slice ta tn tc, .slice ga gn gc]] #[], .func (.func 20) #[] #[.pointer (some ⟨w.heap.size, 0, none⟩)], .func (.func 23) #[] #[.pointer (some ⟨w.heap.size, 0, none⟩)], .func (.func 26) #[.agg #[.slice ra rn rc, .slice ta tn tc, .slice ga gn gc]] #[], .func (.func 27) #[] #[.pointer (some ⟨w.heap.size, 0, none⟩)], .func (.func 30) #[] #[.pointer (some ⟨w.heap.size, 0, none⟩)]] 27)).cell? ⟨w.heap.size, 1, none⟩ = some (.slice ta tn tc) ∧ ((w.alloc (.cells #[.slice ra rn rc, .slice ta tn tc, .slice ga gn gc] 26)).alloc (.cells #[.func (.func 17) #[.agg #[.slice ra rn rc, .slice ta tn tc, .slice ga gn gc]] #[], .func (.func 18) #[.agg #[.slice ra rn rc, .slice ta tn tc, .slice ga gn gc]] #[], .func (.func 19) #[.agg #[.slice ra rn rc, .slice ta tn tc, .slice ga gn gc]] #[], .func (.func 20) #[] #[.pointer (some ⟨w.heap.size, 0, none⟩)], .func (.func 23) #[] #[.pointer (some ⟨w.heap.size, 0, none⟩)], .func (.func 26) #[.agg #[.slice ra rn rc, .slice ta tn tc, .slice ga gn gc]] #[], .func (.func 27) #[] #[.pointer (some ⟨w.heap.size, 0, none⟩)], .func (.func 30) #[] #[.pointer (some ⟨w.heap.size, 0, none⟩)]] 27)).cell? ⟨w.heap.size, 2, none⟩ = some (.slice ga gn gc) ∧ ((w.alloc (.cells #[.slice ra rn rc, .slice ta tn tc, .slice ga gn gc] 26)).alloc (.cells #[.func (.func 17) #[.agg #[.slice ra rn rc, .slice ta tn tc, .slice ga gn gc]] #[], .func (.func 18) #[.agg #[.slice ra rn rc, .slice ta tn tc, .slice ga gn gc]] #[], .func (.func 19) #[.agg #[.slice ra rn rc, .slice ta tn tc, .slice ga gn gc]] #[], .func (.func 20) #[] #[.pointer (some ⟨w.heap.size, 0, none⟩)], .func (.func 23) #[] #[.pointer (some ⟨w.heap.size, 0, none⟩)], .func (.func 26) #[.agg #[.slice ra rn rc, .slice ta tn tc, .slice ga gn gc]] #[], .func (.func 27) #[] #[.pointer (some ⟨w.heap.size, 0, none⟩)], .func (.func 30) #[] #[.pointer (some ⟨w.heap.size, 0, none⟩)]] 27)).cell? ⟨w.heap.size + 1, 0, none⟩ = some (.func (.func 17) #[.agg #[.slice ra rn rc, .slice ta tn tc, .slice ga gn gc]] #[]) ∧ ((w.alloc (.cells #[.slice ra rn rc, .slice ta tn tc, .slice ga gn gc] 26)).alloc (.cells #[.func (.func 17) #[.agg #[.slice ra rn rc, .slice ta tn tc, .slice ga gn gc]] #[], .func (.func 18) #[.agg #[.slice ra rn rc, .slice ta tn tc, .slice ga gn gc]] #[], .func (.func 19) #[.agg #[.slice ra rn rc, .slice ta tn tc, .slice ga gn gc]] #[], .func (.func 20) #[] #[.pointer (some ⟨w.heap.size, 0, none⟩)], .func (.func 23) #[] #[.pointer (some ⟨w.heap.size, 0, none⟩)], .func (.func 26) #[.agg #[.slice ra rn rc, .slice ta tn tc, .slice ga gn gc]] #[], .func (.func 27) #[] #[.pointer (some ⟨w.heap.size, 0, none⟩)], .func (.func 30) #[] #[.pointer (some ⟨w.heap.size, 0, none⟩)]] 27)).cell? ⟨w.heap.size + 1, 1, none⟩ = some (.func (.func 18) #[.agg #[.slice ra rn rc, .slice ta tn tc, .slice ga gn gc]] #[]) ∧ ((w.alloc (.cells #[.slice ra rn rc, .slice ta tn tc, .slice ga gn gc] 26)).alloc (.cells #[.func (.func 17) #[.agg #[.slice ra rn rc, .slice ta tn tc, .slice ga gn gc]] #[], .func (.func 18) #[.agg #[.slice ra rn rc, .slice ta tn tc, .slice ga gn gc]] #[], .func (.func 19) #[.agg #[.slice ra rn rc, .slice ta tn tc, .slice ga gn gc]] #[], .func (.func 20) #[] #[.pointer (some ⟨w.heap.size, 0, none⟩)], .func (.func 23) #[] #[.pointer (some ⟨w.heap.size, 0, none⟩)], .func (.func 26) #[.agg #[.slice ra rn rc, .slice ta tn tc, .slice ga gn gc]] #[], .func (.func 27) #[] #[.pointer (some ⟨w.heap.size, 0, none⟩)], .func (.func 30) #[] #[.pointer (some ⟨w.heap.size, 0, none⟩)]] 27)).cell? ⟨w.heap.size + 1, 2, none⟩ = some (.func (.func 19) #[.agg #[.slice ra rn rc, .slice ta tn tc, .slice ga gn gc]] #[]) ∧ ((w.alloc (.cells #[.slice ra rn rc, .slice ta tn tc, .slice ga gn gc] 26)).alloc (.cells #[.func (.func 17) #[.agg #[.slice ra rn rc, .slice ta tn tc, .slice ga gn gc]] #[], .func (.func 18) #[.agg #[.slice ra rn rc, .slice ta tn tc, .slice ga gn gc]] #[], .func (.func 19) #[.agg #[.slice ra rn rc, .slice ta tn tc, .slice ga gn gc]] #[], .func (.func 20) #[] #[.pointer (some ⟨w.heap.size, 0, none⟩)], .func (.func 23) #[] #[.pointer (some ⟨w.heap.size, 0, none⟩)], .func (.func 26) #[.agg #[.slice ra rn rc, .slice ta tn tc, .slice ga gn gc]] #[], .func (.func 27) #[] #[.pointer (some ⟨w.heap.size, 0, none⟩)], .func (.func 30) #[] #[.pointer (some ⟨w.heap.size, 0, none⟩)]] 27)).cell? ⟨w.heap.size + 1, 3, none⟩ = some (.func (.func 20) #[] #[.pointer (some ⟨w.heap.size, 0, none⟩)]) ∧ ((w.alloc (.cells #[.slice ra rn rc, .slice ta tn tc, .slice ga gn gc] 26)).alloc (.cells #[.func (.func 17) #[.agg #[.slice ra rn rc, .slice ta tn tc, .slice ga gn gc]] #[], .func (.func 18) #[.agg #[.slice ra rn rc, .slice ta tn tc, .slice ga gn gc]] #[], .func (.func 19) #[.agg #[.slice ra rn rc, .slice ta tn tc, .slice ga gn gc]] #[], .func (.func 20) #[] #[.pointer (some ⟨w.heap.size, 0, none⟩)], .func (.func 23) #[] #[.pointer (some ⟨w.heap.size, 0, none⟩)], .func (.func 26) #[.agg #[.slice ra rn rc, .slice ta tn tc, .slice ga gn gc]] #[], .func (.func 27) #[] #[.pointer (some ⟨w.heap.size, 0, none⟩)], .func (.func 30) #[] #[.pointer (some ⟨w.heap.size, 0, none⟩)]] 27)).cell? ⟨w.heap.size + 1, 4, none⟩ = some (.func (.func 23) #[] #[.pointer (some ⟨w.heap.size, 0, none⟩)]) ∧ ((w.alloc (.cells #[.slice ra rn rc, .slice ta tn tc, .slice ga gn gc] 26)).alloc (.cells #[.func (.func 17) #[.agg #[.slice ra rn rc, .slice ta tn tc, .slice ga gn gc]] #[], .func (.func 18) #[.agg #[.slice ra rn rc, .slice ta tn tc, .slice ga gn gc]] #[], .func (.func 19) #[.agg #[.slice ra rn rc, .slice ta tn tc, .slice ga gn gc]] #[], .func (.func 20) #[] #[.pointer (some ⟨w.heap.size, 0, none⟩)], .func (.func 23) #[] #[.pointer (some ⟨w.heap.size, 0, none⟩)], .func (.func 26) #[.agg #[.slice ra rn rc, .slice ta tn tc, .slice ga gn gc]] #[], .func (.func 27) #[] #[.pointer (some ⟨w.heap.size, 0, none⟩)], .func (.func 30) #[] #[.pointer (some ⟨w.heap.size, 0, none⟩)]] 27)).cell? ⟨w.heap.size + 1, 5, none⟩ = some (.func (.func 26) #[.agg #[.slice ra rn rc, .slice ta tn tc, .slice ga gn gc]] #[]) ∧ ((w.alloc (.cells #[.slice ra rn rc, .slice ta tn tc, .slice ga gn gc] 26)).alloc (.cells #[.func (.func 17) #[.agg #[.slice ra rn rc, .slice ta tn tc, .slice ga gn gc]] #[], .func (.func 18) #[.agg #[.slice ra rn rc, .slice ta tn tc, .slice ga gn gc]] #[], .func (.func 19) #[.agg #[.slice ra rn rc, .slice ta tn tc, .slice ga gn gc]] #[], .func (.func 20) #[] #[.pointer (some ⟨w.heap.size, 0, none⟩)], .func (.func 23) #[] #[.pointer (some ⟨w.heap.size, 0, none⟩)], .func (.func 26) #[.agg #[.slice ra rn rc, .slice ta tn tc, .slice ga gn gc]] #[], .func (.func 27) #[] #[.pointer (some ⟨w.heap.size, 0, none⟩)], .func (.func 30) #[] #[.pointer (some ⟨w.heap.size, 0, none⟩)]] 27)).cell? ⟨w.heap.size + 1, 6, none⟩ = some (.func (.func 27) #[] #[.pointer (some ⟨w.heap.size, 0, none⟩)]) ∧ ((w.alloc (.cells #[.slice ra rn rc, .slice ta tn tc, .slice ga gn gc] 26)).alloc (.cells #[.func (.func 17) #[.agg #[.slice ra rn rc, .slice ta tn tc, .slice ga gn gc]] #[], .func (.func 18) #[.agg #[.slice ra rn rc, .slice ta tn tc, .slice ga gn gc]] #[], .func (.func 19) #[.agg #[.slice ra rn rc, .slice ta tn tc, .slice ga gn gc]] #[], .func (.func 20) #[] #[.pointer (some ⟨w.heap.size, 0, none⟩)], .func (.func 23) #[] #[.pointer (some ⟨w.heap.size, 0, none⟩)], .func (.func 26) #[.agg #[.slice ra rn rc, .slice ta tn tc, .slice ga gn gc]] #[], .func (.func 27) #[] #[.pointer (some ⟨w.heap.size, 0, none⟩)], .func (.func 30) #[] #[.pointer (some ⟨w.heap.size, 0, none⟩)]] 27)).cell? ⟨w.heap.size + 1, 7, none⟩ = some (.func (.func 30) #[] #[.pointer (some ⟨w.heap.size, 0, none⟩)]) := by
    refine ⟨(belowA w _).alloc (by simp) _, by simp, cella _ (by simp) (cnewb.trans rfl), cella _ (by simp) (cnewb.trans rfl), cella _ (by simp) (cnewb.trans rfl), (cnewq (by simp)).trans rfl, (cnewq (by simp)).trans rfl, (cnewq (by simp)).trans rfl, (cnewq (by simp)).trans rfl, (cnewq (by simp)).trans rfl, (cnewq (by simp)).trans rfl, (cnewq (by simp)).trans rfl, (cnewq (by simp)).trans rfl⟩
  generalize ((w.alloc (.cells #[.slice ra rn rc, .slice ta tn tc, .slice ga gn gc] 26)).alloc (.cells #[.func (.func 17) #[.agg #[.slice ra rn rc, .slice ta tn tc, .slice ga gn gc]] #[], .func (.func 18) #[.agg #[.slice ra rn rc, .slice ta tn tc, .slice ga gn gc]] #[], .func (.func 19) #[.agg #[.slice ra rn rc, .slice ta tn tc, .slice ga gn gc]] #[], .func (.func 20) #[] #[.pointer (some ⟨w.heap.size, 0, none⟩)], .func (.func 23) #[] #[.pointer (some ⟨w.heap.size, 0, none⟩)], .func (.func 26) #[.agg #[.slice ra rn rc, .slice ta tn tc, .slice ga gn gc]] #[], .func (.func 27) #[] #[.pointer (some ⟨w.heap.size, 0, none⟩)], .func (.func 30) #[] #[.pointer (some ⟨w.heap.size, 0, none⟩)]] 27)) = W2 at facts ⊢
  obtain ⟨g0, g1, b0, b1, b2, q0, q1, q2, q3, q4, q5, q6, q7⟩ := facts
  have HW := Lib.hid g0
  have Hb0 := Lib.hid b0
  have Hb1 := Lib.hid b1
  have Hb2 := Lib.hid b2
  have Hq0 := Lib.hid q0
  have Hq1 := Lib.hid q1
  have Hq2 := Lib.hid q2
  have Hq3 := Lib.hid q3
  have Hq4 := Lib.hid q4
  have Hq5 := Lib.hid q5
  have Hq6 := Lib.hid q6
  have Hq7 := Lib.hid q7
  clear g0 b0 b1 b2 q0 q1 q2 q3 q4 q5 q6 q7
  go_loopw [21] (fun i wr => ∃ k : Nat, k ≤ 8 ∧ i = .int .i64 k ∧ (∀ j, j < k → rule s j = false) ∧ Below W2.heap.size W2 wr) (fun i _ => 8 - (intOf i).toNat)
  case atStart => exact ⟨0, Nat.zero_le _, rfl, fun q h => by omega, Below.refl _ _⟩
  case round =>
    obtain ⟨k, hk, rfl, hq, hB⟩ := hrel
    have HQ := Lib.hid hq
    have HB := Lib.hid hB
    have HSW := Lib.hid ((HS.out.next HW.out).next hB)
    have e0 := cellb hB (by omega) Hb0.out
    have e1 := cellb hB (by omega) Hb1.out
    have e2 := cellb hB (by omega) Hb2.out
    have HK := Lib.hid (fun h : 0 < k => many_no (hq 0 h))
    clear hq hB
    have hk8 : k = 0 ∨ k = 1 ∨ k = 2 ∨ k = 3 ∨ k = 4 ∨ k = 5 ∨ k = 6 ∨ k = 7 ∨ k = 8 := by omega
    rcases hk8 with rfl | rfl | rfl | rfl | rfl | rfl | rfl | rfl | rfl
    · have q := cellb HB.out (by omega) Hq0.out
      go_wp2_with fail
      refine (many_any _ HRL.out HTL.out HGL.out).mono ?_
      rintro e W1 ⟨rfl, hb1⟩
      have HB1 := Lib.hid (nx HB.out hb1)
      clear hb1
      cases hh : manyB s
      · have HH := Lib.hid (show rule s 0 = false from hh)
        clear hh
        go_wp2
        go_roundw
        case rel => exact ⟨1, by omega, by go_num, fun j hj => by
          by_cases e : j = 0
          · subst e; exact HH.out
          · exact HQ.out j (by omega), HB1.out⟩
        case measure => simp [intOf]
      · have HH := Lib.hid (sound_at (s := s) (k := 0) (by omega) hh HQ.out)
        clear hh
        go_wp2
        go_ret
        exact ⟨by rw [HH.out]; rfl, nx HW.out HB1.out⟩
    · have q := cellb HB.out (by omega) Hq1.out
      obtain ⟨m1, m2, m3, m4⟩ := HK.out (by omega)
      rw [HRL.out] at m1
      rw [HTL.out] at m2
      rw [HGL.out] at m3 m4
      go_wp2_with fail
      refine (loose_any _ HSW.out (by omega) (by omega)).mono ?_
      rintro e W1 ⟨rfl, hb1⟩
      have HB1 := Lib.hid (nx HB.out hb1)
      clear hb1
      cases hh : looseB s
      · have HH := Lib.hid (show rule s 1 = false from hh)
        clear hh
        go_wp2
        go_roundw
        case rel => exact ⟨2, by omega, by go_num, fun j hj => by
          by_cases e : j = 1
          · subst e; exact HH.out
          · exact HQ.out j (by omega), HB1.out⟩
        case measure => simp [intOf]
      · have HH := Lib.hid (sound_at (s := s) (k := 1) (by omega) hh HQ.out)
        clear hh
        go_wp2
        go_ret
        exact ⟨by rw [HH.out]; rfl, nx HW.out HB1.out⟩
    · have q := cellb HB.out (by omega) Hq2.out
      obtain ⟨m1, m2, m3, m4⟩ := HK.out (by omega)
      rw [HRL.out] at m1
      rw [HTL.out] at m2
      rw [HGL.out] at m3 m4
      go_wp2_with fail
      refine (odd_any _ HSW.out (by omega)).mono ?_
      rintro e W1 ⟨rfl, hb1⟩
      have HB1 := Lib.hid (nx HB.out hb1)
      clear hb1
      cases hh : oddB s
      · have HH := Lib.hid (show rule s 2 = false from hh)
        clear hh
        go_wp2
        go_roundw
        case rel => exact ⟨3, by omega, by go_num, fun j hj => by
          by_cases e : j = 2
          · subst e; exact HH.out
          · exact HQ.out j (by omega), HB1.out⟩
        case measure => simp [intOf]
      · have HH := Lib.hid (sound_at (s := s) (k := 2) (by omega) hh HQ.out)
        clear hh
        go_wp2
        go_ret
        exact ⟨by rw [HH.out]; rfl, nx HW.out HB1.out⟩
    · have q := cellb HB.out (by omega) Hq3.out
      obtain ⟨m1, m2, m3, m4⟩ := HK.out (by omega)
      rw [HRL.out] at m1
      rw [HTL.out] at m2
      rw [HGL.out] at m3 m4
      go_wp2_with fail
      refine (off_any w.heap.size _ HSW.out (by omega) e0 e1).mono ?_
      rintro e W1 ⟨rfl, hb1⟩
      have HB1 := Lib.hid (nx HB.out hb1)
      clear hb1
      cases hh : offB s
      · have HH := Lib.hid (show rule s 3 = false from hh)
        clear hh
        go_wp2
        go_roundw
        case rel => exact ⟨4, by omega, by go_num, fun j hj => by
          by_cases e : j = 3
          · subst e; exact HH.out
          · exact HQ.out j (by omega), HB1.out⟩
        case measure => simp [intOf]
      · have HH := Lib.hid (sound_at (s := s) (k := 3) (by omega) hh HQ.out)
        clear hh
        go_wp2
        go_ret
        exact ⟨by rw [HH.out]; rfl, nx HW.out HB1.out⟩
    · have q := cellb HB.out (by omega) Hq4.out
      obtain ⟨m1, m2, m3, m4⟩ := HK.out (by omega)
      rw [HRL.out] at m1
      rw [HTL.out] at m2
      rw [HGL.out] at m3 m4
      go_wp2_with fail
      refine (sound2_any w.heap.size _ HSW.out (by omega) e0 e1 e2).mono ?_
      rintro e W1 ⟨rfl, hb1⟩
      have HB1 := Lib.hid (nx HB.out hb1)
      clear hb1
      cases hh : someB s wrongH
      · have HH := Lib.hid (show rule s 4 = false from hh)
        clear hh
        go_wp2
        go_roundw
        case rel => exact ⟨5, by omega, by go_num, fun j hj => by
          by_cases e : j = 4
          · subst e; exact HH.out
          · exact HQ.out j (by omega), HB1.out⟩
        case measure => simp [intOf]
      · have HH := Lib.hid (sound_at (s := s) (k := 4) (by omega) hh HQ.out)
        clear hh
        go_wp2
        go_ret
        exact ⟨by rw [HH.out]; rfl, nx HW.out HB1.out⟩
    · have q := cellb HB.out (by omega) Hq5.out
      obtain ⟨m1, m2, m3, m4⟩ := HK.out (by omega)
      rw [HRL.out] at m1
      rw [HTL.out] at m2
      rw [HGL.out] at m3 m4
      go_wp2_with fail
      refine (lost_any _ HSW.out (by omega)).mono ?_
      rintro e W1 ⟨rfl, hb1⟩
      have HB1 := Lib.hid (nx HB.out hb1)
      clear hb1
      cases hh : lostB s
      · have HH := Lib.hid (show rule s 5 = false from hh)
        clear hh
        go_wp2
        go_roundw
        case rel => exact ⟨6, by omega, by go_num, fun j hj => by
          by_cases e : j = 5
          · subst e; exact HH.out
          · exact HQ.out j (by omega), HB1.out⟩
        case measure => simp [intOf]
      · have HH := Lib.hid (sound_at (s := s) (k := 5) (by omega) hh HQ.out)
        clear hh
        go_wp2
        go_ret
        exact ⟨by rw [HH.out]; rfl, nx HW.out HB1.out⟩
    · have q := cellb HB.out (by omega) Hq6.out
      obtain ⟨m1, m2, m3, m4⟩ := HK.out (by omega)
      rw [HRL.out] at m1
      rw [HTL.out] at m2
      rw [HGL.out] at m3 m4
      go_wp2_with fail
      refine (sound3_any w.heap.size _ HSW.out (by omega) e0 e1 e2 HO.out).mono ?_
      rintro e W1 ⟨rfl, hb1⟩
      have HB1 := Lib.hid (nx HB.out hb1)
      clear hb1
      cases hh : someB s maskH
      · have HH := Lib.hid (show rule s 6 = false from hh)
        clear hh
        go_wp2
        go_roundw
        case rel => exact ⟨7, by omega, by go_num, fun j hj => by
          by_cases e : j = 6
          · subst e; exact HH.out
          · exact HQ.out j (by omega), HB1.out⟩
        case measure => simp [intOf]
      · have HH := Lib.hid (sound_at (s := s) (k := 6) (by omega) hh HQ.out)
        clear hh
        go_wp2
        go_ret
        exact ⟨by rw [HH.out]; rfl, nx HW.out HB1.out⟩
    · have q := cellb HB.out (by omega) Hq7.out
      obtain ⟨m1, m2, m3, m4⟩ := HK.out (by omega)
      rw [HRL.out] at m1
      rw [HTL.out] at m2
      rw [HGL.out] at m3 m4
      go_wp2_with fail
      refine (sound4_any w.heap.size _ HSW.out (by omega) e0 e1 e2 HO.out (by omega)).mono ?_
      rintro e W1 ⟨rfl, hb1⟩
      have HB1 := Lib.hid (nx HB.out hb1)
      clear hb1
      cases hh : someB s (stopH s)
      · have HH := Lib.hid (show rule s 7 = false from hh)
        clear hh
        go_wp2
        go_roundw
        case rel => exact ⟨8, by omega, by go_num, fun j hj => by
          by_cases e : j = 7
          · subst e; exact HH.out
          · exact HQ.out j (by omega), HB1.out⟩
        case measure => simp [intOf]
      · have HH := Lib.hid (sound_at (s := s) (k := 7) (by omega) hh HQ.out)
        clear hh
        go_wp2
        go_ret
        exact ⟨by rw [HH.out]; rfl, nx HW.out HB1.out⟩
    · have HH := Lib.hid (sound_all HQ.out)
      go_wp2
      go_ret
      exact ⟨by rw [HH.out]; rfl, nx HW.out HB.out⟩
end
end Go.Proofs.Ytoclkhnejanlnaa
