/- The first thing that is wrong with a snapshot, as the program finds it. Conditions: the slices read as lists; the masks are within their kind. -/
import Derived.Test.YtoclkhnejanlnaaSome
namespace Go.Proofs.Ytoclkhnejanlnaa
set_option linter.unusedVariables false
open Go.RowKit
section
variable {ra ta ga : Option Addr} {rn rc tn tc gn gc : Nat} {s : Sn}
set_option maxHeartbeats 1000000 in
theorem wrong_any (k : Nat) (t : Tk) (w : World) : Calls Try.prog 25 #[.int .i64 (k : Int), .agg #[.int .i64 t.st, .int .i64 t.p, .int .u64 t.m, .int .i64 t.g]] w fun e w' => e = .returned (.bool (wrongH k t)) ∧ Below w.heap.size w w' := by
  have HM := Lib.hid (show wrongH k t = (t.st != 3 || t.p != (k : Int)) from rfl)
  cases h1 : (t.st != 3)
  · cases h2 : (t.p != (k : Int))
    · have HD := Lib.hid (show wrongH k t = false by rw [HM.out, h1, h2]; rfl)
      go_enter Try.func25, Try.ntmps25
      go_wp2
      go_ret
      exact ⟨by rw [HD.out]; rfl, belowA _ _⟩
    · have HD := Lib.hid (show wrongH k t = true by rw [HM.out, h2, Bool.or_true])
      go_enter Try.func25, Try.ntmps25
      go_wp2
      go_ret
      exact ⟨by rw [HD.out]; rfl, belowA _ _⟩
  · have HD := Lib.hid (show wrongH k t = true by rw [HM.out, h1]; rfl)
    go_enter Try.func25, Try.ntmps25
    go_wp2
    go_ret
    exact ⟨by rw [HD.out]; rfl, belowA _ _⟩
theorem mask_any (k : Nat) (t : Tk) (w : World) (h0 : 0 ≤ t.m) (h1 : t.m ≤ 18446744073709551615) : Calls Try.prog 28 #[.int .i64 (k : Int), .agg #[.int .i64 t.st, .int .i64 t.p, .int .u64 t.m, .int .i64 t.g]] w fun e w' => e = .returned (.bool (maskH k t)) ∧ Below w.heap.size w w' := by
  have hnot : ∀ (x : Bool) (w : World), (Op.unary .not (.bool x)).run Try.prog w = .ok (.bool (!x)) w := fun _ _ => rfl
  go_enter Try.func28, Try.ntmps28
  go_wp2_with fail
  refine (has_any t.m (k : Int) _ h0 h1).mono ?_
  rintro e w' ⟨rfl, rfl⟩
  go_wp2
  go_ret
  exact ⟨rfl, belowA _ _⟩
theorem runsB_neg (hl : s.run.length = rn) {i : Nat} (h : ¬ 0 ≤ (tat s.ts i).p) : runsB s i = false := by unfold runsB; rw [decide_eq_false h]; rfl
theorem runsB_far (hl : s.run.length = rn) {i : Nat} (h : ¬ (tat s.ts i).p < (rn : Int)) : runsB s i = false := by unfold runsB; rw [hl, decide_eq_false h]; simp
theorem runsB_in (hl : s.run.length = rn) {i m : Nat} (h : (tat s.ts i).p = m) (hm : m < rn) : runsB s i = (rat s.run m == (i : Int)) := by unfold runsB; rw [hl, h, decide_eq_true (by omega), decide_eq_true (by omega)]; rfl
set_option maxHeartbeats 2000000 in
theorem lost1_any (bx i : Nat) (w : World) (hs : Snp w.heap.size w s ra ta ga rn tn gn) (hi : i < tn) (d0 : w.cell? ⟨bx, 0, none⟩ = some (.slice ra rn rc)) (d1 : w.cell? ⟨bx, 1, none⟩ = some (.slice ta tn tc)) :
    Calls Try.prog 47 #[.int .i64 (i : Int), .pointer (some ⟨bx, 0, none⟩)] w fun e w' => e = .returned (.bool ((tat s.ts i).st == 3 && !runsB s i)) ∧ Below w.heap.size w w' := by
  have hnot : ∀ (x : Bool) (w : World), (Op.unary .not (.bool x)).run Try.prog w = .ok (.bool (!x)) w := fun _ _ => rfl
  obtain ⟨b, off, ha, hb, hc⟩ := hs.t.tks (by omega)
  subst ha
  obtain ⟨x0, x1, x2, x3⟩ := hc i hi
  have hi' : (i : Int) < (tn : Int) := by omega
  have hlt := World.block_lt_of_cell? w _ d0
  simp only at hlt
  have hrl := hs.r.1
  have HS := Lib.hid hs
  have e0 := cella (.cells #[.int .i64 (tat s.ts i).st, .int .i64 (tat s.ts i).p, .int .u64 (tat s.ts i).m, .int .i64 (tat s.ts i).g] 31) hlt d0
  clear hc hs
  by_cases hp : 0 ≤ (tat s.ts i).p
  · by_cases hp2 : (tat s.ts i).p < (rn : Int)
    · obtain ⟨m, hm⟩ := Int.eq_ofNat_of_zero_le hp
      have hmr : m < rn := by omega
      obtain ⟨b', off', ha', hb', hc'⟩ := HS.out.r.ints (by omega)
      have y0 := cella (.cells #[.int .i64 (tat s.ts i).st, .int .i64 (tat s.ts i).p, .int .u64 (tat s.ts i).m, .int .i64 (tat s.ts i).g] 31) hb' (hc' m hmr)
      have HD := Lib.hid (runsB_in hrl hm hmr)
      rw [hm] at y0 e0 x1 hp hp2
      subst ha'
      have HM := Lib.hid hm
      clear hc' hm hrl
      cases hr : (rat s.run m == (i : Int))
      all_goals
        have HE := Lib.hid (HD.out.trans hr)
        cases hst : ((tat s.ts i).st == 3)
        · go_enter Try.func47, Try.ntmps47
          go_wp2
          go_ret
          exact ⟨rfl, by rw [← HM.out]; exact belowA _ _⟩
        · go_enter Try.func47, Try.ntmps47
          go_wp2
          go_ret
          exact ⟨by rw [HE.out]; rfl, by rw [← HM.out]; exact belowA _ _⟩
    · have HE := Lib.hid (runsB_far hrl hp2)
      clear hrl
      cases hst : ((tat s.ts i).st == 3)
      · go_enter Try.func47, Try.ntmps47
        go_wp2
        go_ret
        exact ⟨rfl, belowA _ _⟩
      · go_enter Try.func47, Try.ntmps47
        go_wp2
        go_ret
        exact ⟨by rw [HE.out]; rfl, belowA _ _⟩
  · have HE := Lib.hid (runsB_neg hrl hp)
    clear hrl
    cases hst : ((tat s.ts i).st == 3)
    · go_enter Try.func47, Try.ntmps47
      go_wp2
      go_ret
      exact ⟨rfl, belowA _ _⟩
    · go_enter Try.func47, Try.ntmps47
      go_wp2
      go_ret
      exact ⟨by rw [HE.out]; rfl, belowA _ _⟩
theorem enters47 : Enters 47 := fun _ _ => by kernel_rfl
theorem lost_any (w : World) (hs : Snp w.heap.size w s ra ta ga rn tn gn) (hn : tn ≤ 1000) :
    Calls Try.prog 26 #[.agg #[.slice ra rn rc, .slice ta tn tc, .slice ga gn gc]] w fun e w' => e = .returned (.bool (lostB s)) ∧ Below w.heap.size w w' := by
  have HS := Lib.hid hs
  have HL := Lib.hid hs.t.1
  clear hs
  go_enter Try.func26, Try.ntmps26
  go_wp2_with fail
  refine (among_any 47 #[.pointer (some ⟨w.heap.size, 0, none⟩)] tn (fun i => (tat s.ts i).st == 3 && !runsB s i) _ (by omega) enters47 (fun k W hk hbW => ?_)).mono ?_
  · exact lost1_any (rc := rc) (tc := tc) w.heap.size k W ((HS.out.next (belowA _ _)).next hbW) hk (cellb hbW (by simp) (cnewb.trans rfl)) (cellb hbW (by simp) (cnewb.trans rfl))
  · rintro e w' ⟨rfl, hb1⟩
    have HB := Lib.hid (nx (belowA _ _) hb1)
    clear hb1
    go_wp2
    go_ret
    exact ⟨by unfold lostB; rw [HL.out]; rfl, HB.out⟩
set_option maxHeartbeats 1000000 in
theorem stop1_any (bs bp p m : Nat) (w : World) (hs : Rd encG w.heap.size w ga gn s.gs) (hok : SnOk s) (hm : m < gn) (d2 : w.cell? ⟨bs, 2, none⟩ = some (.slice ga gn gc)) (dp : w.cell? ⟨bp, 0, none⟩ = some (.int .i64 (p : Int))) :
    Calls Try.prog 48 #[.int .i64 (m : Int), .pointer (some ⟨bs, 0, none⟩), .pointer (some ⟨bp, 0, none⟩)] w fun e w' => e = .returned (.bool (hasB (gat s.gs m).stop p)) ∧ Below w.heap.size w w' := by
  obtain ⟨b, off, ha, hb, hc⟩ := hs.grs (by omega)
  subst ha
  obtain ⟨x0, x1⟩ := hc m hm
  have hm' : (m : Int) < (gn : Int) := by omega
  have hm0 : (0 : Int) ≤ (m : Int) := by omega
  have HO := Lib.hid (hok.2 m)
  clear hc hs hok
  go_enter Try.func48, Try.ntmps48
  go_wp2_with fail
  go_quiet ((go_at_call 29; exact Calls.quiet_of_same ((has_any _ _ _ HO.out.1 HO.out.2).mono fun e w' ⟨h1, h2⟩ => ⟨h1, h2.symm⟩)))
  go_wp2
  go_ret
  exact ⟨rfl, below_drewN (Below.refl _ _) _⟩
theorem enters48 : Enters 48 := fun _ _ => by kernel_rfl
theorem cnewq {W : World} {t j b : Nat} {C : Array Value} (h : b = W.heap.size) : (W.alloc (.cells C t)).cell? ⟨b, j, none⟩ = C[j]? := by subst h; exact cnewb
theorem any_list' {l : List Int} {f : Int → Bool} : (anyB l.length fun k => f (rat l k)) = l.any f := by
  rw [Bool.eq_iff_iff]
  simp only [anyB, List.any_eq_true, List.mem_range]
  constructor
  · rintro ⟨k, hk, h⟩
    exact ⟨rat l k, List.mem_of_getElem? (rat_at hk), h⟩
  · rintro ⟨x, hx, h⟩
    obtain ⟨k, hk⟩ := List.getElem?_of_mem hx
    have hl := (List.getElem?_eq_some_iff.1 hk).1
    refine ⟨k, hl, ?_⟩
    have := rat_at hl
    rw [hk] at this
    injection this with this
    rw [← this]; exact h
set_option maxHeartbeats 1000000 in
theorem stopped_any (p : Nat) (t : Tk) (w : World) (hs : Snp w.heap.size w s ra ta ga rn tn gn) (hok : SnOk s) (hn : gn ≤ 1000) :
    Calls Try.prog 31 #[.agg #[.slice ra rn rc, .slice ta tn tc, .slice ga gn gc], .int .i64 (p : Int), .agg #[.int .i64 t.st, .int .i64 t.p, .int .u64 t.m, .int .i64 t.g]] w fun e w' => e = .returned (.bool (stopH s p t)) ∧ Below w.heap.size w w' := by
  have HS := Lib.hid hs
  have HO := Lib.hid hok
  clear hs hok
  go_enter Try.func31, Try.ntmps31
  go_wp2_with fail
  have HB0 := Lib.hid (((belowA w (.cells #[.slice ra rn rc, .slice ta tn tc, .slice ga gn gc] 26)).alloc (by simp) (.cells #[.int .i64 (p : Int)] 3)).alloc (by simp; omega) (.cells #[.int .i64 t.st, .int .i64 t.p, .int .u64 t.m, .int .i64 t.g] 31))
  refine (above_any ga gn gc s.gs t.g _ (HS.out.g.next HB0.out) hn).mono ?_
  rintro e w1 ⟨⟨a', n', c', rfl, hn', hr⟩, hb⟩
  have HB := Lib.hid hb
  have HR := Lib.hid hr
  have HL := Lib.hid hr.1
  clear hb hr
  go_wp2_with fail
  refine (containsF_any 48 #[.pointer (some ⟨w.heap.size, 0, none⟩), .pointer (some ⟨w.heap.size + 1, 0, none⟩)] a' n' c' _ (fun k => hasB (gat s.gs (rat (above s.gs t.g) k).toNat).stop p) _ HR.out (by omega) enters48 (fun k W hk hbW => ?_)).mono ?_
  · obtain ⟨h0, h1⟩ := chain_in (List.mem_of_getElem? (rat_at (l := above s.gs t.g) (p := k) (by rw [HL.out]; exact hk)))
    obtain ⟨m, hm⟩ := Int.eq_ofNat_of_zero_le h0
    rw [HS.out.g.1] at h1
    simp only [hm, Int.toNat_natCast]
    have c2 := cellb hbW (o := 2) (b := w.heap.size) (by have := HB.out.size; simp at this; omega) (cellb HB.out (by simp; omega) (cella _ (by simp; omega) (cella _ (by simp) (cnewb.trans rfl))))
    have cp := cellb hbW (o := 0) (b := w.heap.size + 1) (by have := HB.out.size; simp at this; omega) (cellb HB.out (by simp) (cella _ (by simp) ((cnewq (by simp)).trans rfl)))
    exact stop1_any (gc := gc) w.heap.size (w.heap.size + 1) p m W (((HS.out.g.next HB0.out).next HB.out).next hbW) HO.out (by omega) c2 cp
  · rintro e w' ⟨rfl, hb1⟩
    have HB1 := Lib.hid (nx (nx HB0.out HB.out) hb1)
    clear hb1
    go_wp2
    go_ret
    exact ⟨by unfold stopH; rw [← any_list', HL.out]; rfl, HB1.out⟩
theorem enters25 : Enters 25 := fun _ _ => by kernel_rfl
theorem enters28 : Enters 28 := fun _ _ => by kernel_rfl
theorem enters31 : Enters 31 := fun _ _ => by kernel_rfl
section
variable (bx : Nat) (w : World) (hs : Snp w.heap.size w s ra ta ga rn tn gn) (hn : rn ≤ 1000) (d0 : w.cell? ⟨bx, 0, none⟩ = some (.slice ra rn rc)) (d1 : w.cell? ⟨bx, 1, none⟩ = some (.slice ta tn tc)) (d2 : w.cell? ⟨bx, 2, none⟩ = some (.slice ga gn gc))
include hs hn d0 d1 d2
theorem sound2_any : Calls Try.prog 23 #[.pointer (some ⟨bx, 0, none⟩)] w fun e w' => e = .returned (.bool (someB s wrongH)) ∧ Below w.heap.size w w' := by
  have HS := Lib.hid hs
  clear hs
  go_enter Try.func23, Try.ntmps23
  go_wp2_with fail
  refine (some_any 25 #[] wrongH _ HS.out hn enters25 (fun k W hk ho hb => ?_)).mono ?_
  · exact wrong_any k _ W
  · rintro e w' ⟨rfl, hb1⟩
    have HB1 := Lib.hid hb1
    clear hb1
    go_wp2
    go_ret
    exact ⟨rfl, HB1.out⟩
theorem sound3_any (hok : SnOk s) : Calls Try.prog 27 #[.pointer (some ⟨bx, 0, none⟩)] w fun e w' => e = .returned (.bool (someB s maskH)) ∧ Below w.heap.size w w' := by
  have HS := Lib.hid hs
  have HO := Lib.hid hok
  clear hs hok
  go_enter Try.func27, Try.ntmps27
  go_wp2_with fail
  refine (some_any 28 #[] maskH _ HS.out hn enters28 (fun k W hk ho hb => ?_)).mono ?_
  · exact mask_any k _ W (HO.out.1 _).1 (HO.out.1 _).2
  · rintro e w' ⟨rfl, hb1⟩
    have HB1 := Lib.hid hb1
    clear hb1
    go_wp2
    go_ret
    exact ⟨rfl, HB1.out⟩
theorem sound4_any (hok : SnOk s) (hg : gn ≤ 1000) : Calls Try.prog 30 #[.pointer (some ⟨bx, 0, none⟩)] w fun e w' => e = .returned (.bool (someB s (stopH s))) ∧ Below w.heap.size w w' := by
  have HS := Lib.hid hs
  have HO := Lib.hid hok
  clear hs hok
  go_enter Try.func30, Try.ntmps30
  go_wp2_with fail
  refine (some_any 31 #[.agg #[.slice ra rn rc, .slice ta tn tc, .slice ga gn gc]] (stopH s) _ HS.out hn enters31 (fun k W hk ho hb => ?_)).mono ?_
  · exact stopped_any k _ W (HS.out.next hb) HO.out hg
  · rintro e w' ⟨rfl, hb1⟩
    have HB1 := Lib.hid hb1
    clear hb1
    go_wp2
    go_ret
    exact ⟨rfl, HB1.out⟩
end
end
end Go.Proofs.Ytoclkhnejanlnaa
