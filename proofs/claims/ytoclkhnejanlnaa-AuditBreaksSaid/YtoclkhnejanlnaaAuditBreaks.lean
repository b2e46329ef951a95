/- AuditBreaks: at every input the law returns true and leaves its arguments as they were: a sound snapshot in which a task runs gets unsound with that task elsewhere, asleep, off its mask, or stopped by a group above it, each by its own number. Conditions: none beyond the row's own. -/
import Derived.Test.YtoclkhnejanlnaaRows
import Derived.Test.YtoclkhnejanlnaaSnap
import Derived.Test.YtoclkhnejanlnaaVary
import Derived.Deep.Cut
import Derived.WalkKit
import Derived.Deep.QuietTactic
import Derived.BigQuiet
import Derived.ProofKit
import Derived.OpenShut
import Derived.ShutString
import Derived.ChangeOld
import Derived.Below
namespace Go.Proofs.Ytoclkhnejanlnaa.auditBreaks
open Go.ChangeShapes Go.WideShapes Go.ChangeAt Go.RowKit
open Go.ChangeMaps (open_string shut_string)
set_option linter.unusedVariables false

theorem own : ownKnob Try.prog.godebug = none := by kernel_rfl
theorem laidOut : laidOutB Try.prog = true := by kernel_rfl

set_option maxRecDepth 100000 in
set_option maxHeartbeats 8000000 in
theorem walk (a0 : Value) (z0 : Sn) (a1 : Int) (w : World) (w0 : IsSnap w a0 z0) (w1 : (Lit.int .u8 a1).wf = true) :
    Calls Try.prog 4 #[a0, .int .u8 a1] w fun e w' => e = .returned (.bool true) ∧ Below w.heap.size w w' := by
  obtain ⟨ra, ta, ga, rn, rc, tn, tc, gn, gc, rfl, hs, hok, hr, ht, hg⟩ := w0
  have HS := Lib.hid hs
  have HO := Lib.hid hok
  have HGL := Lib.hid hs.g.1
  have HRL := Lib.hid hs.r.1
  have HTL := Lib.hid hs.t.1
  have HRN := Lib.hid hr.2.2
  have HTN := Lib.hid ht.2.2
  have HGN := Lib.hid hg.2.2
  have hA := bounds_u8 w1
  obtain ⟨x, rfl⟩ := Int.eq_ofNat_of_zero_le hA.1
  clear hs hok hr ht hg w1
  by_cases h100 : (100 : Int) < (gn : Int)
  · go_enter Try.func4, Try.ntmps4
    go_wp2_with fail
    refine (shown_any _).mono ?_
    rintro e W1 ⟨rfl, hb1⟩
    have HB1 := Lib.hid (nx (belowA _ _) hb1)
    have c2 := cellb hb1 (o := 2) (b := w.heap.size) (by simp) (cnewb.trans rfl)
    clear hb1
    go_wp2
    go_ret
    exact ⟨rfl, HB1.out⟩
  · go_enter Try.func4, Try.ntmps4
    go_wp2_with fail
    refine (shown_any _).mono ?_
    rintro e W1 ⟨rfl, hb1⟩
    have HB1 := Lib.hid (nx (belowA _ _) hb1)
    have c0 := cellb hb1 (o := 0) (b := w.heap.size) (by simp) (cnewb.trans rfl)
    have c1 := cellb hb1 (o := 1) (b := w.heap.size) (by simp) (cnewb.trans rfl)
    have c2 := cellb hb1 (o := 2) (b := w.heap.size) (by simp) (cnewb.trans rfl)
    have hlt1 : w.heap.size < W1.heap.size := by have := hb1.size; simp at this; omega
    clear hb1
    go_wp2_with fail
    refine (sound_any _ (HS.out.next HB1.out) HO.out).mono ?_
    rintro e W2 ⟨rfl, hb2⟩
    have HB2 := Lib.hid (nx HB1.out hb2)
    have d0 := cellb hb2 hlt1 c0
    have d1 := cellb hb2 hlt1 c1
    have d2 := cellb hb2 hlt1 c2
    have hlt2 : w.heap.size < W2.heap.size := Nat.lt_of_lt_of_le hlt1 hb2.size
    clear hb2 c0 c1 c2 hlt1
    cases hz : (((soundI z0 : Nat) : Int) != 0)
    · have h0 : soundI z0 = 0 := by simpa using hz
      have HZ := Lib.hid h0
      clear h0
      have hsz := sound_sizes HZ.out
      have hrn : rn ≤ 64 := by rw [← HRL.out]; exact hsz.1
      have htn : tn ≤ 64 := by rw [← HTL.out]; exact hsz.2.1
      have hgn : gn ≤ 32 := by rw [← HGL.out]; exact hsz.2.2.1
      have hg0 : 0 < gn := by rw [← HGL.out]; exact hsz.2.2.2
      clear hsz
      cases hne : ((rn : Int) == 0)
      · have hr0 : 0 < rn := by simp at hne; omega
        obtain ⟨K, hK, hKl⟩ : ∃ X : Nat, (x : Int) % (rn : Int) = X ∧ X < rn := ⟨x % rn, by simp, Nat.mod_lt _ hr0⟩
        obtain ⟨b, off, ha, hb, hc⟩ := HS.out.r.ints hr0
        subst ha
        have e0 := cellb HB2.out hb (hc K hKl)
        have hK' : (K : Int) < (rn : Int) := by omega
        clear hc
        by_cases ht0 : rat z0.run K < 0
        · go_wp2
          go_ret
          exact ⟨rfl, HB2.out⟩
        · obtain ⟨t, hon⟩ := sound_on HZ.out (p := K) (by rw [HRL.out]; exact hKl) (by omega)
          have htl : t < tn := by rw [← HTL.out]; exact hon.lt
          have htl' : (t : Int) < (tn : Int) := by omega
          rw [hon.run] at e0
          have HON := Lib.hid hon
          clear hon ht0
          have htt := tat_at (l := z0.ts) (p := t) (by rw [HTL.out]; exact htl)
          have hrt := rat_at (l := z0.run) (p := K) (by rw [HRL.out]; exact hKl)
          have hgt := gat_at (l := z0.gs) (p := 0) (by rw [HGL.out]; exact hg0)
          have HTT := Lib.hid htt
          have HRT := Lib.hid hrt
          have HGT := Lib.hid hgt
          have ht0 : 0 < tn := by omega
          have hK64 : (K : Int) < 64 := by omega
          clear htt hrt hgt
          go_upto_region 8 with fail
          rw [hK]
          have HK := Lib.hid hK
          clear hK
          have HS3 := Lib.hid ((HS.out.next HB2.out).next ((belowA W2 (.cells #[.slice (some ⟨b, off, none⟩) rn rc, .slice ta tn tc, .slice ga gn gc] 26)).alloc (by simp) (.cells #[] 31)))
          have HE3 := Lib.hid (show Own encT ((W2.alloc (.cells #[.slice (some ⟨b, off, none⟩) rn rc, .slice ta tn tc, .slice ga gn gc] 26)).alloc (.cells #[] 31)) (W2.heap.size + 1) 31 (.slice (some ⟨W2.heap.size + 1, 0, none⟩) 0 0) 0 [] by
            have h := own_empty (E := encT) (W2.alloc (.cells #[.slice (some ⟨b, off, none⟩) rn rc, .slice ta tn tc, .slice ga gn gc] 26)) (W2.heap.size + 1) 31 (by simp)
            simpa using h)
          go_upto_region 11 with ((at_builtin; refine append_copy Try.underlying23 info31 rfl rfl _ _ rfl (W2.heap.size + 1) _ 0 [] rfl HE3.out ta tn tc z0.ts rfl HTN.out HS3.out.t (by omega) (by omega) (by simp) ?_; intro v' u3 hown' hgrow; obtain ⟨g3, cap3, rfl, hnc, hcm, hgw, k0, k1, k2, k3, kk⟩ := phase_any (E := encT) (n := tn) (zs := z0.ts) (f := 1) (j := t) (q := 0) (p := t * 4) (z' := ⟨1, (tat z0.ts t).p, (tat z0.ts t).m, (tat z0.ts t).g⟩) (x := .int .i64 1) ht0 (by simpa using hown') hgrow (by simp) HTT.out (by decide) rfl (by simp [encT]); have k2' := k2.trans (show _ = some (.int .i64 (tat z0.ts t).st) from rfl); have c0 := (k0 0).trans rfl; have c1 := (k0 1).trans rfl; have c2 := (k0 2).trans rfl; have f0 := k1 1; have HKK := Lib.hid kk; clear k0 k1 k2 kk hown' hgrow))
          have hX := HKK.out
          clear HKK hnc hcm hgw k2' k3 c0 c1 c2 f0 HS3 HE3
          generalize ((u3.setCell ⟨W2.heap.size, 1, none⟩ (.slice (some ⟨g3, 0, none⟩) tn cap3)).setCell ⟨g3, t * 4, none⟩ (.int .i64 1)) = W3 at hX ⊢
          obtain ⟨x1, x2, x3, x4, x5⟩ := hX
          have HB3 := Lib.hid (nx HB2.out x1)
          have D0 := cellb x1 hlt2 d0
          have D1 := cellb x1 hlt2 d1
          have D2 := cellb x1 hlt2 d2
          have hlt2 := Nat.lt_of_lt_of_le hlt2 x1.size
          clear d0 d1 d2
          have d0 := D0
          have d1 := D1
          have d2 := D2
          clear D0 D1 D2
          have HV3 := Lib.hid (show Kept W3 W2.heap.size #[(.slice (some ⟨b, off, none⟩) rn rc), (.slice (some ⟨g3, 0, none⟩) tn cap3), (.slice ga gn gc)] encT (some ⟨g3, 0, none⟩) tn (z0.ts.set t ⟨1, (tat z0.ts t).p, (tat z0.ts t).m, (tat z0.ts t).g⟩) from ⟨x5, (x2 0 (by decide)).trans rfl, x3, (x2 2 (by decide)).trans rfl, x4⟩)
          clear x1 x2 x3 x4 x5
          have HS4 := Lib.hid ((HS.out.next HB3.out).next ((belowA W3 (.cells #[.slice (some ⟨b, off, none⟩) rn rc, .slice ta tn tc, .slice ga gn gc] 26)).alloc (by simp) (.cells #[] 31)))
          have HE4 := Lib.hid (show Own encT ((W3.alloc (.cells #[.slice (some ⟨b, off, none⟩) rn rc, .slice ta tn tc, .slice ga gn gc] 26)).alloc (.cells #[] 31)) (W3.heap.size + 1) 31 (.slice (some ⟨W3.heap.size + 1, 0, none⟩) 0 0) 0 [] by
            have h := own_empty (E := encT) (W3.alloc (.cells #[.slice (some ⟨b, off, none⟩) rn rc, .slice ta tn tc, .slice ga gn gc] 26)) (W3.heap.size + 1) 31 (by simp)
            simpa using h)
          go_upto_region 14 with ((at_builtin; refine append_copy Try.underlying23 info31 rfl rfl _ _ rfl (W3.heap.size + 1) _ 0 [] rfl HE4.out ta tn tc z0.ts rfl HTN.out HS4.out.t (by omega) (by omega) (by simp) ?_; intro v' u4 hown' hgrow; obtain ⟨g4, cap4, rfl, hnc, hcm, hgw, k0, k1, k2, k3, kk⟩ := phase_any (E := encT) (n := tn) (zs := z0.ts) (f := 1) (j := t) (q := 2) (p := t * 4 + 2) (z' := ⟨(tat z0.ts t).st, (tat z0.ts t).p, 0, (tat z0.ts t).g⟩) (x := .int .u64 0) ht0 (by simpa using hown') hgrow (by simp) HTT.out (by decide) rfl (by simp [encT]); have k2' := k2.trans (show _ = some (.int .u64 (tat z0.ts t).m) from rfl); have c0 := (k0 0).trans rfl; have c1 := (k0 1).trans rfl; have c2 := (k0 2).trans rfl; have f0 := k1 1; have HKK := Lib.hid kk; clear k0 k1 k2 kk hown' hgrow))
          have hX := HKK.out
          clear HKK hnc hcm hgw k2' k3 c0 c1 c2 f0 HS4 HE4
          generalize ((u4.setCell ⟨W3.heap.size, 1, none⟩ (.slice (some ⟨g4, 0, none⟩) tn cap4)).setCell ⟨g4, t * 4 + 2, none⟩ (.int .u64 0)) = W4 at hX ⊢
          obtain ⟨x1, x2, x3, x4, x5⟩ := hX
          have HB4 := Lib.hid (nx HB3.out x1)
          have D0 := cellb x1 hlt2 d0
          have D1 := cellb x1 hlt2 d1
          have D2 := cellb x1 hlt2 d2
          have hlt2 := Nat.lt_of_lt_of_le hlt2 x1.size
          clear d0 d1 d2
          have d0 := D0
          have d1 := D1
          have d2 := D2
          clear D0 D1 D2
          have HV3 := Lib.hid (carry HV3.out x1)
          have HV4 := Lib.hid (show Kept W4 W3.heap.size #[(.slice (some ⟨b, off, none⟩) rn rc), (.slice (some ⟨g4, 0, none⟩) tn cap4), (.slice ga gn gc)] encT (some ⟨g4, 0, none⟩) tn (z0.ts.set t ⟨(tat z0.ts t).st, (tat z0.ts t).p, 0, (tat z0.ts t).g⟩) from ⟨x5, (x2 0 (by decide)).trans rfl, x3, (x2 2 (by decide)).trans rfl, x4⟩)
          clear x1 x2 x3 x4 x5
          have HS5 := Lib.hid ((HS.out.next HB4.out).next ((belowA W4 (.cells #[.slice (some ⟨b, off, none⟩) rn rc, .slice ta tn tc, .slice ga gn gc] 26)).alloc (by simp) (.cells #[] 3)))
          have HE5 := Lib.hid (show Own encI ((W4.alloc (.cells #[.slice (some ⟨b, off, none⟩) rn rc, .slice ta tn tc, .slice ga gn gc] 26)).alloc (.cells #[] 3)) (W4.heap.size + 1) 3 (.slice (some ⟨W4.heap.size + 1, 0, none⟩) 0 0) 0 [] by
            have h := own_empty (E := encI) (W4.alloc (.cells #[.slice (some ⟨b, off, none⟩) rn rc, .slice ta tn tc, .slice ga gn gc] 26)) (W4.heap.size + 1) 3 (by simp)
            simpa using h)
          go_upto_region 17 with ((at_builtin; refine append_copy Try.underlying22 int_info rfl rfl _ _ rfl (W4.heap.size + 1) _ 0 [] rfl HE5.out (some ⟨b, off, none⟩) rn rc z0.run rfl HRN.out HS5.out.r (by omega) (by omega) (by simp) ?_; intro v' u5 hown' hgrow; obtain ⟨g5, cap5, rfl, hnc, hcm, hgw, k0, k1, k2, k3, kk⟩ := phase_any (E := encI) (n := rn) (zs := z0.run) (f := 0) (j := K) (q := 0) (p := K) (z' := (-1)) (x := .int .i64 (-1)) hr0 (by simpa using hown') hgrow (by simp) HRT.out (by decide) rfl (by simp [encI]); have k2' := k2.trans (show _ = some (.int .i64 (rat z0.run K)) from rfl); have c0 := (k0 0).trans rfl; have c1 := (k0 1).trans rfl; have c2 := (k0 2).trans rfl; have f0 := k1 0; have HKK := Lib.hid kk; clear k0 k1 k2 kk hown' hgrow))
          have hX := HKK.out
          clear HKK hnc hcm hgw k2' k3 c0 c1 c2 f0 HS5 HE5
          generalize ((u5.setCell ⟨W4.heap.size, 0, none⟩ (.slice (some ⟨g5, 0, none⟩) rn cap5)).setCell ⟨g5, K, none⟩ (.int .i64 (-1))) = W5 at hX ⊢
          obtain ⟨x1, x2, x3, x4, x5⟩ := hX
          have HB5 := Lib.hid (nx HB4.out x1)
          have D0 := cellb x1 hlt2 d0
          have D1 := cellb x1 hlt2 d1
          have D2 := cellb x1 hlt2 d2
          have hlt2 := Nat.lt_of_lt_of_le hlt2 x1.size
          clear d0 d1 d2
          have d0 := D0
          have d1 := D1
          have d2 := D2
          clear D0 D1 D2
          have HV3 := Lib.hid (carry HV3.out x1)
          have HV4 := Lib.hid (carry HV4.out x1)
          have HV5 := Lib.hid (show Kept W5 W4.heap.size #[(.slice (some ⟨g5, 0, none⟩) rn cap5), (.slice ta tn tc), (.slice ga gn gc)] encI (some ⟨g5, 0, none⟩) rn (z0.run.set K (-1)) from ⟨x5, x3, (x2 1 (by decide)).trans rfl, (x2 2 (by decide)).trans rfl, x4⟩)
          clear x1 x2 x3 x4 x5
          have HS6 := Lib.hid ((HS.out.next HB5.out).next ((belowA W5 (.cells #[.slice (some ⟨b, off, none⟩) rn rc, .slice ta tn tc, .slice ga gn gc] 26)).alloc (by simp) (.cells #[] 34)))
          have HE6 := Lib.hid (show Own encG ((W5.alloc (.cells #[.slice (some ⟨b, off, none⟩) rn rc, .slice ta tn tc, .slice ga gn gc] 26)).alloc (.cells #[] 34)) (W5.heap.size + 1) 34 (.slice (some ⟨W5.heap.size + 1, 0, none⟩) 0 0) 0 [] by
            have h := own_empty (E := encG) (W5.alloc (.cells #[.slice (some ⟨b, off, none⟩) rn rc, .slice ta tn tc, .slice ga gn gc] 26)) (W5.heap.size + 1) 34 (by simp)
            simpa using h)
          go_upto_region 19 with ((at_builtin; refine append_copy Try.underlying24 info34 rfl rfl _ _ rfl (W5.heap.size + 1) _ 0 [] rfl HE6.out ga gn gc z0.gs rfl HGN.out HS6.out.g (by omega) (by omega) (by simp) ?_; intro v' u6 hown' hgrow; obtain ⟨g6, cap6, rfl, hnc, hcm, hgw, k0, k1, k2, k3, kk⟩ := phase_any (E := encG) (n := gn) (zs := z0.gs) (f := 2) (j := 0) (q := 1) (p := 1) (z' := ⟨(gat z0.gs 0).par, IntKind.u64.wrap ((2 : Int) ^ K)⟩) (x := .int .u64 (IntKind.u64.wrap ((2 : Int) ^ K))) hg0 (by simpa using hown') hgrow (by simp) HGT.out (by decide) rfl (by simp [encG]); have k2' := k2.trans (show _ = some (.int .u64 (gat z0.gs 0).stop) from rfl); have c0 := (k0 0).trans rfl; have c1 := (k0 1).trans rfl; have c2 := (k0 2).trans rfl; have f0 := k1 2; have HKK := Lib.hid kk; clear k0 k1 k2 kk hown' hgrow))
          have hg0' : (0 : Int) < (gn : Int) := by omega
          go_region
          go_upto_region 20 with fail
          have hX := HKK.out.drew
          clear HKK hnc hcm hgw k2' k3 c0 c1 c2 f0 HS6 HE6
          generalize ((u6.setCell ⟨W5.heap.size, 2, none⟩ (.slice (some ⟨g6, 0, none⟩) gn cap6)).setCell ⟨g6, 1, none⟩ (.int .u64 (IntKind.u64.wrap ((2 : Int) ^ K)))).drew = W6 at hX ⊢
          obtain ⟨x1, x2, x3, x4, x5⟩ := hX
          have HB6 := Lib.hid (nx HB5.out x1)
          have D0 := cellb x1 hlt2 d0
          have D1 := cellb x1 hlt2 d1
          have D2 := cellb x1 hlt2 d2
          have hlt2 := Nat.lt_of_lt_of_le hlt2 x1.size
          clear d0 d1 d2
          have d0 := D0
          have d1 := D1
          have d2 := D2
          clear D0 D1 D2
          have HV3 := Lib.hid (carry HV3.out x1)
          have HV4 := Lib.hid (carry HV4.out x1)
          have HV5 := Lib.hid (carry HV5.out x1)
          have HV6 := Lib.hid (show Kept W6 W5.heap.size #[(.slice (some ⟨b, off, none⟩) rn rc), (.slice ta tn tc), (.slice (some ⟨g6, 0, none⟩) gn cap6)] encG (some ⟨g6, 0, none⟩) gn (z0.gs.set 0 ⟨(gat z0.gs 0).par, IntKind.u64.wrap ((2 : Int) ^ K)⟩) from ⟨x5, (x2 0 (by decide)).trans rfl, (x2 1 (by decide)).trans rfl, x3, x4⟩)
          clear x1 x2 x3 x4 x5
          have HS7 := Lib.hid ((HS.out.next HB6.out).next ((belowA W6 (.cells #[.slice (some ⟨b, off, none⟩) rn rc, .slice ta tn tc, .slice ga gn gc] 26)).alloc (by simp) (.cells #[] 3)))
          have HE7 := Lib.hid (show Own encI ((W6.alloc (.cells #[.slice (some ⟨b, off, none⟩) rn rc, .slice ta tn tc, .slice ga gn gc] 26)).alloc (.cells #[] 3)) (W6.heap.size + 1) 3 (.slice (some ⟨W6.heap.size + 1, 0, none⟩) 0 0) 0 [] by
            have h := own_empty (E := encI) (W6.alloc (.cells #[.slice (some ⟨b, off, none⟩) rn rc, .slice ta tn tc, .slice ga gn gc] 26)) (W6.heap.size + 1) 3 (by simp)
            simpa using h)
          go_upto_region 23 with ((at_builtin; refine append_copy Try.underlying22 int_info rfl rfl _ _ rfl (W6.heap.size + 1) _ 0 [] rfl HE7.out (some ⟨b, off, none⟩) rn rc z0.run rfl HRN.out HS7.out.r (by omega) (by omega) (by simp) ?_; intro v' u7 hown' hgrow; obtain ⟨g7, cap7, rfl, hnc, hcm, hgw, k0, k1, k2, k3, kk⟩ := phase_any (E := encI) (n := rn) (zs := z0.run) (f := 0) (j := K) (q := 0) (p := K) (z' := (tn : Int)) (x := .int .i64 (tn : Int)) hr0 (by simpa using hown') hgrow (by simp) HRT.out (by decide) rfl (by simp [encI]); have k2' := k2.trans (show _ = some (.int .i64 (rat z0.run K)) from rfl); have c0 := (k0 0).trans rfl; have c1 := (k0 1).trans rfl; have c2 := (k0 2).trans rfl; have f0 := k1 0; have dd : (u7.setCell ⟨W6.heap.size, 0, none⟩ (.slice (some ⟨g7, 0, none⟩) rn cap7)).cell? ⟨w.heap.size, 1, none⟩ = some (.slice ta tn tc) := (set_cell_other (by simp; omega)).trans ((grown_cell (row := some (W6.heap.size + 1)) hgrow (by simp; omega) (by simp; omega)).trans (cella _ (by simp; omega) (cella _ hlt2 (d1.trans rfl)))); have HKK := Lib.hid kk; clear k0 k1 k2 kk hown' hgrow))
          have hX := HKK.out
          clear HKK hnc hcm hgw k2' k3 c0 c1 c2 f0 HS7 HE7 dd
          generalize ((u7.setCell ⟨W6.heap.size, 0, none⟩ (.slice (some ⟨g7, 0, none⟩) rn cap7)).setCell ⟨g7, K, none⟩ (.int .i64 (tn : Int))) = W7 at hX ⊢
          obtain ⟨x1, x2, x3, x4, x5⟩ := hX
          have HB7 := Lib.hid (nx HB6.out x1)
          have D0 := cellb x1 hlt2 d0
          have D1 := cellb x1 hlt2 d1
          have D2 := cellb x1 hlt2 d2
          have hlt2 := Nat.lt_of_lt_of_le hlt2 x1.size
          clear d0 d1 d2
          have d0 := D0
          have d1 := D1
          have d2 := D2
          clear D0 D1 D2
          have HV3 := Lib.hid (carry HV3.out x1)
          have HV4 := Lib.hid (carry HV4.out x1)
          have HV5 := Lib.hid (carry HV5.out x1)
          have HV6 := Lib.hid (carry HV6.out x1)
          have HV7 := Lib.hid (show Kept W7 W6.heap.size #[(.slice (some ⟨g7, 0, none⟩) rn cap7), (.slice ta tn tc), (.slice ga gn gc)] encI (some ⟨g7, 0, none⟩) rn (z0.run.set K (tn : Int)) from ⟨x5, x3, (x2 1 (by decide)).trans rfl, (x2 2 (by decide)).trans rfl, x4⟩)
          clear x1 x2 x3 x4 x5
          have htn' : tn ≤ 100 := by omega
          have HN3 := Lib.hid (var3 HZ.out HON.out HRL.out HTL.out HGL.out hKl hK64)
          have HP3 := Lib.hid (ok3 HO.out hg0 HON.out hK64)
          have HN4 := Lib.hid (var4 HZ.out HON.out HRL.out HTL.out HGL.out hKl hK64)
          have HP4 := Lib.hid (ok4 HO.out hg0 HON.out hK64)
          have HN5 := Lib.hid (var5 HZ.out HON.out HRL.out HTL.out HGL.out hKl hK64)
          have HP5 := Lib.hid (ok5 HO.out hg0 HON.out hK64)
          have HN6 := Lib.hid (var6 HZ.out HON.out HRL.out HTL.out HGL.out hKl hK64)
          have HP6 := Lib.hid (ok6 HO.out hg0 HON.out hK64)
          have HN7 := Lib.hid (var7 HZ.out HON.out HRL.out HTL.out HGL.out hKl hK64)
          have HP7 := Lib.hid (ok7 (tn := tn) HO.out hg0 HON.out hK64)
          have HBx0 := Lib.hid HB7.out
          have q0 := HV3.out.2.1
          have q1 := HV3.out.2.2.1
          have q2 := HV3.out.2.2.2.1
          go_wp2_with fail
          refine (sound_any (s := ⟨z0.run, z0.ts.set t ⟨1, (tat z0.ts t).p, (tat z0.ts t).m, (tat z0.ts t).g⟩, z0.gs⟩) _ ⟨(HS.out.next HBx0.out).r, HV3.out.2.2.2.2, (HS.out.next HBx0.out).g⟩ HP3.out).mono ?_
          rintro e Y1 ⟨rfl, hy⟩
          rw [HN3.out]
          have HBx1 := Lib.hid (nx HBx0.out hy)
          have HV4 := Lib.hid (carry HV4.out hy)
          have HV5 := Lib.hid (carry HV5.out hy)
          have HV6 := Lib.hid (carry HV6.out hy)
          have HV7 := Lib.hid (carry HV7.out hy)
          clear hy q0 q1 q2
          have q0 := HV4.out.2.1
          have q1 := HV4.out.2.2.1
          have q2 := HV4.out.2.2.2.1
          go_wp2_with fail
          refine (sound_any (s := ⟨z0.run, z0.ts.set t ⟨(tat z0.ts t).st, (tat z0.ts t).p, 0, (tat z0.ts t).g⟩, z0.gs⟩) _ ⟨(HS.out.next HBx1.out).r, HV4.out.2.2.2.2, (HS.out.next HBx1.out).g⟩ HP4.out).mono ?_
          rintro e Y2 ⟨rfl, hy⟩
          rw [HN4.out]
          have HBx2 := Lib.hid (nx HBx1.out hy)
          have HV5 := Lib.hid (carry HV5.out hy)
          have HV6 := Lib.hid (carry HV6.out hy)
          have HV7 := Lib.hid (carry HV7.out hy)
          clear hy q0 q1 q2
          have q0 := HV5.out.2.1
          have q1 := HV5.out.2.2.1
          have q2 := HV5.out.2.2.2.1
          go_wp2_with fail
          refine (sound_any (s := ⟨z0.run.set K (-1), z0.ts, z0.gs⟩) _ ⟨HV5.out.2.2.2.2, (HS.out.next HBx2.out).t, (HS.out.next HBx2.out).g⟩ HP5.out).mono ?_
          rintro e Y3 ⟨rfl, hy⟩
          rw [HN5.out]
          have HBx3 := Lib.hid (nx HBx2.out hy)
          have HV6 := Lib.hid (carry HV6.out hy)
          have HV7 := Lib.hid (carry HV7.out hy)
          clear hy q0 q1 q2
          have q0 := HV6.out.2.1
          have q1 := HV6.out.2.2.1
          have q2 := HV6.out.2.2.2.1
          go_wp2_with fail
          refine (sound_any (s := ⟨z0.run, z0.ts, z0.gs.set 0 ⟨(gat z0.gs 0).par, IntKind.u64.wrap ((2 : Int) ^ K)⟩⟩) _ ⟨(HS.out.next HBx3.out).r, (HS.out.next HBx3.out).t, HV6.out.2.2.2.2⟩ HP6.out).mono ?_
          rintro e Y4 ⟨rfl, hy⟩
          rw [HN6.out]
          have HBx4 := Lib.hid (nx HBx3.out hy)
          have HV7 := Lib.hid (carry HV7.out hy)
          clear hy q0 q1 q2
          have q0 := HV7.out.2.1
          have q1 := HV7.out.2.2.1
          have q2 := HV7.out.2.2.2.1
          go_wp2_with fail
          refine (sound_any (s := ⟨z0.run.set K (tn : Int), z0.ts, z0.gs⟩) _ ⟨HV7.out.2.2.2.2, (HS.out.next HBx4.out).t, (HS.out.next HBx4.out).g⟩ HP7.out).mono ?_
          rintro e Y5 ⟨rfl, hy⟩
          rw [HN7.out]
          have HBx5 := Lib.hid (nx HBx4.out hy)
          clear hy q0 q1 q2
          go_wp2
          go_ret
          exact ⟨rfl, HBx5.out⟩
      · go_wp2
        go_ret
        exact ⟨rfl, HB2.out⟩
    · go_wp2
      go_ret
      exact ⟨rfl, HB2.out⟩

set_option maxRecDepth 100000 in
theorem lifted (os : Os) (started : os.Started) (H : Type) (enc : TypeId × Value → H) :
    ReturnsInHanded {} Try.checked os 4 .any (Rows.auditBreaksSpec.pre6 enc Try.prog Try.f4 Rows.auditBreaksRow.domain false) (Rows.auditBreaksSpec.post enc Try.prog Try.f4 false true false false) := by
  refine returnsInHanded_of_change (C := Try.checked) own started (by kernel_rfl) Try.func4
    (ChangeSpec.witness6 (enc := enc) (C := Try.checked) false ⟨#[], #[.agg #[.slice none 0 0, .slice none 0 0, .slice none 0 0], .int .u8 0], []⟩ 8 (by kernel_rfl) (by kernel_rfl) (by kernel_rfl) (by kernel_rfl)) ?_
  intro W base args ds gs before hval0 hW hcnd _
  have hval : ∀ (j : Nat) t v, Try.f4.params[j]? = some t → args[j]? = some v → Value.okWide Try.prog W .any base t v := hval0
  have hW' := hW
  obtain ⟨p, q, hA0, hV, rfl, hfz, hnd⟩ := hW
  have hA : DataW.TrodAll enc Try.prog W 0 (fun _ => true) true Try.f4.params.toList args.toList ds p := hA0
  rw [Try.params4] at hA hval
  obtain ⟨v0, vs0, d0, ds0, p0, q0, hargs, rfl, rfl, h0, r0⟩ := trodAll_cons hA
  obtain ⟨v1, vs1, d1, ds1, p1, q1, rfl, rfl, rfl, h1, r1⟩ := trodAll_cons r0
  obtain ⟨rfl, rfl, rfl⟩ := trodAll_nil r1
  obtain rfl : args = #[v0, v1] := by cases args; simp_all
  obtain ⟨rfl, rfl⟩ := trodVars_none hV
  have k0 := h0
  have lt0 : ∀ x ∈ p0, x.block < W.heap.size := by obtain ⟨m, hm⟩ := k0; exact DataW.trod_lt m _ _ _ hm
  obtain ⟨z0, w0⟩ : ∃ z, IsSnap W v0 z := open_snap (hval 0 26 v0 rfl rfl) h0
  obtain ⟨a1, rfl, rfl, rfl, w1⟩ := open_int Try.underlying5 (hval 1 5 v1 rfl rfl) h1
  clear hA0 hval0
  refine (walk v0 z0 a1 W w0 w1).mono fun e W' ⟨he, bel⟩ => ?_
  subst he
  exact ⟨_, rfl, _, _, _, [], _, [], hW', trodAll_mk1 (shut_bool Try.underlying4 _), (trodAll_cons_mk (Below.trod laidOut (by kernel_rfl) (of_decide_eq_true (by kernel_rfl)) k0 bel lt0) (trodAll_cons_mk (shut_int Try.underlying5 w1) trodAll_mk0)), rfl, bel.frame _, fun h => by cases h⟩

theorem over : Rows.auditBreaksRow.holds Try.pinned (OpenSpec.ofChange Rows.auditBreaksSpec) :=
  OpenClaim.holds_of_wide 4 Try.f4 rfl rfl rfl rfl rfl rfl rfl ⟨rfl, rfl, rfl, rfl, rfl⟩ rfl rfl rfl rfl rfl (by kernel_rfl) Try.func4 (by kernel_rfl)
    (of_decide_eq_true (by kernel_rfl)) (by unfold Func.isWrapper; first | (rw [if_pos (by decide +kernel)]; kernel_rfl) | (rw [if_neg (by decide +kernel)]; exact ⟨rfl, rfl⟩))
    (fun os started H enc _ => lifted os started H enc)

theorem proved : Rows.AuditBreaksSaid := over
#print axioms proved
end Go.Proofs.Ytoclkhnejanlnaa.auditBreaks
