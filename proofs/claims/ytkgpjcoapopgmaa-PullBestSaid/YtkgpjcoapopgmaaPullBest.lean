/- PullBest: at every input the law returns true and leaves its arguments as they were: no pull of one that may be, of at most half the gap, leaves the loads nearer than that of what is chosen; without such a one none at all does. Conditions: none beyond the row's own. -/
import Derived.Test.YtkgpjcoapopgmaaRows
import Derived.Test.YtkgpjcoapopgmaaOpen
import Derived.WalkKit
import Derived.Deep.QuietTactic
import Derived.BigQuiet
import Derived.ProofKit
import Derived.OpenShut
import Derived.ShutString
import Derived.ChangeOld
import Derived.Below
namespace Go.Proofs.Ytkgpjcoapopgmaa.pullBest
open Go.ChangeShapes Go.WideShapes Go.ChangeAt Go.RowKit
open Go.ChangeMaps (open_string shut_string)
set_option linter.unusedVariables false

theorem own : ownKnob Try.prog.godebug = none := by kernel_rfl
theorem laidOut : laidOutB Try.prog = true := by kernel_rfl

set_option maxRecDepth 100000 in
set_option maxHeartbeats 8000000 in
theorem walk (a0 : Option Addr) (len0 cap0 : Nat) (z0 : List Cd) (a1 : Int) (a2 : Int) (a3 : Int) (w : World) (w0 : IsCds w a0 len0 cap0 z0) (w1 : (Lit.int .u64 a1).wf = true) (w2 : (Lit.int .u64 a2).wf = true) (w3 : (Lit.int .i64 a3).wf = true) :
    Calls Try.prog 6 #[.slice a0 len0 cap0, .int .u64 a1, .int .u64 a2, .int .i64 a3] w fun e w' => e = .returned (.bool true) ∧ Below w.heap.size w w' := by
  obtain ⟨n, zs, hn1, hn2, hn3, hn4, hI, hok, hf⟩ := pre w0
  have hU1 := u64_of w1
  have hU2 := u64_of w2
  have HI := Lib.hid hI
  have HL := Lib.hid hn1
  have HOK := Lib.hid hok
  have HF := Lib.hid hf
  have HU1 := Lib.hid hU1
  have HU2 := Lib.hid hU2
  have hP := bounds_i64 w3
  clear hI hn1 hok hf w0 w1 w2 w3 hU1 hU2
  go_enter Try.func6, Try.ntmps6
  go_wp2_with fail
  refine (shown_any _).mono ?_
  rintro e W1 ⟨rfl, hb1⟩
  have HI1 := Lib.hid (Cds.next hb1 HI.out)
  have HB1 := Lib.hid hb1
  clear hb1
  go_wp2_with fail
  refine (HF.out _).mono ?_
  rintro e W' ⟨rfl, rfl⟩
  go_wp2_with fail
  refine (choose_any _ _ _ zs a1 a2 a3 _ HL.out HI1.out HOK.out (by omega) HU1.out HU2.out).mono ?_
  rintro e W2 ⟨⟨u, v, rfl, hs⟩, hb2⟩
  have HI2 := Lib.hid (Cds.next hb2 HI1.out)
  have HB2 := Lib.hid (nx HB1.out hb2)
  have HSP := Lib.hid (chosen_spec zs (gapI a1 a2) a3)
  clear hb2
  rcases hs with ⟨q1, rfl, rfl⟩ | ⟨q, q1, q2, rfl, rfl⟩
  · clear q1
    go_wp2
    go_ret
    exact ⟨rfl, HB2.out⟩
  · have hboth : mayP zs (gapI a1 a2) a3 q = true ∧ ∀ k, k < n → k ≠ q → mayP zs (gapI a1 a2) a3 k = true → aheadC zs (gapI a1 a2) q k = true := by
      rcases HSP.out with ⟨h1, _⟩ | ⟨k, h1, _, h3, h4⟩
      · omega
      · obtain rfl : k = q := by omega
        exact ⟨h3, fun j hj hne hm => h4 j (by rw [HL.out]; exact hj) hne hm⟩
    have HBOTH := Lib.hid hboth
    obtain ⟨p0, p1, p2, p3, p4, p5, p6, p7⟩ := chosen_facts HU1.out HU2.out HOK.out hboth.1
    obtain ⟨e1, e2, e3, e4, e5⟩ := nears HU1.out HU2.out p4 p5 p6
    have HE4 := Lib.hid e4
    have HE5 := Lib.hid e5
    have HGAP := Lib.hid p7
    have hf1 := HU1.out.2
    have ht1 := HU2.out.1
    obtain ⟨b, off, ha, hb, hc⟩ := HI2.out.cells (p := q) (by rw [HL.out]; exact q2)
    subst ha
    have HC := Lib.hid hc
    obtain ⟨x0, x1, x2, x3⟩ := hc q (by rw [HL.out]; exact q2)
    have HX1 := Lib.hid x1
    have HE1 := Lib.hid e1
    have HE2 := Lib.hid e2
    have HX := Lib.hid (HOK.out q).1
    have hq : (q : Int) < (n : Int) := by omega
    have hno : ¬ a1 ≤ a2 := by omega
    clear hboth p2 p3 p7 e1 e2 e3 e4 e5 hc q1 x0 x2 x3
    go_wp2_with fail
    refine (after_any a1 a2 (cat zs q).w _ HU1.out HU2.out HX.out).mono ?_
    rintro e W3 ⟨rfl, hb3⟩
    have HB3 := Lib.hid hb3
    rw [HE1.out, HE2.out]
    clear hb3 x1
    go_wp2_with fail
    go_loopw [16] (fun i wr => ∃ k : Nat, k ≤ n ∧ i = .int .i64 k ∧ Below W2.heap.size W2 wr) (fun i _ => n - (intOf i).toNat)
    case atStart => exact ⟨0, Nat.zero_le _, rfl, HB3.out⟩
    case round =>
      obtain ⟨k, hk, rfl, hB⟩ := hrel
      have HB := Lib.hid hB
      clear hB
      by_cases hlt : k < n
      · have hlt' : (k : Int) < (n : Int) := by omega
        obtain ⟨x0, x1, x2, x3⟩ := HC.out k (by rw [HL.out]; exact hlt)
        have y0 := cellb HB.out hb x0
        have y1 := cellb HB.out hb x1
        have y2 := cellb HB.out hb x2
        have y3 := cellb HB.out hb x3
        have hsz := HB.out.size
        clear x0 x1 x2 x3
        cases hm : mayP zs (gapI a1 a2) a3 k
        · have HM := Lib.hid (show mayC (cat zs k) (a1 - a2) a3 = false by rw [← HGAP.out]; exact hm)
          clear hm
          go_wp2_with fail
          refine (may_any (cat zs k) _ _ _ (HOK.out k)).mono ?_
          rintro e w' ⟨rfl, rfl⟩
          rw [HM.out]
          go_wp2
          go_roundw
          case rel => exact ⟨k + 1, by omega, by go_num, HB.out.alloc hsz _⟩
          case measure => simp [intOf]; omega
        · have HM := Lib.hid (show mayC (cat zs k) (a1 - a2) a3 = true by rw [← HGAP.out]; exact hm)
          have hcf := chosen_facts HU1.out HU2.out HOK.out hm
          have r4 := hcf.2.2.2.2.1
          have r6 := hcf.2.2.2.2.2.2.1
          clear hcf
          obtain ⟨f1, f2, f3, f4, f5⟩ := nears HU1.out HU2.out r4 p5 r6
          have HF1 := Lib.hid f1
          have HF2 := Lib.hid f2
          have HF4 := Lib.hid f4
          have HF5 := Lib.hid f5
          have HLAW := Lib.hid (best_law HU1.out HU2.out HOK.out HBOTH.out.1 hm (fun hne => HBOTH.out.2 k hlt hne hm))
          have hcase : ((cat zs k).w ≤ (a1 - a2) / 2 ∧ True) ∨ (¬ (cat zs k).w ≤ (a1 - a2) / 2 ∧ (a1 - a2) / 2 < (cat zs q).w) ∨ (¬ (cat zs k).w ≤ (a1 - a2) / 2 ∧ ¬ (a1 - a2) / 2 < (cat zs q).w) := by
            by_cases h1 : (cat zs k).w ≤ (a1 - a2) / 2
            · exact .inl ⟨h1, trivial⟩
            · by_cases h2 : (a1 - a2) / 2 < (cat zs q).w
              · exact .inr (.inl ⟨h1, h2⟩)
              · exact .inr (.inr ⟨h1, h2⟩)
          obtain ⟨V, hV⟩ : ∃ V, wr.alloc (.cells #[.int .i64 (cat zs k).id, .int .u64 (cat zs k).w, .int .u64 (cat zs k).m, .bool (cat zs k).r] 35) = V := ⟨_, rfl⟩
          have hbV : Below wr.heap.size wr V := by rw [← hV]; exact (Below.refl _ _).alloc (Nat.le_refl _) _
          have hwb : b < wr.heap.size := Nat.lt_of_lt_of_le hb hsz
          have z1 := cellb hbV hwb y1
          have HV := Lib.hid hV
          have HBV := Lib.hid hbV
          clear hV hbV
          have HCASE := Lib.hid hcase
          clear hcase hm f1 f2 f3 f4 f5
          go_wp2_with fail
          refine (may_any (cat zs k) _ _ _ (HOK.out k)).mono ?_
          rintro e w' ⟨rfl, rfl⟩
          rw [HM.out]
          rw [HV.out]
          go_wp2_with fail
          refine (after_any a1 a2 (cat zs k).w _ HU1.out HU2.out (HOK.out k).1).mono ?_
          rintro e W4 ⟨rfl, hb4⟩
          have HB4 := Lib.hid (nx HB.out (nx HBV.out hb4))
          have t1 := cellb HB4.out hb HX1.out
          have u1 := cellb hb4 (Nat.lt_of_lt_of_le hwb HBV.out.size) z1
          rw [HF1.out, HF2.out]
          clear hb4 z1 y0 y1 y2 y3
          rcases HCASE.out with ⟨c1, c2⟩ | ⟨c1, c2⟩ | ⟨c1, c2⟩
          · have hnd := HLAW.out (.inl c1)
            go_wp2_with fail
            refine (diff_any _ _ _ HF4.out HF5.out).mono ?_
            rintro e w' ⟨rfl, rfl⟩
            go_wp2_with fail
            refine (diff_any _ _ _ HE4.out HE5.out).mono ?_
            rintro e w' ⟨rfl, rfl⟩
            go_wp2
            go_roundw
            case rel => exact ⟨k + 1, by omega, by go_num, HB4.out⟩
            case measure => simp [intOf]; omega
          · have hnd := HLAW.out (.inr c2)
            go_wp2_with fail
            refine (diff_any _ _ _ HF4.out HF5.out).mono ?_
            rintro e w' ⟨rfl, rfl⟩
            go_wp2_with fail
            refine (diff_any _ _ _ HE4.out HE5.out).mono ?_
            rintro e w' ⟨rfl, rfl⟩
            go_wp2
            go_roundw
            case rel => exact ⟨k + 1, by omega, by go_num, HB4.out⟩
            case measure => simp [intOf]; omega
          · go_wp2
            go_roundw
            case rel => exact ⟨k + 1, by omega, by go_num, HB4.out⟩
            case measure => simp [intOf]; omega
      · obtain rfl : k = n := by omega
        go_wp2
        go_ret
        exact ⟨rfl, nx HB2.out HB.out⟩

set_option maxRecDepth 100000 in
theorem lifted (os : Os) (started : os.Started) (H : Type) (enc : TypeId × Value → H) :
    ReturnsInHanded {} Try.checked os 6 .any (Rows.pullBestSpec.pre6 enc Try.prog Try.f6 Rows.pullBestRow.domain false) (Rows.pullBestSpec.post enc Try.prog Try.f6 false true false false) := by
  refine returnsInHanded_of_change (C := Try.checked) own started (by kernel_rfl) Try.func6
    (ChangeSpec.witness6 (enc := enc) (C := Try.checked) false ⟨#[], #[.slice none 0 0, .int .u64 0, .int .u64 0, .int .i64 0], []⟩ 8 (by kernel_rfl) (by kernel_rfl) (by kernel_rfl) (by kernel_rfl)) ?_
  intro W base args ds gs before hval0 hW hcnd _
  have hval : ∀ (j : Nat) t v, Try.f6.params[j]? = some t → args[j]? = some v → Value.okWide Try.prog W .any base t v := hval0
  have hW' := hW
  obtain ⟨p, q, hA0, hV, rfl, hfz, hnd⟩ := hW
  have hA : DataW.TrodAll enc Try.prog W 0 (fun _ => true) true Try.f6.params.toList args.toList ds p := hA0
  rw [Try.params6] at hA hval
  obtain ⟨v0, vs0, d0, ds0, p0, q0, hargs, rfl, rfl, h0, r0⟩ := trodAll_cons hA
  obtain ⟨v1, vs1, d1, ds1, p1, q1, rfl, rfl, rfl, h1, r1⟩ := trodAll_cons r0
  obtain ⟨v2, vs2, d2, ds2, p2, q2, rfl, rfl, rfl, h2, r2⟩ := trodAll_cons r1
  obtain ⟨v3, vs3, d3, ds3, p3, q3, rfl, rfl, rfl, h3, r3⟩ := trodAll_cons r2
  obtain ⟨rfl, rfl, rfl⟩ := trodAll_nil r3
  obtain rfl : args = #[v0, v1, v2, v3] := by cases args; simp_all
  obtain ⟨rfl, rfl⟩ := trodVars_none hV
  obtain ⟨a0, len0, cap0, rfl⟩ := okWide_slice Try.underlying22 (hval 0 22 v0 rfl rfl)
  have k0 := h0
  have lt0 : ∀ x ∈ p0, x.block < W.heap.size := by obtain ⟨m, hm⟩ := k0; exact DataW.trod_lt m _ _ _ hm
  obtain ⟨z0, w0⟩ : ∃ z, IsCds W a0 len0 cap0 z := by
    obtain ⟨fuel, hf⟩ := h0
    exact open_cds hf
  obtain ⟨a1, rfl, rfl, rfl, w1⟩ := open_int Try.underlying23 (hval 1 23 v1 rfl rfl) h1
  obtain ⟨a2, rfl, rfl, rfl, w2⟩ := open_int Try.underlying23 (hval 2 23 v2 rfl rfl) h2
  obtain ⟨a3, rfl, rfl, rfl, w3⟩ := open_int Try.underlying3 (hval 3 3 v3 rfl rfl) h3
  clear hA0 hval0
  refine (walk a0 len0 cap0 z0 a1 a2 a3 W w0 w1 w2 w3).mono fun e W' ⟨he, bel⟩ => ?_
  subst he
  exact ⟨_, rfl, _, _, _, [], _, [], hW', trodAll_mk1 (shut_bool Try.underlying4 _), (trodAll_cons_mk (Below.trod laidOut (by kernel_rfl) (of_decide_eq_true (by kernel_rfl)) k0 bel lt0) (trodAll_cons_mk (shut_int Try.underlying23 w1) (trodAll_cons_mk (shut_int Try.underlying23 w2) (trodAll_cons_mk (shut_int Try.underlying3 w3) trodAll_mk0)))), rfl, bel.frame _, fun h => by cases h⟩

theorem over : Rows.pullBestRow.holds Try.pinned (OpenSpec.ofChange Rows.pullBestSpec) :=
  OpenClaim.holds_of_wide 6 Try.f6 rfl rfl rfl rfl rfl rfl rfl ⟨rfl, rfl, rfl, rfl, rfl⟩ rfl rfl rfl rfl rfl (by kernel_rfl) Try.func6 (by kernel_rfl)
    (of_decide_eq_true (by kernel_rfl)) (by unfold Func.isWrapper; first | (rw [if_pos (by decide +kernel)]; kernel_rfl) | (rw [if_neg (by decide +kernel)]; exact ⟨rfl, rfl⟩))
    (fun os started H enc _ => lifted os started H enc)

theorem proved : Rows.PullBestSaid := over
#print axioms proved
end Go.Proofs.Ytkgpjcoapopgmaa.pullBest
