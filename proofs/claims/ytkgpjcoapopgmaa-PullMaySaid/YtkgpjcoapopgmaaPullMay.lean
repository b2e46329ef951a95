/- PullMay: at every input the law returns true and leaves its arguments as they were: what is chosen may be on the P, doesn't run, and weighs less than the gap; where one may, one is chosen. Conditions: none beyond the row's own. -/
import Derived.Test.YtkgpjcoapopgmaaRows
import Derived.Test.YtkgpjcoapopgmaaOpen
import Derived.WalkKit
import Derived.Deep.QuietTactic
import Derived.BigQuiet
import Derived.ProofKit
import Derived.OpenShut
import Derived.ShutString
import Derived.ChangeOld
import Derived.Below
namespace Go.Proofs.Ytkgpjcoapopgmaa.pullMay
open Go.ChangeShapes Go.WideShapes Go.ChangeAt Go.RowKit
open Go.ChangeMaps (open_string shut_string)
set_option linter.unusedVariables false

theorem own : ownKnob Try.prog.godebug = none := by kernel_rfl
theorem laidOut : laidOutB Try.prog = true := by kernel_rfl

set_option maxRecDepth 100000 in
set_option maxHeartbeats 8000000 in
theorem walk (a0 : Option Addr) (len0 cap0 : Nat) (z0 : List Cd) (a1 : Int) (a2 : Int) (a3 : Int) (w : World) (w0 : IsCds w a0 len0 cap0 z0) (w1 : (Lit.int .u64 a1).wf = true) (w2 : (Lit.int .u64 a2).wf = true) (w3 : (Lit.int .i64 a3).wf = true) :
    Calls Try.prog 5 #[.slice a0 len0 cap0, .int .u64 a1, .int .u64 a2, .int .i64 a3] w fun e w' => e = .returned (.bool true) ∧ Below w.heap.size w w' := by
  obtain ⟨n, zs, hn1, hn2, hn3, hn4, hI, hok, hf⟩ := pre w0
  have hU1 := u64_of w1
  have hU2 := u64_of w2
  have HI := Lib.hid hI
  have HL := Lib.hid hn1
  have HOK := Lib.hid hok
  have HF := Lib.hid hf
  have HU1 := Lib.hid hU1
  have HU2 := Lib.hid hU2
  have hP := bounds_i64 w3
  rcases (show a3 < 0 ∨ ∃ P : Nat, a3 = P from (Int.lt_or_le a3 0).imp id fun h => ⟨a3.toNat, by omega⟩) with hneg | ⟨P, rfl⟩
  · clear hI hn1 hok hf w0 w1 w2 w3 hU1 hU2
    go_enter Try.func5, Try.ntmps5
    go_wp2_with fail
    refine (shown_any _).mono ?_
    rintro e W1 ⟨rfl, hb1⟩
    have HI1 := Lib.hid (Cds.next hb1 HI.out)
    have HB1 := Lib.hid hb1
    clear hb1
    go_wp2_with fail
    refine (HF.out _).mono ?_
    rintro e W' ⟨rfl, rfl⟩
    go_wp2_with fail
    refine (choose_any _ _ _ zs a1 a2 a3 _ HL.out HI1.out HOK.out (by omega) HU1.out HU2.out).mono ?_
    rintro e W2 ⟨⟨u, v, rfl, hs⟩, hb2⟩
    have HI2 := Lib.hid (Cds.next hb2 HI1.out)
    have HB2 := Lib.hid (nx HB1.out hb2)
    have HSP := Lib.hid (chosen_spec zs (gapI a1 a2) a3)
    clear hb2
    have HNO := Lib.hid (show ∀ q, mayP zs (gapI a1 a2) a3 q = false from fun q => mayC_neg (by omega))
    have hnp : ¬ 0 ≤ a3 := by omega
    rcases hs with ⟨q1, rfl, rfl⟩ | ⟨q, q1, q2, rfl, rfl⟩
    · clear q1
      go_wp2_with fail
      go_loopw [13, 14] (fun s i wr => ∃ k : Nat, k ≤ n ∧ i = .int .i64 k ∧ s = .bool false ∧ Below W2.heap.size W2 wr) (fun _ i _ => n - (intOf i).toNat)
      case atStart => exact ⟨0, Nat.zero_le _, rfl, rfl, Below.refl _ _⟩
      case round =>
        obtain ⟨k, hk, rfl, rfl, hB⟩ := hrel
        have HB := Lib.hid hB
        clear hB
        by_cases hlt : k < n
        · have hlt' : (k : Int) < (n : Int) := by omega
          obtain ⟨b, off, ha, hb, hc⟩ := HI2.out.cells (p := k) (by rw [HL.out]; exact hlt)
          subst ha
          obtain ⟨x0, x1, x2, x3⟩ := hc k (by rw [HL.out]; exact hlt)
          have y0 := cellb HB.out hb x0
          have y1 := cellb HB.out hb x1
          have y2 := cellb HB.out hb x2
          have y3 := cellb HB.out hb x3
          clear hc x0 x1 x2 x3
          go_wp2
          go_roundw
          case rel => exact ⟨k + 1, by omega, by go_num, rfl, HB.out.trans ((Below.refl _ _).alloc (by have := HB.out.size; omega) _)⟩
          case measure => simp [intOf]; omega
        · obtain rfl : k = n := by omega
          go_wp2
          go_ret
          exact ⟨rfl, nx HB2.out HB.out⟩
    · rcases HSP.out with ⟨h1, _⟩ | ⟨k, h1, _, h3, _⟩
      · omega
      · rw [HNO.out k] at h3; cases h3
  · clear hI hn1 hok hf w0 w1 w2 w3 hU1 hU2
    go_enter Try.func5, Try.ntmps5
    go_wp2_with fail
    refine (shown_any _).mono ?_
    rintro e W1 ⟨rfl, hb1⟩
    have HI1 := Lib.hid (Cds.next hb1 HI.out)
    have HB1 := Lib.hid hb1
    clear hb1
    go_wp2_with fail
    refine (HF.out _).mono ?_
    rintro e W' ⟨rfl, rfl⟩
    go_wp2_with fail
    refine (choose_any _ _ _ zs a1 a2 (P : Int) _ HL.out HI1.out HOK.out (by omega) HU1.out HU2.out).mono ?_
    rintro e W2 ⟨⟨u, v, rfl, hs⟩, hb2⟩
    have HI2 := Lib.hid (Cds.next hb2 HI1.out)
    have HB2 := Lib.hid (nx HB1.out hb2)
    have HSP := Lib.hid (chosen_spec zs (gapI a1 a2) (P : Int))
    clear hb2
    have hsome : someTo zs (gapI a1 a2) P n = decide (0 ≤ chosen zs (gapI a1 a2) P) := by
      rcases HSP.out with ⟨h1, h2⟩ | ⟨k, h1, h2, h3, _⟩
      · rw [h1, someTo_none (fun q hq => h2 q (by rw [HL.out]; exact hq))]; rfl
      · rw [h1, someTo_at (by have := HL.out; omega) h3, decide_eq_true (by omega)]
    rcases hs with ⟨q1, rfl, rfl⟩ | ⟨q, q1, q2, rfl, rfl⟩
    · have HSOME := Lib.hid (show someTo zs (gapI a1 a2) P n = false by rw [hsome, q1]; rfl)
      clear q1 hsome
      go_wp2_with fail
      go_loopw [13, 14] (fun s i wr => ∃ k : Nat, k ≤ n ∧ i = .int .i64 k ∧ s = .bool (someTo zs (gapI a1 a2) P k) ∧ Below W2.heap.size W2 wr) (fun _ i _ => n - (intOf i).toNat)
      case atStart => exact ⟨0, Nat.zero_le _, rfl, rfl, Below.refl _ _⟩
      case round =>
        obtain ⟨k, hk, rfl, rfl, hB⟩ := hrel
        have HB := Lib.hid hB
        clear hB
        by_cases hlt : k < n
        · have hlt' : (k : Int) < (n : Int) := by omega
          obtain ⟨b, off, ha, hb, hc⟩ := HI2.out.cells (p := k) (by rw [HL.out]; exact hlt)
          subst ha
          obtain ⟨x0, x1, x2, x3⟩ := hc k (by rw [HL.out]; exact hlt)
          have y0 := cellb HB.out hb x0
          have y1 := cellb HB.out hb x1
          have y2 := cellb HB.out hb x2
          have y3 := cellb HB.out hb x3
          have hw0 := (HOK.out k).1.1
          have hw1 := (HOK.out k).1.2
          have hf0 := HU1.out.2
          have ht0 := HU2.out.1
          clear hc x0 x1 x2 x3
          cases hst : someTo zs (gapI a1 a2) P k
          · have HST := Lib.hid hst
            clear hst
            rcases may_way (c := cat zs k) P HU1.out HU2.out (HOK.out k).1 with ⟨m1, m9⟩ | ⟨m1, m2, m9⟩ | ⟨m1, m2, m3, m9⟩ | ⟨m1, m2, m3, m4, m9⟩ | ⟨m1, m2, m3, m4, m5, m9⟩ | ⟨m1, m2, m3, m4, m5, m6, m9⟩ | ⟨m1, m2, m3, m4, m5, m6, m9⟩
            all_goals (first | (exfalso; omega) | skip)
            all_goals
              have HM := Lib.hid (show mayP zs (gapI a1 a2) P k = _ from m9)
              have HV := Lib.hid ((someTo_succ zs (gapI a1 a2) P k).trans (by rw [HST.out, HM.out]))
              clear m9
              have hte : (bits BinOp.and IntKind.u64 ((cat zs k).m / 2 ^ P) 1 == 1) = tb (cat zs k).m P := rfl
              try rw [m2] at hte
              try rw [m3] at y3
              try clear m2 m3
              go_wp2
              go_roundw
              case rel => exact ⟨k + 1, by omega, by go_num, by rw [HV.out] <;> rfl, HB.out.trans ((Below.refl _ _).alloc (by have := HB.out.size; omega) _)⟩
              case measure => simp [intOf]; omega
          · have HV := Lib.hid (show someTo zs (gapI a1 a2) P (k + 1) = true by rw [someTo_succ, hst, Bool.true_or])
            have HST := Lib.hid hst
            clear hst
            go_wp2
            go_roundw
            case rel => exact ⟨k + 1, by omega, by go_num, by rw [HV.out], HB.out.trans ((Below.refl _ _).alloc (by have := HB.out.size; omega) _)⟩
            case measure => simp [intOf]; omega
        · obtain rfl : k = n := by omega
          rw [HSOME.out]
          go_wp2
          go_ret
          exact ⟨rfl, nx HB2.out HB.out⟩
    · have HSOME := Lib.hid (show someTo zs (gapI a1 a2) P n = true by rw [hsome, q1]; simp)
      have hmay : mayP zs (gapI a1 a2) P q = true := by
        rcases HSP.out with ⟨h1, _⟩ | ⟨k, h1, _, h3, _⟩
        · omega
        · obtain rfl : k = q := by omega
          exact h3
      obtain ⟨p0, p1, p2, p3, p4, p5, p6, p7⟩ := chosen_facts HU1.out HU2.out HOK.out hmay
      rw [Int.toNat_natCast] at p2
      have HP2 := Lib.hid p2
      have HP3 := Lib.hid p3
      clear q1 hsome hmay p2 p3 p4 p5 p6 p7
      go_wp2_with fail
      go_loopw [13, 14] (fun s i wr => ∃ k : Nat, k ≤ n ∧ i = .int .i64 k ∧ s = .bool (someTo zs (gapI a1 a2) P k) ∧ Below W2.heap.size W2 wr) (fun _ i _ => n - (intOf i).toNat)
      case atStart => exact ⟨0, Nat.zero_le _, rfl, rfl, Below.refl _ _⟩
      case round =>
        obtain ⟨k, hk, rfl, rfl, hB⟩ := hrel
        have HB := Lib.hid hB
        clear hB
        by_cases hlt : k < n
        · have hlt' : (k : Int) < (n : Int) := by omega
          obtain ⟨b, off, ha, hb, hc⟩ := HI2.out.cells (p := k) (by rw [HL.out]; exact hlt)
          subst ha
          obtain ⟨x0, x1, x2, x3⟩ := hc k (by rw [HL.out]; exact hlt)
          have y0 := cellb HB.out hb x0
          have y1 := cellb HB.out hb x1
          have y2 := cellb HB.out hb x2
          have y3 := cellb HB.out hb x3
          have hw0 := (HOK.out k).1.1
          have hw1 := (HOK.out k).1.2
          have hf0 := HU1.out.2
          have ht0 := HU2.out.1
          clear hc x0 x1 x2 x3
          cases hst : someTo zs (gapI a1 a2) P k
          · have HST := Lib.hid hst
            clear hst
            rcases may_way (c := cat zs k) P HU1.out HU2.out (HOK.out k).1 with ⟨m1, m9⟩ | ⟨m1, m2, m9⟩ | ⟨m1, m2, m3, m9⟩ | ⟨m1, m2, m3, m4, m9⟩ | ⟨m1, m2, m3, m4, m5, m9⟩ | ⟨m1, m2, m3, m4, m5, m6, m9⟩ | ⟨m1, m2, m3, m4, m5, m6, m9⟩
            all_goals (first | (exfalso; omega) | skip)
            all_goals
              have HM := Lib.hid (show mayP zs (gapI a1 a2) P k = _ from m9)
              have HV := Lib.hid ((someTo_succ zs (gapI a1 a2) P k).trans (by rw [HST.out, HM.out]))
              clear m9
              have hte : (bits BinOp.and IntKind.u64 ((cat zs k).m / 2 ^ P) 1 == 1) = tb (cat zs k).m P := rfl
              try rw [m2] at hte
              try rw [m3] at y3
              try clear m2 m3
              go_wp2
              go_roundw
              case rel => exact ⟨k + 1, by omega, by go_num, by rw [HV.out] <;> rfl, HB.out.trans ((Below.refl _ _).alloc (by have := HB.out.size; omega) _)⟩
              case measure => simp [intOf]; omega
          · have HV := Lib.hid (show someTo zs (gapI a1 a2) P (k + 1) = true by rw [someTo_succ, hst, Bool.true_or])
            have HST := Lib.hid hst
            clear hst
            go_wp2
            go_roundw
            case rel => exact ⟨k + 1, by omega, by go_num, by rw [HV.out], HB.out.trans ((Below.refl _ _).alloc (by have := HB.out.size; omega) _)⟩
            case measure => simp [intOf]; omega
        · obtain rfl : k = n := by omega
          rw [HSOME.out]
          obtain ⟨b, off, ha, hb, hc⟩ := HI2.out.cells (p := q) (by rw [HL.out]; exact q2)
          subst ha
          obtain ⟨x0, x1, x2, x3⟩ := hc q (by rw [HL.out]; exact q2)
          have y2 := cellb HB.out hb x2
          have y3 := cellb HB.out hb x3
          rw [HP3.out] at y3
          have hte : (bits BinOp.and IntKind.u64 ((cat zs q).m / 2 ^ P) 1 == 1) = true := HP2.out
          have hq2 : (q : Int) < (k : Int) := by omega
          clear hc x0 x1 x2 x3
          go_wp2
          go_ret
          exact ⟨by simp, nx HB2.out HB.out⟩

set_option maxRecDepth 100000 in
theorem lifted (os : Os) (started : os.Started) (H : Type) (enc : TypeId × Value → H) :
    ReturnsInHanded {} Try.checked os 5 .any (Rows.pullMaySpec.pre6 enc Try.prog Try.f5 Rows.pullMayRow.domain false) (Rows.pullMaySpec.post enc Try.prog Try.f5 false true false false) := by
  refine returnsInHanded_of_change (C := Try.checked) own started (by kernel_rfl) Try.func5
    (ChangeSpec.witness6 (enc := enc) (C := Try.checked) false ⟨#[], #[.slice none 0 0, .int .u64 0, .int .u64 0, .int .i64 0], []⟩ 8 (by kernel_rfl) (by kernel_rfl) (by kernel_rfl) (by kernel_rfl)) ?_
  intro W base args ds gs before hval0 hW hcnd _
  have hval : ∀ (j : Nat) t v, Try.f5.params[j]? = some t → args[j]? = some v → Value.okWide Try.prog W .any base t v := hval0
  have hW' := hW
  obtain ⟨p, q, hA0, hV, rfl, hfz, hnd⟩ := hW
  have hA : DataW.TrodAll enc Try.prog W 0 (fun _ => true) true Try.f5.params.toList args.toList ds p := hA0
  rw [Try.params5] at hA hval
  obtain ⟨v0, vs0, d0, ds0, p0, q0, hargs, rfl, rfl, h0, r0⟩ := trodAll_cons hA
  obtain ⟨v1, vs1, d1, ds1, p1, q1, rfl, rfl, rfl, h1, r1⟩ := trodAll_cons r0
  obtain ⟨v2, vs2, d2, ds2, p2, q2, rfl, rfl, rfl, h2, r2⟩ := trodAll_cons r1
  obtain ⟨v3, vs3, d3, ds3, p3, q3, rfl, rfl, rfl, h3, r3⟩ := trodAll_cons r2
  obtain ⟨rfl, rfl, rfl⟩ := trodAll_nil r3
  obtain rfl : args = #[v0, v1, v2, v3] := by cases args; simp_all
  obtain ⟨rfl, rfl⟩ := trodVars_none hV
  obtain ⟨a0, len0, cap0, rfl⟩ := okWide_slice Try.underlying22 (hval 0 22 v0 rfl rfl)
  have k0 := h0
  have lt0 : ∀ x ∈ p0, x.block < W.heap.size := by obtain ⟨m, hm⟩ := k0; exact DataW.trod_lt m _ _ _ hm
  obtain ⟨z0, w0⟩ : ∃ z, IsCds W a0 len0 cap0 z := by
    obtain ⟨fuel, hf⟩ := h0
    exact open_cds hf
  obtain ⟨a1, rfl, rfl, rfl, w1⟩ := open_int Try.underlying23 (hval 1 23 v1 rfl rfl) h1
  obtain ⟨a2, rfl, rfl, rfl, w2⟩ := open_int Try.underlying23 (hval 2 23 v2 rfl rfl) h2
  obtain ⟨a3, rfl, rfl, rfl, w3⟩ := open_int Try.underlying3 (hval 3 3 v3 rfl rfl) h3
  clear hA0 hval0
  refine (walk a0 len0 cap0 z0 a1 a2 a3 W w0 w1 w2 w3).mono fun e W' ⟨he, bel⟩ => ?_
  subst he
  exact ⟨_, rfl, _, _, _, [], _, [], hW', trodAll_mk1 (shut_bool Try.underlying4 _), (trodAll_cons_mk (Below.trod laidOut (by kernel_rfl) (of_decide_eq_true (by kernel_rfl)) k0 bel lt0) (trodAll_cons_mk (shut_int Try.underlying23 w1) (trodAll_cons_mk (shut_int Try.underlying23 w2) (trodAll_cons_mk (shut_int Try.underlying3 w3) trodAll_mk0)))), rfl, bel.frame _, fun h => by cases h⟩

theorem over : Rows.pullMayRow.holds Try.pinned (OpenSpec.ofChange Rows.pullMaySpec) :=
  OpenClaim.holds_of_wide 5 Try.f5 rfl rfl rfl rfl rfl rfl rfl ⟨rfl, rfl, rfl, rfl, rfl⟩ rfl rfl rfl rfl rfl (by kernel_rfl) Try.func5 (by kernel_rfl)
    (of_decide_eq_true (by kernel_rfl)) (by unfold Func.isWrapper; first | (rw [if_pos (by decide +kernel)]; kernel_rfl) | (rw [if_neg (by decide +kernel)]; exact ⟨rfl, rfl⟩))
    (fun os started H enc _ => lifted os started H enc)

theorem proved : Rows.PullMaySaid := over
#print axioms proved
end Go.Proofs.Ytkgpjcoapopgmaa.pullMay
