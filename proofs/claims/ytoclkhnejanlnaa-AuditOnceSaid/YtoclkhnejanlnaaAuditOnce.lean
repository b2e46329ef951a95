/- AuditOnce: at every input the law returns true and leaves its arguments as they were: in a sound snapshot no task runs on two Ps, each that runs may be there, and as many are Running as Ps have one. Conditions: none beyond the row's own. -/
import Derived.Test.YtoclkhnejanlnaaRows
import Derived.Test.YtoclkhnejanlnaaSnap
import Derived.WalkKit
import Derived.Deep.QuietTactic
import Derived.BigQuiet
import Derived.ProofKit
import Derived.OpenShut
import Derived.ShutString
import Derived.ChangeOld
import Derived.Below
namespace Go.Proofs.Ytoclkhnejanlnaa.auditOnce
open Go.ChangeShapes Go.WideShapes Go.ChangeAt Go.RowKit
open Go.ChangeMaps (open_string shut_string)
set_option linter.unusedVariables false

theorem own : ownKnob Try.prog.godebug = none := by kernel_rfl
theorem laidOut : laidOutB Try.prog = true := by kernel_rfl

set_option maxRecDepth 100000 in
set_option maxHeartbeats 8000000 in
theorem walk (a0 : Value) (z0 : Sn) (w : World) (w0 : IsSnap w a0 z0) :
    Calls Try.prog 3 #[a0] w fun e w' => e = .returned (.bool true) ∧ Below w.heap.size w w' := by
  obtain ⟨ra, ta, ga, rn, rc, tn, tc, gn, gc, rfl, hs, hok, _, _, hg⟩ := w0
  have HS := Lib.hid hs
  have HO := Lib.hid hok
  have HGL := Lib.hid hs.g.1
  have HRL := Lib.hid hs.r.1
  have HTL := Lib.hid hs.t.1
  clear hs hok hg
  by_cases h100 : (100 : Int) < (gn : Int)
  · go_enter Try.func3, Try.ntmps3
    go_wp2_with fail
    refine (shown_any _).mono ?_
    rintro e W1 ⟨rfl, hb1⟩
    have HB1 := Lib.hid (nx (belowA _ _) hb1)
    have c2 := cellb hb1 (o := 2) (b := w.heap.size) (by simp) (cnewb.trans rfl)
    clear hb1
    go_wp2
    go_ret
    exact ⟨rfl, HB1.out⟩
  · go_enter Try.func3, Try.ntmps3
    go_wp2_with fail
    refine (shown_any _).mono ?_
    rintro e W1 ⟨rfl, hb1⟩
    have HB1 := Lib.hid (nx (belowA _ _) hb1)
    have c0 := cellb hb1 (o := 0) (b := w.heap.size) (by simp) (cnewb.trans rfl)
    have c1 := cellb hb1 (o := 1) (b := w.heap.size) (by simp) (cnewb.trans rfl)
    have c2 := cellb hb1 (o := 2) (b := w.heap.size) (by simp) (cnewb.trans rfl)
    have hlt1 : w.heap.size < W1.heap.size := by have := hb1.size; simp at this; omega
    clear hb1
    go_wp2_with fail
    refine (sound_any _ (HS.out.next HB1.out) HO.out).mono ?_
    rintro e W2 ⟨rfl, hb2⟩
    have HB2 := Lib.hid (nx HB1.out hb2)
    have d0 := cellb hb2 hlt1 c0
    have d1 := cellb hb2 hlt1 c1
    have d2 := cellb hb2 hlt1 c2
    clear hb2 c0 c1 c2
    cases hz : (((soundI z0 : Nat) : Int) != 0)
    · have h0 : soundI z0 = 0 := by simpa using hz
      have HZ := Lib.hid h0
      clear h0
      have hsz := sound_sizes HZ.out
      have hrn : rn ≤ 64 := by rw [← HRL.out]; exact hsz.1
      have htn : tn ≤ 64 := by rw [← HTL.out]; exact hsz.2.1
      have hg0 : 0 < gn := by rw [← HGL.out]; exact hsz.2.2.2
      have hg0' : (0 : Int) < (gn : Int) := by omega
      have HSW := Lib.hid (HS.out.next HB2.out)
      clear hsz
      have hra : (rn : Int) ≤ 64 := by omega
      go_wp2_with fail
      go_loop [4, 6] (fun c i => ∃ k : Nat, k ≤ rn ∧ i = .int .i64 k ∧ c = .int .i64 (cnt (fun p => decide (0 ≤ rat z0.run p)) k : Nat)) (fun _ i => rn - (intOf i).toNat)
      case atStart => exact ⟨0, Nat.zero_le _, rfl, rfl⟩
      case round =>
        obtain ⟨k, hk, rfl, rfl⟩ := hrel
        have hcl := cnt_le (fun p => decide (0 ≤ rat z0.run p)) k
        by_cases hlt : k < rn
        · have hlt' : (k : Int) < (rn : Int) := by omega
          obtain ⟨b, off, ha, hb, hc⟩ := HSW.out.r.ints (by omega)
          subst ha
          have e0 := hc k hlt
          by_cases h0 : 0 ≤ rat z0.run k
          · obtain ⟨t, ht⟩ := sound_on HZ.out (by rw [HRL.out]; exact hlt) h0
            have htl : t < tn := by rw [← HTL.out]; exact ht.lt
            have htl' : (t : Int) < (tn : Int) := by omega
            obtain ⟨b', off', ha', hb', hc'⟩ := HSW.out.t.tks (by omega)
            subst ha'
            obtain ⟨x0, x1, x2, x3⟩ := hc' t htl
            rw [ht.run] at e0
            rw [ht.at_] at x1
            have hk64 : (k : Int) < 64 := by omega
            have hmk : (bits BinOp.and IntKind.u64 ((tat z0.ts t).m / 2 ^ k) 1 != 1) = false := by
              have := ht.mask; rw [hasB_in hk64] at this; unfold tb at this
              simpa using this
            have hm0 := (HO.out.1 t).1
            have hm1 := (HO.out.1 t).2
            have HN := Lib.hid (show cnt (fun p => decide (0 ≤ rat z0.run p)) (k + 1) = cnt (fun p => decide (0 ≤ rat z0.run p)) k + 1 by rw [cnt, if_pos (by simpa using h0)])
            have HT := Lib.hid ht
            have HC := Lib.hid hc
            clear hc hc' ht h0
            go_wp2_with fail
            go_loop [8] (fun i => ∃ j : Nat, j ≤ k ∧ i = .int .i64 j) (fun i => k - (intOf i).toNat)
            case atStart => exact ⟨0, Nat.zero_le _, rfl⟩
            case round =>
              obtain ⟨j, hj, rfl⟩ := hrel
              by_cases hjk : j < k
              · have hjk' : (j : Int) < (k : Int) := by omega
                have q0 := HC.out j (by omega)
                have hjr : (j : Int) < (rn : Int) := by omega
                have hne : (rat z0.run j == (t : Int)) = false := by
                  cases hh : (rat z0.run j == (t : Int))
                  · rfl
                  · have hj0 : rat z0.run j = t := by simpa using hh
                    obtain ⟨u, hu⟩ := sound_on HZ.out (p := j) (by rw [HRL.out]; omega) (by omega)
                    have := hu.run
                    obtain rfl : u = t := by omega
                    have := on_once hu HT.out
                    omega
                go_wp2
                go_round
                case rel => exact ⟨j + 1, by omega, by go_num⟩
                case measure => simp [intOf]; omega
              · obtain rfl : j = k := by omega
                go_wp2
                go_round
                case rel => exact ⟨j + 1, by omega, by go_num, by rw [HN.out]; go_num⟩
                case measure => simp [intOf]; omega
          · have HN := Lib.hid (show cnt (fun p => decide (0 ≤ rat z0.run p)) (k + 1) = cnt (fun p => decide (0 ≤ rat z0.run p)) k by rw [cnt, if_neg (by simpa using h0)]; rfl)
            have h0' : rat z0.run k < 0 := by omega
            clear hc h0
            go_wp2
            go_round
            case rel => exact ⟨k + 1, by omega, by go_num, by rw [HN.out]⟩
            case measure => simp [intOf]; omega
        · obtain rfl : k = rn := by omega
          have hcl2 := cnt_le (fun i => (tat z0.ts i).st == 3)
          have HCL := Lib.hid hcl2
          clear hcl2
          go_wp2_with fail
          go_loop [5, 9] (fun c i => ∃ j : Nat, j ≤ tn ∧ i = .int .i64 j ∧ c = .int .i64 (cnt (fun i => (tat z0.ts i).st == 3) j : Nat)) (fun _ i => tn - (intOf i).toNat)
          case atStart => exact ⟨0, Nat.zero_le _, rfl, rfl⟩
          case round =>
            obtain ⟨j, hj, rfl, rfl⟩ := hrel
            have hcl := HCL.out j
            by_cases hjt : j < tn
            · have hjt' : (j : Int) < (tn : Int) := by omega
              obtain ⟨b', off', ha', hb', hc'⟩ := HSW.out.t.tks (by omega)
              subst ha'
              obtain ⟨x0, x1, x2, x3⟩ := hc' j hjt
              clear hc' x1 x2 x3
              cases h3 : ((tat z0.ts j).st == 3)
              · have HN := Lib.hid (show cnt (fun i => (tat z0.ts i).st == 3) (j + 1) = cnt (fun i => (tat z0.ts i).st == 3) j by rw [cnt, if_neg (by simp only [h3]; decide)]; rfl)
                go_wp2
                go_round
                case rel => exact ⟨j + 1, by omega, by go_num, by rw [HN.out]⟩
                case measure => simp [intOf]; omega
              · have HN := Lib.hid (show cnt (fun i => (tat z0.ts i).st == 3) (j + 1) = cnt (fun i => (tat z0.ts i).st == 3) j + 1 by rw [cnt, if_pos h3])
                go_wp2
                go_round
                case rel => exact ⟨j + 1, by omega, by go_num, by rw [HN.out]; go_num⟩
                case measure => simp [intOf]; omega
            · obtain rfl : j = tn := by omega
              have HQ := Lib.hid (sound_count HZ.out)
              have heq : (((cnt (fun p => decide (0 ≤ rat z0.run p)) k : Nat) : Int) == ((cnt (fun i => (tat z0.ts i).st == 3) j : Nat) : Int)) = true := by
                have := HQ.out; rw [HRL.out, HTL.out] at this; rw [this]; simp
              go_wp2
              go_ret
              exact ⟨rfl, HB2.out⟩
    · go_wp2
      go_ret
      exact ⟨rfl, HB2.out⟩

set_option maxRecDepth 100000 in
theorem lifted (os : Os) (started : os.Started) (H : Type) (enc : TypeId × Value → H) :
    ReturnsInHanded {} Try.checked os 3 .any (Rows.auditOnceSpec.pre6 enc Try.prog Try.f3 Rows.auditOnceRow.domain false) (Rows.auditOnceSpec.post enc Try.prog Try.f3 false true false false) := by
  refine returnsInHanded_of_change (C := Try.checked) own started (by kernel_rfl) Try.func3
    (ChangeSpec.witness6 (enc := enc) (C := Try.checked) false ⟨#[], #[.agg #[.slice none 0 0, .slice none 0 0, .slice none 0 0]], []⟩ 8 (by kernel_rfl) (by kernel_rfl) (by kernel_rfl) (by kernel_rfl)) ?_
  intro W base args ds gs before hval0 hW hcnd _
  have hval : ∀ (j : Nat) t v, Try.f3.params[j]? = some t → args[j]? = some v → Value.okWide Try.prog W .any base t v := hval0
  have hW' := hW
  obtain ⟨p, q, hA0, hV, rfl, hfz, hnd⟩ := hW
  have hA : DataW.TrodAll enc Try.prog W 0 (fun _ => true) true Try.f3.params.toList args.toList ds p := hA0
  rw [Try.params3] at hA hval
  obtain ⟨v0, vs0, d0, ds0, p0, q0, hargs, rfl, rfl, h0, r0⟩ := trodAll_cons hA
  obtain ⟨rfl, rfl, rfl⟩ := trodAll_nil r0
  obtain rfl : args = #[v0] := by cases args; simp_all
  obtain ⟨rfl, rfl⟩ := trodVars_none hV
  have k0 := h0
  have lt0 : ∀ x ∈ p0, x.block < W.heap.size := by obtain ⟨m, hm⟩ := k0; exact DataW.trod_lt m _ _ _ hm
  obtain ⟨z0, w0⟩ : ∃ z, IsSnap W v0 z := open_snap (hval 0 26 v0 rfl rfl) h0
  clear hA0 hval0
  refine (walk v0 z0 W w0).mono fun e W' ⟨he, bel⟩ => ?_
  subst he
  exact ⟨_, rfl, _, _, _, [], _, [], hW', trodAll_mk1 (shut_bool Try.underlying4 _), (trodAll_cons_mk (Below.trod laidOut (by kernel_rfl) (of_decide_eq_true (by kernel_rfl)) k0 bel lt0) trodAll_mk0), rfl, bel.frame _, fun h => by cases h⟩

theorem over : Rows.auditOnceRow.holds Try.pinned (OpenSpec.ofChange Rows.auditOnceSpec) :=
  OpenClaim.holds_of_wide 3 Try.f3 rfl rfl rfl rfl rfl rfl rfl ⟨rfl, rfl, rfl, rfl, rfl⟩ rfl rfl rfl rfl rfl (by kernel_rfl) Try.func3 (by kernel_rfl)
    (of_decide_eq_true (by kernel_rfl)) (by unfold Func.isWrapper; first | (rw [if_pos (by decide +kernel)]; kernel_rfl) | (rw [if_neg (by decide +kernel)]; exact ⟨rfl, rfl⟩))
    (fun os started H enc _ => lifted os started H enc)

theorem proved : Rows.AuditOnceSaid := over
#print axioms proved
end Go.Proofs.Ytoclkhnejanlnaa.auditOnce
