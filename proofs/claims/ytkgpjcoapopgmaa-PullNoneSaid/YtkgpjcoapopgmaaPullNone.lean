/- PullNone: at every input the law returns true and leaves its arguments as they were: nothing is pulled from a P that hasn't more load, nor of none, nor on a P that there is not, nor where all run. Conditions: none beyond the row's own. -/
import Derived.Test.YtkgpjcoapopgmaaRows
import Derived.Test.YtkgpjcoapopgmaaOwn
import Derived.WalkKit
import Derived.Deep.QuietTactic
import Derived.BigQuiet
import Derived.ProofKit
import Derived.OpenShut
import Derived.ShutString
import Derived.ChangeOld
import Derived.Below
namespace Go.Proofs.Ytkgpjcoapopgmaa.pullNone
open Go.ChangeShapes Go.WideShapes Go.ChangeAt Go.RowKit
open Go.ChangeMaps (open_string shut_string)
set_option linter.unusedVariables false

theorem own : ownKnob Try.prog.godebug = none := by kernel_rfl
theorem laidOut : laidOutB Try.prog = true := by kernel_rfl

set_option maxRecDepth 100000 in
set_option maxHeartbeats 8000000 in
theorem walk (a0 : Option Addr) (len0 cap0 : Nat) (z0 : List Cd) (a1 : Int) (a2 : Int) (a3 : Int) (w : World) (w0 : IsCds w a0 len0 cap0 z0) (w1 : (Lit.int .u64 a1).wf = true) (w2 : (Lit.int .u64 a2).wf = true) (w3 : (Lit.int .i64 a3).wf = true) :
    Calls Try.prog 7 #[.slice a0 len0 cap0, .int .u64 a1, .int .u64 a2, .int .i64 a3] w fun e w' => e = .returned (.bool true) ∧ Below w.heap.size w w' := by
  obtain ⟨n, zs, hn1, hn2, hn3, hn4, hI, hok, hf⟩ := pre w0
  have hU1 := u64_of w1
  have hU2 := u64_of w2
  have HI := Lib.hid hI
  have HL := Lib.hid hn1
  have HOK := Lib.hid hok
  have HF := Lib.hid hf
  have HU1 := Lib.hid hU1
  have HU2 := Lib.hid hU2
  have hP := bounds_i64 w3
  have hcase : a1 < a2 ∨ a1 = a2 ∨ a2 < a1 := by omega
  clear hI hn1 hok hf w0 w1 w2 w3 hU1 hU2
  go_enter Try.func7, Try.ntmps7
  go_wp2_with fail
  refine (shown_any _).mono ?_
  rintro e W1 ⟨rfl, hb1⟩
  have HI1 := Lib.hid (Cds.next hb1 HI.out)
  have HB1 := Lib.hid hb1
  clear hb1
  go_wp2_with fail
  refine (HF.out _).mono ?_
  rintro e W' ⟨rfl, rfl⟩
  go_wp2_with fail
  go_loopw [11, 12] (fun v i wr => ∃ k : Nat, k ≤ n ∧ i = .int .i64 k ∧ OwnC wr W1.heap.size 35 v k (runTo zs k) ∧ Below W1.heap.size W1 wr) (fun _ i _ => n - (intOf i).toNat)
  case atStart => exact ⟨0, Nat.zero_le _, rfl, ownc_nil _ _ _, Below.refl _ _⟩
  case round =>
    obtain ⟨k, hk, rfl, hO, hB⟩ := hrel
    have HO := Lib.hid hO
    have HB := Lib.hid hB
    clear hO hB
    by_cases hlt : k < n
    · have hlt' : (k : Int) < (n : Int) := by omega
      obtain ⟨b, off, ha, hb, hc⟩ := HI1.out.cells (p := k) (by rw [HL.out]; exact hlt)
      subst ha
      obtain ⟨x0, x1, x2, x3⟩ := hc k (by rw [HL.out]; exact hlt)
      have y0 := cellb HB.out hb x0
      have y1 := cellb HB.out hb x1
      have y2 := cellb HB.out hb x2
      have y3 := cellb HB.out hb x3
      have hsz := HB.out.size
      have HR := Lib.hid (runTo_succ (zs := zs) (k := k) (by rw [HL.out]; exact hlt))
      clear hc x0 x1 x2 x3
      go_wp2_with (at_builtin; refine append_cd Try.underlying22 Try.info35 rfl _ _ rfl W1.heap.size _ k (runTo zs k) rfl (World.ownsRow.alloc (World.ownsRow.alloc HO.out _) _) (wr.heap.size + 1) _ ⟨(cat zs k).id, (cat zs k).w, (cat zs k).m, true⟩ rfl ((cnewb (by simp)).trans rfl) ((cnewb (by simp)).trans rfl) ((cnewb (by simp)).trans rfl) ((cnewb (by simp)).trans rfl) (by omega) (by simp; omega) ?_; intro v' u hown' hgrow)
      have HG := Lib.hid (((HB.out.alloc hsz (.cells #[.int .i64 (cat zs k).id, .int .u64 (cat zs k).w, .int .u64 (cat zs k).m, .bool true] 35)).alloc (by simp; omega) (.cells #[.int .i64 (cat zs k).id, .int .u64 (cat zs k).w, .int .u64 (cat zs k).m, .bool true] 35)).grown hgrow (by simp; omega) (fun j e => (World.ownsRow.lt HO.out j e).1))
      have HO2 := Lib.hid hown'
      clear hown' hgrow
      go_roundw
      case rel => exact ⟨k + 1, by omega, by go_num, by rw [HR.out]; exact HO2.out, HG.out⟩
      case measure => simp [intOf]; omega
    · obtain rfl : k = n := by omega
      obtain ⟨ho1, ra, rc, rfl, ho3, ho4, ho5⟩ := HO.out.cds
      have HRL := Lib.hid ho1
      have HRI := Lib.hid ho5
      have HIB := Lib.hid (Cds.next HB.out HI1.out)
      clear ho1 ho3 ho4 ho5
      rcases hcase with hlt2 | rfl | hlt2
      all_goals
        go_wp2_with fail
        all_goals (first | omega | skip)
        refine (choose_no _ _ _ zs _ _ a3 _ HL.out HIB.out HOK.out (by omega) (by first | exact HU1.out | exact HU2.out) (by first | exact HU2.out | exact HU1.out) (gap_none HOK.out (by omega))).mono ?_
        rintro e X1 ⟨rfl, hb1⟩
        have HB1x := Lib.hid (nx HB.out hb1)
        have HIB1 := Lib.hid (Cds.next hb1 HIB.out)
        have HRI1 := Lib.hid (Cds.next hb1 HRI.out)
        clear hb1
        go_wp2_with fail
        refine (choose_no none 0 0 [] _ _ a3 _ rfl (.inl ⟨⟨_, _, rfl⟩, rfl⟩) empty_ok (by omega) HU1.out HU2.out (empty_none _ _)).mono ?_
        rintro e X2 ⟨rfl, hb2⟩
        have HB2 := Lib.hid (nx HB1x.out hb2)
        have HIB2 := Lib.hid (Cds.next hb2 HIB1.out)
        have HRI2 := Lib.hid (Cds.next hb2 HRI1.out)
        clear hb2
        go_wp2_with fail
        refine (choose_no _ _ _ zs _ _ 64 _ HL.out HIB2.out HOK.out (by omega) HU1.out HU2.out (far_none _ _)).mono ?_
        rintro e X3 ⟨rfl, hb3⟩
        have HB3 := Lib.hid (nx HB2.out hb3)
        have HIB3 := Lib.hid (Cds.next hb3 HIB2.out)
        have HRI3 := Lib.hid (Cds.next hb3 HRI2.out)
        clear hb3
        go_wp2_with fail
        refine (choose_no _ _ _ (runTo zs _) _ _ a3 _ HRL.out HRI3.out (run_ok HOK.out _) (by omega) HU1.out HU2.out (run_none _ _ _ _)).mono ?_
        rintro e X4 ⟨rfl, hb4⟩
        have HB4 := Lib.hid (nx HB3.out hb4)
        have HIB4 := Lib.hid (Cds.next hb4 HIB3.out)
        have HRI4 := Lib.hid (Cds.next hb4 HRI3.out)
        clear hb4
        go_wp2_with fail
        refine (choose_no _ _ _ zs _ _ (-1) _ HL.out HIB4.out HOK.out (by omega) HU1.out HU2.out (below_none _ _)).mono ?_
        rintro e X5 ⟨rfl, hb5⟩
        have HB5 := Lib.hid (nx HB4.out hb5)
        have HIB5 := Lib.hid (Cds.next hb5 HIB4.out)
        have HRI5 := Lib.hid (Cds.next hb5 HRI4.out)
        clear hb5
        go_wp2
        go_ret
        exact ⟨rfl, nx HB1.out HB5.out⟩

set_option maxRecDepth 100000 in
theorem lifted (os : Os) (started : os.Started) (H : Type) (enc : TypeId × Value → H) :
    ReturnsInHanded {} Try.checked os 7 .any (Rows.pullNoneSpec.pre6 enc Try.prog Try.f7 Rows.pullNoneRow.domain false) (Rows.pullNoneSpec.post enc Try.prog Try.f7 false true false false) := by
  refine returnsInHanded_of_change (C := Try.checked) own started (by kernel_rfl) Try.func7
    (ChangeSpec.witness6 (enc := enc) (C := Try.checked) false ⟨#[], #[.slice none 0 0, .int .u64 0, .int .u64 0, .int .i64 0], []⟩ 8 (by kernel_rfl) (by kernel_rfl) (by kernel_rfl) (by kernel_rfl)) ?_
  intro W base args ds gs before hval0 hW hcnd _
  have hval : ∀ (j : Nat) t v, Try.f7.params[j]? = some t → args[j]? = some v → Value.okWide Try.prog W .any base t v := hval0
  have hW' := hW
  obtain ⟨p, q, hA0, hV, rfl, hfz, hnd⟩ := hW
  have hA : DataW.TrodAll enc Try.prog W 0 (fun _ => true) true Try.f7.params.toList args.toList ds p := hA0
  rw [Try.params7] at hA hval
  obtain ⟨v0, vs0, d0, ds0, p0, q0, hargs, rfl, rfl, h0, r0⟩ := trodAll_cons hA
  obtain ⟨v1, vs1, d1, ds1, p1, q1, rfl, rfl, rfl, h1, r1⟩ := trodAll_cons r0
  obtain ⟨v2, vs2, d2, ds2, p2, q2, rfl, rfl, rfl, h2, r2⟩ := trodAll_cons r1
  obtain ⟨v3, vs3, d3, ds3, p3, q3, rfl, rfl, rfl, h3, r3⟩ := trodAll_cons r2
  obtain ⟨rfl, rfl, rfl⟩ := trodAll_nil r3
  obtain rfl : args = #[v0, v1, v2, v3] := by cases args; simp_all
  obtain ⟨rfl, rfl⟩ := trodVars_none hV
  obtain ⟨a0, len0, cap0, rfl⟩ := okWide_slice Try.underlying22 (hval 0 22 v0 rfl rfl)
  have k0 := h0
  have lt0 : ∀ x ∈ p0, x.block < W.heap.size := by obtain ⟨m, hm⟩ := k0; exact DataW.trod_lt m _ _ _ hm
  obtain ⟨z0, w0⟩ : ∃ z, IsCds W a0 len0 cap0 z := by
    obtain ⟨fuel, hf⟩ := h0
    exact open_cds hf
  obtain ⟨a1, rfl, rfl, rfl, w1⟩ := open_int Try.underlying23 (hval 1 23 v1 rfl rfl) h1
  obtain ⟨a2, rfl, rfl, rfl, w2⟩ := open_int Try.underlying23 (hval 2 23 v2 rfl rfl) h2
  obtain ⟨a3, rfl, rfl, rfl, w3⟩ := open_int Try.underlying3 (hval 3 3 v3 rfl rfl) h3
  clear hA0 hval0
  refine (walk a0 len0 cap0 z0 a1 a2 a3 W w0 w1 w2 w3).mono fun e W' ⟨he, bel⟩ => ?_
  subst he
  exact ⟨_, rfl, _, _, _, [], _, [], hW', trodAll_mk1 (shut_bool Try.underlying4 _), (trodAll_cons_mk (Below.trod laidOut (by kernel_rfl) (of_decide_eq_true (by kernel_rfl)) k0 bel lt0) (trodAll_cons_mk (shut_int Try.underlying23 w1) (trodAll_cons_mk (shut_int Try.underlying23 w2) (trodAll_cons_mk (shut_int Try.underlying3 w3) trodAll_mk0)))), rfl, bel.frame _, fun h => by cases h⟩

theorem over : Rows.pullNoneRow.holds Try.pinned (OpenSpec.ofChange Rows.pullNoneSpec) :=
  OpenClaim.holds_of_wide 7 Try.f7 rfl rfl rfl rfl rfl rfl rfl ⟨rfl, rfl, rfl, rfl, rfl⟩ rfl rfl rfl rfl rfl (by kernel_rfl) Try.func7 (by kernel_rfl)
    (of_decide_eq_true (by kernel_rfl)) (by unfold Func.isWrapper; first | (rw [if_pos (by decide +kernel)]; kernel_rfl) | (rw [if_neg (by decide +kernel)]; exact ⟨rfl, rfl⟩))
    (fun os started H enc _ => lifted os started H enc)

theorem proved : Rows.PullNoneSaid := over
#print axioms proved
end Go.Proofs.Ytkgpjcoapopgmaa.pullNone
