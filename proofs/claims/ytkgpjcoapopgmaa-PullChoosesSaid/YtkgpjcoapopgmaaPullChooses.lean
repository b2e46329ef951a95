/- PullChooses: at every input the law returns true and leaves its arguments as they were: which one is pulled, whether it may be, and the loads behind that, are the document's. Conditions: none beyond the row's own. -/
import Derived.Test.YtkgpjcoapopgmaaRows
import Derived.Test.YtkgpjcoapopgmaaRefC
import Derived.WalkKit
import Derived.Deep.QuietTactic
import Derived.BigQuiet
import Derived.ProofKit
import Derived.OpenShut
import Derived.ShutString
import Derived.ChangeOld
import Derived.Below
namespace Go.Proofs.Ytkgpjcoapopgmaa.pullChooses
open Go.ChangeShapes Go.WideShapes Go.ChangeAt Go.RowKit
open Go.ChangeMaps (open_string shut_string)
set_option linter.unusedVariables false

theorem own : ownKnob Try.prog.godebug = none := by kernel_rfl
theorem laidOut : laidOutB Try.prog = true := by kernel_rfl

set_option maxRecDepth 100000 in
set_option maxHeartbeats 8000000 in
theorem walk (a0 : Option Addr) (len0 cap0 : Nat) (z0 : List Cd) (a1 : Int) (a2 : Int) (a3 : Int) (a4 : Int) (w : World) (w0 : IsCds w a0 len0 cap0 z0) (w1 : (Lit.int .u64 a1).wf = true) (w2 : (Lit.int .u64 a2).wf = true) (w3 : (Lit.int .i64 a3).wf = true) (w4 : (Lit.int .u64 a4).wf = true) :
    Calls Try.prog 3 #[.slice a0 len0 cap0, .int .u64 a1, .int .u64 a2, .int .i64 a3, .int .u64 a4] w fun e w' => e = .returned (.bool true) ∧ Below w.heap.size w w' := by
  obtain ⟨n, zs, hn1, hn2, hn3, hn4, hI, hok, hf⟩ := pre w0
  have hU1 := u64_of w1
  have hU2 := u64_of w2
  have HI := Lib.hid hI
  have HL := Lib.hid hn1
  have HOK := Lib.hid hok
  have HF := Lib.hid hf
  have HU1 := Lib.hid hU1
  have HU2 := Lib.hid hU2
  have hP := bounds_i64 w3
  have HU4 := Lib.hid (u64_of w4)
  clear hI hn1 hok hf w0 w1 w2 w3 w4 hU1 hU2
  go_enter Try.func3, Try.ntmps3
  go_wp2_with fail
  refine (shown_any _).mono ?_
  rintro e W1 ⟨rfl, hb1⟩
  have HI1 := Lib.hid (Cds.next hb1 HI.out)
  have HB1 := Lib.hid hb1
  clear hb1
  go_wp2_with fail
  refine (HF.out _).mono ?_
  rintro e W' ⟨rfl, rfl⟩
  go_wp2_with fail
  refine (choose_any _ _ _ zs a1 a2 a3 _ HL.out HI1.out HOK.out (by omega) HU1.out HU2.out).mono ?_
  rintro e W2 ⟨⟨u, v, rfl, hs⟩, hb2⟩
  have HI2 := Lib.hid (Cds.next hb2 HI1.out)
  have HB2 := Lib.hid (nx HB1.out hb2)
  have HSP := Lib.hid (chosen_spec zs (gapI a1 a2) a3)
  clear hb2
  have HSC := Lib.hid hs
  clear hs HSP
  go_wp2_with fail
  refine (real_any _ _ _ zs _ HL.out HI2.out (by omega)).mono ?_
  rintro e W3 ⟨⟨ra, rc, rfl, hr⟩, hb3⟩
  have HR3 := Lib.hid hr
  have HI3 := Lib.hid (Cds.next hb3 HI2.out)
  have HB3 := Lib.hid (nx HB2.out hb3)
  clear hr hb3
  go_wp2_with fail
  refine (refChoose_any _ _ _ zs a1 a2 a3 _ HL.out HR3.out HOK.out (by omega) HU1.out HU2.out).mono ?_
  rintro e W4 ⟨⟨u2, v2, rfl, hs2⟩, hb4⟩
  have HI4 := Lib.hid (Cds.next hb4 HI3.out)
  have HB4 := Lib.hid (nx HB3.out hb4)
  have hsame : u2 = u ∧ v2 = v ∧ ((u = .int .i64 0 ∧ v = .bool false) ∨ ∃ q : Nat, u = .int .i64 q ∧ v = .bool true) := by
    have hs := HSC.out
    rcases hs with ⟨q1, rfl, rfl⟩ | ⟨q, q1, _, rfl, rfl⟩
    · rcases hs2 with ⟨_, rfl, rfl⟩ | ⟨q', q1', _, rfl, rfl⟩
      · exact ⟨rfl, rfl, .inl ⟨rfl, rfl⟩⟩
      · omega
    · rcases hs2 with ⟨_, rfl, rfl⟩ | ⟨q', q1', _, rfl, rfl⟩
      · omega
      · obtain rfl : q' = q := by omega
        exact ⟨rfl, rfl, .inr ⟨q', rfl, rfl⟩⟩
  obtain ⟨rfl, rfl, huv⟩ := hsame
  have HUV := Lib.hid huv
  clear huv hs2 hb4 HSC
  go_wp2_with fail
  refine (after_any a1 a2 a4 _ HU1.out HU2.out HU4.out).mono ?_
  rintro e W5 ⟨rfl, hb5⟩
  have HI5 := Lib.hid (Cds.next hb5 HI4.out)
  have HB5 := Lib.hid (nx HB4.out hb5)
  clear hb5
  go_wp2_with fail
  refine (refAfter_any a1 a2 a4 _ HU1.out HU2.out HU4.out).mono ?_
  rintro e W6 ⟨rfl, hb6⟩
  have HI6 := Lib.hid (Cds.next hb6 HI5.out)
  have HB6 := Lib.hid (nx HB5.out hb6)
  clear hb6
  go_wp2_with fail
  refine (real_any _ _ _ zs _ HL.out HI6.out (by omega)).mono ?_
  rintro e W7 ⟨⟨xa, xc, rfl, hr⟩, hb7⟩
  have HR7 := Lib.hid hr
  have HI7 := Lib.hid (Cds.next hb7 HI6.out)
  have HB7 := Lib.hid (nx HB6.out hb7)
  clear hr hb7
  generalize gapI a1 a4 = g1
  generalize sat2 a2 a4 = g2
  go_wp2_with fail
  go_loopw [22] (fun i wr => ∃ k : Nat, k ≤ n ∧ i = .int .i64 k ∧ Below W7.heap.size W7 wr) (fun i _ => n - (intOf i).toNat)
  case atStart => exact ⟨0, Nat.zero_le _, rfl, Below.refl _ _⟩
  case round =>
    obtain ⟨k, hk, rfl, hB⟩ := hrel
    have HB := Lib.hid hB
    clear hB
    by_cases hlt : k < n
    · have hlt' : (k : Int) < (n : Int) := by omega
      obtain ⟨b, off, ha, hb, hc⟩ := HI7.out.cells (p := k) (by rw [HL.out]; exact hlt)
      obtain ⟨b', off', ha', hb', hc'⟩ := HR7.out.cells (p := k) (by rw [HL.out]; exact hlt)
      subst ha ha'
      obtain ⟨x0, x1, x2, x3⟩ := hc k (by rw [HL.out]; exact hlt)
      obtain ⟨z0', z1', z2', z3'⟩ := hc' k (by rw [HL.out]; exact hlt)
      have y0 := cellb HB.out hb x0
      have y1 := cellb HB.out hb x1
      have y2 := cellb HB.out hb x2
      have y3 := cellb HB.out hb x3
      have t0 := cellb HB.out hb' z0'
      have t1 := cellb HB.out hb' z1'
      have t2 := cellb HB.out hb' z2'
      have t3 := cellb HB.out hb' z3'
      have hsz := HB.out.size
      have hbr : b < wr.heap.size := Nat.lt_of_lt_of_le hb hsz
      have hbr' : b' < wr.heap.size := Nat.lt_of_lt_of_le hb' hsz
      obtain ⟨m, hm⟩ : ∃ m, mayC (cat zs k) a4 a3 = m := ⟨_, rfl⟩
      have HM := Lib.hid hm
      have HOKK := Lib.hid (HOK.out k)
      clear hc hc' x0 x1 x2 x3 z0' z1' z2' z3' hm
      go_wp2_with fail
      go_region_held3 (fun W' => W'.cell? ⟨b, off + k * 4, none⟩ = some (.int .i64 (cat zs k).id) ∧ W'.cell? ⟨b, off + k * 4 + 1, none⟩ = some (.int .u64 (cat zs k).w) ∧ W'.cell? ⟨b, off + k * 4 + 2, none⟩ = some (.int .u64 (cat zs k).m) ∧ W'.cell? ⟨b, off + k * 4 + 3, none⟩ = some (.bool (cat zs k).r) ∧
          W'.cell? ⟨b', off' + k * 4, none⟩ = some (.int .i64 (cat zs k).id) ∧ W'.cell? ⟨b', off' + k * 4 + 1, none⟩ = some (.int .u64 (cat zs k).w) ∧ W'.cell? ⟨b', off' + k * 4 + 2, none⟩ = some (.int .u64 (cat zs k).m) ∧ W'.cell? ⟨b', off' + k * 4 + 3, none⟩ = some (.bool (cat zs k).r))
        ((refine ⟨?_, ?_, ?_, ?_, ?_, ?_, ?_, ?_⟩) <;> (repeat (first | assumption | (with_reducible refine celld ?_) | (with_reducible refine cella _ ?_ ?_) | (with_reducible refine lta ?_) | (with_reducible refine ltd ?_))))
        (first | (go_at_call 16; refine (may_any (cat zs k) _ _ _ HOKK.out).mono ?_; rintro e w' ⟨rfl, rfl⟩) | (go_at_call 17; refine (refMay_any (cat zs k) _ _ _ HOKK.out).mono ?_; rintro e w' ⟨rfl, rfl⟩))
      all_goals
        have hmm : (mayC (cat zs k) a4 a3 != mayC (cat zs k) a4 a3) = false := by simp
        go_wp2
        go_roundw
        case rel => exact ⟨k + 1, by omega, by go_num, HB.out.trans (by repeat (first | exact Below.refl _ _ | refine Below.drew ?_ | refine Below.alloc ?_ (by first | (simp only [World.size_alloc]; omega) | omega | (show _ ≤ (World.alloc _ _).heap.size; simp only [World.size_alloc]; omega)) _))⟩
        case measure => simp [intOf]; omega
    · obtain rfl : k = n := by omega
      have hg1 : (g1 == g1) = true := by simp
      have hg2 : (g2 == g2) = true := by simp
      have huv := HUV.out
      rcases huv with ⟨rfl, rfl⟩ | ⟨q, rfl, rfl⟩
      · go_wp2
        go_ret
        exact ⟨rfl, nx HB7.out HB.out⟩
      · have hqq : ((q : Int) == (q : Int)) = true := by simp
        go_wp2
        go_ret
        exact ⟨by simp, nx HB7.out HB.out⟩

set_option maxRecDepth 100000 in
theorem lifted (os : Os) (started : os.Started) (H : Type) (enc : TypeId × Value → H) :
    ReturnsInHanded {} Try.checked os 3 .any (Rows.pullChoosesSpec.pre6 enc Try.prog Try.f3 Rows.pullChoosesRow.domain false) (Rows.pullChoosesSpec.post enc Try.prog Try.f3 false true false false) := by
  refine returnsInHanded_of_change (C := Try.checked) own started (by kernel_rfl) Try.func3
    (ChangeSpec.witness6 (enc := enc) (C := Try.checked) false ⟨#[], #[.slice none 0 0, .int .u64 0, .int .u64 0, .int .i64 0, .int .u64 0], []⟩ 8 (by kernel_rfl) (by kernel_rfl) (by kernel_rfl) (by kernel_rfl)) ?_
  intro W base args ds gs before hval0 hW hcnd _
  have hval : ∀ (j : Nat) t v, Try.f3.params[j]? = some t → args[j]? = some v → Value.okWide Try.prog W .any base t v := hval0
  have hW' := hW
  obtain ⟨p, q, hA0, hV, rfl, hfz, hnd⟩ := hW
  have hA : DataW.TrodAll enc Try.prog W 0 (fun _ => true) true Try.f3.params.toList args.toList ds p := hA0
  rw [Try.params3] at hA hval
  obtain ⟨v0, vs0, d0, ds0, p0, q0, hargs, rfl, rfl, h0, r0⟩ := trodAll_cons hA
  obtain ⟨v1, vs1, d1, ds1, p1, q1, rfl, rfl, rfl, h1, r1⟩ := trodAll_cons r0
  obtain ⟨v2, vs2, d2, ds2, p2, q2, rfl, rfl, rfl, h2, r2⟩ := trodAll_cons r1
  obtain ⟨v3, vs3, d3, ds3, p3, q3, rfl, rfl, rfl, h3, r3⟩ := trodAll_cons r2
  obtain ⟨v4, vs4, d4, ds4, p4, q4, rfl, rfl, rfl, h4, r4⟩ := trodAll_cons r3
  obtain ⟨rfl, rfl, rfl⟩ := trodAll_nil r4
  obtain rfl : args = #[v0, v1, v2, v3, v4] := by cases args; simp_all
  obtain ⟨rfl, rfl⟩ := trodVars_none hV
  obtain ⟨a0, len0, cap0, rfl⟩ := okWide_slice Try.underlying22 (hval 0 22 v0 rfl rfl)
  have k0 := h0
  have lt0 : ∀ x ∈ p0, x.block < W.heap.size := by obtain ⟨m, hm⟩ := k0; exact DataW.trod_lt m _ _ _ hm
  obtain ⟨z0, w0⟩ : ∃ z, IsCds W a0 len0 cap0 z := by
    obtain ⟨fuel, hf⟩ := h0
    exact open_cds hf
  obtain ⟨a1, rfl, rfl, rfl, w1⟩ := open_int Try.underlying23 (hval 1 23 v1 rfl rfl) h1
  obtain ⟨a2, rfl, rfl, rfl, w2⟩ := open_int Try.underlying23 (hval 2 23 v2 rfl rfl) h2
  obtain ⟨a3, rfl, rfl, rfl, w3⟩ := open_int Try.underlying3 (hval 3 3 v3 rfl rfl) h3
  obtain ⟨a4, rfl, rfl, rfl, w4⟩ := open_int Try.underlying23 (hval 4 23 v4 rfl rfl) h4
  clear hA0 hval0
  refine (walk a0 len0 cap0 z0 a1 a2 a3 a4 W w0 w1 w2 w3 w4).mono fun e W' ⟨he, bel⟩ => ?_
  subst he
  exact ⟨_, rfl, _, _, _, [], _, [], hW', trodAll_mk1 (shut_bool Try.underlying4 _), (trodAll_cons_mk (Below.trod laidOut (by kernel_rfl) (of_decide_eq_true (by kernel_rfl)) k0 bel lt0) (trodAll_cons_mk (shut_int Try.underlying23 w1) (trodAll_cons_mk (shut_int Try.underlying23 w2) (trodAll_cons_mk (shut_int Try.underlying3 w3) (trodAll_cons_mk (shut_int Try.underlying23 w4) trodAll_mk0))))), rfl, bel.frame _, fun h => by cases h⟩

theorem over : Rows.pullChoosesRow.holds Try.pinned (OpenSpec.ofChange Rows.pullChoosesSpec) :=
  OpenClaim.holds_of_wide 3 Try.f3 rfl rfl rfl rfl rfl rfl rfl ⟨rfl, rfl, rfl, rfl, rfl⟩ rfl rfl rfl rfl rfl (by kernel_rfl) Try.func3 (by kernel_rfl)
    (of_decide_eq_true (by kernel_rfl)) (by unfold Func.isWrapper; first | (rw [if_pos (by decide +kernel)]; kernel_rfl) | (rw [if_neg (by decide +kernel)]; exact ⟨rfl, rfl⟩))
    (fun os started H enc _ => lifted os started H enc)

theorem proved : Rows.PullChoosesSaid := over
#print axioms proved
end Go.Proofs.Ytkgpjcoapopgmaa.pullChooses
