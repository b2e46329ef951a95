/- LoadBest: at every input the law returns true and leaves its arguments as they were: none that may be has more load than the busiest one but the one left out, none less than the least one, and of like ones the lowest is taken. Conditions: none beyond the row's own. -/
import Derived.Test.YtigpcjikdpknnaaRows
import Derived.Test.YtigpcjikdpknnaaLawB
import Derived.WalkKit
import Derived.Deep.QuietTactic
import Derived.BigQuiet
import Derived.ProofKit
import Derived.OpenShut
import Derived.ShutString
import Derived.ChangeOld
import Derived.Below
namespace Go.Proofs.Ytigpcjikdpknnaa.loadBest
open Go.ChangeShapes Go.WideShapes Go.ChangeAt Go.RowKit
open Go.ChangeMaps (open_string shut_string)
set_option linter.unusedVariables false

theorem own : ownKnob Try.prog.godebug = none := by kernel_rfl
theorem laidOut : laidOutB Try.prog = true := by kernel_rfl

set_option maxRecDepth 100000 in
set_option maxHeartbeats 4000000 in
theorem walk (a0 : Option Addr) (len0 cap0 : Nat) (z0 : List Int) (a1 : Int) (a2 : Int) (w : World) (w0 : IsRow .u64 w a0 len0 cap0 z0) (w1 : (Lit.int .i64 a1).wf = true) (w2 : (Lit.int .u64 a2).wf = true) :
    Calls Try.prog 4 #[.slice a0 len0 cap0, .int .i64 a1, .int .u64 a2] w fun e w' => e = .returned (.bool true) ∧ Below w.heap.size w w' := by
  obtain ⟨zs, hn1, hn2, hI, hz, hf⟩ := pre w0
  have hr : zs.length * 8 ≤ 140737488351232 := by omega
  have hM := bounds_u64 w2
  have hm0 := hM.1
  have hm1 : a2 < 18446744073709551616 := by omega
  have hlen : zs.length ≤ 9223372036854775807 := by omega
  have HI := Lib.hid hI
  have HF := Lib.hid hf
  have hbs := busiest_spec zs a1 a2
  have hls := least_spec zs a2
  clear hI hf w0 w1 w2 hz hM
  rcases hls with ⟨l1, l2⟩ | ⟨M, l1, l2, l3, l4⟩
  · have hb : busiest zs a1 a2 = -1 := by
      rcases hbs with ⟨b1, _⟩ | ⟨B, b1, b2, b3, _⟩
      · exact b1
      · rw [l2 B b2] at b3; cases b3
    have HL := Lib.hid l1
    have HL2 := Lib.hid l2
    have HB := Lib.hid hb
    clear l1 l2 hb hbs
    go_enter Try.func4, Try.ntmps4
    go_wp2_with fail
    refine (shown_any _).mono ?_
    rintro e W1 ⟨rfl, hb1⟩
    have HI1 := Lib.hid (nx0 hb1 HI.out)
    go_wp2_with fail
    refine (HF.out _ _ (.inl rfl)).mono ?_
    rintro e W' ⟨rfl, rfl⟩
    go_wp2_with fail
    refine (busiest_any _ _ _ zs _ _ _ HI1.out hr).mono ?_
    rintro e W2 ⟨rfl, hb2⟩
    rw [HB.out]
    have HI2 := Lib.hid (nx0 hb2 HI1.out)
    go_wp2_with fail
    refine (least_any _ _ _ zs _ _ HI2.out hr).mono ?_
    rintro e W3 ⟨rfl, hb3⟩
    rw [HL.out]
    have HI3 := Lib.hid (nx0 hb3 HI2.out)
    go_wp2_with fail
    go_loopw [11] (fun i wr => ∃ k : Nat, k ≤ zs.length ∧ i = .int .i64 k ∧ Drew W3 wr) (fun i _ => zs.length - (intOf i).toNat)
    case atStart => exact ⟨0, Nat.zero_le _, rfl, Drew.refl _⟩
    case round =>
      obtain ⟨k, hk, rfl, hd⟩ := hrel
      by_cases hlt : k < zs.length
      · have hlt' : (k : Int) < (zs.length : Int) := by omega
        cases hmk : mayB zs a2 k
        · have HK := Lib.hid hmk
          clear hmk
          go_wp2_with (go_at_call 23; refine (may_val _ _ _ _ zs a2 _ _ HK.out rfl hm0 hm1 hlen).mono ?_; rintro e w' ⟨rfl, rfl⟩)
          go_roundw
          case rel => exact ⟨k + 1, by omega, by go_num, hd⟩
          case measure => simp [intOf]; omega
        · have := HL2.out k hlt
          rw [hmk] at this; cases this
      · obtain rfl : k = zs.length := by omega
        go_wp2
        go_ret
        exact ⟨rfl, nx (nx (nx hb1 hb2) hb3) (hd.below _)⟩
  · rcases hbs with ⟨b1, b2⟩ | ⟨B, b1, b2, b3, b4, b5⟩
    · have HL := Lib.hid l1
      have HL4 := Lib.hid l4
      have HB2 := Lib.hid b2
      have HB := Lib.hid b1
      clear l1 l4 b1 b2
      go_enter Try.func4, Try.ntmps4
      go_wp2_with fail
      refine (shown_any _).mono ?_
      rintro e W1 ⟨rfl, hb1⟩
      have HI1 := Lib.hid (nx0 hb1 HI.out)
      go_wp2_with fail
      refine (HF.out _ _ (.inl rfl)).mono ?_
      rintro e W' ⟨rfl, rfl⟩
      go_wp2_with fail
      refine (busiest_any _ _ _ zs _ _ _ HI1.out hr).mono ?_
      rintro e W2 ⟨rfl, hb2⟩
      rw [HB.out]
      have HI2 := Lib.hid (nx0 hb2 HI1.out)
      go_wp2_with fail
      refine (least_any _ _ _ zs _ _ HI2.out hr).mono ?_
      rintro e W3 ⟨rfl, hb3⟩
      rw [HL.out]
      have HI3 := Lib.hid (nx0 hb3 HI2.out)
      go_wp2_with fail
      go_loopw [11] (fun i wr => ∃ k : Nat, k ≤ zs.length ∧ i = .int .i64 k ∧ Drew W3 wr) (fun i _ => zs.length - (intOf i).toNat)
      case atStart => exact ⟨0, Nat.zero_le _, rfl, Drew.refl _⟩
      case round =>
        obtain ⟨k, hk, rfl, hd⟩ := hrel
        by_cases hlt : k < zs.length
        · have hlt' : (k : Int) < (zs.length : Int) := by omega
          cases hmk : mayB zs a2 k
          · have HK := Lib.hid hmk
            clear hmk
            go_wp2_with (go_at_call 23; refine (may_val _ _ _ _ zs a2 _ _ HK.out rfl hm0 hm1 hlen).mono ?_; rintro e w' ⟨rfl, rfl⟩)
            go_roundw
            case rel => exact ⟨k + 1, by omega, by go_num, hd⟩
            case measure => simp [intOf]; omega
          · have HK := Lib.hid hmk
            obtain ⟨b, off, ha, hb, hc⟩ := (HI3.out).cells hlt
            subst ha
            have hck : wr.cell? ⟨b, off + k, none⟩ = some (.int .u64 (zat zs k)) := (hd.cell _).trans (hc k hlt)
            have hcM : wr.cell? ⟨b, off + M, none⟩ = some (.int .u64 (zat zs M)) := (hd.cell _).trans (hc M l2)
            have hl4 := HL4.out k hlt hmk
            have hno : ¬ zat zs k < zat zs M := by omega
            have hMi : (M : Int) < (zs.length : Int) := by omega
            have hMn : ¬ (M : Int) < 0 := by omega
            have hMg : ¬ (zs.length : Int) ≤ (M : Int) := by omega
            have hcase : ((zat zs k == zat zs M) = true ∧ ¬ (k : Int) < (M : Int)) ∨ ((zat zs k == zat zs M) = false ∧ True) := by
              by_cases e : zat zs k = zat zs M
              · exact .inl ⟨by simp [e], fun h => by have := hl4.2 (by omega); omega⟩
              · exact .inr ⟨by simp [e], trivial⟩
            have hmine : ((k : Int) != a1) = false := by simp [HB2.out k hlt hmk]
            clear hmk hl4 hc
            rcases hcase with ⟨hq, hq2⟩ | ⟨hq, hq2⟩
            all_goals
              go_wp2_with (go_at_call 23; refine (may_val _ _ _ _ zs a2 _ _ HK.out rfl hm0 hm1 hlen).mono ?_; rintro e w' ⟨rfl, rfl⟩)
              go_quiet (fail)
              go_wp2
              go_quiet (fail)
              go_wp2
              go_roundw
              case rel => exact ⟨k + 1, by omega, by go_num, hd.drewN _⟩
              case measure => simp [intOf]; omega
        · obtain rfl : k = zs.length := by omega
          have HK := Lib.hid l3
          go_wp2_with (go_at_call 23; refine (may_val _ _ _ _ zs a2 _ _ HK.out rfl hm0 hm1 hlen).mono ?_; rintro e w' ⟨rfl, rfl⟩)
          go_ret
          exact ⟨rfl, nx (nx (nx hb1 hb2) hb3) (hd.below _)⟩
    · have HL := Lib.hid l1
      have HL4 := Lib.hid l4
      have HB5 := Lib.hid b5
      have HB := Lib.hid b1
      clear l1 l4 b1 b5
      go_enter Try.func4, Try.ntmps4
      go_wp2_with fail
      refine (shown_any _).mono ?_
      rintro e W1 ⟨rfl, hb1⟩
      have HI1 := Lib.hid (nx0 hb1 HI.out)
      go_wp2_with fail
      refine (HF.out _ _ (.inl rfl)).mono ?_
      rintro e W' ⟨rfl, rfl⟩
      go_wp2_with fail
      refine (busiest_any _ _ _ zs _ _ _ HI1.out hr).mono ?_
      rintro e W2 ⟨rfl, hb2⟩
      rw [HB.out]
      have HI2 := Lib.hid (nx0 hb2 HI1.out)
      go_wp2_with fail
      refine (least_any _ _ _ zs _ _ HI2.out hr).mono ?_
      rintro e W3 ⟨rfl, hb3⟩
      rw [HL.out]
      have HI3 := Lib.hid (nx0 hb3 HI2.out)
      go_wp2_with fail
      go_loopw [11] (fun i wr => ∃ k : Nat, k ≤ zs.length ∧ i = .int .i64 k ∧ Drew W3 wr) (fun i _ => zs.length - (intOf i).toNat)
      case atStart => exact ⟨0, Nat.zero_le _, rfl, Drew.refl _⟩
      case round =>
        obtain ⟨k, hk, rfl, hd⟩ := hrel
        by_cases hlt : k < zs.length
        · have hlt' : (k : Int) < (zs.length : Int) := by omega
          cases hmk : mayB zs a2 k
          · have HK := Lib.hid hmk
            clear hmk
            go_wp2_with (go_at_call 23; refine (may_val _ _ _ _ zs a2 _ _ HK.out rfl hm0 hm1 hlen).mono ?_; rintro e w' ⟨rfl, rfl⟩)
            go_roundw
            case rel => exact ⟨k + 1, by omega, by go_num, hd⟩
            case measure => simp [intOf]; omega
          · have HK := Lib.hid hmk
            obtain ⟨b, off, ha, hb, hc⟩ := (HI3.out).cells hlt
            subst ha
            have hck : wr.cell? ⟨b, off + k, none⟩ = some (.int .u64 (zat zs k)) := (hd.cell _).trans (hc k hlt)
            have hcM : wr.cell? ⟨b, off + M, none⟩ = some (.int .u64 (zat zs M)) := (hd.cell _).trans (hc M l2)
            have hl4 := HL4.out k hlt hmk
            have hno : ¬ zat zs k < zat zs M := by omega
            have hMi : (M : Int) < (zs.length : Int) := by omega
            have hMn : ¬ (M : Int) < 0 := by omega
            have hMg : ¬ (zs.length : Int) ≤ (M : Int) := by omega
            have hcase : ((zat zs k == zat zs M) = true ∧ ¬ (k : Int) < (M : Int)) ∨ ((zat zs k == zat zs M) = false ∧ True) := by
              by_cases e : zat zs k = zat zs M
              · exact .inl ⟨by simp [e], fun h => by have := hl4.2 (by omega); omega⟩
              · exact .inr ⟨by simp [e], trivial⟩
            have hcB : wr.cell? ⟨b, off + B, none⟩ = some (.int .u64 (zat zs B)) := (hd.cell _).trans (hc B b2)
            have hBi : (B : Int) < (zs.length : Int) := by omega
            have hBn : ¬ (B : Int) < 0 := by omega
            have hBg : ¬ (zs.length : Int) ≤ (B : Int) := by omega
            have hBm : ((B : Int) == a1) = false := by simp [b4]
            have hcase2 : (((k : Int) != a1) = false ∧ True ∧ True ∧ True) ∨ (((k : Int) != a1) = true ∧ ¬ zat zs B < zat zs k ∧ (zat zs k == zat zs B) = true ∧ ¬ (k : Int) < (B : Int)) ∨ (((k : Int) != a1) = true ∧ ¬ zat zs B < zat zs k ∧ (zat zs k == zat zs B) = false ∧ True) := by
              by_cases em : (k : Int) = a1
              · exact .inl ⟨by simp [em], trivial, trivial, trivial⟩
              · have h5 := HB5.out k hlt hmk em
                by_cases e : zat zs k = zat zs B
                · exact .inr (.inl ⟨by simp [em], by omega, by simp [e], fun h => by have := h5.2 (by omega); omega⟩)
                · exact .inr (.inr ⟨by simp [em], by omega, by simp [e], trivial⟩)
            clear hmk hl4 hc b4
            rcases hcase with ⟨hq, hq2⟩ | ⟨hq, hq2⟩ <;> rcases hcase2 with ⟨g1, g2, g3, g4⟩ | ⟨g1, g2, g3, g4⟩ | ⟨g1, g2, g3, g4⟩
            all_goals
              go_wp2_with (go_at_call 23; refine (may_val _ _ _ _ zs a2 _ _ HK.out rfl hm0 hm1 hlen).mono ?_; rintro e w' ⟨rfl, rfl⟩)
              go_quiet (fail)
              go_wp2
              go_quiet (fail)
              go_wp2
              go_roundw
              case rel => exact ⟨k + 1, by omega, by go_num, hd.drewN _⟩
              case measure => simp [intOf]; omega
        · obtain rfl : k = zs.length := by omega
          have HK := Lib.hid l3
          have HK2 := Lib.hid b3
          go_wp2_with fail
          refine (may_val _ _ _ _ zs a2 _ _ HK2.out rfl hm0 hm1 hlen).mono ?_
          rintro e w' ⟨rfl, rfl⟩
          go_wp2_with fail
          refine (may_val _ _ _ _ zs a2 _ _ HK.out rfl hm0 hm1 hlen).mono ?_
          rintro e w' ⟨rfl, rfl⟩
          go_wp2
          go_ret
          exact ⟨rfl, nx (nx (nx hb1 hb2) hb3) (hd.below _)⟩

set_option maxRecDepth 100000 in
theorem lifted (os : Os) (started : os.Started) (H : Type) (enc : TypeId × Value → H) :
    ReturnsInHanded {} Try.checked os 4 .any (Rows.loadBestSpec.pre6 enc Try.prog Try.f4 Rows.loadBestRow.domain false) (Rows.loadBestSpec.post enc Try.prog Try.f4 false true false false) := by
  refine returnsInHanded_of_change (C := Try.checked) own started (by kernel_rfl) Try.func4
    (ChangeSpec.witness6 (enc := enc) (C := Try.checked) false ⟨#[], #[.slice none 0 0, .int .i64 0, .int .u64 0], []⟩ 8 (by kernel_rfl) (by kernel_rfl) (by kernel_rfl) (by kernel_rfl)) ?_
  intro W base args ds gs before hval0 hW hcnd _
  have hval : ∀ (j : Nat) t v, Try.f4.params[j]? = some t → args[j]? = some v → Value.okWide Try.prog W .any base t v := hval0
  have hW' := hW
  obtain ⟨p, q, hA0, hV, rfl, hfz, hnd⟩ := hW
  have hA : DataW.TrodAll enc Try.prog W 0 (fun _ => true) true Try.f4.params.toList args.toList ds p := hA0
  rw [Try.params4] at hA hval
  obtain ⟨v0, vs0, d0, ds0, p0, q0, hargs, rfl, rfl, h0, r0⟩ := trodAll_cons hA
  obtain ⟨v1, vs1, d1, ds1, p1, q1, rfl, rfl, rfl, h1, r1⟩ := trodAll_cons r0
  obtain ⟨v2, vs2, d2, ds2, p2, q2, rfl, rfl, rfl, h2, r2⟩ := trodAll_cons r1
  obtain ⟨rfl, rfl, rfl⟩ := trodAll_nil r2
  obtain rfl : args = #[v0, v1, v2] := by cases args; simp_all
  obtain ⟨rfl, rfl⟩ := trodVars_none hV
  obtain ⟨a0, len0, cap0, rfl⟩ := okWide_slice Try.underlying22 (hval 0 22 v0 rfl rfl)
  have k0 := h0
  have lt0 : ∀ x ∈ p0, x.block < W.heap.size := by obtain ⟨m, hm⟩ := k0; exact DataW.trod_lt m _ _ _ hm
  obtain ⟨z0, w0⟩ : ∃ zs, IsRow .u64 W a0 len0 cap0 zs := by
    obtain ⟨fuel, hf⟩ := h0
    rcases open_ints Try.underlying22 Try.underlying23 (by kernel_rfl) hf with ⟨hcs, _⟩ | ⟨x, l, c, zs, hcs, _, hl, hm, hz, _, hcell, hwz⟩
    · simp [Value.cells] at hcs
      obtain ⟨rfl, rfl, rfl⟩ := hcs
      exact ⟨[], .inl ⟨rfl, rfl, rfl, rfl⟩⟩
    · simp [Value.cells] at hcs
      obtain ⟨rfl, rfl, rfl⟩ := hcs
      exact ⟨zs, .inr ⟨_, rfl, hl, hm, by simpa using hz, hcell, hwz⟩⟩
  obtain ⟨a1, rfl, rfl, rfl, w1⟩ := open_int Try.underlying3 (hval 1 3 v1 rfl rfl) h1
  obtain ⟨a2, rfl, rfl, rfl, w2⟩ := open_int Try.underlying23 (hval 2 23 v2 rfl rfl) h2
  clear hA0 hval0
  refine (walk a0 len0 cap0 z0 a1 a2 W w0 w1 w2).mono fun e W' ⟨he, bel⟩ => ?_
  subst he
  exact ⟨_, rfl, _, _, _, [], _, [], hW', trodAll_mk1 (shut_bool Try.underlying4 _), (trodAll_cons_mk (Below.trod laidOut (by kernel_rfl) (of_decide_eq_true (by kernel_rfl)) k0 bel lt0) (trodAll_cons_mk (shut_int Try.underlying3 w1) (trodAll_cons_mk (shut_int Try.underlying23 w2) trodAll_mk0))), rfl, bel.frame _, fun h => by cases h⟩

theorem over : Rows.loadBestRow.holds Try.pinned (OpenSpec.ofChange Rows.loadBestSpec) :=
  OpenClaim.holds_of_wide 4 Try.f4 rfl rfl rfl rfl rfl rfl rfl ⟨rfl, rfl, rfl, rfl, rfl⟩ rfl rfl rfl rfl rfl (by kernel_rfl) Try.func4 (by kernel_rfl)
    (of_decide_eq_true (by kernel_rfl)) (by unfold Func.isWrapper; first | (rw [if_pos (by decide +kernel)]; kernel_rfl) | (rw [if_neg (by decide +kernel)]; exact ⟨rfl, rfl⟩))
    (fun os started H enc _ => lifted os started H enc)

theorem proved : Rows.LoadBestSaid := over
#print axioms proved
end Go.Proofs.Ytigpcjikdpknnaa.loadBest
