/- PlaceMore: at every input the law returns true and leaves its arguments as they were: with more that runs no P gets idle; where nothing runs one is idle just if it has no load. Conditions: none beyond the row's own. -/
import Derived.Test.YtigpcjikdpknnaaRows
import Derived.Test.YtigpcjikdpknnaaMore
import Derived.WalkKit
import Derived.Deep.QuietTactic
import Derived.BigQuiet
import Derived.ProofKit
import Derived.OpenShut
import Derived.ShutString
import Derived.ChangeOld
import Derived.Below
import Derived.JoinedCond
import Derived.SizedLaws
namespace Go.Proofs.Ytigpcjikdpknnaa.placeMore
open Go.ChangeShapes Go.WideShapes Go.ChangeAt Go.RowKit
open Go.ChangeMaps (open_string shut_string)
set_option linter.unusedVariables false

theorem own : ownKnob Try.prog.godebug = none := by kernel_rfl
theorem laidOut : laidOutB Try.prog = true := by kernel_rfl

set_option maxRecDepth 100000 in
set_option maxHeartbeats 8000000 in
theorem walk (a0 : Option Addr) (len0 cap0 : Nat) (z0 : List Int) (a1 : Option Addr) (len1 cap1 : Nat) (z1 : List Bool) (a2 : Int) (a3 : Int) (w : World) (w0 : IsRow .u64 w a0 len0 cap0 z0) (w1 : IsBools w a1 len1 cap1 z1) (b1 : len1 ≤ 140737488351232) (w2 : (Lit.int .u8 a2).wf = true) (w3 : (Lit.int .u64 a3).wf = true) :
    Calls Try.prog 14 #[.slice a0 len0 cap0, .slice a1 len1 cap1, .int .u8 a2, .int .u64 a3] w fun e w' => e = .returned (.bool true) ∧ Below w.heap.size w w' := by
  obtain ⟨zs, hn1, hn2, hI, hz, hf⟩ := pre w0
  obtain ⟨hrl, hrm, hR⟩ := w1
  have hl : zs.length ≤ 1000 := by omega
  have hreach : zs.length * 8 ≤ 140737488351232 := by omega
  have HI := Lib.hid hI
  have HR := Lib.hid hR
  have HRL := Lib.hid hrl
  have HF := Lib.hid hf
  have hM := bounds_u64 w3
  have hm0 := hM.1
  have hm1 : a3 < 18446744073709551616 := by omega
  have hA := bounds_u8 w2
  obtain ⟨A, rfl⟩ := Int.eq_ofNat_of_zero_le hA.1
  obtain ⟨k, hk⟩ : ∃ k : Nat, A % 64 = k := ⟨_, rfl⟩
  have hk64 : k < 64 := by omega
  have hA1 : (A : Int) ≤ 255 := hA.2
  have HRM := Lib.hid (show (A : Int) % 64 = (k : Int) by omega)
  obtain ⟨n, hn⟩ : ∃ n : Nat, n = max len1 (k + 1) := ⟨_, rfl⟩
  have hn2 : len1 ≤ n := by omega
  have hn3 : k < n := by omega
  have hmx : max (len1 : Int) ((k : Int) + 1) = (n : Int) := by omega
  have HMX := Lib.hid hmx
  have hnM : n ≤ 140737488355328 := by omega
  have hmk0 := make_bools n hnM
  obtain ⟨PA, hPA⟩ : ∃ PA, placeIdle zs z1 a3 = PA := ⟨_, rfl⟩
  obtain ⟨PB, hPB⟩ : ∃ PB, placeIdle zs (moreOf z1 n k) a3 = PB := ⟨_, rfl⟩
  obtain ⟨PC, hPC⟩ : ∃ PC, placeIdle zs [] a3 = PC := ⟨_, rfl⟩
  have hsy := says zs z1 a3 n k (by omega) hn3
  have hnil := placeIdle_nil zs a3
  rw [hPA, hPB, hPC] at hsy
  rw [hPC] at hnil
  have HSY := Lib.hid hsy
  have HNIL := Lib.hid hnil
  have HPA := Lib.hid hPA
  have HPB := Lib.hid hPB
  have HPC := Lib.hid hPC
  have hcase : ((k : Int) + 1 ≤ (len1 : Int) ∧ ∀ w : World, (Instr.makeSlice 34 (.int .i64 (len1 : Int)) (.int .i64 (len1 : Int))).run Try.prog w = .ok (.slice (some ⟨w.heap.size, 0, none⟩) n n) (w.alloc (.cells (madeCells #[.bool false] n) 4))) ∨
      ((len1 : Int) < (k : Int) + 1 ∧ ∀ w : World, (Instr.makeSlice 34 (.int .i64 ((A : Int) % 64 + 1)) (.int .i64 ((A : Int) % 64 + 1))).run Try.prog w = .ok (.slice (some ⟨w.heap.size, 0, none⟩) n n) (w.alloc (.cells (madeCells #[.bool false] n) 4))) := by
    by_cases h : k + 1 ≤ len1
    · refine .inl ⟨by omega, ?_⟩
      have e : n = len1 := by omega
      rw [e] at hmk0 ⊢
      exact hmk0
    · refine .inr ⟨by omega, ?_⟩
      have e : (A : Int) % 64 + 1 = (n : Int) := by omega
      rw [e]
      exact hmk0
  have hkA : (A : Int) % 64 = (k : Int) := HRM.out
  have hcase2 : ((A : Int) % 64 + 1 ≤ (len1 : Int) ∧ ∀ w : World, (Instr.makeSlice 34 (.int .i64 (len1 : Int)) (.int .i64 (len1 : Int))).run Try.prog w = .ok (.slice (some ⟨w.heap.size, 0, none⟩) n n) (w.alloc (.cells (madeCells #[.bool false] n) 4))) ∨
      ((len1 : Int) < (A : Int) % 64 + 1 ∧ ∀ w : World, (Instr.makeSlice 34 (.int .i64 ((A : Int) % 64 + 1)) (.int .i64 ((A : Int) % 64 + 1))).run Try.prog w = .ok (.slice (some ⟨w.heap.size, 0, none⟩) n n) (w.alloc (.cells (madeCells #[.bool false] n) 4))) := by
    rw [hkA]; rw [hkA] at hcase; exact hcase
  clear hI hR hrl hf w0 w2 w3 hz hM hA hk hn hmx hmk0 hPA hPB hPC hsy hnil hkA hcase
  have HIFY := HMX
  rcases hcase2 with ⟨hle, hmk⟩ | ⟨hle, hmk⟩
  all_goals
    go_enter Try.func14, Try.ntmps14
    go_wp2_with fail
    refine (pshown_any _).mono ?_
    rintro e W1 ⟨rfl, hb1⟩
    have HI1 := Lib.hid (nx0 hb1 HI.out)
    have HR1 := Lib.hid (bx0 hb1 HR.out)
    have HB1 := Lib.hid hb1
    clear hb1
    go_wp2_with fail
    refine (HF.out _ _ (.inr rfl)).mono ?_
    rintro e W' ⟨rfl, rfl⟩
    go_wp2
    all_goals try omega
    have HMK := Lib.hid hmk
    simp only [HRM.out]
    have HW := Lib.hid (fill_new W1 n z1)
    have HBW := Lib.hid (show Below W1.heap.size W1 (W1.alloc (.cells (madeCells #[.bool false] n) 4)) from (Below.refl _ _).alloc (Nat.le_refl _) _)
    clear hmk
    go_loopw [13] (fun i wr => ∃ q : Nat, q ≤ len1 ∧ i = .int .i64 q ∧ Fill wr W1.heap.size n q z1 ∧ Below W1.heap.size W1 wr) (fun i _ => len1 - (intOf i).toNat)
    case atStart => exact ⟨0, Nat.zero_le _, rfl, HW.out, HBW.out⟩
    case round =>
      obtain ⟨q, hq, rfl, hF, hB⟩ := hrel
      have HFl := Lib.hid hF
      have HB := Lib.hid hB
      clear hF hB
      by_cases hlt : q < len1
      · have hlt' : (q : Int) < (len1 : Int) := by omega
        have hqn : (q : Int) < (n : Int) := by omega
        obtain ⟨b, off, ha, hb, hc⟩ := HR1.out.cells (p := q) (by rw [HRL.out]; exact hlt)
        subst ha
        have hcr := (HB.out.cell (p := ⟨b, off + q, none⟩) hb).trans (hc q (by rw [HRL.out]; exact hlt))
        have hcg : wr.cell? ⟨W1.heap.size, q, none⟩ = some (.bool false) := by rw [HFl.out.cell q (by omega), if_neg (by omega)]
        have hfg := HFl.out.free q
        have HP := Lib.hid (HFl.out.put (i := q) (by omega))
        clear hc
        go_wp2
        go_roundw
        case rel => exact ⟨q + 1, by omega, by go_num, HP.out, HB.out.setCell (Nat.le_refl _) _⟩
        case measure => simp [intOf]; omega
      · obtain rfl : q = len1 := by omega
        have hkn : (k : Int) < (n : Int) := by omega
        have hcg : wr.cell? ⟨W1.heap.size, k, none⟩ = some (.bool (if k < q then bat z1 k else false)) := HFl.out.cell k hn3
        have hfg := HFl.out.free k
        have HD := Lib.hid (Fill.done (k := k) (by rw [HRL.out]; exact HFl.out) (by rw [HRL.out]; exact hn2) hn3)
        have HB2 := Lib.hid (HB.out.setCell (p := ⟨W1.heap.size, k, none⟩) (Nat.le_refl _) (.bool true))
        have hgl := HFl.out.lt
        generalize (if k < q then bat z1 k else false) = old at hcg
        go_wp2_with fail
        have HI2 := Lib.hid ((HI1.out.below HB2.out).grow HB2.out.size)
        have HR2 := Lib.hid ((HR1.out.below HB2.out).grow HB2.out.size)
        obtain ⟨X, hX⟩ : ∃ X, wr.setCell ⟨W1.heap.size, k, none⟩ (.bool true) = X := ⟨_, rfl⟩
        rw [hX] at HI2 HR2 HD HB2 ⊢
        have hgX : W1.heap.size < X.heap.size := by rw [← hX]; simpa using hgl
        have HRD := Lib.hid (HD.out.grow (n₁ := X.heap.size) (by omega))
        clear hX hcg hfg HD
        refine (placeIdle_any _ _ _ _ _ zs z1 a3 _ HI2.out HR2.out HRL.out hl hrm).mono ?_
        rintro e W3 ⟨rfl, hb3⟩
        have HI3 := Lib.hid (nx0 hb3 HI2.out)
        have HRD3 := Lib.hid (bx0 hb3 HRD.out)
        have HB3 := Lib.hid (nx HB2.out hb3)
        rw [HPA.out]
        clear hb3
        go_wp2_with fail
        refine (placeIdle_any _ _ _ _ _ zs (moreOf z1 n k) a3 _ HI3.out HRD3.out (moreOf_length _ _ _) hl (by omega)).mono ?_
        rintro e W4 ⟨rfl, hb4⟩
        have HI4 := Lib.hid (nx0 hb4 HI3.out)
        have HB4 := Lib.hid (nx HB3.out hb4)
        rw [HPB.out]
        clear hb4
        go_wp2_with fail
        refine (placeIdle_any _ _ _ 0 _ zs [] a3 _ HI4.out (.inl ⟨⟨_, _, rfl⟩, rfl⟩) rfl hl (by omega)).mono ?_
        rintro e W5 ⟨rfl, hb5⟩
        have HI5 := Lib.hid (nx0 hb5 HI4.out)
        have HB5 := Lib.hid (nx HB4.out hb5)
        rw [HPC.out]
        clear hb5
        go_wp2_with fail
        go_loop [17, 18] (fun v i => ∃ q : Nat, q ≤ zs.length ∧ i = .int .i64 q ∧ v = .int .i64 (firstP (nilB zs a3) q)) (fun _ i => zs.length - (intOf i).toNat)
        case atStart => exact ⟨0, Nat.zero_le _, rfl, rfl⟩
        case round =>
          obtain ⟨r, hr, rfl, rfl⟩ := hrel
          have HSU := Lib.hid (firstP_succ (nilB zs a3) r)
          by_cases hgo : r < zs.length ∧ firstP (nilB zs a3) r < 0
          · obtain ⟨hr1, hr2⟩ := hgo
            have hr1' : (r : Int) < (zs.length : Int) := by omega
            obtain ⟨b, off, ha, hb, hc⟩ := HI5.out.cells hr1
            subst ha
            have hcr := hc r hr1
            have hcase : (mayB zs a3 r = false ∧ True) ∨ (mayB zs a3 r = true ∧ (zat zs r == 0) = false) ∨ (mayB zs a3 r = true ∧ (zat zs r == 0) = true) := by
              cases mayB zs a3 r <;> cases (zat zs r == 0) <;> simp
            clear hc
            rcases hcase with ⟨hm, hz0⟩ | ⟨hm, hz0⟩ | ⟨hm, hz0⟩
            · have HM := Lib.hid hm
              have HV := Lib.hid (show firstP (nilB zs a3) (r + 1) = -1 by rw [HSU.out, if_neg (by omega)]; unfold nilB; rw [hm]; rfl)
              clear hm
              go_wp2_with (go_at_call 23; refine (may_val _ _ _ _ zs a3 false _ HM.out rfl hm0 hm1 (by omega)).mono ?_; rintro e w' ⟨rfl, rfl⟩)
              go_round
              case rel => exact ⟨r + 1, by omega, by go_num, by rw [HV.out]; have := firstP_lo (nilB zs a3) r; rw [show firstP (nilB zs a3) r = -1 by omega]⟩
              case measure => simp [intOf]; omega
            · have HM := Lib.hid hm
              have HV := Lib.hid (show firstP (nilB zs a3) (r + 1) = -1 by rw [HSU.out, if_neg (by omega)]; unfold nilB; rw [hm, hz0]; rfl)
              clear hm
              go_wp2_with (go_at_call 23; refine (may_val _ _ _ _ zs a3 true _ HM.out rfl hm0 hm1 (by omega)).mono ?_; rintro e w' ⟨rfl, rfl⟩)
              go_round
              case rel => exact ⟨r + 1, by omega, by go_num, by rw [HV.out]; have := firstP_lo (nilB zs a3) r; rw [show firstP (nilB zs a3) r = -1 by omega]⟩
              case measure => simp [intOf]; omega
            · have HM := Lib.hid hm
              have HV := Lib.hid (show firstP (nilB zs a3) (r + 1) = r by rw [HSU.out, if_neg (by omega)]; unfold nilB; rw [hm, hz0]; rfl)
              clear hm
              go_wp2_with (go_at_call 23; refine (may_val _ _ _ _ zs a3 true _ HM.out rfl hm0 hm1 (by omega)).mono ?_; rintro e w' ⟨rfl, rfl⟩)
              go_round
              case rel => exact ⟨r + 1, by omega, by go_num, by rw [HV.out]⟩
              case measure => simp [intOf]; omega
          · have hv : firstP (nilB zs a3) r = PC := by
              rw [HNIL.out]
              rcases Nat.lt_or_ge r zs.length with h | h
              · exact firstP_stop (by omega) hr
              · rw [show r = zs.length by omega]
            have hcase : ¬ (r : Int) < (zs.length : Int) ∨ ((r : Int) < (zs.length : Int) ∧ ¬ PC < 0) := by
              rw [← hv]; omega
            clear hgo
            rw [hv]
            clear hv HSU
            obtain ⟨s1, s2, s3, s4⟩ := HSY.out
            have hcc : (PC == PC) = true := by simp
            rcases hcase with hr1 | ⟨hr1, hr2⟩ <;> rcases s2 with s2 | ⟨s20, s21, s22⟩ <;> rcases s3 with s3 | ⟨s30, s31, s32⟩ <;> rcases s4 with s4 | ⟨s40, s41⟩
            all_goals
              go_wp2
              go_ret
              exact ⟨by simp, nx HB1.out HB5.out⟩

set_option maxRecDepth 100000 in
theorem lifted (os : Os) (started : os.Started) (H : Type) (enc : TypeId × Value → H) :
    ReturnsInHanded {} Try.checked os 14 .any (Rows.placeMoreSpec.pre6 enc Try.prog Try.f14 Rows.placeMoreRow.domain false) (Rows.placeMoreSpec.post enc Try.prog Try.f14 false true false false) := by
  refine returnsInHanded_of_change_sized (C := Try.checked) own started (by kernel_rfl) Try.func14
    (ChangeSpec.witness6 (enc := enc) (C := Try.checked) false ⟨#[], #[.slice none 0 0, .slice none 0 0, .int .u8 0, .int .u64 0], []⟩ 8 (by kernel_rfl) (by kernel_rfl) (by kernel_rfl) (by kernel_rfl)) ?_
  intro W base args ds gs before hval0 hW hcnd hsz _
  have hval : ∀ (j : Nat) t v, Try.f14.params[j]? = some t → args[j]? = some v → Value.okWide Try.prog W .any base t v := hval0
  have hW' := hW
  obtain ⟨p, q, hA0, hV, rfl, hfz, hnd⟩ := hW
  have hA : DataW.TrodAll enc Try.prog W 0 (fun _ => true) true Try.f14.params.toList args.toList ds p := hA0
  rw [Try.params14] at hA hval
  obtain ⟨v0, vs0, d0, ds0, p0, q0, hargs, rfl, rfl, h0, r0⟩ := trodAll_cons hA
  obtain ⟨v1, vs1, d1, ds1, p1, q1, rfl, rfl, rfl, h1, r1⟩ := trodAll_cons r0
  obtain ⟨v2, vs2, d2, ds2, p2, q2, rfl, rfl, rfl, h2, r2⟩ := trodAll_cons r1
  obtain ⟨v3, vs3, d3, ds3, p3, q3, rfl, rfl, rfl, h3, r3⟩ := trodAll_cons r2
  obtain ⟨rfl, rfl, rfl⟩ := trodAll_nil r3
  obtain rfl : args = #[v0, v1, v2, v3] := by cases args; simp_all
  obtain ⟨rfl, rfl⟩ := trodVars_none hV
  obtain ⟨a0, len0, cap0, rfl⟩ := okWide_slice Try.underlying22 (hval 0 22 v0 rfl rfl)
  have k0 := h0
  have lt0 : ∀ x ∈ p0, x.block < W.heap.size := by obtain ⟨m, hm⟩ := k0; exact DataW.trod_lt m _ _ _ hm
  obtain ⟨z0, w0⟩ : ∃ zs, IsRow .u64 W a0 len0 cap0 zs := by
    obtain ⟨fuel, hf⟩ := h0
    rcases open_ints Try.underlying22 Try.underlying23 (by kernel_rfl) hf with ⟨hcs, hx⟩ | ⟨x, l, c, zs, hcs, _, hl, hm, hz, hx, hcell, hwz⟩
    · simp [Value.cells] at hcs
      obtain ⟨rfl, rfl, rfl⟩ := hcs
      exact ⟨[], .inl ⟨rfl, rfl, rfl, rfl⟩⟩
    · simp [Value.cells] at hcs
      obtain ⟨rfl, rfl, rfl⟩ := hcs
      exact ⟨zs, .inr ⟨_, rfl, hl, hm, by simpa using hz, hcell, hwz⟩⟩
  obtain ⟨a1, len1, cap1, rfl⟩ := okWide_slice Try.underlying34 (hval 1 34 v1 rfl rfl)
  have k1 := h1
  have lt1 : ∀ x ∈ p1, x.block < W.heap.size := by obtain ⟨m, hm⟩ := k1; exact DataW.trod_lt m _ _ _ hm
  obtain ⟨z1, w1, c1⟩ : ∃ z, IsBools W a1 len1 cap1 z ∧ (len1 = 0 ∨ ∃ elems rest, d1 = .slice elems rest ∧ len1 ≤ elems.length + rest.length) := by
    obtain ⟨fuel, hf⟩ := h1
    exact open_bools_s hf
  have b1 : len1 ≤ 140737488351232 := by
    rcases c1 with c1 | ⟨elems, rest, e, c1⟩
    · omega
    · have h := sized_slice hsz (j := 1) (t := 34) (e := 4) (elems := elems) (spare := rest) rfl (by rw [e]; rfl) Try.underlying34
      have h1 : Try.checked.prog.bytesOf 4 = 1 := by kernel_rfl
      rw [h1, Nat.mul_one] at h
      exact Nat.le_trans c1 h
  obtain ⟨a2, rfl, rfl, rfl, w2⟩ := open_int Try.underlying5 (hval 2 5 v2 rfl rfl) h2
  obtain ⟨a3, rfl, rfl, rfl, w3⟩ := open_int Try.underlying23 (hval 3 23 v3 rfl rfl) h3
  clear hA0 hval0
  refine (walk a0 len0 cap0 z0 a1 len1 cap1 z1 a2 a3 W w0 w1 b1 w2 w3).mono fun e W' ⟨he, bel⟩ => ?_
  subst he
  exact ⟨_, rfl, _, _, _, [], _, [], hW', trodAll_mk1 (shut_bool Try.underlying4 _), (trodAll_cons_mk (Below.trod laidOut (by kernel_rfl) (of_decide_eq_true (by kernel_rfl)) k0 bel lt0) (trodAll_cons_mk (Below.trod laidOut (by kernel_rfl) (of_decide_eq_true (by kernel_rfl)) k1 bel lt1) (trodAll_cons_mk (shut_int Try.underlying5 w2) (trodAll_cons_mk (shut_int Try.underlying23 w3) trodAll_mk0)))), rfl, bel.frame _, fun h => by cases h⟩

theorem over : Rows.placeMoreRow.holds Try.pinned (OpenSpec.ofChange Rows.placeMoreSpec) :=
  OpenClaim.holds_of_wide 14 Try.f14 rfl rfl rfl rfl rfl rfl rfl ⟨rfl, rfl, rfl, rfl, rfl⟩ rfl rfl rfl rfl rfl (by kernel_rfl) Try.func14 (by kernel_rfl)
    (of_decide_eq_true (by kernel_rfl)) (by unfold Func.isWrapper; first | (rw [if_pos (by decide +kernel)]; kernel_rfl) | (rw [if_neg (by decide +kernel)]; exact ⟨rfl, rfl⟩))
    (fun os started H enc _ => lifted os started H enc)

theorem proved : Rows.PlaceMoreSaid := over
#print axioms proved
end Go.Proofs.Ytigpcjikdpknnaa.placeMore
