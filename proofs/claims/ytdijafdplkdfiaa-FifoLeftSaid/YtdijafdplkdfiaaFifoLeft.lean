/- FifoLeft: at every input the law returns true and leaves its arguments as they were: what is given and what is left are what there was, nothing below 0 is given, and who gets less than it needs leaves nothing. Conditions: none beyond the row's own. -/
import Derived.Test.YtdijafdplkdfiaaRows
import Derived.Test.YtdijafdplkdfiaaLaw
import Derived.WalkKit
import Derived.Deep.QuietTactic
import Derived.BigQuiet
import Derived.ProofKit
import Derived.OpenShut
import Derived.ShutString
import Derived.ChangeOld
import Derived.Below
namespace Go.Proofs.Ytdijafdplkdfiaa.fifoLeft
open Go.ChangeShapes Go.WideShapes Go.ChangeAt Go.RowKit
open Go.ChangeMaps (open_string shut_string)
set_option linter.unusedVariables false

theorem own : ownKnob Try.prog.godebug = none := by kernel_rfl
theorem laidOut : laidOutB Try.prog = true := by kernel_rfl

set_option maxRecDepth 100000 in
set_option maxHeartbeats 4000000 in
theorem walk (a0 : Option Addr) (len0 cap0 : Nat) (z0 : List Int) (a1 : Int) (a2 : Int) (w : World) (w0 : IsRow .i64 w a0 len0 cap0 z0) (w1 : (Lit.int .i64 a1).wf = true) (w2 : (Lit.int .i64 a2).wf = true) :
    Calls Try.prog 5 #[.slice a0 len0 cap0, .int .i64 a1, .int .i64 a2] w fun e w' => e = .returned (.bool true) ∧ Below w.heap.size w w' := by
  obtain ⟨zs, hn1, hI, hn2, hz⟩ := preI w0
  have HP := Lib.hid (bounds_i64 w1)
  have HS := Lib.hid (bounds_i64 w2)
  have HI := Lib.hid hI
  have HZ := Lib.hid hz
  have HT := Lib.hid (show ∀ j, zat zs j ≤ top63 from fun j => (hz j).2)
  subst hn1
  clear hI w0 w1 w2 hz
  go_enter Try.func5, Try.ntmps5
  go_wp2_with fail
  refine (shown_any _).mono ?_
  rintro e W1 ⟨rfl, hb1⟩
  have HI1 := Lib.hid (nx0 hb1 HI.out)
  have HB1 := Lib.hid hb1
  clear hb1
  by_cases hlen : 300 < zs.length
  · have hlen' : (300 : Int) < (zs.length : Int) := by omega
    go_wp2
    go_ret
    exact ⟨by simp, HB1.out⟩
  · have hlen' : ¬ (300 : Int) < (zs.length : Int) := by omega
    by_cases hs1 : a2 < 1
    · go_wp2
      go_ret
      exact ⟨by simp, HB1.out⟩
    · go_wp2_with fail
      refine (give_any _ _ zs _ _ _ HI1.out (by omega) HZ.out HP.out HS.out).mono ?_
      rintro e W2 ⟨⟨a', c', rfl, hI2⟩, hb2⟩
      have HI2 := Lib.hid hI2
      have HI0 := Lib.hid (nx0 hb2 HI1.out)
      have HB2 := Lib.hid (nx HB1.out hb2)
      have HGL := Lib.hid (gots_length a2 a1 zs zs.length)
      clear hI2 hb2
      obtain ⟨F, hF⟩ : ∃ F, leftTo a2 a1 zs zs.length = F := ⟨_, rfl⟩
      have HF := Lib.hid hF
      rw [hF]
      have hnb : ((zs.length : Int) != (zs.length : Int)) = false := by simp
      clear hF
      go_wp2_with fail
      go_loopw [10, 11] (fun q i wr => ∃ k : Nat, k ≤ zs.length ∧ i = .int .i64 k ∧ q = .int .i64 (leftTo a2 a1 zs k) ∧ Drew W2 wr) (fun _ i _ => zs.length - (intOf i).toNat)
      case atStart => exact ⟨0, Nat.zero_le _, rfl, rfl, Drew.refl _⟩
      case round =>
        obtain ⟨k, hk, rfl, rfl, hd⟩ := hrel
        by_cases hlt : k < zs.length
        · have hlt' : (k : Int) < (zs.length : Int) := by omega
          obtain ⟨b1, o1, ha, hb, hc⟩ := HI0.out.cells hlt
          obtain ⟨b2, o2, ha2, hb2, hc2⟩ := HI2.out.cells (p := k) (by rw [HGL.out]; exact hlt)
          subst ha ha2
          have h1 : wr.cell? ⟨b1, o1 + k, none⟩ = some (.int .i64 (zat zs k)) := (hd.cell _).trans (hc k hlt)
          have h2 : wr.cell? ⟨b2, o2 + k, none⟩ = some (.int .i64 (gotAt a2 a1 zs k)) := by
            have := (hd.cell ⟨b2, o2 + k, none⟩).trans (hc2 k (by rw [HGL.out]; exact hlt))
            rw [zat_gots hlt] at this; exact this
          obtain ⟨L1, L2, L3⟩ := left_bd (s := a2) (p := a1) HT.out k
          obtain ⟨G1, G2, G3, G4⟩ := got_bd (s := a2) (p := a1) HT.out k
          have hW := want_bd (zat zs k) a2 (HT.out k)
          have hWN : 0 < zat zs k → zat zs k ≤ wantI (zat zs k) a2 := fun h => want_ge h (by omega)
          have hW0 : zat zs k ≤ 0 → wantI (zat zs k) a2 = 0 := fun h => want_no (.inl h)
          have HL := Lib.hid (show leftTo a2 a1 zs (k + 1) = leftTo a2 a1 zs k - gotAt a2 a1 zs k from rfl)
          have hGO : gotAt a2 a1 zs k = min (wantI (zat zs k) a2) (max (leftTo a2 a1 zs k) 0) := rfl
          have hP := HP.out
          have hZ := HZ.out k
          clear hc hc2
          generalize leftTo a2 a1 zs k = Q at *
          generalize gotAt a2 a1 zs k = G at *
          generalize zat zs k = N at *
          generalize wantI N a2 = V at *
          have hQ1 : -9223372036854775808 ≤ Q - G := by
            by_cases h : 0 ≤ a1
            · have := G3 h; have := L2 h; omega
            · have := G4 (by omega); have := L3 (by omega); omega
          have hQ2 : Q - G ≤ 9223372036854775807 := by omega
          have hcase : (N ≤ 0 ∧ G = 0) ∨ (0 < N ∧ 0 ≤ G ∧ G < N ∧ Q - G ≤ 0) ∨ (0 < N ∧ 0 ≤ G ∧ N ≤ G) := by
            by_cases h : N ≤ 0
            · have := hW0 h; omega
            · have := hWN (by omega); omega
          clear hW hWN hW0 hGO hP hZ L1 L2 L3 G1 G2 G3 G4
          rcases hcase with ⟨c1, rfl⟩ | ⟨c1, c2, c3, c4⟩ | ⟨c1, c2, c3⟩
          · have c5 : ¬ (0 < N) := by omega
            have c6 : decide (0 < N) = false := by simp; omega
            go_wp2
            go_quiet (fail)
            go_wp2
            go_roundw
            case rel => exact ⟨k + 1, by omega, by go_num, by rw [HL.out] <;> simp, hd.drewN _⟩
            case measure => simp [intOf]; omega
          · have c6 : decide (G < N) = true := by simp; omega
            have c7 : ¬ (0 < Q - G) := by omega
            go_wp2
            go_quiet (fail)
            go_wp2
            go_roundw
            case rel => exact ⟨k + 1, by omega, by go_num, by rw [HL.out] <;> simp, hd.drewN _⟩
            case measure => simp [intOf]; omega
          · have c6 : decide (G < N) = false := by simp; omega
            have c7 : ¬ (G < N) := by omega
            go_wp2
            go_quiet (fail)
            go_wp2
            go_roundw
            case rel => exact ⟨k + 1, by omega, by go_num, by rw [HL.out] <;> simp, hd.drewN _⟩
            case measure => simp [intOf]; omega
        · obtain rfl : k = zs.length := by omega
          have hFb := left_bd (s := a2) (p := a1) HT.out zs.length
          rw [HF.out] at hFb ⊢
          have HB3 := Lib.hid (bx HB2.out hd)
          have hFF : (F == F) = true := by simp
          by_cases hp : a1 < 0
          · go_wp2
            go_ret
            exact ⟨by simp, HB3.out⟩
          · have hF0 : 0 ≤ F := hFb.2.1 (by omega)
            clear hFb
            go_wp2
            go_ret
            exact ⟨by simp, HB3.out⟩

set_option maxRecDepth 100000 in
theorem lifted (os : Os) (started : os.Started) (H : Type) (enc : TypeId × Value → H) :
    ReturnsInHanded {} Try.checked os 5 .any (Rows.fifoLeftSpec.pre6 enc Try.prog Try.f5 Rows.fifoLeftRow.domain false) (Rows.fifoLeftSpec.post enc Try.prog Try.f5 false true false false) := by
  refine returnsInHanded_of_change (C := Try.checked) own started (by kernel_rfl) Try.func5
    (ChangeSpec.witness6 (enc := enc) (C := Try.checked) false ⟨#[], #[.slice none 0 0, .int .i64 0, .int .i64 0], []⟩ 8 (by kernel_rfl) (by kernel_rfl) (by kernel_rfl) (by kernel_rfl)) ?_
  intro W base args ds gs before hval0 hW hcnd _
  have hval : ∀ (j : Nat) t v, Try.f5.params[j]? = some t → args[j]? = some v → Value.okWide Try.prog W .any base t v := hval0
  have hW' := hW
  obtain ⟨p, q, hA0, hV, rfl, hfz, hnd⟩ := hW
  have hA : DataW.TrodAll enc Try.prog W 0 (fun _ => true) true Try.f5.params.toList args.toList ds p := hA0
  rw [Try.params5] at hA hval
  obtain ⟨v0, vs0, d0, ds0, p0, q0, hargs, rfl, rfl, h0, r0⟩ := trodAll_cons hA
  obtain ⟨v1, vs1, d1, ds1, p1, q1, rfl, rfl, rfl, h1, r1⟩ := trodAll_cons r0
  obtain ⟨v2, vs2, d2, ds2, p2, q2, rfl, rfl, rfl, h2, r2⟩ := trodAll_cons r1
  obtain ⟨rfl, rfl, rfl⟩ := trodAll_nil r2
  obtain rfl : args = #[v0, v1, v2] := by cases args; simp_all
  obtain ⟨rfl, rfl⟩ := trodVars_none hV
  obtain ⟨a0, len0, cap0, rfl⟩ := okWide_slice Try.underlying22 (hval 0 22 v0 rfl rfl)
  have k0 := h0
  have lt0 : ∀ x ∈ p0, x.block < W.heap.size := by obtain ⟨m, hm⟩ := k0; exact DataW.trod_lt m _ _ _ hm
  obtain ⟨z0, w0⟩ : ∃ zs, IsRow .i64 W a0 len0 cap0 zs := by
    obtain ⟨fuel, hf⟩ := h0
    rcases open_ints Try.underlying22 Try.underlying2 (by kernel_rfl) hf with ⟨hcs, _⟩ | ⟨x, l, c, zs, hcs, _, hl, hm, hz, _, hcell, hwz⟩
    · simp [Value.cells] at hcs
      obtain ⟨rfl, rfl, rfl⟩ := hcs
      exact ⟨[], .inl ⟨rfl, rfl, rfl, rfl⟩⟩
    · simp [Value.cells] at hcs
      obtain ⟨rfl, rfl, rfl⟩ := hcs
      exact ⟨zs, .inr ⟨_, rfl, hl, hm, by simpa using hz, hcell, hwz⟩⟩
  obtain ⟨a1, rfl, rfl, rfl, w1⟩ := open_int Try.underlying2 (hval 1 2 v1 rfl rfl) h1
  obtain ⟨a2, rfl, rfl, rfl, w2⟩ := open_int Try.underlying2 (hval 2 2 v2 rfl rfl) h2
  clear hA0 hval0
  refine (walk a0 len0 cap0 z0 a1 a2 W w0 w1 w2).mono fun e W' ⟨he, bel⟩ => ?_
  subst he
  exact ⟨_, rfl, _, _, _, [], _, [], hW', trodAll_mk1 (shut_bool Try.underlying4 _), (trodAll_cons_mk (Below.trod laidOut (by kernel_rfl) (of_decide_eq_true (by kernel_rfl)) k0 bel lt0) (trodAll_cons_mk (shut_int Try.underlying2 w1) (trodAll_cons_mk (shut_int Try.underlying2 w2) trodAll_mk0))), rfl, bel.frame _, fun h => by cases h⟩

theorem over : Rows.fifoLeftRow.holds Try.pinned (OpenSpec.ofChange Rows.fifoLeftSpec) :=
  OpenClaim.holds_of_wide 5 Try.f5 rfl rfl rfl rfl rfl rfl rfl ⟨rfl, rfl, rfl, rfl, rfl⟩ rfl rfl rfl rfl rfl (by kernel_rfl) Try.func5 (by kernel_rfl)
    (of_decide_eq_true (by kernel_rfl)) (by unfold Func.isWrapper; first | (rw [if_pos (by decide +kernel)]; kernel_rfl) | (rw [if_neg (by decide +kernel)]; exact ⟨rfl, rfl⟩))
    (fun os started H enc _ => lifted os started H enc)

theorem proved : Rows.FifoLeftSaid := over
#print axioms proved
end Go.Proofs.Ytdijafdplkdfiaa.fifoLeft
