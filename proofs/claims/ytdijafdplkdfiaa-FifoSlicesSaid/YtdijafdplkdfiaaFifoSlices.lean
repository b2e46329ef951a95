/- FifoSlices: at every input the law returns true and leaves its arguments as they were: who gets something, and leaves something, gets a whole number of slices, the least one that is enough. Conditions: none beyond the row's own. -/
import Derived.Test.YtdijafdplkdfiaaRows
import Derived.Test.YtdijafdplkdfiaaLawK
import Derived.WalkKit
import Derived.Deep.QuietTactic
import Derived.BigQuiet
import Derived.ProofKit
import Derived.OpenShut
import Derived.ShutString
import Derived.ChangeOld
import Derived.Below
namespace Go.Proofs.Ytdijafdplkdfiaa.fifoSlices
open Go.ChangeShapes Go.WideShapes Go.ChangeAt Go.RowKit
open Go.ChangeMaps (open_string shut_string)
set_option linter.unusedVariables false

theorem own : ownKnob Try.prog.godebug = none := by kernel_rfl
theorem laidOut : laidOutB Try.prog = true := by kernel_rfl

set_option maxRecDepth 100000 in
set_option maxHeartbeats 4000000 in
theorem walk (a0 : Option Addr) (len0 cap0 : Nat) (z0 : List Int) (a1 : Int) (a2 : Int) (w : World) (w0 : IsRow .u32 w a0 len0 cap0 z0) (w1 : (Lit.int .u32 a1).wf = true) (w2 : (Lit.int .u16 a2).wf = true) :
    Calls Try.prog 6 #[.slice a0 len0 cap0, .int .u32 a1, .int .u16 a2] w fun e w' => e = .returned (.bool true) ∧ Below w.heap.size w w' := by
  obtain ⟨zs, hn1, hI, hn2, hz⟩ := preK w0
  have hP := bounds_u32 w1
  have hS := bounds_u16 w2
  have HI := Lib.hid hI
  have HZ := Lib.hid (show ∀ j, j < zs.length → 0 ≤ zat zs j ∧ zat zs j ≤ 4294967295 from fun j hj => bounds_u32 (hz j hj))
  have HZ0 := Lib.hid (show ∀ j, 0 ≤ zat zs j ∧ zat zs j ≤ 4294967295 from fun j => by
    by_cases hj : j < zs.length
    · exact bounds_u32 (hz j hj)
    · have : zat zs j = 0 := by unfold zat; rw [List.getElem?_eq_none (by omega)]; rfl
      omega)
  have HZ2 := Lib.hid (show ∀ j, -9223372036854775808 ≤ zat zs j ∧ zat zs j ≤ 9223372036854775807 from fun j => by have := HZ0.out j; omega)
  have HT := Lib.hid (show ∀ j, zat zs j ≤ top63 from fun j => (HZ2.out j).2)
  subst hn1
  clear hI w0 w1 w2 hz
  go_enter Try.func6, Try.ntmps6
  go_wp2_with fail
  refine (shown_any _).mono ?_
  rintro e W1 ⟨rfl, hb1⟩
  have HI1 := Lib.hid (IntsK.next hb1 HI.out)
  have HB1 := Lib.hid hb1
  clear hb1
  by_cases hlen : 300 < zs.length
  · have hlen' : (300 : Int) < (zs.length : Int) := by omega
    go_wp2
    go_ret
    exact ⟨by simp, HB1.out⟩
  · have hlen' : ¬ (300 : Int) < (zs.length : Int) := by omega
    by_cases hs1 : a2 = 0
    · subst hs1
      go_wp2
      go_ret
      exact ⟨by simp, HB1.out⟩
    · have hs2 : (a2 == 0) = false := by simp; exact hs1
      have hs3 : 1 ≤ a2 := by omega
      go_wp2_with fail
      go_loopw [8, 9] (fun v i wr => ∃ k : Nat, k ≤ zs.length ∧ i = .int .i64 k ∧ wr.ownsRow W1.heap.size 2 1 v k ((zs.take k).map (Value.int .i64)) ∧ Below W1.heap.size W1 wr) (fun _ i _ => zs.length - (intOf i).toNat)
      case atStart => exact ⟨0, Nat.zero_le _, rfl, World.ownsRow_nil _ _ _ _, Below.refl _ _⟩
      case round =>
        obtain ⟨k, hk, rfl, hown, hB⟩ := hrel
        have HO := Lib.hid hown
        clear hown
        by_cases hlt : k < zs.length
        · have hlt' : (k : Int) < (zs.length : Int) := by omega
          obtain ⟨b, off, ha, hb, hc⟩ := HI1.out.cells hlt
          subst ha
          have hck : wr.cell? ⟨b, off + k, none⟩ = some (.int .u32 (zat zs k)) := (hB.cell (p := ⟨b, off + k, none⟩) hb).trans (hc k hlt)
          have HG := Lib.hid (take_zat hlt)
          have hzk := HZ.out k hlt
          obtain ⟨hz1, hz2⟩ := hzk
          have hh8 : (k + 1) * 8 ≤ 140737488355328 := by omega
          have hsz := hB.size
          clear hc
          go_wp2_with (at_builtin; refine append_ints Try.underlying22 Try.info2 rfl _ _ rfl W1.heap.size _ k (zs.take k) rfl (HO.out.alloc _) (wr.heap.size + 1) _ 1 _ [_] rfl (by intro h; cases h) rfl (Ints.new1 wr 2 _) hh8 (by simp; omega) ?_; intro v' u hown' hgrow; have hB' : Below W1.heap.size W1 u := (hB.alloc hsz _).grown hgrow (by simp; omega) (fun j e => (HO.out.lt j e).1); rw [← HG.out] at hown'; have HO' := Lib.hid hown'; clear hown' hgrow)
          go_roundw
          case rel => exact ⟨k + 1, by omega, by go_num, HO'.out, hB'⟩
          case measure => simp [intOf]; omega
        · obtain rfl : k = zs.length := by omega
          have hown := HO.out
          rw [List.take_length] at hown
          obtain ⟨a', c', rfl, _, hI2⟩ := ownsRow_intsn rfl hown
          have HI2 := Lib.hid hI2
          have HB2 := Lib.hid (nx HB1.out hB)
          clear hI2 hown hB
          go_wp2_with fail
          refine (give_any _ _ zs _ _ _ HI2.out (by omega) HZ2.out (by omega) (by omega)).mono ?_
          rintro e W2 ⟨⟨a2', c2', rfl, hI3⟩, hb2⟩
          have HI0 := Lib.hid (nx0 hb2 HI2.out)
          have HI3 := Lib.hid hI3
          have HB3 := Lib.hid (nx HB2.out hb2)
          have HGL := Lib.hid (gots_length a2 a1 zs zs.length)
          clear hI3 hb2
          generalize leftTo a2 a1 zs zs.length = F
          have hnb : ((zs.length : Int) != (zs.length : Int)) = false := by simp
          go_wp2_with fail
          go_loopw [13, 14] (fun q i wr => ∃ k : Nat, k ≤ zs.length ∧ i = .int .i64 k ∧ q = .int .i64 (leftTo a2 a1 zs k) ∧ Drew W2 wr) (fun _ i _ => zs.length - (intOf i).toNat)
          case atStart => exact ⟨0, Nat.zero_le _, rfl, rfl, Drew.refl _⟩
          case round =>
            obtain ⟨k, hk, rfl, rfl, hd⟩ := hrel
            by_cases hlt : k < zs.length
            · have hlt' : (k : Int) < (zs.length : Int) := by omega
              obtain ⟨b1, o1, ha, hb, hc⟩ := HI0.out.cells hlt
              obtain ⟨b2, o2, ha2, hb2, hc2⟩ := HI3.out.cells (p := k) (by rw [HGL.out]; exact hlt)
              subst ha ha2
              have h1 : wr.cell? ⟨b1, o1 + k, none⟩ = some (.int .i64 (zat zs k)) := (hd.cell _).trans (hc k hlt)
              have h2 : wr.cell? ⟨b2, o2 + k, none⟩ = some (.int .i64 (gotAt a2 a1 zs k)) := by
                have := (hd.cell ⟨b2, o2 + k, none⟩).trans (hc2 k (by rw [HGL.out]; exact hlt))
                rw [zat_gots hlt] at this; exact this
              obtain ⟨L1, L2, L3⟩ := left_bd (s := a2) (p := a1) HT.out k
              obtain ⟨G1, G2, G3, G4⟩ := got_bd (s := a2) (p := a1) HT.out k
              have hV := want_slices (HZ0.out k).1 (HZ0.out k).2 hs3 hS.2
              have HL := Lib.hid (show leftTo a2 a1 zs (k + 1) = leftTo a2 a1 zs k - gotAt a2 a1 zs k from rfl)
              have hGO : gotAt a2 a1 zs k = min (wantI (zat zs k) a2) (max (leftTo a2 a1 zs k) 0) := rfl
              have hZ := HZ0.out k
              clear hc hc2
              generalize leftTo a2 a1 zs k = Q at *
              generalize gotAt a2 a1 zs k = G at *
              generalize zat zs k = N at *
              generalize wantI N a2 = V at *
              have hQ0 : 0 ≤ Q := L2 hP.1
              have hGQ : G ≤ Q := G3 hP.1
              have hQ2 : Q ≤ 9223372036854775807 := by omega
              by_cases hr : 0 < Q - G
              · obtain rfl : G = V := by omega
                obtain ⟨v1, v2, v3⟩ := hV
                have c1 : decide (0 < Q - G) = true := by simp; omega
                have c1b : decide (G < Q) = true := by simp; omega
                have c1c : 0 < Q - G := hr
                have c1d : G < Q := by omega
                have c2 : G.tmod a2 = 0 := by rw [Int.tmod_eq_emod_of_nonneg (by omega)]; exact v1
                have c3 : ¬ G < N := by omega
                have c4 : ¬ a2 ≤ G - N := by omega
                have c5 : decide (G < N) = false := by simp; omega
                have c6 : (G % a2 != 0) = false := by rw [v1]; rfl
                have c7 : IntKind.i64.wrap (G - N) = G - N := IntWalk.i64_in _ (by omega)
                have c8 : a2 ≠ 0 := hs1
                clear hGO
                go_wp2
                go_quiet (fail)
                go_wp2
                go_roundw
                case rel => exact ⟨k + 1, by omega, by go_num, by rw [HL.out] <;> simp, hd.drewN _⟩
                case measure => simp [intOf]; omega
              · have c1 : decide (0 < Q - G) = false := by simp; omega
                have c1b : decide (G < Q) = false := by simp; omega
                have c1d : ¬ G < Q := by omega
                clear hGO hV
                go_wp2
                go_quiet (fail)
                go_wp2
                go_roundw
                case rel => exact ⟨k + 1, by omega, by go_num, by rw [HL.out] <;> simp, hd.drewN _⟩
                case measure => simp [intOf]; omega
            · obtain rfl : k = zs.length := by omega
              have HB4 := Lib.hid (bx HB3.out hd)
              go_wp2
              go_ret
              exact ⟨by simp, HB4.out⟩

set_option maxRecDepth 100000 in
theorem lifted (os : Os) (started : os.Started) (H : Type) (enc : TypeId × Value → H) :
    ReturnsInHanded {} Try.checked os 6 .any (Rows.fifoSlicesSpec.pre6 enc Try.prog Try.f6 Rows.fifoSlicesRow.domain false) (Rows.fifoSlicesSpec.post enc Try.prog Try.f6 false true false false) := by
  refine returnsInHanded_of_change (C := Try.checked) own started (by kernel_rfl) Try.func6
    (ChangeSpec.witness6 (enc := enc) (C := Try.checked) false ⟨#[], #[.slice none 0 0, .int .u32 0, .int .u16 0], []⟩ 8 (by kernel_rfl) (by kernel_rfl) (by kernel_rfl) (by kernel_rfl)) ?_
  intro W base args ds gs before hval0 hW hcnd _
  have hval : ∀ (j : Nat) t v, Try.f6.params[j]? = some t → args[j]? = some v → Value.okWide Try.prog W .any base t v := hval0
  have hW' := hW
  obtain ⟨p, q, hA0, hV, rfl, hfz, hnd⟩ := hW
  have hA : DataW.TrodAll enc Try.prog W 0 (fun _ => true) true Try.f6.params.toList args.toList ds p := hA0
  rw [Try.params6] at hA hval
  obtain ⟨v0, vs0, d0, ds0, p0, q0, hargs, rfl, rfl, h0, r0⟩ := trodAll_cons hA
  obtain ⟨v1, vs1, d1, ds1, p1, q1, rfl, rfl, rfl, h1, r1⟩ := trodAll_cons r0
  obtain ⟨v2, vs2, d2, ds2, p2, q2, rfl, rfl, rfl, h2, r2⟩ := trodAll_cons r1
  obtain ⟨rfl, rfl, rfl⟩ := trodAll_nil r2
  obtain rfl : args = #[v0, v1, v2] := by cases args; simp_all
  obtain ⟨rfl, rfl⟩ := trodVars_none hV
  obtain ⟨a0, len0, cap0, rfl⟩ := okWide_slice Try.underlying38 (hval 0 38 v0 rfl rfl)
  have k0 := h0
  have lt0 : ∀ x ∈ p0, x.block < W.heap.size := by obtain ⟨m, hm⟩ := k0; exact DataW.trod_lt m _ _ _ hm
  obtain ⟨z0, w0⟩ : ∃ zs, IsRow .u32 W a0 len0 cap0 zs := by
    obtain ⟨fuel, hf⟩ := h0
    rcases open_ints Try.underlying38 Try.underlying39 (by kernel_rfl) hf with ⟨hcs, _⟩ | ⟨x, l, c, zs, hcs, _, hl, hm, hz, _, hcell, hwz⟩
    · simp [Value.cells] at hcs
      obtain ⟨rfl, rfl, rfl⟩ := hcs
      exact ⟨[], .inl ⟨rfl, rfl, rfl, rfl⟩⟩
    · simp [Value.cells] at hcs
      obtain ⟨rfl, rfl, rfl⟩ := hcs
      exact ⟨zs, .inr ⟨_, rfl, hl, hm, by simpa using hz, hcell, hwz⟩⟩
  obtain ⟨a1, rfl, rfl, rfl, w1⟩ := open_int Try.underlying39 (hval 1 39 v1 rfl rfl) h1
  obtain ⟨a2, rfl, rfl, rfl, w2⟩ := open_int Try.underlying40 (hval 2 40 v2 rfl rfl) h2
  clear hA0 hval0
  refine (walk a0 len0 cap0 z0 a1 a2 W w0 w1 w2).mono fun e W' ⟨he, bel⟩ => ?_
  subst he
  exact ⟨_, rfl, _, _, _, [], _, [], hW', trodAll_mk1 (shut_bool Try.underlying4 _), (trodAll_cons_mk (Below.trod laidOut (by kernel_rfl) (of_decide_eq_true (by kernel_rfl)) k0 bel lt0) (trodAll_cons_mk (shut_int Try.underlying39 w1) (trodAll_cons_mk (shut_int Try.underlying40 w2) trodAll_mk0))), rfl, bel.frame _, fun h => by cases h⟩

theorem over : Rows.fifoSlicesRow.holds Try.pinned (OpenSpec.ofChange Rows.fifoSlicesSpec) :=
  OpenClaim.holds_of_wide 6 Try.f6 rfl rfl rfl rfl rfl rfl rfl ⟨rfl, rfl, rfl, rfl, rfl⟩ rfl rfl rfl rfl rfl (by kernel_rfl) Try.func6 (by kernel_rfl)
    (of_decide_eq_true (by kernel_rfl)) (by unfold Func.isWrapper; first | (rw [if_pos (by decide +kernel)]; kernel_rfl) | (rw [if_neg (by decide +kernel)]; exact ⟨rfl, rfl⟩))
    (fun os started H enc _ => lifted os started H enc)

theorem proved : Rows.FifoSlicesSaid := over
#print axioms proved
end Go.Proofs.Ytdijafdplkdfiaa.fifoSlices
