/- PullOrder: at every input the law returns true and leaves its arguments as they were: in whatever order tasks of unlike numbers stand, the same one is pulled. Conditions: none beyond the row's own. -/
import Derived.Test.YtkgpjcoapopgmaaRows
import Derived.Test.YtkgpjcoapopgmaaOwn
import Derived.WalkKit
import Derived.Deep.QuietTactic
import Derived.BigQuiet
import Derived.ProofKit
import Derived.OpenShut
import Derived.ShutString
import Derived.ChangeOld
import Derived.Below
namespace Go.Proofs.Ytkgpjcoapopgmaa.pullOrder
open Go.ChangeShapes Go.WideShapes Go.ChangeAt Go.RowKit
open Go.ChangeMaps (open_string shut_string)
set_option linter.unusedVariables false

theorem own : ownKnob Try.prog.godebug = none := by kernel_rfl
theorem laidOut : laidOutB Try.prog = true := by kernel_rfl

set_option maxRecDepth 100000 in
set_option maxHeartbeats 8000000 in
theorem walk (a0 : Option Addr) (len0 cap0 : Nat) (z0 : List Cd) (a1 : Int) (a2 : Int) (a3 : Int) (w : World) (w0 : IsCds w a0 len0 cap0 z0) (w1 : (Lit.int .u64 a1).wf = true) (w2 : (Lit.int .u64 a2).wf = true) (w3 : (Lit.int .i64 a3).wf = true) :
    Calls Try.prog 8 #[.slice a0 len0 cap0, .int .u64 a1, .int .u64 a2, .int .i64 a3] w fun e w' => e = .returned (.bool true) ∧ Below w.heap.size w w' := by
  obtain ⟨n, zs, hn1, hn2, hn3, hn4, hI, hok, hf⟩ := pre w0
  have hU1 := u64_of w1
  have hU2 := u64_of w2
  have HI := Lib.hid hI
  have HL := Lib.hid hn1
  have HOK := Lib.hid hok
  have HF := Lib.hid hf
  have HU1 := Lib.hid hU1
  have HU2 := Lib.hid hU2
  have hP := bounds_i64 w3
  clear hI hn1 hok hf w0 w1 w2 w3 hU1 hU2
  go_enter Try.func8, Try.ntmps8
  go_wp2_with fail
  refine (shown_any _).mono ?_
  rintro e W1 ⟨rfl, hb1⟩
  have HI1 := Lib.hid (Cds.next hb1 HI.out)
  have HB1 := Lib.hid hb1
  clear hb1
  go_wp2_with fail
  refine (HF.out _).mono ?_
  rintro e W' ⟨rfl, rfl⟩
  go_wp2_with fail
  go_loopw [11, 12] (fun v i wr => ∃ (x : Int), -1 ≤ x ∧ x < n ∧ i = .int .i64 x ∧ OwnC wr W1.heap.size 35 v (n - (x + 1).toNat) (backTo zs (x + 1).toNat) ∧ (∀ a b : Nat, x < a → a < n → b < a → (cat zs a).id ≠ (cat zs b).id) ∧ Below W1.heap.size W1 wr) (fun _ i _ => (intOf i + 1).toNat)
  case atStart =>
    refine ⟨(n : Int) - 1, by omega, by omega, rfl, ?_, fun a b h1 h2 => by omega, Below.refl _ _⟩
    have e : ((n : Int) - 1 + 1).toNat = n := by omega
    rw [e, Nat.sub_self]
    have : backTo zs n = [] := by unfold backTo; rw [List.drop_eq_nil_of_le (by have := HL.out; omega)]; rfl
    rw [this]
    exact ownc_nil _ _ _
  case round =>
    obtain ⟨x, hx0, hx1, rfl, hO, hD, hB⟩ := hrel
    have HD := Lib.hid hD
    have HB := Lib.hid hB
    clear hD hB
    by_cases hlt : 0 ≤ x
    · obtain ⟨j, rfl⟩ := Int.eq_ofNat_of_zero_le hlt
      rw [show ((j : Int) + 1).toNat = j + 1 by omega] at hO
      have HO := Lib.hid hO
      have hjn : j < n := by omega
      obtain ⟨b, off, ha, hb, hc⟩ := HI1.out.cells (p := j) (by rw [HL.out]; exact hjn)
      subst ha
      have HC := Lib.hid hc
      have HT := Lib.hid (backTo_pred (zs := zs) (j := j) (by rw [HL.out]; exact hjn))
      clear hO hc
      go_wp2_with fail
      obtain ⟨wo, rfl⟩ : ∃ wo : World, wo = wr := ⟨_, rfl⟩
      go_loopw [13] (fun i wr => ∃ k : Nat, k ≤ j ∧ i = .int .i64 k ∧ (∀ q, q < k → (cat zs j).id ≠ (cat zs q).id) ∧ Drew wo wr) (fun i _ => j - (intOf i).toNat)
      case atStart => exact ⟨0, Nat.zero_le _, rfl, fun q h => by omega, Drew.refl _⟩
      case round =>
        obtain ⟨k, hk, rfl, hQ, hd⟩ := hrel
        have HQ := Lib.hid hQ
        clear hQ
        have HDW := Lib.hid hd
        clear hd
        by_cases hkj : k < j
        · have hkj' : (k : Int) < (j : Int) := by omega
          have hkn : (k : Int) < (n : Int) := by omega
          obtain ⟨x0, x1, x2, x3⟩ := HC.out j (by rw [HL.out]; exact hjn)
          obtain ⟨z0', _, _, _⟩ := HC.out k (by rw [HL.out]; omega)
          have y0 := (HDW.out.cell ⟨b, off + j * 4, none⟩).trans (cellb HB.out hb x0)
          have u0 := (HDW.out.cell ⟨b, off + k * 4, none⟩).trans (cellb HB.out hb z0')
          clear x0 x1 x2 x3 z0'
          cases he : ((cat zs j).id == (cat zs k).id)
          · have HE := Lib.hid he
            go_wp2
            go_quiet (fail)
            go_wp2
            go_roundw
            case rel => exact ⟨k + 1, by omega, by go_num, fun q hq => by
              by_cases e : q = k
              · subst e; have := HE.out; simpa using this
              · exact HQ.out q (by omega), HDW.out.drewN _⟩
            case measure => simp [intOf]; omega
          · go_wp2
            go_quiet (fail)
            go_wp2
            go_ret
            exact ⟨rfl, nx HB1.out (HB.out.trans ((HDW.out.drewN _).below _))⟩
        · obtain rfl : k = j := by omega
          obtain ⟨x0, x1, x2, x3⟩ := HC.out k (by rw [HL.out]; exact hjn)
          have HBD := Lib.hid (HDW.out.below W1.heap.size)
          have HBT := Lib.hid (HB.out.trans HBD.out)
          have y0 := cellb HBT.out hb x0
          have y1 := cellb HBT.out hb x1
          have y2 := cellb HBT.out hb x2
          have y3 := cellb HBT.out hb x3
          have hsz := HBT.out.size
          have HOD := Lib.hid (OwnC.drew HDW.out HO.out)
          clear x0 x1 x2 x3
          go_wp2_with (at_builtin; refine append_cd Try.underlying22 Try.info35 rfl _ _ rfl W1.heap.size _ (n - (k + 1)) (backTo zs (k + 1)) rfl (World.ownsRow.alloc HOD.out _) wr.heap.size _ ⟨(cat zs k).id, (cat zs k).w, (cat zs k).m, (cat zs k).r⟩ rfl ((cnewb (by simp)).trans rfl) ((cnewb (by simp)).trans rfl) ((cnewb (by simp)).trans rfl) ((cnewb (by simp)).trans rfl) (by omega) (by simp; omega) ?_; intro v' u hown' hgrow)
          have HG := Lib.hid ((HBT.out.alloc hsz (.cells #[.int .i64 (cat zs k).id, .int .u64 (cat zs k).w, .int .u64 (cat zs k).m, .bool (cat zs k).r] 35)).grown hgrow (by simp; omega) (fun j e => (World.ownsRow.lt HOD.out j e).1))
          have HO2 := Lib.hid hown'
          clear hown' hgrow
          go_roundw
          case rel =>
            refine ⟨(k : Int) - 1, by omega, by omega, by go_num, ?_, fun a b h1 h2 h3 => ?_, HG.out⟩
            · rw [show ((k : Int) - 1 + 1).toNat = k by omega, HT.out, show n - k = n - (k + 1) + 1 by omega]
              exact HO2.out
            · by_cases e : a = k
              · subst e; exact HQ.out b h3
              · exact HD.out a b (by omega) h2 h3
          case measure => simp [intOf]
    · obtain rfl : x = -1 := by omega
      rw [show ((-1 : Int) + 1).toNat = 0 by decide, Nat.sub_zero] at hO
      obtain ⟨ho1, ra, rc, rfl, ho3, ho4, ho5⟩ := OwnC.cds hO
      have hbk : backTo zs 0 = zs.reverse := by simp [backTo]
      rw [hbk] at ho1 ho5
      have HRL := Lib.hid ho1
      have HRI := Lib.hid ho5
      have HIB := Lib.hid (Cds.next HB.out HI1.out)
      have HLAW := Lib.hid (order_law (gap := gapI a1 a2) (p := a3) HL.out (fun a b h1 h2 => HD.out a b (by omega) h1 h2))
      clear ho1 ho3 ho4 ho5 hbk hO
      go_wp2_with fail
      refine (choose_any _ _ _ zs a1 a2 a3 _ HL.out HIB.out HOK.out (by omega) HU1.out HU2.out).mono ?_
      rintro e W2 ⟨⟨u, v, rfl, hs⟩, hb2⟩
      have HRI2 := Lib.hid (Cds.next hb2 HRI.out)
      have HB2 := Lib.hid (nx HB.out hb2)
      have HS2 := Lib.hid hs
      clear hb2 hs
      go_wp2_with fail
      refine (choose_any _ _ _ zs.reverse a1 a2 a3 _ HRL.out HRI2.out (reverse_ok HOK.out) (by omega) HU1.out HU2.out).mono ?_
      rintro e W3 ⟨⟨u', v', rfl, hs'⟩, hb3⟩
      have HB3 := Lib.hid (nx HB2.out hb3)
      have hs := HS2.out
      rcases HLAW.out with ⟨l1, l2⟩ | ⟨k, l0, l1, l2⟩
      · rw [l1] at hs
        rw [l2] at hs'
        rcases hs with ⟨_, rfl, rfl⟩ | ⟨q, q1, _⟩
        · rcases hs' with ⟨_, rfl, rfl⟩ | ⟨q, q1, _⟩
          · clear l1 l2 hb3
            go_wp2
            go_ret
            exact ⟨rfl, nx HB1.out HB3.out⟩
          · omega
        · omega
      · rw [l1] at hs
        rw [l2] at hs'
        rcases hs with ⟨q1, _⟩ | ⟨q, q1, _, rfl, rfl⟩
        · omega
        · rcases hs' with ⟨q1, _⟩ | ⟨q', q1', _, rfl, rfl⟩
          · omega
          · obtain rfl : q = k := by omega
            have hq' : q' = n - 1 - q := by omega
            have heq : ((q : Int) == (n : Int) - 1 - (q' : Int)) = true := by simp; omega
            have hw1 : IntKind.i64.wrap ((n : Int) - 1) = (n : Int) - 1 := IntWalk.i64_in _ (by omega)
            have hw2 : IntKind.i64.wrap ((n : Int) - 1 - (q' : Int)) = (n : Int) - 1 - (q' : Int) := IntWalk.i64_in _ (by omega)
            clear l1 l2 hb3 q1 q1' hq'
            go_wp2
            go_ret
            exact ⟨by simp, nx HB1.out HB3.out⟩

set_option maxRecDepth 100000 in
theorem lifted (os : Os) (started : os.Started) (H : Type) (enc : TypeId × Value → H) :
    ReturnsInHanded {} Try.checked os 8 .any (Rows.pullOrderSpec.pre6 enc Try.prog Try.f8 Rows.pullOrderRow.domain false) (Rows.pullOrderSpec.post enc Try.prog Try.f8 false true false false) := by
  refine returnsInHanded_of_change (C := Try.checked) own started (by kernel_rfl) Try.func8
    (ChangeSpec.witness6 (enc := enc) (C := Try.checked) false ⟨#[], #[.slice none 0 0, .int .u64 0, .int .u64 0, .int .i64 0], []⟩ 8 (by kernel_rfl) (by kernel_rfl) (by kernel_rfl) (by kernel_rfl)) ?_
  intro W base args ds gs before hval0 hW hcnd _
  have hval : ∀ (j : Nat) t v, Try.f8.params[j]? = some t → args[j]? = some v → Value.okWide Try.prog W .any base t v := hval0
  have hW' := hW
  obtain ⟨p, q, hA0, hV, rfl, hfz, hnd⟩ := hW
  have hA : DataW.TrodAll enc Try.prog W 0 (fun _ => true) true Try.f8.params.toList args.toList ds p := hA0
  rw [Try.params8] at hA hval
  obtain ⟨v0, vs0, d0, ds0, p0, q0, hargs, rfl, rfl, h0, r0⟩ := trodAll_cons hA
  obtain ⟨v1, vs1, d1, ds1, p1, q1, rfl, rfl, rfl, h1, r1⟩ := trodAll_cons r0
  obtain ⟨v2, vs2, d2, ds2, p2, q2, rfl, rfl, rfl, h2, r2⟩ := trodAll_cons r1
  obtain ⟨v3, vs3, d3, ds3, p3, q3, rfl, rfl, rfl, h3, r3⟩ := trodAll_cons r2
  obtain ⟨rfl, rfl, rfl⟩ := trodAll_nil r3
  obtain rfl : args = #[v0, v1, v2, v3] := by cases args; simp_all
  obtain ⟨rfl, rfl⟩ := trodVars_none hV
  obtain ⟨a0, len0, cap0, rfl⟩ := okWide_slice Try.underlying22 (hval 0 22 v0 rfl rfl)
  have k0 := h0
  have lt0 : ∀ x ∈ p0, x.block < W.heap.size := by obtain ⟨m, hm⟩ := k0; exact DataW.trod_lt m _ _ _ hm
  obtain ⟨z0, w0⟩ : ∃ z, IsCds W a0 len0 cap0 z := by
    obtain ⟨fuel, hf⟩ := h0
    exact open_cds hf
  obtain ⟨a1, rfl, rfl, rfl, w1⟩ := open_int Try.underlying23 (hval 1 23 v1 rfl rfl) h1
  obtain ⟨a2, rfl, rfl, rfl, w2⟩ := open_int Try.underlying23 (hval 2 23 v2 rfl rfl) h2
  obtain ⟨a3, rfl, rfl, rfl, w3⟩ := open_int Try.underlying3 (hval 3 3 v3 rfl rfl) h3
  clear hA0 hval0
  refine (walk a0 len0 cap0 z0 a1 a2 a3 W w0 w1 w2 w3).mono fun e W' ⟨he, bel⟩ => ?_
  subst he
  exact ⟨_, rfl, _, _, _, [], _, [], hW', trodAll_mk1 (shut_bool Try.underlying4 _), (trodAll_cons_mk (Below.trod laidOut (by kernel_rfl) (of_decide_eq_true (by kernel_rfl)) k0 bel lt0) (trodAll_cons_mk (shut_int Try.underlying23 w1) (trodAll_cons_mk (shut_int Try.underlying23 w2) (trodAll_cons_mk (shut_int Try.underlying3 w3) trodAll_mk0)))), rfl, bel.frame _, fun h => by cases h⟩

theorem over : Rows.pullOrderRow.holds Try.pinned (OpenSpec.ofChange Rows.pullOrderSpec) :=
  OpenClaim.holds_of_wide 8 Try.f8 rfl rfl rfl rfl rfl rfl rfl ⟨rfl, rfl, rfl, rfl, rfl⟩ rfl rfl rfl rfl rfl (by kernel_rfl) Try.func8 (by kernel_rfl)
    (of_decide_eq_true (by kernel_rfl)) (by unfold Func.isWrapper; first | (rw [if_pos (by decide +kernel)]; kernel_rfl) | (rw [if_neg (by decide +kernel)]; exact ⟨rfl, rfl⟩))
    (fun os started H enc _ => lifted os started H enc)

theorem proved : Rows.PullOrderSaid := over
#print axioms proved
end Go.Proofs.Ytkgpjcoapopgmaa.pullOrder
