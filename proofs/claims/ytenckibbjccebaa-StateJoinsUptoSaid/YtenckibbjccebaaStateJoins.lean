/- StateJoins: where both rows hold at most 1048576 events the law returns true and leaves its arguments as they were: a row behind another one leads to where it leads from there, and a row that is refused is so with whatever behind it. Conditions: the bound of the narrowed statement. -/
import Derived.Test.YtenckibbjccebaaRows
import Derived.Test.YtenckibbjccebaaApp
import Derived.Test.YtenckibbjccebaaBulk
import Derived.WalkKit
import Derived.Deep.QuietTactic
import Derived.BigQuiet
import Derived.JoinedCond
import Derived.ProofKit
import Derived.OpenShut
import Derived.ShutString
import Derived.ChangeOld
import Derived.Below
namespace Go.Proofs.Ytenckibbjccebaa.stateJoins
open Go.ChangeShapes Go.WideShapes Go.ChangeAt Go.RowKit
open Go.ChangeMaps (open_string shut_string)
set_option linter.unusedVariables false

theorem own : ownKnob Try.prog.godebug = none := by kernel_rfl
theorem laidOut : laidOutB Try.prog = true := by kernel_rfl

set_option maxRecDepth 100000 in
set_option maxHeartbeats 4000000 in
theorem walk (a0 : Option Addr) (len0 cap0 : Nat) (z0 : List Int) (a1 : Option Addr) (len1 cap1 : Nat) (z1 : List Int) (w : World) (w0 : IsRow .i64 w a0 len0 cap0 z0) (b0 : cap0 ≤ 1048576) (w1 : IsRow .i64 w a1 len1 cap1 z1) (b1 : cap1 ≤ 1048576) :
    Calls Try.prog 4 #[.slice a0 len0 cap0, .slice a1 len1 cap1] w fun e w' => e = .returned (.bool true) ∧ Below w.heap.size w w' := by
  obtain ⟨zs, hl, hI, hr⟩ := pre w0
  obtain ⟨ys, hl1, hJ, hr1⟩ := pre w1
  have c0 := w0.cap
  have c1 := w1.cap
  have n0 := w0.nil
  have n1 := w1.nil
  have l0 : len0 ≤ 1048576 := by omega
  have l1 : len1 ≤ 1048576 := by omega
  have HI := Lib.hid hI
  have HJ := Lib.hid hJ
  have HL := Lib.hid hl
  have HL1 := Lib.hid hl1
  have HN0 := Lib.hid n0
  have HN1 := Lib.hid n1
  clear hI hJ w0 w1 hl hl1 c0 c1 n0 n1 b0 b1
  obtain ⟨⟨S, N, E⟩, hs⟩ : ∃ x, script 1 zs = x := ⟨_, rfl⟩
  have HS := Lib.hid hs
  obtain ⟨⟨T, K, F⟩, ht⟩ : ∃ x, script 1 (zs ++ ys) = x := ⟨_, rfl⟩
  have HT := Lib.hid ht
  have hll : (zs ++ ys).length = len0 + len1 := by rw [List.length_append, HL.out, HL1.out]
  have HLL := Lib.hid hll
  have hb8 : (0 + len0) * 8 ≤ 140737488355328 := by omega
  have hb9 : (len0 + len1) * 8 ≤ 140737488355328 := by omega
  have hb10 : len0 + len1 ≤ 9223372036854775807 := by omega
  clear hs ht hll
  go_enter Try.func4, Try.ntmps4
  go_wp2_with fail
  refine (shown_any _).mono ?_
  rintro r W1 ⟨rfl, hB1⟩
  have HI1 := Lib.hid (nx0 hB1 HI.out)
  have HJ1 := Lib.hid (nx0 hB1 HJ.out)
  go_wp2_with fail
  refine (script_any _ _ _ zs _ HL.out HI1.out hr).mono ?_
  rintro r W2 ⟨rfl, hB2⟩
  rw [HS.out]
  have HI2 := Lib.hid (nx0 hB2 HI1.out)
  have HJ2 := Lib.hid (nx0 hB2 HJ1.out)
  have hA := (Below.refl W2.heap.size W2).alloc (Nat.le_refl _) (.cells #[] 3)
  have HA := Lib.hid hA
  have HO := Lib.hid (own_empty W2 W2.heap.size (Nat.le_refl _))
  clear hA
  go_wp2_with (first | (at_builtin; refine append_ints rfl (.tmp 24) (.tmp 25) rfl W2.heap.size _ 0 [] rfl HO.out W2.heap.size _ len0 _ zs rfl HN0.out HL.out (HI2.out.below HA.out) hb8 (by simp) ?_; intro v1 u1 hown1 hg1; have hu1 : Below W2.heap.size W2 u1 := HA.out.grown hg1 (by simp) (fun k e => by cases e; exact Nat.le_refl _); simp only [Nat.zero_add, List.nil_append] at hown1; have HO1 := Lib.hid hown1; clear hown1 hg1) | (at_builtin; refine append_ints rfl (.tmp 26) (.tmp 27) rfl W2.heap.size _ len0 zs rfl HO1.out W2.heap.size _ len1 _ ys rfl HN1.out HL1.out (HJ2.out.below hu1) hb9 hu1.size ?_; intro v2 u2 hown2 hg2; have hu2 : Below W2.heap.size W2 u2 := hu1.grown hg2 hu1.size (fun k e => (HO1.out.lt k e).1); obtain ⟨a2, c2, rfl, _, hI3⟩ := ownsRow_intsn HLL.out hown2; have HI3 := Lib.hid hI3; clear hown2 hg2 hI3 hu1))
  refine (script_any _ _ _ (zs ++ ys) _ HLL.out HI3.out hb10).mono ?_
  rintro r W3 ⟨rfl, hB3⟩
  rw [HT.out]
  have HJ3 := Lib.hid (nx0 hB3 (nx0 hu2 HJ2.out))
  have hB4 : Below w.heap.size w W3 := nx (nx (nx hB1 hB2) hu2) hB3
  clear hu2 hB3 hB2 hB1
  rcases takes_or 1 zs with hz | ⟨A, X, M, e1, e2, e3⟩
  · have hs2 := script_takes hz
    rw [HS.out, HL.out] at hs2
    simp only [Prod.mk.injEq] at hs2
    obtain ⟨rfl, rfl, rfl⟩ := hs2
    have HZ := Lib.hid hz
    clear hz
    go_wp2_with fail
    go_loopw [12, 13] (fun s i wr => ∃ k : Nat, k ≤ len1 ∧ i = .int .i64 k ∧ s = .int .i64 (runs (runs 1 zs) (ys.take k)) ∧ takes (runs 1 zs) (ys.take k) = true ∧ Below W3.heap.size W3 wr) (fun _ i _ => len1 - (intOf i).toNat)
    case atStart => exact ⟨0, by omega, rfl, by simp [runs], by simp [takes], Below.refl _ _⟩
    case round =>
      obtain ⟨k, hk, rfl, rfl, htk, hB⟩ := hrel
      have HTK := Lib.hid htk
      clear htk
      by_cases hlt : k < len1
      · obtain ⟨b, off, ha, hb, hc⟩ := HJ3.out.cells (p := k) (by rw [HL1.out]; exact hlt)
        have hck : wr.cell? ⟨b, off + k, none⟩ = some (.int .i64 (zat ys k)) := (hB.cell (p := ⟨b, off + k, none⟩) hb).trans (hc k (by rw [HL1.out]; exact hlt))
        clear hc
        subst ha
        have hlt' : (k : Int) < (len1 : Int) := by omega
        have h1 := take_zat (zs := ys) (k := k) (by rw [HL1.out]; exact hlt)
        have h2 := runs_snoc (runs 1 zs) (ys.take k) (zat ys k)
        have h3 := takes_snoc (runs 1 zs) (ys.take k) (zat ys k)
        rw [← h1] at h2 h3
        rw [HTK.out] at h3
        have h4 := take_split (zs := ys) (k := k) (by rw [HL1.out]; exact hlt)
        by_cases hz2 : (next (runs (runs 1 zs) (ys.take k)) (zat ys k)).2 = 0
        · have H2 := Lib.hid h2
          have H3 := Lib.hid h3
          have HZ2 := Lib.hid hz2
          clear h1 h2 h3 h4 hz2
          go_wp2_with fail
          refine (next_any _ _ _).mono ?_
          rintro r u ⟨rfl, hu⟩
          rw [HZ2.out]
          go_wp2
          go_roundw
          case rel => exact ⟨k + 1, by omega, by go_num, by rw [H2.out], by rw [H3.out, HZ2.out]; rfl, hB.trans (hu.mono hB.size)⟩
          case measure => simp [intOf]; omega
        · have hcat : zs ++ ys = (zs ++ ys.take k) ++ zat ys k :: ys.drop (k + 1) := by rw [List.append_assoc, ← h4]
          have htt : takes 1 (zs ++ ys.take k) = true := by rw [takes_append, HZ.out, HTK.out]; rfl
          have hrr : runs 1 (zs ++ ys.take k) = runs (runs 1 zs) (ys.take k) := runs_append _ _ _
          have hst := script_stops (s := 1) (ys.drop (k + 1)) htt (by rw [hrr]; exact hz2)
          rw [← hcat, HT.out, hrr, List.length_append, List.length_take, HL.out, HL1.out] at hst
          simp only [Prod.mk.injEq] at hst
          obtain ⟨e1, e2, e3⟩ := hst
          have hzb : ((next (runs (runs 1 zs) (ys.take k)) (zat ys k)).2 == 0) = false := by simpa using hz2
          have e2' : K = (len0 : Int) + (k : Int) := by
            rw [e2, show min k len1 = k by omega]; omega
          clear h1 h2 h3 h4 hz2 hcat htt hrr e2
          subst e1 e2'
          rw [e3]
          clear e3
          generalize hX : next (runs (runs 1 zs) (ys.take k)) (zat ys k) = X at *
          have HX := Lib.hid hX
          clear hX
          have hk2 : (len0 : Int) ≤ 1048576 := by omega
          have hk3 : (k : Int) ≤ 1048576 := by omega
          go_wp2_with fail
          refine (next_any _ _ _).mono ?_
          rintro r u ⟨rfl, hu⟩
          rw [HX.out]
          go_wp2
          go_ret
          exact ⟨by simp, nx hB4 (hB.trans (hu.mono hB.size))⟩
      · obtain rfl : k = len1 := by omega
        have ht1 : ys.take k = ys := List.take_of_length_le (by rw [HL1.out]; exact Nat.le_refl _)
        have htt : takes 1 (zs ++ ys) = true := by
          have := HTK.out
          rw [ht1] at this
          rw [takes_append, HZ.out, this]; rfl
        have hst := script_takes htt
        rw [HT.out, HLL.out, runs_append] at hst
        simp only [Prod.mk.injEq] at hst
        obtain ⟨rfl, e2, rfl⟩ := hst
        have e2' : K = (len0 : Int) + (k : Int) := by rw [e2]; omega
        rw [ht1]
        clear htt e2 ht1
        subst e2'
        have hk2 : (len0 : Int) ≤ 1048576 := by omega
        have hk3 : (k : Int) ≤ 1048576 := by omega
        generalize runs (runs 1 zs) ys = R at *
        go_wp2
        go_ret
        exact ⟨by simp, nx hB4 hB⟩
  · have hs2 := script_stops (s := 1) M e2 e3
    rw [← e1, HS.out] at hs2
    have hcat : zs ++ ys = A ++ X :: (M ++ ys) := by rw [e1]; simp
    have hs3 := script_stops (s := 1) (M ++ ys) e2 e3
    rw [← hcat, HT.out] at hs3
    rw [Prod.mk.injEq, Prod.mk.injEq] at hs2 hs3
    obtain ⟨f1, f2, f3⟩ := hs2
    obtain ⟨g1, g2, g3⟩ := hs3
    have h3 : E = F := by rw [f3, g3]
    have h2 : N = K := by rw [f2, g2]
    have hEb : (E == 0) = false := by
      have : E ≠ 0 := by rw [f3]; exact e3
      simpa using this
    clear hcat e1 e2 e3 f2 f3 g2 g3
    subst f1 g1 h2 h3
    go_wp2
    go_ret
    exact ⟨by simp, hB4⟩

set_option maxRecDepth 100000 in
theorem lifted (os : Os) (started : os.Started) (H : Type) (enc : TypeId × Value → H) (F : Stop.Interp) :
    ReturnsInHanded {} Try.checked os 4 .any ((Rows.OpenSpec.upto Rows.stateJoinsSpec).pre6 enc Try.prog Try.f4 Rows.stateJoinsUptoRow.domain false) (((Rows.OpenSpec.upto Rows.stateJoinsSpec).at F).post enc Try.prog Try.f4 false true false false) := by
  refine returnsInHanded_of_cond (C := Try.checked) (s := Rows.OpenSpec.upto Rows.stateJoinsSpec) (k := Rows.uptoSmall) rfl own started (by kernel_rfl) Try.func4
    (OpenSpec.witness (enc := enc) (C := Try.checked) (s := Rows.OpenSpec.upto Rows.stateJoinsSpec) (k := Rows.uptoSmall) rfl false ⟨#[], #[.slice none 0 0, .slice none 0 0], []⟩ 8 (by kernel_rfl) (by kernel_rfl) (by kernel_rfl)
      (x := ([.nil, .nil], [], [])) (by kernel_rfl) rfl (by kernel_rfl)) ?_
  intro W base args ds gs before hval0 hW hcnd hk _
  have hval : ∀ (j : Nat) t v, Try.f4.params[j]? = some t → args[j]? = some v → Value.okWide Try.prog W .any base t v := hval0
  have hW' := hW
  obtain ⟨p, q, hA0, hV, rfl, hfz, hnd⟩ := hW
  have hA : DataW.TrodAll enc Try.prog W 0 (fun _ => true) true Try.f4.params.toList args.toList ds p := hA0
  rw [Try.params4] at hA hval
  obtain ⟨v0, vs0, d0, ds0, p0, q0, hargs, rfl, rfl, h0, r0⟩ := trodAll_cons hA
  obtain ⟨v1, vs1, d1, ds1, p1, q1, rfl, rfl, rfl, h1, r1⟩ := trodAll_cons r0
  obtain ⟨rfl, rfl, rfl⟩ := trodAll_nil r1
  obtain rfl : args = #[v0, v1] := by cases args; simp_all
  obtain ⟨rfl, rfl⟩ := trodVars_none hV
  obtain ⟨a0, len0, cap0, rfl⟩ := okWide_slice Try.underlying22 (hval 0 22 v0 rfl rfl)
  have k0 := h0
  have lt0 : ∀ x ∈ p0, x.block < W.heap.size := by obtain ⟨m, hm⟩ := k0; exact DataW.trod_lt m _ _ _ hm
  obtain ⟨z0, w0, c0⟩ : ∃ zs, IsRow .i64 W a0 len0 cap0 zs ∧ cap0 ≤ Rows.uptoBulk d0 := by
    obtain ⟨fuel, hf⟩ := h0
    rcases open_ints Try.underlying22 Try.underlying3 (by kernel_rfl) hf with ⟨hcs, hx⟩ | ⟨x, l, c, zs, hcs, _, hl, hm, hz, hx, hcell, hwz⟩
    · simp [Value.cells] at hcs
      obtain ⟨rfl, rfl, rfl⟩ := hcs
      exact ⟨[], .inl ⟨rfl, rfl, rfl, rfl⟩, Nat.zero_le _⟩
    · simp [Value.cells] at hcs
      obtain ⟨rfl, rfl, rfl⟩ := hcs
      obtain ⟨rfl, rfl⟩ := Prod.mk.inj hx
      exact ⟨zs, .inr ⟨_, rfl, hl, hm, by simpa using hz, hcell, hwz⟩, bulks.lits_le hl (by simpa using hz)⟩
  obtain ⟨a1, len1, cap1, rfl⟩ := okWide_slice Try.underlying22 (hval 1 22 v1 rfl rfl)
  have k1 := h1
  have lt1 : ∀ x ∈ p1, x.block < W.heap.size := by obtain ⟨m, hm⟩ := k1; exact DataW.trod_lt m _ _ _ hm
  obtain ⟨z1, w1, c1⟩ : ∃ zs, IsRow .i64 W a1 len1 cap1 zs ∧ cap1 ≤ Rows.uptoBulk d1 := by
    obtain ⟨fuel, hf⟩ := h1
    rcases open_ints Try.underlying22 Try.underlying3 (by kernel_rfl) hf with ⟨hcs, hx⟩ | ⟨x, l, c, zs, hcs, _, hl, hm, hz, hx, hcell, hwz⟩
    · simp [Value.cells] at hcs
      obtain ⟨rfl, rfl, rfl⟩ := hcs
      exact ⟨[], .inl ⟨rfl, rfl, rfl, rfl⟩, Nat.zero_le _⟩
    · simp [Value.cells] at hcs
      obtain ⟨rfl, rfl, rfl⟩ := hcs
      obtain ⟨rfl, rfl⟩ := Prod.mk.inj hx
      exact ⟨zs, .inr ⟨_, rfl, hl, hm, by simpa using hz, hcell, hwz⟩, bulks.lits_le hl (by simpa using hz)⟩
  have hk' : Rows.uptoBulkAll _ ≤ 1048576 := of_decide_eq_true hk
  simp only [List.append_nil, Rows.uptoBulkAll] at hk'
  have b0 : cap0 ≤ 1048576 := by omega
  have b1 : cap1 ≤ 1048576 := by omega
  clear hA0 hval0
  refine (walk a0 len0 cap0 z0 a1 len1 cap1 z1 W w0 b0 w1 b1).mono fun e W' ⟨he, bel⟩ => ?_
  subst he
  exact ⟨_, rfl, _, _, _, [], _, [], hW', trodAll_mk1 (shut_bool Try.underlying4 _), (trodAll_cons_mk (Below.trod laidOut (by kernel_rfl) (of_decide_eq_true (by kernel_rfl)) k0 bel lt0) (trodAll_cons_mk (Below.trod laidOut (by kernel_rfl) (of_decide_eq_true (by kernel_rfl)) k1 bel lt1) trodAll_mk0)), rfl, bel.frame _, fun h => by cases h⟩

theorem proved : Rows.StateJoinsUptoSaid :=
  OpenClaim.holds_of_cond 4 Try.f4 rfl rfl rfl rfl rfl rfl rfl ⟨rfl, rfl, rfl, rfl, rfl⟩ rfl rfl rfl rfl rfl (by kernel_rfl) Try.func4 (by kernel_rfl)
    (of_decide_eq_true (by kernel_rfl)) (by unfold Func.isWrapper; first | (rw [if_pos (by decide +kernel)]; kernel_rfl) | (rw [if_neg (by decide +kernel)]; exact ⟨rfl, rfl⟩))
    (fun os started H enc _ F => lifted os started H enc F)
#print axioms proved
end Go.Proofs.Ytenckibbjccebaa.stateJoins
