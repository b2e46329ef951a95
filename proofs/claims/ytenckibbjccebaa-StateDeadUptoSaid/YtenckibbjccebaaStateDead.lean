/- StateDead: where both rows hold at most 1048576 events the law returns true and leaves its arguments as they were: behind the exit whatever follows is refused there. Conditions: the bound of the narrowed statement. -/
import Derived.Test.YtenckibbjccebaaRows
import Derived.Test.YtenckibbjccebaaApp
import Derived.Test.YtenckibbjccebaaBulk
import Derived.WalkKit
import Derived.Deep.QuietTactic
import Derived.BigQuiet
import Derived.JoinedCond
import Derived.ProofKit
import Derived.OpenShut
import Derived.ShutString
import Derived.ChangeOld
import Derived.Below
namespace Go.Proofs.Ytenckibbjccebaa.stateDead
open Go.ChangeShapes Go.WideShapes Go.ChangeAt Go.RowKit
open Go.ChangeMaps (open_string shut_string)
set_option linter.unusedVariables false

theorem own : ownKnob Try.prog.godebug = none := by kernel_rfl
theorem laidOut : laidOutB Try.prog = true := by kernel_rfl

set_option maxRecDepth 100000 in
set_option maxHeartbeats 4000000 in
theorem walk (a0 : Option Addr) (len0 cap0 : Nat) (z0 : List Int) (a1 : Option Addr) (len1 cap1 : Nat) (z1 : List Int) (w : World) (w0 : IsRow .i64 w a0 len0 cap0 z0) (b0 : cap0 ≤ 1048576) (w1 : IsRow .i64 w a1 len1 cap1 z1) (b1 : cap1 ≤ 1048576) :
    Calls Try.prog 3 #[.slice a0 len0 cap0, .slice a1 len1 cap1] w fun e w' => e = .returned (.bool true) ∧ Below w.heap.size w w' := by
  obtain ⟨zs, hl, hI, hr⟩ := pre w0
  obtain ⟨ys, hl1, hJ, hr1⟩ := pre w1
  have c0 := w0.cap
  have c1 := w1.cap
  have n0 := w0.nil
  have n1 := w1.nil
  have l0 : len0 ≤ 1048576 := by omega
  have l1 : len1 ≤ 1048576 := by omega
  have HI := Lib.hid hI
  have HJ := Lib.hid hJ
  have HL := Lib.hid hl
  have HL1 := Lib.hid hl1
  have HN0 := Lib.hid n0
  have HN1 := Lib.hid n1
  clear hI hJ w0 w1 hl hl1 c0 c1 n0 n1 b0 b1
  by_cases hgo : takes 1 zs = true ∧ runs 1 zs = 3
  · obtain ⟨hz, hr3⟩ := hgo
    have hs := script_takes hz
    rw [hr3, HL.out] at hs
    have HS := Lib.hid hs
    have h10 : next 3 10 = (4, 0) := by decide +kernel
    have hx := takes_snoc 1 zs 10
    have hxr := runs_snoc 1 zs 10
    rw [hz, hr3, h10] at hx
    rw [hr3, h10] at hxr
    have hxt : takes 1 (zs ++ [10]) = true := by rw [hx]; rfl
    have hxl : (zs ++ [10]).length = len0 + 1 := by rw [List.length_append, HL.out]; rfl
    have hsx := script_takes hxt
    rw [hxr, hxl] at hsx
    have HSX := Lib.hid hsx
    have HXL := Lib.hid hxl
    have hyl : ((zs ++ [10]) ++ ys).length = len0 + 1 + len1 := by rw [List.length_append, hxl, HL1.out]
    have HYL := Lib.hid hyl
    have hsy : (len1 = 0 ∧ script 1 ((zs ++ [10]) ++ ys) = (4, ((len0 + 1 : Nat) : Int), 0)) ∨ (len1 ≠ 0 ∧ ∃ X : Int, (X == 0) = false ∧ script 1 ((zs ++ [10]) ++ ys) = (0, ((len0 + 1 : Nat) : Int), X)) := by
      cases ys with
      | nil => exact .inl ⟨by have := HL1.out; simpa using this.symm, by rw [List.append_nil, hsx]⟩
      | cons y ys' =>
        have hne : (next (runs 1 (zs ++ [10])) y).2 ≠ 0 := by
          rw [hxr]
          intro h
          rcases next_cases h with ⟨a, _⟩ | ⟨a, _⟩ | ⟨a, _⟩ | ⟨a, _⟩ | ⟨a, _⟩ | ⟨a, _⟩ <;> simp at a
        have := script_stops (s := 1) ys' hxt hne
        rw [hxl] at this
        exact .inr ⟨by have := HL1.out; intro h0; rw [h0] at this; simp at this, _, by simpa using hne, this⟩
    have hb8 : (0 + len0) * 8 ≤ 140737488355328 := by omega
    have hb9 : (len0 + 1) * 8 ≤ 140737488355328 := by omega
    have hb10 : (0 + (len0 + 1)) * 8 ≤ 140737488355328 := by omega
    have hb11 : (len0 + 1 + len1) * 8 ≤ 140737488355328 := by omega
    have hb12 : len0 + 1 ≤ 9223372036854775807 := by omega
    have hb13 : len0 + 1 + len1 ≤ 9223372036854775807 := by omega
    clear hs hz hr3 h10 hx hxr hxt hxl hsx hyl
    obtain ⟨T, X, hsy2⟩ : ∃ T X : Int, script 1 ((zs ++ [10]) ++ ys) = (T, ((len0 + 1 : Nat) : Int), X) ∧ ((len1 = 0 ∧ T = 4 ∧ X = 0) ∨ (len1 ≠ 0 ∧ T = 0 ∧ (X == 0) = false)) := by
      rcases hsy with ⟨a, b⟩ | ⟨a, X, b, c⟩
      · exact ⟨4, 0, b, .inl ⟨a, rfl, rfl⟩⟩
      · exact ⟨0, X, c, .inr ⟨a, rfl, b⟩⟩
    clear hsy
    obtain ⟨hsy, hfin⟩ := hsy2
    have HSY := Lib.hid hsy
    have HFIN := Lib.hid hfin
    clear hsy hfin
    go_enter Try.func3, Try.ntmps3
    go_wp2_with fail
    refine (shown_any _).mono ?_
    rintro r W1 ⟨rfl, hB1⟩
    have HI1 := Lib.hid (nx0 hB1 HI.out)
    have HJ1 := Lib.hid (nx0 hB1 HJ.out)
    go_wp2_with fail
    refine (script_any _ _ _ zs _ HL.out HI1.out hr).mono ?_
    rintro r W2 ⟨rfl, hB2⟩
    rw [HS.out]
    have HI2 := Lib.hid (nx0 hB2 HI1.out)
    have HJ2 := Lib.hid (nx0 hB2 HJ1.out)
    have HB := Lib.hid (nx hB1 hB2)
    clear hB1 hB2
    have hA := (Below.refl W2.heap.size W2).alloc (Nat.le_refl _) (.cells #[] 3)
    have HA := Lib.hid hA
    have HO := Lib.hid (own_empty W2 W2.heap.size (Nat.le_refl _))
    clear hA
    go_wp2_with (first | (at_builtin; refine append_ints rfl (.tmp 39) (.tmp 40) rfl W2.heap.size _ 0 [] rfl HO.out W2.heap.size _ len0 _ zs rfl HN0.out HL.out (HI2.out.below HA.out) hb8 (by simp) ?_; intro v1 u1 hown1 hg1; have hu1 : Below W2.heap.size W2 u1 := HA.out.grown hg1 (by simp) (fun k e => by cases e; exact Nat.le_refl _); simp only [Nat.zero_add, List.nil_append] at hown1; have HO1 := Lib.hid hown1; have HU1 := Lib.hid (hu1.alloc hu1.size (.cells #[.int .i64 10] 3)); clear hown1 hg1) | (at_builtin; refine append_ints rfl (.tmp 41) (.tmp 42) rfl W2.heap.size _ len0 zs rfl (HO1.out.alloc _) (u1.heap.size + 1) _ 1 _ [10] rfl (by intro h; cases h) rfl (Ints.new1 u1 10) hb9 HU1.out.size ?_; intro v2 u2 hown2 hg2; have hu2 : Below W2.heap.size W2 u2 := HU1.out.grown hg2 HU1.out.size (fun k e => (HO1.out.lt k e).1); obtain ⟨a2, c2, rfl, hn2, hI3⟩ := ownsRow_intsn HXL.out hown2; have HI3 := Lib.hid hI3; have HN2 := Lib.hid hn2; clear hown2 hg2 hI3 hu1 hn2))
    refine (script_any _ _ _ (zs ++ [10]) _ HXL.out HI3.out hb12).mono ?_
    rintro r W3 ⟨rfl, hB3⟩
    rw [HSX.out]
    have HI4 := Lib.hid (nx0 hB3 HI3.out)
    have HJ3 := Lib.hid (nx0 hB3 (nx0 hu2 HJ2.out))
    have HB3 := Lib.hid (nx (nx HB.out hu2) hB3)
    clear hu2 hB3
    have HA3 := Lib.hid ((Below.refl W3.heap.size W3).alloc (Nat.le_refl _) (.cells #[] 3))
    have HO3 := Lib.hid (own_empty W3 W3.heap.size (Nat.le_refl _))
    go_wp2_with (first | (at_builtin; refine append_ints rfl (.tmp 50) (.tmp 51) rfl W3.heap.size _ 0 [] rfl HO3.out W3.heap.size _ (len0 + 1) _ (zs ++ [10]) rfl HN2.out HXL.out (HI4.out.below HA3.out) hb10 (by simp) ?_; intro v4 u4 hown4 hg4; have hu4 : Below W3.heap.size W3 u4 := HA3.out.grown hg4 (by simp) (fun k e => by cases e; exact Nat.le_refl _); simp only [Nat.zero_add, List.nil_append] at hown4; have HO4 := Lib.hid hown4; clear hown4 hg4) | (at_builtin; refine append_ints rfl (.tmp 53) (.tmp 54) rfl W3.heap.size _ (len0 + 1) (zs ++ [10]) rfl HO4.out W3.heap.size _ len1 _ ys rfl HN1.out HL1.out (HJ3.out.below hu4) hb11 hu4.size ?_; intro v5 u5 hown5 hg5; have hu5 : Below W3.heap.size W3 u5 := hu4.grown hg5 hu4.size (fun k e => (HO4.out.lt k e).1); obtain ⟨a5, c5, rfl, _, hI6⟩ := ownsRow_intsn HYL.out hown5; have HI6 := Lib.hid hI6; clear hown5 hg5 hI6 hu4))
    refine (script_any _ _ _ (zs ++ [10] ++ ys) _ HYL.out HI6.out hb13).mono ?_
    rintro r W6 ⟨rfl, hB6⟩
    rw [HSY.out]
    have HB6 := Lib.hid (nx (nx HB3.out hu5) hB6)
    clear hu5 hB6
    have hk2 : (len0 : Int) ≤ 1048576 := by omega
    rcases HFIN.out with ⟨rfl, rfl, rfl⟩ | ⟨hne, rfl, hXb⟩
    · go_wp2
      go_ret
      exact ⟨by simp, HB6.out⟩
    · have hlb : ((len1 : Int) == 0) = false := by simpa using hne
      have hXn : (X != 0) = true := by simpa using hXb
      clear hne
      go_wp2
      go_ret
      exact ⟨by simp, HB6.out⟩
  · have hcase : ∃ S N E : Int, script 1 zs = (S, N, E) ∧ (((E == 0) = false ∧ (E != 0) = true ∧ S = 0) ∨ (E = 0 ∧ (S == 3) = false ∧ (S != 3) = true)) := by
      rcases takes_or 1 zs with hz | ⟨A, X, M, e1, e2, e3⟩
      · exact ⟨_, _, _, script_takes hz, .inr ⟨rfl, by simpa using fun h => hgo ⟨hz, h⟩, by simpa using fun h => hgo ⟨hz, h⟩⟩⟩
      · have := script_stops (s := 1) M e2 e3
        rw [← e1] at this
        exact ⟨_, _, _, this, .inl ⟨by simpa using e3, by simpa using e3, rfl⟩⟩
    obtain ⟨S, N, E, hs, hc⟩ := hcase
    have HS := Lib.hid hs
    clear hs hgo
    rcases hc with ⟨h1, h2, rfl⟩ | ⟨rfl, h1, h2⟩
    all_goals
      go_enter Try.func3, Try.ntmps3
      go_wp2_with fail
      refine (shown_any _).mono ?_
      rintro r W1 ⟨rfl, hB1⟩
      have HI1 := Lib.hid (nx0 hB1 HI.out)
      go_wp2_with fail
      refine (script_any _ _ _ zs _ HL.out HI1.out hr).mono ?_
      rintro r W2 ⟨rfl, hB2⟩
      rw [HS.out]
      go_wp2
      go_ret
      exact ⟨by simp, nx hB1 hB2⟩

set_option maxRecDepth 100000 in
theorem lifted (os : Os) (started : os.Started) (H : Type) (enc : TypeId × Value → H) (F : Stop.Interp) :
    ReturnsInHanded {} Try.checked os 3 .any ((Rows.OpenSpec.upto Rows.stateDeadSpec).pre6 enc Try.prog Try.f3 Rows.stateDeadUptoRow.domain false) (((Rows.OpenSpec.upto Rows.stateDeadSpec).at F).post enc Try.prog Try.f3 false true false false) := by
  refine returnsInHanded_of_cond (C := Try.checked) (s := Rows.OpenSpec.upto Rows.stateDeadSpec) (k := Rows.uptoSmall) rfl own started (by kernel_rfl) Try.func3
    (OpenSpec.witness (enc := enc) (C := Try.checked) (s := Rows.OpenSpec.upto Rows.stateDeadSpec) (k := Rows.uptoSmall) rfl false ⟨#[], #[.slice none 0 0, .slice none 0 0], []⟩ 8 (by kernel_rfl) (by kernel_rfl) (by kernel_rfl)
      (x := ([.nil, .nil], [], [])) (by kernel_rfl) rfl (by kernel_rfl)) ?_
  intro W base args ds gs before hval0 hW hcnd hk _
  have hval : ∀ (j : Nat) t v, Try.f3.params[j]? = some t → args[j]? = some v → Value.okWide Try.prog W .any base t v := hval0
  have hW' := hW
  obtain ⟨p, q, hA0, hV, rfl, hfz, hnd⟩ := hW
  have hA : DataW.TrodAll enc Try.prog W 0 (fun _ => true) true Try.f3.params.toList args.toList ds p := hA0
  rw [Try.params3] at hA hval
  obtain ⟨v0, vs0, d0, ds0, p0, q0, hargs, rfl, rfl, h0, r0⟩ := trodAll_cons hA
  obtain ⟨v1, vs1, d1, ds1, p1, q1, rfl, rfl, rfl, h1, r1⟩ := trodAll_cons r0
  obtain ⟨rfl, rfl, rfl⟩ := trodAll_nil r1
  obtain rfl : args = #[v0, v1] := by cases args; simp_all
  obtain ⟨rfl, rfl⟩ := trodVars_none hV
  obtain ⟨a0, len0, cap0, rfl⟩ := okWide_slice Try.underlying22 (hval 0 22 v0 rfl rfl)
  have k0 := h0
  have lt0 : ∀ x ∈ p0, x.block < W.heap.size := by obtain ⟨m, hm⟩ := k0; exact DataW.trod_lt m _ _ _ hm
  obtain ⟨z0, w0, c0⟩ : ∃ zs, IsRow .i64 W a0 len0 cap0 zs ∧ cap0 ≤ Rows.uptoBulk d0 := by
    obtain ⟨fuel, hf⟩ := h0
    rcases open_ints Try.underlying22 Try.underlying3 (by kernel_rfl) hf with ⟨hcs, hx⟩ | ⟨x, l, c, zs, hcs, _, hl, hm, hz, hx, hcell, hwz⟩
    · simp [Value.cells] at hcs
      obtain ⟨rfl, rfl, rfl⟩ := hcs
      exact ⟨[], .inl ⟨rfl, rfl, rfl, rfl⟩, Nat.zero_le _⟩
    · simp [Value.cells] at hcs
      obtain ⟨rfl, rfl, rfl⟩ := hcs
      obtain ⟨rfl, rfl⟩ := Prod.mk.inj hx
      exact ⟨zs, .inr ⟨_, rfl, hl, hm, by simpa using hz, hcell, hwz⟩, bulks.lits_le hl (by simpa using hz)⟩
  obtain ⟨a1, len1, cap1, rfl⟩ := okWide_slice Try.underlying22 (hval 1 22 v1 rfl rfl)
  have k1 := h1
  have lt1 : ∀ x ∈ p1, x.block < W.heap.size := by obtain ⟨m, hm⟩ := k1; exact DataW.trod_lt m _ _ _ hm
  obtain ⟨z1, w1, c1⟩ : ∃ zs, IsRow .i64 W a1 len1 cap1 zs ∧ cap1 ≤ Rows.uptoBulk d1 := by
    obtain ⟨fuel, hf⟩ := h1
    rcases open_ints Try.underlying22 Try.underlying3 (by kernel_rfl) hf with ⟨hcs, hx⟩ | ⟨x, l, c, zs, hcs, _, hl, hm, hz, hx, hcell, hwz⟩
    · simp [Value.cells] at hcs
      obtain ⟨rfl, rfl, rfl⟩ := hcs
      exact ⟨[], .inl ⟨rfl, rfl, rfl, rfl⟩, Nat.zero_le _⟩
    · simp [Value.cells] at hcs
      obtain ⟨rfl, rfl, rfl⟩ := hcs
      obtain ⟨rfl, rfl⟩ := Prod.mk.inj hx
      exact ⟨zs, .inr ⟨_, rfl, hl, hm, by simpa using hz, hcell, hwz⟩, bulks.lits_le hl (by simpa using hz)⟩
  have hk' : Rows.uptoBulkAll _ ≤ 1048576 := of_decide_eq_true hk
  simp only [List.append_nil, Rows.uptoBulkAll] at hk'
  have b0 : cap0 ≤ 1048576 := by omega
  have b1 : cap1 ≤ 1048576 := by omega
  clear hA0 hval0
  refine (walk a0 len0 cap0 z0 a1 len1 cap1 z1 W w0 b0 w1 b1).mono fun e W' ⟨he, bel⟩ => ?_
  subst he
  exact ⟨_, rfl, _, _, _, [], _, [], hW', trodAll_mk1 (shut_bool Try.underlying4 _), (trodAll_cons_mk (Below.trod laidOut (by kernel_rfl) (of_decide_eq_true (by kernel_rfl)) k0 bel lt0) (trodAll_cons_mk (Below.trod laidOut (by kernel_rfl) (of_decide_eq_true (by kernel_rfl)) k1 bel lt1) trodAll_mk0)), rfl, bel.frame _, fun h => by cases h⟩

theorem proved : Rows.StateDeadUptoSaid :=
  OpenClaim.holds_of_cond 3 Try.f3 rfl rfl rfl rfl rfl rfl rfl ⟨rfl, rfl, rfl, rfl, rfl⟩ rfl rfl rfl rfl rfl (by kernel_rfl) Try.func3 (by kernel_rfl)
    (of_decide_eq_true (by kernel_rfl)) (by unfold Func.isWrapper; first | (rw [if_pos (by decide +kernel)]; kernel_rfl) | (rw [if_neg (by decide +kernel)]; exact ⟨rfl, rfl⟩))
    (fun os started H enc _ F => lifted os started H enc F)
#print axioms proved
end Go.Proofs.Ytenckibbjccebaa.stateDead
