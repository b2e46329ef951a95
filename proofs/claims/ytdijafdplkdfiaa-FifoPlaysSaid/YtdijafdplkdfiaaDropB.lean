/- A line drops one that waits: the walk. Conditions: those that wait are unlike, and no number is below 0. -/
import Derived.Test.YtdijafdplkdfiaaDrop
namespace Go.Proofs.Ytdijafdplkdfiaa
set_option linter.unusedVariables false
open Go.RowKit
theorem drop_nil (p : Int) (w : World) : Calls Try.prog 19 #[.pointer none, .int .i64 p] w fun e w' => e = .returned (.bool false) ∧ w = w' := by
  go_enter Try.func19, Try.ntmps19
  go_wp2_with fail
  refine (list_nil _).mono ?_
  rintro e w' ⟨rfl, rfl⟩
  go_wp2_with fail
  refine (index_any none 0 0 [] p _ rfl (.inl ⟨⟨_, _, rfl⟩, rfl⟩) (by omega)).mono ?_
  rintro e w' ⟨rfl, rfl⟩
  rw [show indexI [] p 0 = -1 from rfl]
  go_wp2
  go_ret
  exact ⟨rfl, rfl⟩
theorem ring_reset {W : World} {b : Nat} {r : Nat → Int} {f n : Nat} (h : Ring W b r f n) :
    Ring ((W.setCell ⟨b, 64, none⟩ (.int .i64 0)).setCell ⟨b, 65, none⟩ (.int .i64 0)) b r 0 0 := by
  refine ⟨by simpa using h.lt, by omega, by omega, fun j hj => ?_, ?_, ?_, fun j => ?_⟩
  · rw [World.cell?_setCell_other _ _ _ _ (by intro e; simp only [Addr.mk.injEq] at e; omega), World.cell?_setCell_other _ _ _ _ (by intro e; simp only [Addr.mk.injEq] at e; omega)]
    exact h.ring j hj
  · rw [World.cell?_setCell_other _ _ _ _ (by intro e; simp only [Addr.mk.injEq] at e; omega)]
    exact World.cell?_setCell_same' _ _ _ (by rw [h.from_]; rfl)
  · have : (W.setCell ⟨b, 64, none⟩ (.int .i64 0)).cell? ⟨b, 65, none⟩ = some (.int .i64 n) := by
      rw [World.cell?_setCell_other _ _ _ _ (by intro e; simp only [Addr.mk.injEq] at e; omega)]; exact h.n_
    exact World.cell?_setCell_same' _ _ _ (by rw [this]; rfl)
  · rw [World.frozen?_setCell, World.frozen?_setCell]; exact h.free j
set_option maxRecDepth 100000 in
set_option maxHeartbeats 4000000 in
theorem drop_any (b : Nat) (xs : List Int) (p : Int) (w : World) (hL : LineAt w b xs) (hG : Good xs) :
    Calls Try.prog 19 #[.pointer (some ⟨b, 0, none⟩), .int .i64 p] w fun e w' => e = .returned (.bool (hasI xs p)) ∧ LineAt w' b (dropL xs p) ∧ w.grownBy w' (some b) := by
  obtain ⟨r, f, n, hR, rfl⟩ := hL
  have HR := Lib.hid hR
  have HG := Lib.hid hG
  have hn := hR.n64
  have hlt := hR.lt
  have HWL := Lib.hid (waits_length r f n)
  clear hR hG
  rcases indexI_spec (waits r f n) p n with ⟨h1, h2⟩ | ⟨k, h1, h2, h3, h4⟩
  · have hh := hasI_false_of (xs := waits r f n) (p := p) (fun j hj => h2 j (by rw [HWL.out] at hj; exact hj))
    have HD := Lib.hid (dropL_none hh)
    have HX := Lib.hid h1
    rw [hh, HD.out]
    clear h1 h2 hh
    go_enter Try.func19, Try.ntmps19
    go_wp2_with fail
    refine (list_any b r f n _ HR.out).mono ?_
    rintro e w1 ⟨⟨v, rfl, hown⟩, hB⟩
    have HO := Lib.hid (show OwnI w1 w.heap.size v n (waits r f n) from hown)
    obtain ⟨a', cap', rfl, _, hI⟩ := ownsRow_intsn HWL.out hown
    have HI := Lib.hid hI
    have HR1 := Lib.hid (HR.out.grown (gbelow hB none) (by simp))
    have HGR := Lib.hid (gbelow hB (some b))
    have hsz := hB.size
    clear hown hI hB
    go_wp2_with fail
    refine (index_any _ _ _ (waits r f n) p _ HWL.out HI.out (by omega)).mono ?_
    rintro e w' ⟨rfl, rfl⟩
    rw [HX.out]
    go_wp2
    go_ret
    exact ⟨rfl, ⟨r, f, n, HR1.out, rfl⟩, HGR.out⟩
  · have hh := hasI_true_of (xs := waits r f n) (p := p) (k := k) (by rw [HWL.out]; exact h1) h3
    have HD := Lib.hid (dropL_at (p := p) HG.out.1 (show k < (waits r f n).length by rw [HWL.out]; exact h1) h3)
    have HX := Lib.hid h2
    rw [hh]
    have HGD := Lib.hid (HG.out.drop p)
    have hkn : (k : Int) < (n : Int) := by omega
    clear h2 h3 h4 hh
    go_enter Try.func19, Try.ntmps19
    go_wp2_with fail
    refine (list_any b r f n _ HR.out).mono ?_
    rintro e w1 ⟨⟨v, rfl, hown⟩, hB⟩
    have HO := Lib.hid (show OwnI w1 w.heap.size v n (waits r f n) from hown)
    obtain ⟨a', cap', rfl, _, hI⟩ := ownsRow_intsn HWL.out hown
    have HI := Lib.hid hI
    have HR1 := Lib.hid (HR.out.grown (gbelow hB none) (by simp))
    have HGR := Lib.hid (gbelow hB (some b))
    have hsz := hB.size
    clear hown hI hB
    obtain ⟨g, cap, hv, hg1, hg2⟩ := World.ownsRow.form HO.out (show 0 < n by omega)
    rw [hv] at HO HI ⊢
    clear hv
    go_wp2_with fail
    refine (index_any _ _ _ (waits r f n) p _ HWL.out HI.out (by omega)).mono ?_
    rintro e w' ⟨rfl, rfl⟩
    rw [HX.out]
    have hgb : g ≠ b := by omega
    have c64 := HR1.out.from_
    have c65 := HR1.out.n_
    have f64 := HR1.out.free 64
    have f65 := HR1.out.free 65
    have d65 : (w1.setCell ⟨b, 64, none⟩ (.int .i64 0)).cell? ⟨b, 65, none⟩ = some (.int .i64 n) := by
      rw [World.cell?_setCell_other _ _ _ _ (by intro e; simp only [Addr.mk.injEq] at e; omega)]; exact c65
    have HL2 := Lib.hid (show LineAt ((w1.setCell ⟨b, 64, none⟩ (.int .i64 0)).setCell ⟨b, 65, none⟩ (.int .i64 0)) b [] from ⟨r, 0, 0, ring_reset HR1.out, rfl⟩)
    have hG2 := gtrans (gset w1 b 64 (.int .i64 0)) (gset (w1.setCell ⟨b, 64, none⟩ (.int .i64 0)) b 65 (.int .i64 0))
    have HO2 := Lib.hid (HO.out.grownL hG2 hlt)
    have HGR2 := Lib.hid (gtrans HGR.out hG2)
    have hsz2 : w.heap.size ≤ ((w1.setCell ⟨b, 64, none⟩ (.int .i64 0)).setCell ⟨b, 65, none⟩ (.int .i64 0)).heap.size := by simpa using hsz
    clear hG2
    go_wp2_with fail
    refine (delete_any g n cap k _ _ _ HO2.out HWL.out (by omega) _ rfl).mono ?_
    rintro e w3 ⟨rfl, hrow, hg3⟩
    obtain ⟨m, hm⟩ : ∃ m, n - 1 = m := ⟨_, rfl⟩
    obtain ⟨ys, hys⟩ : ∃ ys, dropL (waits r f n) p = ys := ⟨_, rfl⟩
    have hy2 := HD.out
    rw [hys] at hy2
    rw [← hy2] at hrow
    have hyl : ys.length = m := by rw [hy2]; simp [HWL.out]; omega
    have HYL := Lib.hid hyl
    have HYG := Lib.hid (show Good ys by rw [← hys]; exact HGD.out)
    have HYS := Lib.hid hys
    have HRW := Lib.hid hrow
    have HL3 := Lib.hid (HL2.out.grown hg3 (by intro e; cases e; exact hgb rfl))
    have HG3 := Lib.hid (gabove HGR2.out hg3 hg1)
    rw [hm]
    have hm64 : m < 64 := by omega
    clear hrow hg3 hy2 hyl hys hm c64 c65 f64 f65 d65
    go_wp2_with fail
    go_loopw [28] (fun i wr => ∃ j : Nat, j ≤ m ∧ i = .int .i64 j ∧ LineAt wr b (ys.take j) ∧ RowAt wr g ys ∧ w.grownBy wr (some b)) (fun i _ => m - (intOf i).toNat)
    case atStart => exact ⟨0, Nat.zero_le _, rfl, HL3.out, HRW.out, HG3.out⟩
    case round =>
      obtain ⟨j, hj, rfl, hL4, hR4, hg4⟩ := hrel
      have HL4 := Lib.hid hL4
      have HR4 := Lib.hid hR4
      have HG4 := Lib.hid hg4
      clear hL4 hR4 hg4
      by_cases hjm : j < m
      · have hjm' : (j : Int) < (m : Int) := by omega
        have hc := HR4.out.2 j (by rw [HYL.out]; exact hjm)
        have hpk := putOk_good HYG.out (show j < ys.length by rw [HYL.out]; exact hjm)
        have htz := take_zat (zs := ys) (k := j) (by rw [HYL.out]; exact hjm)
        go_wp2_with fail
        refine (put_any b _ _ _ HL4.out).mono ?_
        rintro e w5 ⟨rfl, hL5, hg5⟩
        have HL5 := Lib.hid (show LineAt w5 b (ys.take (j + 1)) by rw [hpk, if_pos rfl, ← htz] at hL5; exact hL5)
        have HR5 := Lib.hid (HR4.out.grown hg5 hgb)
        have HG5 := Lib.hid (gtrans HG4.out hg5)
        clear hL5 hg5 hpk htz
        go_wp2
        go_roundw
        case rel => exact ⟨j + 1, by omega, by go_num, HL5.out, HR5.out, HG5.out⟩
        case measure => simp [intOf]; omega
      · obtain rfl : j = m := by omega
        go_wp2
        go_ret
        exact ⟨rfl, by rw [HYS.out]; have := HL4.out; rwa [List.take_of_length_le (by rw [HYL.out]; exact Nat.le_refl _)] at this, HG4.out⟩
end Go.Proofs.Ytdijafdplkdfiaa
