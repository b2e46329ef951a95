/- event.May. Conditions: none. -/
import Derived.Test.YtcboopkalpmglaaDoorEvRefMay
import Derived.Test.YtcboopkalpmglaaDoorEvSame
import Derived.Test.YtcboopkalpmglaaDoorEvWrite
import Derived.Test.YtcboopkalpmglaaDoorEvRefLine
import Derived.Test.YtcboopkalpmglaaDoorEvRefOne
import Derived.Deep.Cut
namespace Go.Proofs.YtcboopkalpmglaaDoor
set_option linter.unusedVariables false
open Go.RowKit
def evC (e : Ev) : Array Value := #[.int .i64 e.k, .int .i64 e.a, .int .i64 e.b, .int .i64 e.n, .int .i64 e.m, .int .u64 (e.s : Int)]
/-- A field is made nothing. -/
def put0 (e : Ev) (c : Nat) : Ev :=
  if c = 97 then { e with a := 0 } else if c = 98 then { e with b := 0 } else if c = 110 then { e with n := 0 } else if c = 109 then { e with m := 0 } else { e with s := 0 }
def zeroTo (e : Ev) (F : List Nat) (i : Nat) : Ev := (F.take i).foldl put0 e
theorem zeroTo_next {e : Ev} {F : List Nat} {i c : Nat} (h : F[i]? = some c) : zeroTo e F (i + 1) = put0 (zeroTo e F i) c := by
  unfold zeroTo; rw [List.take_add_one, h, Option.toList_some, List.foldl_append]; rfl
theorem put0_k (e : Ev) (c : Nat) : (put0 e c).k = e.k := by
  unfold put0; split
  · rfl
  · split
    · rfl
    · split
      · rfl
      · split <;> rfl
theorem fold_k (F : List Nat) (e : Ev) : (F.foldl put0 e).k = e.k := by
  induction F generalizing e with
  | nil => rfl
  | cons c F ih => rw [List.foldl_cons, ih, put0_k]
theorem zeroTo_k (e : Ev) (F : List Nat) (i : Nat) : (zeroTo e F i).k = e.k := fold_k _ _
def bareB (x : Ev) : Bool := (x.a == 0) && (x.b == 0) && (x.n == 0) && (x.m == 0) && ((x.s : Int) == 0)
theorem may_bare (e : Ev) {i : Nat} (hi : (formL e.k).length ≤ i) (h1 : ¬ e.k < 1) (h2 : ¬ 15 < e.k) (h3 : ¬ e.a < 0) (h4 : ¬ e.b < 0) : mayB e = bareB (zeroTo e (formL e.k) i) := by
  obtain ⟨k, a, b, n, m, s⟩ := e
  simp only at h1 h2 h3 h4 hi
  unfold zeroTo
  rw [List.take_of_length_le hi]
  rcases form_cases k with h | h | h | h | h | h <;> rw [mayB_eq h1 h2 h3 h4 h, h] <;> simp [bareB, put0, Bool.and_assoc]
theorem fld_cell {b : Nat} {F : List Nat} {i c : Nat} (h : F[i]? = some c) : ((F.map (fldv b)).toArray)[i]? = some (fldv b c) := by
  rw [List.getElem?_toArray, List.getElem?_map, h]; rfl
set_option maxRecDepth 20000 in
set_option maxHeartbeats 4000000 in
theorem may_low (e : Ev) (w : World) (h : e.k < 1 ∨ 15 < e.k ∨ e.a < 0 ∨ e.b < 0) :
    Calls Tryd.prog 17 #[evV e] w fun x w' => x = .returned (.bool (mayB e)) ∧ Below w.heap.size w w' := by
  obtain ⟨k, a, b, n, m, s⟩ := e
  have HM := Lib.hid (mayB_low (n := n) (m := m) (s := s) h)
  simp only at h
  unfold evV
  by_cases h1 : k < 1
  · go_enter Tryd.func17, Tryd.ntmps17
    go_wp2
    go_ret
    exact ⟨by rw [HM.out]; rfl, belowA w _⟩
  by_cases h2 : 15 < k
  · go_enter Tryd.func17, Tryd.ntmps17
    go_wp2
    go_ret
    exact ⟨by rw [HM.out]; rfl, belowA w _⟩
  by_cases h3 : a < 0
  · go_enter Tryd.func17, Tryd.ntmps17
    go_wp2
    go_ret
    exact ⟨by rw [HM.out]; rfl, belowA w _⟩
  have h4 : b < 0 := by omega
  go_enter Tryd.func17, Tryd.ntmps17
  go_wp2
  go_ret
  exact ⟨by rw [HM.out]; rfl, belowA w _⟩
set_option maxRecDepth 20000 in
set_option maxHeartbeats 4000000 in
theorem may_high (e : Ev) (w : World) (h1 : ¬ e.k < 1) (h2 : ¬ 15 < e.k) (h3 : ¬ e.a < 0) (h4 : ¬ e.b < 0) :
    Calls Tryd.prog 17 #[evV e] w fun x w' => x = .returned (.bool (mayB e)) ∧ Below w.heap.size w w' := by
  have HMB := Lib.hid (fun i hi => @may_bare e i hi h1 h2 h3 h4)
  have HZN := Lib.hid (fun i c => @zeroTo_next e (formL e.k) i c)
  have HZK := Lib.hid (zeroTo_k e (formL e.k))
  have HZ0 := Lib.hid (show zeroTo e (formL e.k) 0 = e from rfl)
  generalize hM : mayB e = M at HMB ⊢
  generalize hZ : zeroTo e (formL e.k) = Z at HMB HZN HZK HZ0
  clear hM hZ
  have a1 := as_pp
  have a2 := as_nn
  have a3 := as_np
  have a4 := as_sp
  have a5 := as_sn
  have a6 := as_s
  have a7 := fld_s
  unfold evV
  go_enter Tryd.func17, Tryd.ntmps17
  go_upto_region 1 with (fail)
  generalize hV : World.alloc w _ = V1
  have HT := Lib.hid (one_of hV)
  have HB1 := Lib.hid HT.out.2
  have hg := HT.out.1
  have c0 := block_cell (i := 0) hg rfl
  have c1 := block_cell (i := 1) hg rfl
  have c2 := block_cell (i := 2) hg rfl
  have c3 := block_cell (i := 3) hg rfl
  have c4 := block_cell (i := 4) hg rfl
  have c5 := block_cell (i := 5) hg rfl
  have s1 := block_lt hg
  have HG1 := Lib.hid hg
  clear hg hV HT
  go_upto_region 4 with (fail)
  generalize hV : World.alloc V1 _ = V
  have HT := Lib.hid (one_of hV)
  have HB2 := Lib.hid (HB1.out.trans (HT.out.2.mono (Nat.le_of_lt s1)))
  have hk0 : V.cell? ⟨V1.heap.size, 0, none⟩ = some (.int .i64 e.k) := block_cell (i := 0) HT.out.1 rfl
  have s2 := block_lt HT.out.1
  have HGV := Lib.hid HT.out.1
  have HG1V := Lib.hid ((HT.out.2.block _ s1).trans HG1.out)
  clear hV HT c0 c1 c2 c3 c4 c5
  go_wp2_with fail
  refine (fields_any V1.heap.size e.k _ s2 hk0).mono ?_
  rintro x w3 ⟨N, rfl, hN, hNs, hb3⟩
  have HN := Lib.hid hN
  have HB3 := Lib.hid (HB2.out.trans (hb3.mono (by omega)))
  have HG3 := Lib.hid ((hb3.block _ s2).trans HGV.out)
  have HG13 := Lib.hid ((hb3.block _ (by omega)).trans HG1V.out)
  have s3 := hb3.size
  have hN3 := block_lt hN
  have hfl := form_len e.k
  clear hN hb3
  go_wp2_with fail
  go_loopw [31] (fun vi wr => ∃ i : Nat, vi = .int .i64 (i : Int) ∧ i ≤ (formL e.k).length ∧ wr.heap[V1.heap.size]? = some (.cells (evC (Z i)) 34 (0, 0)) ∧ Kept V1.heap.size w3 wr) (fun vi _ => (formL e.k).length - (intOf vi).toNat)
  case atStart => exact ⟨0, rfl, Nat.zero_le _, by rw [HZ0.out]; exact HG3.out, Kept.refl _ _⟩
  case round =>
    obtain ⟨i, rfl, hi, hg, hkp⟩ := hrel
    have HG := Lib.hid hg
    have HKP := Lib.hid hkp
    have gs := block_lt hg
    have gf := fun i => block_free (i := i) hg
    have hsz := hkp.size
    have hn := (hkp.block N hN3 (by omega)).trans HN.out
    have HNN := Lib.hid hn
    have hns := block_lt hn
    clear hkp hn
    by_cases hlt : i < (formL e.k).length
    · have hlt' : (i : Int) < ((formL e.k).length : Int) := by omega
      obtain ⟨c, hc⟩ : ∃ c, (formL e.k)[i]? = some c := ⟨_, List.getElem?_eq_getElem hlt⟩
      have HC := Lib.hid hc
      have hfc := block_cell HNN.out (fld_cell hc)
      have hlet := form_letter hc
      clear hc
      have g0 : wr.cell? ⟨V1.heap.size, 0, none⟩ = some (.int .i64 (Z i).k) := block_cell (i := 0) hg rfl
      have g1 : wr.cell? ⟨V1.heap.size, 1, none⟩ = some (.int .i64 (Z i).a) := block_cell (i := 1) hg rfl
      have g2 : wr.cell? ⟨V1.heap.size, 2, none⟩ = some (.int .i64 (Z i).b) := block_cell (i := 2) hg rfl
      have g3 : wr.cell? ⟨V1.heap.size, 3, none⟩ = some (.int .i64 (Z i).n) := block_cell (i := 3) hg rfl
      have g4 : wr.cell? ⟨V1.heap.size, 4, none⟩ = some (.int .i64 (Z i).m) := block_cell (i := 4) hg rfl
      have g5 : wr.cell? ⟨V1.heap.size, 5, none⟩ = some (.int .u64 ((Z i).s : Int)) := block_cell (i := 5) hg rfl
      clear hg
      rcases hlet with rfl | rfl | rfl | rfl | rfl
      · have hfv : wr.cell? ⟨N, i, none⟩ = some (.iface 71 (.agg #[.pointer (some ⟨V1.heap.size, 1, none⟩)])) := hfc
        have HZ := Lib.hid (HZN.out i 97 HC.out)
        clear hfc
        go_wp2
        go_roundw
        case rel => exact ⟨i + 1, by go_num, hlt, by rw [HZ.out]; first | exact block_keep (block_set (i := 1) _ HG.out) | exact block_keep (block_keep (block_set (i := 1) _ HG.out)), (by first | exact (HKP.out.setCell _).trans (of_below (belowA _ _)) | exact ((HKP.out.setCell _).trans (of_below (belowA _ _))).trans (of_below (belowA _ _)))⟩
        case measure => simp [intOf]; omega
      · have hfv : wr.cell? ⟨N, i, none⟩ = some (.iface 71 (.agg #[.pointer (some ⟨V1.heap.size, 2, none⟩)])) := hfc
        have HZ := Lib.hid (HZN.out i 98 HC.out)
        clear hfc
        go_wp2
        go_roundw
        case rel => exact ⟨i + 1, by go_num, hlt, by rw [HZ.out]; first | exact block_keep (block_set (i := 2) _ HG.out) | exact block_keep (block_keep (block_set (i := 2) _ HG.out)), (by first | exact (HKP.out.setCell _).trans (of_below (belowA _ _)) | exact ((HKP.out.setCell _).trans (of_below (belowA _ _))).trans (of_below (belowA _ _)))⟩
        case measure => simp [intOf]; omega
      · have hfv : wr.cell? ⟨N, i, none⟩ = some (.iface 75 (.agg #[.pointer (some ⟨V1.heap.size, 3, none⟩)])) := hfc
        have HZ := Lib.hid (HZN.out i 110 HC.out)
        clear hfc
        go_wp2
        go_roundw
        case rel => exact ⟨i + 1, by go_num, hlt, by rw [HZ.out]; first | exact block_keep (block_set (i := 3) _ HG.out) | exact block_keep (block_keep (block_set (i := 3) _ HG.out)), (by first | exact (HKP.out.setCell _).trans (of_below (belowA _ _)) | exact ((HKP.out.setCell _).trans (of_below (belowA _ _))).trans (of_below (belowA _ _)))⟩
        case measure => simp [intOf]; omega
      · have hfv : wr.cell? ⟨N, i, none⟩ = some (.iface 75 (.agg #[.pointer (some ⟨V1.heap.size, 4, none⟩)])) := hfc
        have HZ := Lib.hid (HZN.out i 109 HC.out)
        clear hfc
        go_wp2
        go_roundw
        case rel => exact ⟨i + 1, by go_num, hlt, by rw [HZ.out]; first | exact block_keep (block_set (i := 4) _ HG.out) | exact block_keep (block_keep (block_set (i := 4) _ HG.out)), (by first | exact (HKP.out.setCell _).trans (of_below (belowA _ _)) | exact ((HKP.out.setCell _).trans (of_below (belowA _ _))).trans (of_below (belowA _ _)))⟩
        case measure => simp [intOf]; omega
      · have hfv : wr.cell? ⟨N, i, none⟩ = some (.iface 79 (.agg #[.pointer (some ⟨V1.heap.size, 5, none⟩)])) := hfc
        have HZ := Lib.hid (HZN.out i 115 HC.out)
        clear hfc
        go_wp2
        go_roundw
        case rel => exact ⟨i + 1, by go_num, hlt, by rw [HZ.out]; first | exact block_keep (block_set (i := 5) _ HG.out) | exact block_keep (block_keep (block_set (i := 5) _ HG.out)), (by first | exact (HKP.out.setCell _).trans (of_below (belowA _ _)) | exact ((HKP.out.setCell _).trans (of_below (belowA _ _))).trans (of_below (belowA _ _)))⟩
        case measure => simp [intOf]; omega
    · have hlt' : ¬ (i : Int) < ((formL e.k).length : Int) := by omega
      have HM := Lib.hid (HMB.out i (by omega))
      have HB := Lib.hid (HB3.out.trans (HKP.out.below (by omega) (by omega)))
      have h1k := (HKP.out.block _ (by omega) (by omega)).trans HG13.out
      have ck : wr.cell? ⟨w.heap.size, 0, none⟩ = some (.int .i64 e.k) := block_cell (i := 0) h1k rfl
      have hzk := HZK.out i
      generalize Z i = x at hg hzk HM HG
      obtain ⟨xk, xa, xb, xn, xm, xs⟩ := x
      simp only at hzk
      subst hzk
      have g0 : wr.cell? ⟨V1.heap.size, 0, none⟩ = some (.int .i64 e.k) := block_cell (i := 0) hg rfl
      have g1 : wr.cell? ⟨V1.heap.size, 1, none⟩ = some (.int .i64 xa) := block_cell (i := 1) hg rfl
      have g2 : wr.cell? ⟨V1.heap.size, 2, none⟩ = some (.int .i64 xb) := block_cell (i := 2) hg rfl
      have g3 : wr.cell? ⟨V1.heap.size, 3, none⟩ = some (.int .i64 xn) := block_cell (i := 3) hg rfl
      have g4 : wr.cell? ⟨V1.heap.size, 4, none⟩ = some (.int .i64 xm) := block_cell (i := 4) hg rfl
      have g5 : wr.cell? ⟨V1.heap.size, 5, none⟩ = some (.int .u64 (xs : Int)) := block_cell (i := 5) hg rfl
      clear hg h1k
      have e0 : (e.k == e.k) = true := by simp
      cases ya : (xa == 0)
      · go_wp2
        go_ret
        exact ⟨by rw [HM.out]; unfold bareB; simp only [ya]; rfl, HB.out⟩
      · skip
        cases yb : (xb == 0)
        · go_wp2
          go_ret
          exact ⟨by rw [HM.out]; unfold bareB; simp only [ya, yb]; rfl, HB.out⟩
        · skip
          cases yn : (xn == 0)
          · go_wp2
            go_ret
            exact ⟨by rw [HM.out]; unfold bareB; simp only [ya, yb, yn]; rfl, HB.out⟩
          · skip
            cases ym : (xm == 0)
            · go_wp2
              go_ret
              exact ⟨by rw [HM.out]; unfold bareB; simp only [ya, yb, yn, ym]; rfl, HB.out⟩
            · skip
              cases ys : ((xs : Int) == 0)
              · go_wp2
                go_ret
                exact ⟨by rw [HM.out]; unfold bareB; simp only [ya, yb, yn, ym, ys]; rfl, HB.out⟩
              · skip
                go_wp2
                go_ret
                exact ⟨by rw [HM.out]; unfold bareB; simp only [ya, yb, yn, ym, ys]; rfl, HB.out⟩
theorem may_any (e : Ev) (w : World) :
    Calls Tryd.prog 17 #[evV e] w fun x w' => x = .returned (.bool (mayB e)) ∧ Below w.heap.size w w' := by
  by_cases h : e.k < 1 ∨ 15 < e.k ∨ e.a < 0 ∨ e.b < 0
  · exact may_low e w h
  · exact may_high e w (by omega) (by omega) (by omega) (by omega)
end Go.Proofs.YtcboopkalpmglaaDoor
