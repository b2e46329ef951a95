/- The document's line is read. Conditions: the text below 99,999 bytes. -/
import Derived.Test.YtcboopkalpmglaaDoorEvOneL
import Derived.Test.YtcboopkalpmglaaDoorEvRefLine
import Derived.Test.YtcboopkalpmglaaDoorEvCut
import Derived.Deep.Cut
import Derived.RegionTactic
import Derived.ChangeAlike
import Derived.Deep.RegionWith
namespace Go.Proofs.YtcboopkalpmglaaDoor
set_option linter.unusedVariables false
open Go.RowKit
def OneGives (R : Ev × Nat) (w : World) (x : Ending) (w' : World) : Prop := ∃ g : Ev, x = .returned (gotV g R.2) ∧ (R.2 = 0 → g = R.1) ∧ Below w.heap.size w w'
theorem oneGives_of {R : Ev × Nat} {g : Ev} {b : Nat} {w w' : World} {x : Ending} (h : R.2 = b) (hx : x = .returned (gotV g b)) (hg : b = 0 → g = R.1) (hw : Below w.heap.size w w') : OneGives R w x w' :=
  ⟨g, by rw [h]; exact hx, fun e => hg (h.symm.trans e), hw⟩
def Z7 : Array Value := #[.int .i64 0, .int .i64 0, .int .i64 0, .int .i64 0, .int .i64 0, .int .u64 0, .int .i64 0]
def gotC (g : Ev) (bad : Nat) : Array Value := #[.int .i64 g.k, .int .i64 g.a, .int .i64 g.b, .int .i64 g.n, .int .i64 g.m, .int .u64 (g.s : Int), .int .i64 (bad : Int)]
theorem got_kind {w : World} {g T i : Nat} {k : Int} (h : w.heap[g]? = some (.cells (gotC ⟨k, 0, 0, 0, 0, 0⟩ 0) T (0, 0))) : (w.setCell ⟨g, 0, none⟩ (.int .i64 ((i : Int) + 1))).drew.heap[g]? = some (.cells (gotC ⟨((i + 1 : Nat) : Int), 0, 0, 0, 0, 0⟩ 0) T (0, 0)) :=
  block_set (i := 0) _ h
theorem hkq6 {b : Nat} {w4 wr w6 : World} (h : Kept b w4 wr) (hb : Below wr.drew.heap.size wr.drew w6) : Kept b w4 w6 := h.drew.trans (of_below hb)
theorem fieldGives_agg {e : Ev} {bad c : Nat} {t : List Nat} {w w' : World} {x : Ending} (h : FieldGives e bad c t w x w') : ∃ (g : Ev) (b : Nat), x = .returned (.agg #[.int .i64 g.k, .int .i64 g.a, .int .i64 g.b, .int .i64 g.n, .int .i64 g.m, .int .u64 (g.s : Int), .int .i64 (b : Int)]) ∧ worse bad (ferr c t) = b ∧ (ferr c t = 0 → g = putT e c t) ∧ Below w.heap.size w w' := by
  obtain ⟨g, _, h1, h2, h3⟩ := h
  exact ⟨g, _, h1, rfl, h2, h3⟩
theorem head_at {l : List (List Nat)} {x : List Nat} (h : l[0]? = some x) : l.headD [] = x := by
  cases l with
  | nil => cases h
  | cons a l => simp at h; exact h
/-- The world behind the words. -/
theorem words_at {w3 w4 : World} (h : w4 = w3.alloc (.cells wordCs 9)) : (∀ j, j < 15 → w4.cell? ⟨w3.heap.size, j, none⟩ = some (.string (str (wordL ((j : Int) + 1))))) ∧ w3.heap.size < w4.heap.size ∧ Below w3.heap.size w3 w4 := by
  subst h
  exact ⟨fun j hj => word_cell hj, by simp, belowA _ _⟩
theorem build_at {w2 w3 : World} {v0 v1 v2 v3 v4 v5 v6 u0 u1 u2 u3 u4 u5 u6 : Value} {T : Nat} (h : (((((((((w2.alloc (.cells #[u0, u1, u2, u3, u4, u5, u6] T)).setCell ⟨w2.heap.size, 0, none⟩ v0).setCell ⟨w2.heap.size, 1, none⟩ v1).setCell ⟨w2.heap.size, 2, none⟩ v2).setCell ⟨w2.heap.size, 3, none⟩ v3).setCell ⟨w2.heap.size, 4, none⟩ v4).setCell ⟨w2.heap.size, 5, none⟩ v5).setCell ⟨w2.heap.size, 6, none⟩ v6)) = w3) :
    w3.heap[w2.heap.size]? = some (.cells #[v0, v1, v2, v3, v4, v5, v6] T (0, 0)) ∧ w3.heap.size = w2.heap.size + 1 ∧ Below w2.heap.size w2 w3 := by
  subst h
  refine ⟨seven (block_alloc _ _) _ _ _ _ _ _ _, by simp, ?_⟩
  repeat (with_reducible refine set_below ?_ (Nat.le_refl _) _)
  exact belowA _ _
set_option maxRecDepth 20000 in
set_option maxHeartbeats 4000000 in
theorem refOne_any (s : ByteArray) (w : World) (hs : s.size ≤ 99998) :
    Calls Tryd.prog 23 #[.string s] w (OneGives (lineL (bl s)) w) := by
  have lay := fun (W : World) (T : Nat) (C : Array Value) (i : Nat) => block_free (i := i) (block_alloc W (.cells C T))
  go_enter Tryd.func23, Tryd.ntmps23
  go_upto_region 1 with (fail)
  generalize hV : World.alloc w _ = V
  have HT := Lib.hid (one_of hV)
  have HBV := Lib.hid HT.out.2
  have HR0 := Lib.hid HT.out.1
  have hvs := block_lt HT.out.1
  clear hV HT
  go_wp2_with fail
  refine (cut_any s 32 _ hs (by decide)).mono ?_
  rintro x w2 ⟨L, v, hL, rfl, ho, hb⟩
  have HL := Lib.hid (parts_len hL)
  have HLM := Lib.hid hL
  obtain ⟨hlen, a, cap, rfl, hcap, hmax, hnone, hrd⟩ := ho.rd
  have HRD := Lib.hid hrd
  have HB2 := Lib.hid (HBV.out.trans (hb.mono HBV.out.size))
  have HR2 := Lib.hid ((hb.block _ hvs).trans HR0.out)
  have h2s := Nat.lt_of_lt_of_le hvs hb.size
  clear hL ho hb hrd hnone hlen
  obtain ⟨bp, op, rfl, hbp, hcp⟩ := rd_s HRD.out HL.out.2.1
  have HCP := Lib.hid hcp
  clear hcp
  go_wp2_with fail
  generalize hW : World.alloc w2 _ = w3
  have HT := Lib.hid (one_of hW)
  have HG3 := Lib.hid HT.out.1
  have HB3 := Lib.hid HT.out.2
  have h3s := block_lt HT.out.1
  clear hW HT
  refine (refWords_any _).mono ?_
  rintro x w4 ⟨rfl, hw4⟩
  have HT := Lib.hid (words_at hw4)
  have HWD := Lib.hid HT.out.1
  have HG4 := Lib.hid ((HT.out.2.2.block _ h3s).trans HG3.out)
  have HB4 := Lib.hid (HB3.out.trans (HT.out.2.2.mono (Nat.le_of_lt h3s)))
  have h4s := HT.out.2.1
  clear hw4 HT
  go_wp2_with fail
  go_loopw [6] (fun vi wr => ∃ i v : Nat, vi = .int .i64 (i : Int) ∧ i ≤ 15 ∧ KindAt (bl (L[0]'HL.out.2.1)) i v ∧ wr.heap[w2.heap.size]? = some (.cells (gotC ⟨v, 0, 0, 0, 0, 0⟩ 0) 52 (0, 0)) ∧ Kept w2.heap.size w4 wr) (fun vi _ => 15 - (intOf vi).toNat)
  case atStart => exact ⟨0, 0, rfl, Nat.zero_le _, kindAt_zero _, HG4.out, Kept.refl _ _⟩
  case round =>
    obtain ⟨i, v, rfl, hi, hk, hg, hkp⟩ := hrel
    have HK := Lib.hid hk
    have HG := Lib.hid hg
    have HKP := Lib.hid hkp
    have g0 : wr.cell? ⟨w2.heap.size, 0, none⟩ = some (.int .i64 (v : Int)) := block_cell (i := 0) hg rfl
    have gf := fun i => block_free (i := i) hg
    have gs := block_lt hg
    clear hk hg hkp
    by_cases hlt : i < 15
    · have hlt' : (i : Int) < 15 := by omega
      have hl0 := HL.out.2.1
      have hl1 : (0 : Int) < (L.length : Int) := by omega
      have hwc := HKP.out.cell (Nat.lt_of_lt_of_le h4s (Nat.le_refl _)) (by omega) (HWD.out i hlt)
      have hpc : wr.cell? ⟨bp, op, none⟩ = some (.string (L[0]'HL.out.2.1)) := HKP.out.cell (by omega) (by omega) (cellb HB4.out hbp (HCP.out 0 HL.out.2.1))
      by_cases he : wordL ((i : Int) + 1) = bl (L[0]'HL.out.2.1)
      · have hbe := word_same he
        have HN := Lib.hid (HK.out.yes he)
        clear he
        go_wp2
        go_region
        all_goals
          go_wp2
          go_roundw
          case rel => exact ⟨i + 1, i + 1, by go_num, hlt, HN.out, got_kind HG.out, (HKP.out.setCell _).drew⟩
          case measure => simp [intOf]; omega
      · have hbe := word_not he
        have HN := Lib.hid (HK.out.no he)
        clear he
        go_wp2
        go_region
        all_goals
          go_wp2
          go_roundw
          case rel => exact ⟨i + 1, v, by go_num, hlt, HN.out, HG.out, HKP.out.drew⟩
          case measure => simp [intOf]; omega
    · have hlt' : ¬ (i : Int) < 15 := by omega
      obtain rfl : i = 15 := by omega
      have hpl := HL.out.2.2 0 HL.out.2.1
      have HKL := Lib.hid (show kindL ((cutL 32 (bl s)).headD []) = v by rw [head_at hpl.2]; exact HK.out.fin)
      have hv15 := HK.out.le
      have hr := (HKP.out.block _ (by omega) (by omega)).trans ((HB4.out.block _ h2s).trans HR2.out)
      have RB := Lib.hid hr
      have HB := Lib.hid (HB2.out.trans ((HB4.out.trans (HKP.out.below (Nat.le_refl _) (by omega))).mono (Nat.le_of_lt h2s)))
      have r0 := block_cell (i := 0) hr rfl
      have r1 := block_cell (i := 1) hr rfl
      have r2 := block_cell (i := 2) hr rfl
      have r3 := block_cell (i := 3) hr rfl
      have r4 := block_cell (i := 4) hr rfl
      have r5 := block_cell (i := 5) hr rfl
      have r6 := block_cell (i := 6) hr rfl
      have rf := fun i => block_free (i := i) hr
      have rs := block_lt hr
      clear hr hpl
      by_cases hv : v = 0
      · have hv0 : ((v : Int) == 0) = true := by simp; omega
        have HF := Lib.hid (lineL_none HKL.out hv)
        clear hv
        go_wp2_with fail
        refine (form_any (v : Int) _).mono ?_
        rintro x w5 ⟨rfl, rfl⟩
        go_wp2
        refine bodyPost_ret (got_back rfl rfl (seven (by first | exact RB.out | exact block_other (by omega) _ RB.out) _ _ _ _ _ _ _)) rfl ?_
        refine oneGives_of (g := ev0) (b := 11) (by rw [HF.out]) rfl (fun h => nomatch h) ?_
        repeat (with_reducible refine set_below ?_ (by omega) _)
        exact HB.out
      · have hv0 : ((v : Int) == 0) = false := by simp; omega
        by_cases hq : L.length = (str (formL v)).size + 1
        · have hq0 : ((L.length : Int) == ((str (formL v)).size : Int) + 1) = true := by simp; omega
          have hq1 : ((L.length : Int) != ((str (formL v)).size : Int) + 1) = false := by simp; omega
          have hfs : (str (formL v)).size ≤ 3 := by rw [str_size]; exact form_len v
          have HF := Lib.hid (lineL_read HKL.out hv (by rw [← HL.out.1, ← str_size]; exact hq))
          have HQ := Lib.hid hq
          clear hq hv
          go_wp2_with fail
          refine (form_any (v : Int) _).mono ?_
          rintro x w5 ⟨rfl, rfl⟩
          go_wp2_with fail
          clear g0 gf gs
          go_loopw [8] (fun vi wq => ∃ (q : Nat) (g : Ev) (bad : Nat), vi = .int .i64 (q : Int) ∧ q ≤ (str (formL v)).size ∧ ReadAt (formL v) (cutL 32 (bl s)).tail (lineL (bl s)) q g bad ∧ wq.heap[w2.heap.size]? = some (.cells (gotC g bad) 52 (0, 0)) ∧ Kept w2.heap.size w4 wq) (fun vi _ => (str (formL v)).size - (intOf vi).toNat)
          case atStart => exact ⟨0, _, 0, rfl, Nat.zero_le _, by rw [HF.out]; exact readAt_zero _ _ _, HG.out, HKP.out⟩
          case round =>
            obtain ⟨q, g, bad, rfl, hq, hra, hgq, hkq⟩ := hrel
            have HRA := Lib.hid hra
            have HGQ := Lib.hid hgq
            have HKQ := Lib.hid hkq
            have g0 : wr.cell? ⟨w2.heap.size, 0, none⟩ = some (.int .i64 g.k) := block_cell (i := 0) hgq rfl
            have g1 : wr.cell? ⟨w2.heap.size, 1, none⟩ = some (.int .i64 g.a) := block_cell (i := 1) hgq rfl
            have g2 : wr.cell? ⟨w2.heap.size, 2, none⟩ = some (.int .i64 g.b) := block_cell (i := 2) hgq rfl
            have g3 : wr.cell? ⟨w2.heap.size, 3, none⟩ = some (.int .i64 g.n) := block_cell (i := 3) hgq rfl
            have g4 : wr.cell? ⟨w2.heap.size, 4, none⟩ = some (.int .i64 g.m) := block_cell (i := 4) hgq rfl
            have g5 : wr.cell? ⟨w2.heap.size, 5, none⟩ = some (.int .u64 (g.s : Int)) := block_cell (i := 5) hgq rfl
            have g6 : wr.cell? ⟨w2.heap.size, 6, none⟩ = some (.int .i64 (bad : Int)) := block_cell (i := 6) hgq rfl
            have gs := block_lt hgq
            clear hra hgq hkq
            by_cases hlq : q < (str (formL v)).size
            · have hlq' : (q : Int) < ((str (formL v)).size : Int) := by omega
              have hql : q + 1 < L.length := by have := HQ.out; omega
              have hql' : (q : Int) + 1 < (L.length : Int) := by omega
              have hwr : IntKind.i64.wrap ((q : Int) + 1) = (q : Int) + 1 := by simp [IntKind.wrap, IntKind.signed, IntKind.bits]; omega
              have hpc : wr.cell? ⟨bp, op + (q + 1), none⟩ = some (.string (L[q + 1]'hql)) := HKQ.out.cell (by omega) (by omega) (cellb HB4.out hbp (HCP.out (q + 1) hql))
              obtain ⟨c, hc, hcb⟩ := form_at hlq
              have HC := Lib.hid hc
              have HCB := Lib.hid hcb
              have hlet := form_letter hc
              have hpl := HL.out.2.2 (q + 1) hql
              have HPT := Lib.hid (show (cutL 32 (bl s)).tail[q]? = some (bl (L[q + 1]'hql)) by rw [List.getElem?_tail]; exact hpl.2)
              have hsz := hpl.1
              generalize (L[q + 1]'hql) = t at hpc HPT hsz
              clear hc hcb hpl
              go_upto_region 15 with fail
              go_region_with (first
                | (go_at_call 37
                   rw [HCB.out]
                   refine (field_any g bad c t _ (by omega) hlet).mono ?_
                   intro x w6 hx
                   obtain ⟨g', b', rfl, hbb, hg', hb6⟩ := fieldGives_agg hx
                   have hgq := (hb6.block _ gs).trans HGQ.out
                   have h0 : w6.cell? ⟨w2.heap.size, 0, none⟩ = some (.int .i64 g.k) := block_cell (i := 0) hgq rfl
                   have h1 : w6.cell? ⟨w2.heap.size, 1, none⟩ = some (.int .i64 g.a) := block_cell (i := 1) hgq rfl
                   have h2 : w6.cell? ⟨w2.heap.size, 2, none⟩ = some (.int .i64 g.b) := block_cell (i := 2) hgq rfl
                   have h3 : w6.cell? ⟨w2.heap.size, 3, none⟩ = some (.int .i64 g.n) := block_cell (i := 3) hgq rfl
                   have h4 : w6.cell? ⟨w2.heap.size, 4, none⟩ = some (.int .i64 g.m) := block_cell (i := 4) hgq rfl
                   have h5 : w6.cell? ⟨w2.heap.size, 5, none⟩ = some (.int .u64 (g.s : Int)) := block_cell (i := 5) hgq rfl
                   have h6 : w6.cell? ⟨w2.heap.size, 6, none⟩ = some (.int .i64 (bad : Int)) := block_cell (i := 6) hgq rfl
                   have hf := fun i => block_free (i := i) hgq
                   have HG6 := Lib.hid hgq
                   have HK6 := Lib.hid (hkq6 HKQ.out hb6)
                   have HG' := Lib.hid hg'
                   have HBB := Lib.hid hbb
                   clear hx hgq hb6 hg' hbb))
              all_goals
                go_wp2
                go_roundw
                case rel => exact ⟨q + 1, g', b', by go_num, hlq, by rw [← HBB.out]; exact HRA.out.next HC.out HPT.out HG'.out, seven HG6.out _ _ _ _ _ _ _, ((((((HK6.out.setCell _).setCell _).setCell _).setCell _).setCell _).setCell _).setCell _⟩
                case measure => simp [intOf]; omega
            · have hlq' : ¬ (q : Int) < ((str (formL v)).size : Int) := by omega
              have HFI := Lib.hid (HRA.out.fin (by rw [← str_size]; omega))
              have hr2 := (HKQ.out.block _ (by omega) (by omega)).trans ((HB4.out.block _ h2s).trans HR2.out)
              have RB2 := Lib.hid hr2
              have HBQ := Lib.hid (HB2.out.trans ((HB4.out.trans (HKQ.out.below (Nat.le_refl _) (by omega))).mono (Nat.le_of_lt h2s)))
              clear r0 r1 r2 r3 r4 r5 r6 rf rs
              have r0 := block_cell (i := 0) hr2 rfl
              have r1 := block_cell (i := 1) hr2 rfl
              have r2 := block_cell (i := 2) hr2 rfl
              have r3 := block_cell (i := 3) hr2 rfl
              have r4 := block_cell (i := 4) hr2 rfl
              have r5 := block_cell (i := 5) hr2 rfl
              have r6 := block_cell (i := 6) hr2 rfl
              have rf := fun i => block_free (i := i) hr2
              have rs := block_lt hr2
              clear hr2
              have gff := fun i => block_free (i := i) HGQ.out
              go_wp2
              refine bodyPost_ret (got_back rfl rfl (seven (by first | exact RB2.out | exact block_other (by omega) _ RB2.out) _ _ _ _ _ _ _)) rfl ?_
              refine oneGives_of (g := g) (b := bad) HFI.out.1 rfl HFI.out.2 ?_
              repeat (with_reducible refine set_below ?_ (by omega) _)
              exact HBQ.out
        · have hq0 : ((L.length : Int) == ((str (formL v)).size : Int) + 1) = false := by simp; omega
          have hq1 : ((L.length : Int) != ((str (formL v)).size : Int) + 1) = true := by simp; omega
          have hfs : (str (formL v)).size ≤ 3 := by rw [str_size]; exact form_len v
          have HF := Lib.hid (lineL_len HKL.out (by rw [← HL.out.1, ← str_size]; exact hq))
          clear hq hv
          go_wp2_with fail
          refine (form_any (v : Int) _).mono ?_
          rintro x w5 ⟨rfl, rfl⟩
          go_wp2
          refine bodyPost_ret (got_back rfl rfl (seven (by first | exact RB.out | exact block_other (by omega) _ RB.out) _ _ _ _ _ _ _)) rfl ?_
          refine oneGives_of (g := ev0) (b := 11) (by rw [HF.out]) rfl (fun h => nomatch h) ?_
          repeat (with_reducible refine set_below ?_ (by omega) _)
          exact HB.out
end Go.Proofs.YtcboopkalpmglaaDoor
