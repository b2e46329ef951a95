/- event.one. Conditions: the text below 100,000,001 bytes. -/
import Derived.Test.YtcboopkalpmglaaDoorEvOneP
import Derived.Test.YtcboopkalpmglaaDoorEvHas
import Derived.Deep.Cut
import Derived.Deep.RegionWith
namespace Go.Proofs.YtcboopkalpmglaaDoor
set_option linter.unusedVariables false
open Go.RowKit
/-- What the reading of the word leaves: a new event of that kind. -/
def KindBox (v : Nat) (w : World) (p : Value) (w' : World) : Prop := ∃ g, p = .pointer (some ⟨g, 0, none⟩) ∧ w.heap.size ≤ g ∧ w'.heap[g]? = some (.cells (evC ⟨v, 0, 0, 0, 0, 0⟩) 34 (0, 0)) ∧ Below w.heap.size w w'
theorem kindBox_of {v : Nat} {w w1 : World} {g : Nat} (h : Below w.heap.size w w1) (hg : g = w1.heap.size) : KindBox v w (.pointer (some ⟨g, 0, none⟩)) (w1.alloc (.cells #[.int .i64 (v : Int), .int .i64 0, .int .i64 0, .int .i64 0, .int .i64 0, .int .u64 0] 34)) := by
  subst hg
  exact ⟨_, rfl, h.size, block_alloc _ _, h.alloc h.size _⟩
theorem readAt_f {F : List Nat} {P : List (List Nat)} {R : Ev × Nat} {i : Nat} {g g' : Ev} {bad c f : Nat} {t : List Nat} (h : ReadAt F P R i g bad) (hc : F[i]? = some c) (ht : P[i]? = some t) (hf : ferr c t = f) (he : f = 0 → g' = putT g c t) : ReadAt F P R (i + 1) g' (worse bad f) := by
  subst hf; exact h.next hc ht he
theorem words_at2 {W w3 : World} {x : Ending} (h : w3 = W.alloc (.cells wordCs 9)) (hx : x = .returned (.slice (some ⟨W.heap.size, 0, none⟩) 15 15)) :
    ∃ bw, x = .returned (.slice (some ⟨bw, 0, none⟩) 15 15) ∧ (∀ j, j < 15 → w3.cell? ⟨bw, j, none⟩ = some (.string (str (wordL ((j : Int) + 1))))) ∧ bw < w3.heap.size ∧ Below W.heap.size W w3 :=
  ⟨_, hx, words_at h⟩
theorem box_none {w2 w3 : World} (h : Below w2.drew.heap.size w2.drew w3) : Below w2.heap.size w2 w3 := (Below.refl _ w2).drew.trans h
theorem box_some {w2 w3 : World} {C : Array Value} {T : Nat} (h : Below (w2.drew.alloc (.cells C T)).heap.size (w2.drew.alloc (.cells C T)) w3) : w3.heap[w2.heap.size]? = some (.cells C T (0, 0)) ∧ Below w2.heap.size w2 w3 :=
  ⟨(h.block _ (by simp)).trans (block_alloc w2.drew _), ((Below.refl _ w2).drew.alloc (Nat.le_refl _) _).trans (h.mono (by simp))⟩
set_option maxRecDepth 20000 in
set_option maxHeartbeats 4000000 in
theorem one_any (s : ByteArray) (w : World) (hw : EvW w) (hs : s.size ≤ 100000000) :
    Calls Tryd.prog 21 #[.string s] w (OneP (lineL (bl s)) w) := by
  have HW := Lib.hid hw
  have hw8 := hw.lo
  clear hw
  go_enter Tryd.func21, Tryd.ntmps21
  go_upto_region 1 with (fail)
  generalize hV : World.alloc w _ = V
  have HT := Lib.hid (one_of hV)
  have HBV := Lib.hid HT.out.2
  have HR0 := Lib.hid HT.out.1
  have hvs := block_lt HT.out.1
  have HWV := Lib.hid (HW.out.next HT.out.2)
  clear hV HT
  go_wp2_with fail
  refine (split_any 32 s _ HWV.out (by omega)).mono ?_
  rintro x w2 ⟨L, hL, rfl, hcp, hlt2, hb⟩
  have HL := Lib.hid (parts_len (c := 32) hL)
  have HCP := Lib.hid hcp
  have HB2 := Lib.hid (HBV.out.trans (hb.mono HBV.out.size))
  have HR2 := Lib.hid ((hb.block _ hvs).trans HR0.out)
  have hL9 : L.length ≤ 100000001 := by
    have h1 := HL.out.1
    have h2 := cutL_length 32 (bl s)
    rw [bl_length] at h2
    omega
  have hl0 := HL.out.2.1
  have hl1 : (0 : Int) < (L.length : Int) := by omega
  have hp0 := hcp 0 hl0
  have HP := Lib.hid (head_at (HL.out.2.2 0 hl0).2)
  have HP1 := Lib.hid (HL.out.2.2 0 hl0).1
  generalize hp : (L[0]'hl0) = p0 at hp0 HP HP1
  obtain ⟨v, hv⟩ : ∃ v, kindL (bl p0) = v := ⟨_, rfl⟩
  have HV := Lib.hid hv
  have hv15 : v ≤ 15 := hv ▸ kindL_le _
  have hwk : IntKind.i64.wrap (1 + ((v : Int) - 1)) = (v : Int) := by simp [IntKind.wrap, IntKind.signed, IntKind.bits]; omega
  clear hL hcp hb hv hp
  go_upto_region 2 with fail
  have hpa : ∀ O, (w2.drew.alloc O).cell? ⟨V.heap.size, 0, none⟩ = some (.string p0) := fun O => cella (W := w2.drew) O hlt2 (celld hp0)
  go_cut [5] from 13 to 19 (fun b wx => KindBox v w2 b wx)
  case first =>
    go_region_with (first
      | (go_at_call 15; refine (words_any _).mono ?_; rintro x w3 ⟨hx, hw3⟩
         have hx2 := words_at2 hw3 hx
         clear hw3 hx
         obtain ⟨bw, rfl, hwd, hbw, hb3⟩ := hx2
         have HWD := Lib.hid hwd
         first
           | (have HB3 := Lib.hid (box_none hb3)
              have hp3 := cellb HB3.out hlt2 hp0
              have hlt3 := Nat.lt_of_lt_of_le hlt2 HB3.out.size
              have hp4 := fun O => cella O hlt3 hp3
              clear hwd hb3)
           | (have hbx := box_some hb3
              have HB3 := Lib.hid hbx.2
              have HZ3 := Lib.hid hbx.1
              have hp3 := cellb HB3.out hlt2 hp0
              have hlt3 := Nat.lt_of_lt_of_le hlt2 HB3.out.size
              have hp4 := fun O => cella O hlt3 hp3
              have z0 := block_cell (i := 0) hbx.1 rfl
              have z1 := block_cell (i := 1) hbx.1 rfl
              have z2 := block_cell (i := 2) hbx.1 rfl
              have z3 := block_cell (i := 3) hbx.1 rfl
              have z4 := block_cell (i := 4) hbx.1 rfl
              have z5 := block_cell (i := 5) hbx.1 rfl
              have zf := fun i => block_free (i := i) hbx.1
              clear hwd hb3 hbx))
      | (go_at_call 35
         refine (index_words _ v p0 _ (by first | exact HWD.out | exact fun j hj => cella _ hbw (HWD.out j hj)) HV.out).mono ?_
         rintro x w4 ⟨rfl, rfl⟩))
    all_goals
      go_wp2_with fail
      go_meet
      first
        | (have HZ := HZ3.out
           exact ⟨_, rfl, Nat.le_refl _, six HZ _ _ _ _ _ _, by
            repeat (with_reducible refine set_below ?_ (Nat.le_refl _) _)
            exact HB3.out⟩)
        | exact kindBox_of HB3.out rfl
  case rest =>
    obtain ⟨g, rfl, hgs, hg, hbx⟩ := hcut
    have g0 : wc.cell? ⟨g, 0, none⟩ = some (.int .i64 (v : Int)) := block_cell (i := 0) hg rfl
    have gs := block_lt hg
    have HBC := Lib.hid (HB2.out.trans (hbx.mono (Nat.le_of_lt (Nat.lt_trans hvs hlt2))))
    have h2s : w.heap.size < w2.heap.size := Nat.lt_trans hvs hlt2
    have HRC := Lib.hid ((hbx.block _ h2s).trans HR2.out)
    have HCPC := Lib.hid (fun j (hj : j < L.length) => cellb hbx hlt2 (HCP.out j hj))
    have hcs := hbx.size
    have HGC := Lib.hid hg
    clear hg hbx
    go_wp2_with fail
    refine (fields_any g (v : Int) _ gs g0).mono ?_
    rintro x w5 ⟨N, rfl, hN, hNs, hb5⟩
    have HN := Lib.hid hN
    have hNl := block_lt hN
    have h5s := hb5.size
    have HB5 := Lib.hid (HBC.out.trans (hb5.mono (by omega)))
    have hg5 := (hb5.block _ gs).trans HGC.out
    have HG5 := Lib.hid hg5
    have g05 : w5.cell? ⟨g, 0, none⟩ = some (.int .i64 (v : Int)) := block_cell (i := 0) hg5 rfl
    have hr5 := (hb5.block _ (by omega)).trans HRC.out
    have RB5 := Lib.hid hr5
    have HCP5 := Lib.hid (fun j (hj : j < L.length) => cellb hb5 (by omega) (HCPC.out j hj))
    have HKL := Lib.hid (show kindL ((cutL 32 (bl s)).headD []) = v by rw [HP.out]; exact HV.out)
    have hfl := form_len (v : Int)
    have r0 := block_cell (i := 0) hr5 rfl
    have r1 := block_cell (i := 1) hr5 rfl
    have r2 := block_cell (i := 2) hr5 rfl
    have r3 := block_cell (i := 3) hr5 rfl
    have r4 := block_cell (i := 4) hr5 rfl
    have r5 := block_cell (i := 5) hr5 rfl
    have rf := fun i => block_free (i := i) hr5
    have rs := block_lt hr5
    clear hN hg5 hr5 hb5 g0
    by_cases hv0 : v = 0
    · have hv1 : ((v : Int) == 0) = true := by simp; omega
      have HF := Lib.hid (lineL_none HKL.out hv0)
      clear hv0
      go_wp2
      refine bodyPost_ret (ev_back rfl rfl rfl (six (by first | exact RB5.out | exact block_other (by omega) _ RB5.out) _ _ _ _ _ _)) rfl ?_
      refine oneP_of (e := ev0) (b := 11) (by rw [HF.out]) rfl (fun h => nomatch h) ?_
      repeat (with_reducible refine set_below ?_ (by omega) _)
      exact HB5.out
    · have hv1 : ((v : Int) == 0) = false := by simp; omega
      by_cases hq : L.length = (formL v).length + 1
      · have hq0 : ((L.length : Int) == 1 + ((formL v).length : Int)) = true := by simp; omega
        have hq1 : ((L.length : Int) != 1 + ((formL v).length : Int)) = false := by simp; omega
        have HF := Lib.hid (lineL_read HKL.out hv0 (by rw [← HL.out.1]; exact hq))
        have HQ := Lib.hid hq
        clear hq hv0
        go_wp2_with fail
        clear r0 r1 r2 r3 r4 r5 rf rs g05
        go_loopw [7, 35] (fun vb vi wr => ∃ (i : Nat) (e : Ev) (bad : Nat), vb = .int .i64 (bad : Int) ∧ vi = .int .i64 (i : Int) ∧ i ≤ (formL v).length ∧ (bad = 0 ∨ bad = 1) ∧ ReadAt (formL v) (cutL 32 (bl s)).tail (lineL (bl s)) i e bad ∧ wr.heap[g]? = some (.cells (evC e) 34 (0, 0)) ∧ Kept g w5 wr) (fun _ vi _ => (formL v).length - (intOf vi).toNat)
        case atStart => exact ⟨0, _, 0, rfl, rfl, Nat.zero_le _, .inl rfl, by rw [HF.out]; exact readAt_zero _ _ _, HG5.out, Kept.refl _ _⟩
        case round =>
          obtain ⟨i, e, bad, rfl, rfl, hi, hbad, hra, hg, hkp⟩ := hrel
          have HRA := Lib.hid hra
          have HG := Lib.hid hg
          have HKP := Lib.hid hkp
          have HBAD := Lib.hid hbad
          have hsz := hkp.size
          have hr := (hkp.block w.heap.size (by omega) (by omega)).trans RB5.out
          have HBr := Lib.hid (HB5.out.trans ((hkp.below (B := w.heap.size) (by omega) (by omega))))
          have RB := Lib.hid hr
          have hn := (hkp.block N hNl (by omega)).trans HN.out
          have HNN := Lib.hid hn
          have gs2 := block_lt hg
          clear hra hkp hbad hn
          by_cases hlt : i < (formL v).length
          · clear hg hr
            have hlt' : (i : Int) < ((formL v).length : Int) := by omega
            have hiL : 1 + i < L.length := by have := HQ.out; omega
            have hiL' : 1 + (i : Int) < (L.length : Int) := by omega
            obtain ⟨c, hc⟩ : ∃ c, (formL v)[i]? = some c := ⟨_, List.getElem?_eq_getElem hlt⟩
            have HC := Lib.hid hc
            have hfc := block_cell HNN.out (fld_cell (b := g) hc)
            have hlet := form_letter hc
            have hpc := HKP.out.cell (by omega) (by omega) (HCP5.out (1 + i) hiL)
            have hpl := HL.out.2.2 (1 + i) hiL
            have HPT := Lib.hid (show (cutL 32 (bl s)).tail[i]? = some (bl (L[1 + i]'hiL)) by rw [List.getElem?_tail, Nat.add_comm]; exact hpl.2)
            have hts := hpl.1
            generalize (L[1 + i]'hiL) = t at hpc HPT hts
            clear hc hpl
            generalize hfv : fldv g c = fv at hfc
            have HFV := Lib.hid hfv
            clear hfv
            go_wp2_with fail
            rw [← HFV.out]
            refine (readP_any g c e t _ (HW.out.next HBr.out) HG.out (by omega) hlet).mono ?_
            rintro x w6 ⟨hk6, f, e', hf, rfl, hcase, he', hg6⟩
            have HG6 := Lib.hid hg6
            have HK6 := Lib.hid (HKP.out.trans hk6)
            have HNX := Lib.hid (readAt_f HRA.out HC.out HPT.out hf he')
            have HFE := Lib.hid hf
            have hr6 := (hk6.block w.heap.size (by omega) (by omega)).trans RB.out
            have HB6 := Lib.hid (HBr.out.trans (hk6.below (B := w.heap.size) (by omega) (by omega)))
            have h6s := hk6.size
            have RB6 := Lib.hid hr6
            have r0 := block_cell (i := 0) hr6 rfl
            have r1 := block_cell (i := 1) hr6 rfl
            have r2 := block_cell (i := 2) hr6 rfl
            have r3 := block_cell (i := 3) hr6 rfl
            have r4 := block_cell (i := 4) hr6 rfl
            have r5 := block_cell (i := 5) hr6 rfl
            have rf := fun i => block_free (i := i) hr6
            have rs := block_lt hr6
            clear hg6 hk6 he' hf hr6
            rcases hcase with rfl | rfl | rfl
            · go_wp2
              go_roundw
              case rel => exact ⟨i + 1, e', bad, rfl, by go_num, hlt, HBAD.out, HNX.out, HG6.out, HK6.out⟩
              case measure => simp [intOf]; omega
            · have HW1 := Lib.hid (show worse bad 1 = 1 by rcases HBAD.out with h | h <;> subst h <;> rfl)
              go_wp2
              go_roundw
              case rel => exact ⟨i + 1, e', 1, rfl, by go_num, hlt, .inr rfl, (by have := HNX.out; rw [HW1.out] at this; exact this), HG6.out, HK6.out⟩
              case measure => simp [intOf]; omega
            · have HFM := Lib.hid (HRA.out.form HC.out HPT.out HFE.out)
              go_wp2
              refine bodyPost_ret (ev_back rfl rfl rfl (six (by first | exact RB6.out | exact block_other (by omega) _ RB6.out) _ _ _ _ _ _)) rfl ?_
              refine oneP_of (e := ev0) (b := 11) HFM.out rfl (fun h => nomatch h) ?_
              repeat (with_reducible refine set_below ?_ (by omega) _)
              exact HB6.out
          · have hlt' : ¬ (i : Int) < ((formL v).length : Int) := by omega
            have HFI := Lib.hid (HRA.out.fin (by omega))
            have g0 : wr.cell? ⟨g, 0, none⟩ = some (.int .i64 e.k) := block_cell (i := 0) hg rfl
            have g1 : wr.cell? ⟨g, 1, none⟩ = some (.int .i64 e.a) := block_cell (i := 1) hg rfl
            have g2 : wr.cell? ⟨g, 2, none⟩ = some (.int .i64 e.b) := block_cell (i := 2) hg rfl
            have g3 : wr.cell? ⟨g, 3, none⟩ = some (.int .i64 e.n) := block_cell (i := 3) hg rfl
            have g4 : wr.cell? ⟨g, 4, none⟩ = some (.int .i64 e.m) := block_cell (i := 4) hg rfl
            have g5 : wr.cell? ⟨g, 5, none⟩ = some (.int .u64 (e.s : Int)) := block_cell (i := 5) hg rfl
            have gf := fun i => block_free (i := i) hg
            have gs := block_lt hg
            have r0 := block_cell (i := 0) hr rfl
            have r1 := block_cell (i := 1) hr rfl
            have r2 := block_cell (i := 2) hr rfl
            have r3 := block_cell (i := 3) hr rfl
            have r4 := block_cell (i := 4) hr rfl
            have r5 := block_cell (i := 5) hr rfl
            have rf := fun i => block_free (i := i) hr
            have rs := block_lt hr
            clear hg hr
            go_wp2
            refine bodyPost_ret (ev_back rfl rfl rfl (six (by first | exact RB.out | exact block_other (by omega) _ RB.out) _ _ _ _ _ _)) rfl ?_
            refine oneP_of (e := e) (b := bad) HFI.out.1 rfl HFI.out.2 ?_
            repeat (with_reducible refine set_below ?_ (by omega) _)
            exact HBr.out
      · have hq0 : ((L.length : Int) == 1 + ((formL v).length : Int)) = false := by simp; omega
        have hq1 : ((L.length : Int) != 1 + ((formL v).length : Int)) = true := by simp; omega
        have HF := Lib.hid (lineL_len HKL.out (by rw [← HL.out.1]; exact hq))
        clear hq hv0
        go_wp2
        refine bodyPost_ret (ev_back rfl rfl rfl (six (by first | exact RB5.out | exact block_other (by omega) _ RB5.out) _ _ _ _ _ _)) rfl ?_
        refine oneP_of (e := ev0) (b := 11) (by rw [HF.out]) rfl (fun h => nomatch h) ?_
        repeat (with_reducible refine set_below ?_ (by omega) _)
        exact HB5.out
end Go.Proofs.YtcboopkalpmglaaDoor
