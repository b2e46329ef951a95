/- The document's script is read. Conditions: the text below 99,999 bytes. -/
import Derived.Test.YtcboopkalpmglaaDoorEvScrAt
import Derived.Test.YtcboopkalpmglaaDoorEvRefOne
import Derived.Deep.Cut
import Derived.RegionTactic
import Derived.ChangeAlike
namespace Go.Proofs.YtcboopkalpmglaaDoor
set_option linter.unusedVariables false
open Go.RowKit
theorem oneGives_agg {R : Ev × Nat} {w w' : World} {x : Ending} (h : OneGives R w x w') : ∃ (g : Ev) (b : Nat), x = .returned (.agg #[.int .i64 g.k, .int .i64 g.a, .int .i64 g.b, .int .i64 g.n, .int .i64 g.m, .int .u64 (g.s : Int), .int .i64 (b : Int)]) ∧ R.2 = b ∧ (b = 0 → g = R.1) ∧ Below w.heap.size w w' := by
  obtain ⟨g, h1, h2, h3⟩ := h
  exact ⟨g, _, h1, rfl, h2, h3⟩
set_option maxHeartbeats 4000000 in
theorem refParse19_e (s : ByteArray) (w : World) (he : s.toList.isEmpty = true) :
    Calls Tryd.prog 11 #[.string s] w (ScrGives (scriptL (bl s)) w) := by
  have HR := Lib.hid (scr_empty (empty_bl.1 he))
  go_enter Tryd.func11, Tryd.ntmps11
  go_wp2
  go_ret3
  exact scrGives_nil HR.out rfl (Below.refl _ _)
set_option maxRecDepth 20000 in
set_option maxHeartbeats 4000000 in
theorem refParse19_t (s : ByteArray) (w : World) (hs : s.size ≤ 99998) (hne : s.toList.isEmpty = false) (hend : (bl s).getLast? = some 10) :
    Calls Tryd.prog 11 #[.string s] w (ScrGives (scriptL (bl s)) w) := by
  have HNE := Lib.hid (nonempty_bl.1 hne)
  have HEND := Lib.hid hend
  clear hend
  go_enter Tryd.func11, Tryd.ntmps11
  go_wp2_with fail
  refine (cut_any s 10 _ hs (by decide)).mono ?_
  rintro x w2 ⟨L, v, hL, rfl, ho, hb⟩
  have HL := Lib.hid (parts_len hL)
  obtain ⟨m, hm, hln, hlast, hat⟩ := lines_yes hL HEND.out
  obtain ⟨hlen, a, cap, rfl, hcap, hmax, hnone, hrd⟩ := ho.rd
  have HB2 := Lib.hid hb
  obtain ⟨bp, op, rfl, hbp, hcp⟩ := rd_s hrd HL.out.2.1
  have HCP := Lib.hid hcp
  have HAT := Lib.hid hat
  have HLN := Lib.hid hln
  have HM := Lib.hid hm
  have hbs := hb.size
  have hmL : m < L.length := by omega
  have hpl : w2.cell? ⟨bp, op + m, none⟩ = some (.string (L[m]'hmL)) := hcp m hmL
  have hem := hlast hmL
  have hmc : m + 1 ≤ cap := by omega
  have hm9 : m ≤ 100000 := by
    have h1 := HL.out.1
    have h2 := cutL_length 10 (bl s)
    rw [bl_length] at h2
    omega
  rw [hm]
  clear hL ho hb hrd hnone hlen hcp hat hln hm hcap hlast
  by_cases hbig : 1000 < m
  · have hbig' : (1000 : Int) < (m : Int) := by omega
    have HR := Lib.hid (scr_full HNE.out (by rw [HLN.out]; exact hbig))
    go_wp2
    go_ret3
    exact scrGives_nil HR.out rfl HB2.out
  · have hbig' : ¬ (1000 : Int) < (m : Int) := by omega
    have HR := Lib.hid (scr_read (b := true) HNE.out (by rw [HLN.out]; exact hbig) (decide_eq_true HEND.out))
    go_wp2_with fail
    go_loopw [7, 8] (fun vl vi wr => ∃ (i : Nat) (l : List Ev), vi = .int .i64 (i : Int) ∧ i ≤ m ∧ l.length = i ∧ ScrAt true (linesL (bl s)) (scriptL (bl s)) i l ∧ Own encEv wr w2.heap.size 34 vl i l ∧ Below w2.heap.size w2 wr) (fun _ vi _ => m - (intOf vi).toNat)
    case atStart => exact ⟨0, [], rfl, Nat.zero_le _, rfl, by rw [HR.out]; exact scrAt_zero, Own.nil _ _ _, Below.refl _ _⟩
    case round =>
      obtain ⟨i, l, rfl, hi, hll, hsa, ho, hb⟩ := hrel
      have HSA := Lib.hid hsa
      have HO := Lib.hid ho
      have HB := Lib.hid hb
      have hsz := hb.size
      have HLL := Lib.hid hll
      clear hsa ho hll
      by_cases hlt : i < m
      · have hlt' : (i : Int) < (m : Int) := by omega
        have hiL : i < L.length := by have := HM.out; omega
        have hpc : wr.cell? ⟨bp, op + i, none⟩ = some (.string (L[i]'hiL)) := cellb hb hbp (HCP.out i hiL)
        have HT := Lib.hid (HAT.out i hlt hiL)
        have hts := (HL.out.2.2 i hiL).1
        clear hb
        generalize (L[i]'hiL) = t at hpc HT hts
        go_wp2_with fail
        refine (refOne_any t _ (by omega)).mono ?_
        intro x w6 hx
        obtain ⟨g, b, rfl, hbb, hgg, hb6⟩ := oneGives_agg hx
        have HO6 := Lib.hid (HO.out.next hb6)
        have HB6 := Lib.hid (HB.out.trans (hb6.mono hsz))
        have h6s := Nat.le_trans hsz hb6.size
        have HBB := Lib.hid hbb
        have HGG := Lib.hid hgg
        clear hx hb6 hbb hgg
        go_upto_region 14 with fail
        generalize hV : World.alloc w6 _ = V
        have HOV := Lib.hid (hV ▸ HO6.out.alloc _ : Own encEv V w2.heap.size 34 _ i l)
        have HTV := Lib.hid (one_of hV)
        have HBV := Lib.hid (HB6.out.trans (HTV.out.2.mono h6s))
        have hvs := Nat.le_trans h6s HTV.out.2.size
        have hg := HTV.out.1
        have g0 := block_cell (i := 0) hg rfl
        have g1 := block_cell (i := 1) hg rfl
        have g2 := block_cell (i := 2) hg rfl
        have g3 := block_cell (i := 3) hg rfl
        have g4 := block_cell (i := 4) hg rfl
        have g5 := block_cell (i := 5) hg rfl
        have g6 := block_cell (i := 6) hg rfl
        have gf := fun i => block_free (i := i) hg
        have gs := block_lt hg
        have HGV := Lib.hid hg
        clear hV hg HTV
        have HOA := Lib.hid (HOV.out.alloc (.cells #[.int .i64 g.k, .int .i64 g.a, .int .i64 g.b, .int .i64 g.n, .int .i64 g.m, .int .u64 (g.s : Int)] 34))
        by_cases hb0 : b = 0
        · have hb1 : ((b : Int) == 0) = true := by simp; omega
          have hb2 : ((b : Int) != 0) = false := by simp; omega
          have HN := Lib.hid (HSA.out.next HT.out (.inr rfl) (by rw [HBB.out]; exact hb0) (HGG.out hb0))
          clear hb0
          go_wp2_with ((at_builtin; refine append_ev rfl _ _ rfl w2.heap.size _ i l rfl HOA.out V.heap.size _ g rfl (cnewb.trans rfl) (cnewb.trans rfl) (cnewb.trans rfl) (cnewb.trans rfl) (cnewb.trans rfl) (cnewb.trans rfl) (by omega) (by simp; omega) ?_; intro vl' u2 ho2 hg2))
          have HO2 := Lib.hid ho2
          have HB2' := Lib.hid ((HBV.out.alloc hvs (.cells #[.int .i64 g.k, .int .i64 g.a, .int .i64 g.b, .int .i64 g.n, .int .i64 g.m, .int .u64 (g.s : Int)] 34)).grown hg2 (by simp; omega) (fun j e => (HOA.out.lt j e).1))
          clear ho2 hg2
          go_roundw
          case rel => exact ⟨i + 1, l ++ [g], by go_num, hlt, by rw [List.length_append, HLL.out]; rfl, HN.out, HO2.out, HB2'.out⟩
          case measure => simp [intOf]; omega
        · have hb1 : ((b : Int) == 0) = false := by simp; omega
          have hb2 : ((b : Int) != 0) = true := by simp; omega
          have HN := Lib.hid (HSA.out.bad HT.out (.inr rfl) HBB.out hb0)
          clear hb0
          go_wp2
          go_region
          all_goals
            go_wp2
            go_ret3
            exact scrGives_nil HN.out rfl (HB2.out.trans ((below_drewN HBV.out 1).mono hbs))
      · have hlt' : ¬ (i : Int) < (m : Int) := by omega
        have HF := Lib.hid (HSA.out.fin (by rw [HLN.out]; omega))
        go_wp2
        go_ret3
        exact scrGives_of HF.out rfl HLL.out (HO.out.base hbs) (HB2.out.trans (HB.out.mono hbs))
set_option maxRecDepth 20000 in
set_option maxHeartbeats 4000000 in
theorem refParse19_f (s : ByteArray) (w : World) (hs : s.size ≤ 99998) (hne : s.toList.isEmpty = false) (hend : (bl s).getLast? ≠ some 10) :
    Calls Tryd.prog 11 #[.string s] w (ScrGives (scriptL (bl s)) w) := by
  have HNE := Lib.hid (nonempty_bl.1 hne)
  have HEND := Lib.hid hend
  clear hend
  go_enter Tryd.func11, Tryd.ntmps11
  go_wp2_with fail
  refine (cut_any s 10 _ hs (by decide)).mono ?_
  rintro x w2 ⟨L, v, hL, rfl, ho, hb⟩
  have HL := Lib.hid (parts_len hL)
  obtain ⟨m, hm, hln, hlast, hat⟩ := lines_no hL HNE.out HEND.out
  obtain ⟨hlen, a, cap, rfl, hcap, hmax, hnone, hrd⟩ := ho.rd
  have HB2 := Lib.hid hb
  obtain ⟨bp, op, rfl, hbp, hcp⟩ := rd_s hrd HL.out.2.1
  have HCP := Lib.hid hcp
  have HAT := Lib.hid hat
  have HLN := Lib.hid hln
  have HM := Lib.hid hm
  have hbs := hb.size
  have hmL : m < L.length := by omega
  have hpl : w2.cell? ⟨bp, op + m, none⟩ = some (.string (L[m]'hmL)) := hcp m hmL
  have hem := hlast hmL
  have hmc : m + 1 ≤ cap := by omega
  have hm9 : m ≤ 100000 := by
    have h1 := HL.out.1
    have h2 := cutL_length 10 (bl s)
    rw [bl_length] at h2
    omega
  rw [hm]
  clear hL ho hb hrd hnone hlen hcp hat hln hm hcap hlast
  by_cases hbig : 1000 < m + 1
  · have hbig' : (1000 : Int) < (m : Int) + 1 := by omega
    have HR := Lib.hid (scr_full HNE.out (by rw [HLN.out]; exact hbig))
    go_wp2
    go_ret3
    exact scrGives_nil HR.out rfl HB2.out
  · have hbig' : ¬ (1000 : Int) < (m : Int) + 1 := by omega
    have HR := Lib.hid (scr_read (b := false) HNE.out (by rw [HLN.out]; exact hbig) (decide_eq_false HEND.out))
    go_wp2_with fail
    go_loopw [7, 8] (fun vl vi wr => ∃ (i : Nat) (l : List Ev), vi = .int .i64 (i : Int) ∧ i ≤ (m + 1) ∧ l.length = i ∧ ScrAt false (linesL (bl s)) (scriptL (bl s)) i l ∧ Own encEv wr w2.heap.size 34 vl i l ∧ Below w2.heap.size w2 wr) (fun _ vi _ => (m + 1) - (intOf vi).toNat)
    case atStart => exact ⟨0, [], rfl, Nat.zero_le _, rfl, by rw [HR.out]; exact scrAt_zero, Own.nil _ _ _, Below.refl _ _⟩
    case round =>
      obtain ⟨i, l, rfl, hi, hll, hsa, ho, hb⟩ := hrel
      have HSA := Lib.hid hsa
      have HO := Lib.hid ho
      have HB := Lib.hid hb
      have hsz := hb.size
      have HLL := Lib.hid hll
      clear hsa ho hll
      by_cases hlt : i < (m + 1)
      · have hlt' : (i : Int) < (m : Int) + 1 := by omega
        have hiL : i < L.length := by have := HM.out; omega
        have hpc : wr.cell? ⟨bp, op + i, none⟩ = some (.string (L[i]'hiL)) := cellb hb hbp (HCP.out i hiL)
        have HT := Lib.hid (HAT.out i hiL)
        have hts := (HL.out.2.2 i hiL).1
        clear hb
        generalize (L[i]'hiL) = t at hpc HT hts
        go_wp2_with fail
        refine (refOne_any t _ (by omega)).mono ?_
        intro x w6 hx
        obtain ⟨g, b, rfl, hbb, hgg, hb6⟩ := oneGives_agg hx
        have HO6 := Lib.hid (HO.out.next hb6)
        have HB6 := Lib.hid (HB.out.trans (hb6.mono hsz))
        have h6s := Nat.le_trans hsz hb6.size
        have HBB := Lib.hid hbb
        have HGG := Lib.hid hgg
        clear hx hb6 hbb hgg
        go_upto_region 14 with fail
        generalize hV : World.alloc w6 _ = V
        have HOV := Lib.hid (hV ▸ HO6.out.alloc _ : Own encEv V w2.heap.size 34 _ i l)
        have HTV := Lib.hid (one_of hV)
        have HBV := Lib.hid (HB6.out.trans (HTV.out.2.mono h6s))
        have hvs := Nat.le_trans h6s HTV.out.2.size
        have hg := HTV.out.1
        have g0 := block_cell (i := 0) hg rfl
        have g1 := block_cell (i := 1) hg rfl
        have g2 := block_cell (i := 2) hg rfl
        have g3 := block_cell (i := 3) hg rfl
        have g4 := block_cell (i := 4) hg rfl
        have g5 := block_cell (i := 5) hg rfl
        have g6 := block_cell (i := 6) hg rfl
        have gf := fun i => block_free (i := i) hg
        have gs := block_lt hg
        have HGV := Lib.hid hg
        clear hV hg HTV
        have HOA := Lib.hid (HOV.out.alloc (.cells #[.int .i64 g.k, .int .i64 g.a, .int .i64 g.b, .int .i64 g.n, .int .i64 g.m, .int .u64 (g.s : Int)] 34))
        by_cases hlm : i = m
        · have hl1 : ((i : Int) == (m : Int)) = true := by simp; omega
          have HN := Lib.hid (HSA.out.cut (by rw [HLN.out]; omega))
          clear hlm
          go_wp2
          go_region
          all_goals
            go_wp2
            go_ret3
            exact scrGives_nil HN.out rfl (HB2.out.trans ((below_drewN (set_below HBV.out h6s _) 1).mono hbs))
        · have hl1 : ((i : Int) == (m : Int)) = false := by simp; omega
          by_cases hb0 : b = 0
          · have hb1 : ((b : Int) == 0) = true := by simp; omega
            have hb2 : ((b : Int) != 0) = false := by simp; omega
            have HN := Lib.hid (HSA.out.next HT.out (.inl (by rw [HLN.out]; omega)) (by rw [HBB.out]; exact hb0) (HGG.out hb0))
            clear hb0
            go_wp2_with ((at_builtin; refine append_ev rfl _ _ rfl w2.heap.size _ i l rfl HOA.out V.heap.size _ g rfl (cnewb.trans rfl) (cnewb.trans rfl) (cnewb.trans rfl) (cnewb.trans rfl) (cnewb.trans rfl) (cnewb.trans rfl) (by omega) (by simp; omega) ?_; intro vl' u2 ho2 hg2))
            have HO2 := Lib.hid ho2
            have HB2' := Lib.hid ((HBV.out.alloc hvs (.cells #[.int .i64 g.k, .int .i64 g.a, .int .i64 g.b, .int .i64 g.n, .int .i64 g.m, .int .u64 (g.s : Int)] 34)).grown hg2 (by simp; omega) (fun j e => (HOA.out.lt j e).1))
            clear ho2 hg2
            go_roundw
            case rel => exact ⟨i + 1, l ++ [g], by go_num, hlt, by rw [List.length_append, HLL.out]; rfl, HN.out, HO2.out, HB2'.out⟩
            case measure => simp [intOf]; omega
          · have hb1 : ((b : Int) == 0) = false := by simp; omega
            have hb2 : ((b : Int) != 0) = true := by simp; omega
            have HN := Lib.hid (HSA.out.bad HT.out (.inl (by rw [HLN.out]; omega)) HBB.out hb0)
            clear hb0
            go_wp2
            go_region
            all_goals
              go_wp2
              go_ret3
              exact scrGives_nil HN.out rfl (HB2.out.trans ((below_drewN HBV.out 1).mono hbs))
      · have hlt' : ¬ (i : Int) < (m : Int) + 1 := by omega
        have HF := Lib.hid (HSA.out.fin (by rw [HLN.out]; omega))
        go_wp2
        go_ret3
        exact scrGives_of HF.out rfl HLL.out (HO.out.base hbs) (HB2.out.trans (HB.out.mono hbs))
theorem refParse19_any (s : ByteArray) (w : World) (hs : s.size ≤ 99998) :
    Calls Tryd.prog 11 #[.string s] w (ScrGives (scriptL (bl s)) w) := by
  cases he : s.toList.isEmpty with
  | true => exact refParse19_e s w he
  | false =>
    by_cases h : (bl s).getLast? = some 10
    · exact refParse19_t s w hs he h
    · exact refParse19_f s w hs he h
end Go.Proofs.YtcboopkalpmglaaDoor
