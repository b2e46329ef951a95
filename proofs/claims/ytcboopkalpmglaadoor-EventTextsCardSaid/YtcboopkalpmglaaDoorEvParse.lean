/- event.Parse. Conditions: the text below 100,000,001 bytes. -/
import Derived.Test.YtcboopkalpmglaaDoorEvOne
import Derived.Test.YtcboopkalpmglaaDoorEvScrAt
import Derived.Deep.Cut
namespace Go.Proofs.YtcboopkalpmglaaDoor
set_option linter.unusedVariables false
open Go.RowKit
theorem suf_cases (l : List UInt8) : (∃ b, l = b ++ [10] ∧ Lib.hasSuffix l [10] = true) ∨ ((l.map UInt8.toNat).getLast? ≠ some 10 ∧ Lib.hasSuffix l [10] = false) := by
  rcases List.eq_nil_or_concat l with rfl | ⟨b, x, rfl⟩
  · exact .inr ⟨(fun h => nomatch h), rfl⟩
  · rw [List.concat_eq_append]
    by_cases hx : x = 10
    · subst hx
      exact .inl ⟨b, rfl, by unfold Lib.hasSuffix; simp [List.isSuffixOf]⟩
    · refine .inr ⟨?_, ?_⟩
      · rw [List.map_append, List.getLast?_append]
        show some x.toNat ≠ some 10
        intro h
        have h2 : x.toNat = 10 := Option.some.inj h
        exact hx (UInt8.toNat_inj.1 h2)
      · unfold Lib.hasSuffix
        rw [Bool.eq_false_iff]
        intro h
        rw [List.isSuffixOf_iff_suffix] at h
        obtain ⟨c, hc⟩ := h
        have h2 := congrArg List.getLast? hc
        simp at h2
        exact hx h2.symm
def CutEnd (s : ByteArray) (w : World) (e : Ending) (w' : World) : Prop :=
  ∃ B : ByteArray, e = .returned (.tuple #[.string B, .bool (decide ((bl s).getLast? = some 10))]) ∧ cutL 10 (bl B) = linesL (bl s) ∧ B.size ≤ s.size ∧ w' = w
theorem cutSuf_any (s : ByteArray) (w : World) (hs : s.size ≤ 9223372036854775807) :
    Calls Tryd.prog 19 #[.string s, .string ⟨#[10]⟩] w (CutEnd s w) := by
  refine (Tryd.strings_CutSuffix s ⟨#[10]⟩ w hs).mono ?_
  rintro e w' ⟨rfl, rfl⟩
  rcases suf_cases s.data.toList with ⟨b, hb, ht⟩ | ⟨hl, ht⟩
  · have e1 : Lib.trimSuffix s.data.toList (⟨#[10]⟩ : ByteArray).data.toList = b := by
      unfold Lib.trimSuffix
      rw [if_pos ht, hb]
      simp
    have e2 : bl s = b.map UInt8.toNat ++ [10] := by unfold bl; rw [hb, List.map_append]; rfl
    refine ⟨⟨b.toArray⟩, ?_, ?_, ?_, rfl⟩
    · rw [e1]
      show Ending.returned (.tuple #[.string ⟨b.toArray⟩, .bool (Lib.hasSuffix s.data.toList [10])]) = _
      rw [ht, e2, decide_eq_true (by simp)]
    · rw [lines_end e2]; rfl
    · rw [← bl_length s, e2]
      show b.toArray.size ≤ _
      simp
  · have e1 : Lib.trimSuffix s.data.toList (⟨#[10]⟩ : ByteArray).data.toList = s.data.toList := by
      unfold Lib.trimSuffix
      rw [if_neg (by
        show ¬ Lib.hasSuffix s.data.toList [10] = true
        rw [ht]; decide)]
    have hl : (bl s).getLast? ≠ some 10 := hl
    refine ⟨s, ?_, ?_, Nat.le_refl _, rfl⟩
    · rw [e1]
      show Ending.returned (.tuple #[.string _, .bool (Lib.hasSuffix s.data.toList [10])]) = _
      rw [ht, decide_eq_false hl]
    · rw [lines_open hl]
theorem oneP_agg {R : Ev × Nat} {w w' : World} {x : Ending} (h : OneP R w x w') : ∃ (e : Ev) (b : Nat), x = .returned (.tuple #[.agg #[.int .i64 e.k, .int .i64 e.a, .int .i64 e.b, .int .i64 e.n, .int .i64 e.m, .int .u64 (e.s : Int)], .int .i64 (b : Int)]) ∧ R.2 = b ∧ (b = 0 → e = R.1) ∧ Below w.heap.size w w' := by
  obtain ⟨e, h1, h2, h3⟩ := h
  exact ⟨e, _, h1, rfl, h2, h3⟩
set_option maxHeartbeats 4000000 in
theorem parse_e (s : ByteArray) (w : World) (he : s.toList.isEmpty = true) :
    Calls Tryd.prog 10 #[.string s] w (ScrGives (scriptL (bl s)) w) := by
  have HR := Lib.hid (scr_empty (empty_bl.1 he))
  go_enter Tryd.func10, Tryd.ntmps10
  go_wp2
  go_ret3
  exact scrGives_nil HR.out rfl (Below.refl _ _)
set_option maxRecDepth 20000 in
set_option maxHeartbeats 4000000 in
theorem parse_t (s : ByteArray) (w : World) (hw : EvW w) (hs : s.size ≤ 100000000) (hne : s.toList.isEmpty = false) (hend : decide ((bl s).getLast? = some 10) = true) :
    Calls Tryd.prog 10 #[.string s] w (ScrGives (scriptL (bl s)) w) := by
  have HNE := Lib.hid (nonempty_bl.1 hne)
  have HEND := Lib.hid hend
  have HW := Lib.hid hw
  have hw8 := hw.lo
  clear hend hw
  go_enter Tryd.func10, Tryd.ntmps10
  go_wp2_with fail
  refine (cutSuf_any s _ (by omega)).mono ?_
  rintro x w1 ⟨B, rfl, hB, hBs, rfl⟩
  rw [HEND.out]
  have HBL := Lib.hid hB
  clear hB
  go_wp2_with fail
  refine (split_any 10 B _ HW.out (by omega)).mono ?_
  rintro x w2 ⟨L, hL, rfl, hcp, hlt2, hb⟩
  have HL := Lib.hid (parts_len (c := 10) hL)
  have HCP := Lib.hid hcp
  have HB2 := Lib.hid hb
  have hLe : L.map bl = linesL (bl s) := hL.trans HBL.out
  have hLl : L.length = (linesL (bl s)).length := by rw [← hLe, List.length_map]
  have HAT := Lib.hid (fun j (hj : j < L.length) => (show (linesL (bl s))[j]? = some (bl (L[j]'hj)) by rw [← hLe, List.getElem?_map, List.getElem?_eq_getElem hj]; rfl))
  have HLN := Lib.hid hLl.symm
  have hl0 := HL.out.2.1
  have hbs := hb.size
  have hL9 : L.length ≤ 100000001 := by
    have h1 := HL.out.1
    have h2 := cutL_length 10 (bl B)
    rw [bl_length] at h2
    omega
  obtain ⟨m, hm⟩ : ∃ m, L.length = m + 1 := ⟨L.length - 1, by omega⟩
  have HM := Lib.hid hm
  rw [hm] at hL9 ⊢
  clear hL hcp hb hLe hLl hm hl0
  by_cases hbig : 1000 < m + 1
  · have hbig' : (1000 : Int) < (m : Int) + 1 := by omega
    have HR := Lib.hid (scr_full HNE.out (by rw [HLN.out, HM.out]; exact hbig))
    go_wp2
    go_ret3
    exact scrGives_nil HR.out rfl HB2.out
  · have hbig' : ¬ (1000 : Int) < (m : Int) + 1 := by omega
    have HR := Lib.hid (scr_read (b := true) HNE.out (by rw [HLN.out, HM.out]; exact hbig) HEND.out)
    go_wp2_with fail
    go_loopw [8, 27] (fun vl vi wr => ∃ (i : Nat) (l : List Ev), vi = .int .i64 (i : Int) ∧ i ≤ m + 1 ∧ l.length = i ∧ ScrAt true (linesL (bl s)) (scriptL (bl s)) i l ∧ Own encEv wr w2.heap.size 34 vl i l ∧ Below w2.heap.size w2 wr) (fun _ vi _ => m + 1 - (intOf vi).toNat)
    case atStart => exact ⟨0, [], rfl, Nat.zero_le _, rfl, by rw [HR.out]; exact scrAt_zero, Own.nil _ _ _, Below.refl _ _⟩
    case round =>
      obtain ⟨i, l, rfl, hi, hll, hsa, ho, hb⟩ := hrel
      have HSA := Lib.hid hsa
      have HO := Lib.hid ho
      have HB := Lib.hid hb
      have hsz := hb.size
      have HLL := Lib.hid hll
      clear hsa ho hll
      by_cases hlt : i < m + 1
      · have hlt' : (i : Int) < (m : Int) + 1 := by omega
        have hiL : i < L.length := by have := HM.out; omega
        have hpc := cellb hb hlt2 (HCP.out i hiL)
        have HT := Lib.hid (HAT.out i hiL)
        have hts := (HL.out.2.2 i hiL).1
        have HWr := Lib.hid (HW.out.next (HB2.out.trans (hb.mono hbs)))
        clear hb
        generalize (L[i]'hiL) = t at hpc HT hts
        go_wp2_with fail
        refine (one_any t _ HWr.out (by omega)).mono ?_
        intro x w6 hx
        obtain ⟨e, b, rfl, hbb, hgg, hb6⟩ := oneP_agg hx
        have HO6 := Lib.hid (HO.out.next hb6)
        have HB6 := Lib.hid (HB.out.trans (hb6.mono hsz))
        have h6s := Nat.le_trans hsz hb6.size
        have HBB := Lib.hid hbb
        have HGG := Lib.hid hgg
        clear hx hb6 hbb hgg
        go_upto_region 12 with fail
        generalize hV : World.alloc w6 _ = V
        have HOV := Lib.hid (hV ▸ HO6.out.alloc _ : Own encEv V w2.heap.size 34 _ i l)
        have HTV := Lib.hid (one_of hV)
        have HBV := Lib.hid (HB6.out.trans (HTV.out.2.mono h6s))
        have hvs := Nat.le_trans h6s HTV.out.2.size
        have hg := HTV.out.1
        have g0 := block_cell (i := 0) hg rfl
        have g1 := block_cell (i := 1) hg rfl
        have g2 := block_cell (i := 2) hg rfl
        have g3 := block_cell (i := 3) hg rfl
        have g4 := block_cell (i := 4) hg rfl
        have g5 := block_cell (i := 5) hg rfl
        have gf := fun i => block_free (i := i) hg
        have gs := block_lt hg
        have HGV := Lib.hid hg
        clear hV hg HTV
        have HOA := Lib.hid (HOV.out.alloc (.cells #[.int .i64 e.k, .int .i64 e.a, .int .i64 e.b, .int .i64 e.n, .int .i64 e.m, .int .u64 (e.s : Int)] 34))
        by_cases hlm : i = m
        · have hl1 : ((i : Int) == (m : Int)) = true := by simp; omega
          by_cases hb0 : b = 0
          · have hb1 : ((b : Int) == 0) = true := by simp; omega
            have hb2 : ((b : Int) != 0) = false := by simp; omega
            have HN := Lib.hid (HSA.out.next HT.out (.inr rfl) (by rw [HBB.out]; exact hb0) (HGG.out hb0))
            clear hb0
            go_wp2_with ((at_builtin; refine append_ev rfl _ _ rfl w2.heap.size _ i l rfl HOA.out V.heap.size _ e rfl (cnewb.trans rfl) (cnewb.trans rfl) (cnewb.trans rfl) (cnewb.trans rfl) (cnewb.trans rfl) (cnewb.trans rfl) (by omega) (by simp; omega) ?_; intro vl' u2 ho2 hg2))
            have HO2 := Lib.hid ho2
            have HB2' := Lib.hid ((HBV.out.alloc hvs (.cells #[.int .i64 e.k, .int .i64 e.a, .int .i64 e.b, .int .i64 e.n, .int .i64 e.m, .int .u64 (e.s : Int)] 34)).grown hg2 (by simp; omega) (fun j e => (HOA.out.lt j e).1))
            clear ho2 hg2
            go_roundw
            case rel => exact ⟨i + 1, l ++ [e], by go_num, hlt, by rw [List.length_append, HLL.out]; rfl, HN.out, HO2.out, HB2'.out⟩
            case measure => simp [intOf]; omega
          · have hb1 : ((b : Int) == 0) = false := by simp; omega
            have hb2 : ((b : Int) != 0) = true := by simp; omega
            have HN := Lib.hid (HSA.out.bad HT.out (.inr rfl) HBB.out hb0)
            clear hb0
            go_wp2
            go_ret3
            exact scrGives_nil HN.out rfl (HB2.out.trans (HBV.out.mono hbs))
        · have hl1 : ((i : Int) == (m : Int)) = false := by simp; omega
          by_cases hb0 : b = 0
          · have hb1 : ((b : Int) == 0) = true := by simp; omega
            have hb2 : ((b : Int) != 0) = false := by simp; omega
            have HN := Lib.hid (HSA.out.next HT.out (.inr rfl) (by rw [HBB.out]; exact hb0) (HGG.out hb0))
            clear hb0
            go_wp2_with ((at_builtin; refine append_ev rfl _ _ rfl w2.heap.size _ i l rfl HOA.out V.heap.size _ e rfl (cnewb.trans rfl) (cnewb.trans rfl) (cnewb.trans rfl) (cnewb.trans rfl) (cnewb.trans rfl) (cnewb.trans rfl) (by omega) (by simp; omega) ?_; intro vl' u2 ho2 hg2))
            have HO2 := Lib.hid ho2
            have HB2' := Lib.hid ((HBV.out.alloc hvs (.cells #[.int .i64 e.k, .int .i64 e.a, .int .i64 e.b, .int .i64 e.n, .int .i64 e.m, .int .u64 (e.s : Int)] 34)).grown hg2 (by simp; omega) (fun j e => (HOA.out.lt j e).1))
            clear ho2 hg2
            go_roundw
            case rel => exact ⟨i + 1, l ++ [e], by go_num, hlt, by rw [List.length_append, HLL.out]; rfl, HN.out, HO2.out, HB2'.out⟩
            case measure => simp [intOf]; omega
          · have hb1 : ((b : Int) == 0) = false := by simp; omega
            have hb2 : ((b : Int) != 0) = true := by simp; omega
            have HN := Lib.hid (HSA.out.bad HT.out (.inr rfl) HBB.out hb0)
            clear hb0
            go_wp2
            go_ret3
            exact scrGives_nil HN.out rfl (HB2.out.trans (HBV.out.mono hbs))
      · have hlt' : ¬ (i : Int) < (m : Int) + 1 := by omega
        have HF := Lib.hid (HSA.out.fin (by rw [HLN.out, HM.out]; omega))
        go_wp2
        go_ret3
        exact scrGives_of HF.out rfl HLL.out (HO.out.base hbs) (HB2.out.trans (HB.out.mono hbs))
set_option maxRecDepth 20000 in
set_option maxHeartbeats 4000000 in
theorem parse_f (s : ByteArray) (w : World) (hw : EvW w) (hs : s.size ≤ 100000000) (hne : s.toList.isEmpty = false) (hend : decide ((bl s).getLast? = some 10) = false) :
    Calls Tryd.prog 10 #[.string s] w (ScrGives (scriptL (bl s)) w) := by
  have HNE := Lib.hid (nonempty_bl.1 hne)
  have HEND := Lib.hid hend
  have HW := Lib.hid hw
  have hw8 := hw.lo
  clear hend hw
  go_enter Tryd.func10, Tryd.ntmps10
  go_wp2_with fail
  refine (cutSuf_any s _ (by omega)).mono ?_
  rintro x w1 ⟨B, rfl, hB, hBs, rfl⟩
  rw [HEND.out]
  have HBL := Lib.hid hB
  clear hB
  go_wp2_with fail
  refine (split_any 10 B _ HW.out (by omega)).mono ?_
  rintro x w2 ⟨L, hL, rfl, hcp, hlt2, hb⟩
  have HL := Lib.hid (parts_len (c := 10) hL)
  have HCP := Lib.hid hcp
  have HB2 := Lib.hid hb
  have hLe : L.map bl = linesL (bl s) := hL.trans HBL.out
  have hLl : L.length = (linesL (bl s)).length := by rw [← hLe, List.length_map]
  have HAT := Lib.hid (fun j (hj : j < L.length) => (show (linesL (bl s))[j]? = some (bl (L[j]'hj)) by rw [← hLe, List.getElem?_map, List.getElem?_eq_getElem hj]; rfl))
  have HLN := Lib.hid hLl.symm
  have hl0 := HL.out.2.1
  have hbs := hb.size
  have hL9 : L.length ≤ 100000001 := by
    have h1 := HL.out.1
    have h2 := cutL_length 10 (bl B)
    rw [bl_length] at h2
    omega
  obtain ⟨m, hm⟩ : ∃ m, L.length = m + 1 := ⟨L.length - 1, by omega⟩
  have HM := Lib.hid hm
  rw [hm] at hL9 ⊢
  clear hL hcp hb hLe hLl hm hl0
  by_cases hbig : 1000 < m + 1
  · have hbig' : (1000 : Int) < (m : Int) + 1 := by omega
    have HR := Lib.hid (scr_full HNE.out (by rw [HLN.out, HM.out]; exact hbig))
    go_wp2
    go_ret3
    exact scrGives_nil HR.out rfl HB2.out
  · have hbig' : ¬ (1000 : Int) < (m : Int) + 1 := by omega
    have HR := Lib.hid (scr_read (b := false) HNE.out (by rw [HLN.out, HM.out]; exact hbig) HEND.out)
    go_wp2_with fail
    go_loopw [8, 27] (fun vl vi wr => ∃ (i : Nat) (l : List Ev), vi = .int .i64 (i : Int) ∧ i ≤ m + 1 ∧ l.length = i ∧ ScrAt false (linesL (bl s)) (scriptL (bl s)) i l ∧ Own encEv wr w2.heap.size 34 vl i l ∧ Below w2.heap.size w2 wr) (fun _ vi _ => m + 1 - (intOf vi).toNat)
    case atStart => exact ⟨0, [], rfl, Nat.zero_le _, rfl, by rw [HR.out]; exact scrAt_zero, Own.nil _ _ _, Below.refl _ _⟩
    case round =>
      obtain ⟨i, l, rfl, hi, hll, hsa, ho, hb⟩ := hrel
      have HSA := Lib.hid hsa
      have HO := Lib.hid ho
      have HB := Lib.hid hb
      have hsz := hb.size
      have HLL := Lib.hid hll
      clear hsa ho hll
      by_cases hlt : i < m + 1
      · have hlt' : (i : Int) < (m : Int) + 1 := by omega
        have hiL : i < L.length := by have := HM.out; omega
        have hpc := cellb hb hlt2 (HCP.out i hiL)
        have HT := Lib.hid (HAT.out i hiL)
        have hts := (HL.out.2.2 i hiL).1
        have HWr := Lib.hid (HW.out.next (HB2.out.trans (hb.mono hbs)))
        clear hb
        generalize (L[i]'hiL) = t at hpc HT hts
        go_wp2_with fail
        refine (one_any t _ HWr.out (by omega)).mono ?_
        intro x w6 hx
        obtain ⟨e, b, rfl, hbb, hgg, hb6⟩ := oneP_agg hx
        have HO6 := Lib.hid (HO.out.next hb6)
        have HB6 := Lib.hid (HB.out.trans (hb6.mono hsz))
        have h6s := Nat.le_trans hsz hb6.size
        have HBB := Lib.hid hbb
        have HGG := Lib.hid hgg
        clear hx hb6 hbb hgg
        go_upto_region 12 with fail
        generalize hV : World.alloc w6 _ = V
        have HOV := Lib.hid (hV ▸ HO6.out.alloc _ : Own encEv V w2.heap.size 34 _ i l)
        have HTV := Lib.hid (one_of hV)
        have HBV := Lib.hid (HB6.out.trans (HTV.out.2.mono h6s))
        have hvs := Nat.le_trans h6s HTV.out.2.size
        have hg := HTV.out.1
        have g0 := block_cell (i := 0) hg rfl
        have g1 := block_cell (i := 1) hg rfl
        have g2 := block_cell (i := 2) hg rfl
        have g3 := block_cell (i := 3) hg rfl
        have g4 := block_cell (i := 4) hg rfl
        have g5 := block_cell (i := 5) hg rfl
        have gf := fun i => block_free (i := i) hg
        have gs := block_lt hg
        have HGV := Lib.hid hg
        clear hV hg HTV
        have HOA := Lib.hid (HOV.out.alloc (.cells #[.int .i64 e.k, .int .i64 e.a, .int .i64 e.b, .int .i64 e.n, .int .i64 e.m, .int .u64 (e.s : Int)] 34))
        by_cases hlm : i = m
        · have hl1 : ((i : Int) == (m : Int)) = true := by simp; omega
          have HN := Lib.hid (HSA.out.cut (by rw [HLN.out, HM.out]; omega))
          clear hlm
          go_wp2
          go_ret3
          exact scrGives_nil HN.out rfl (HB2.out.trans (HBV.out.mono hbs))
        · have hl1 : ((i : Int) == (m : Int)) = false := by simp; omega
          by_cases hb0 : b = 0
          · have hb1 : ((b : Int) == 0) = true := by simp; omega
            have hb2 : ((b : Int) != 0) = false := by simp; omega
            have HN := Lib.hid (HSA.out.next HT.out (.inl (by rw [HLN.out, HM.out]; omega)) (by rw [HBB.out]; exact hb0) (HGG.out hb0))
            clear hb0
            go_wp2_with ((at_builtin; refine append_ev rfl _ _ rfl w2.heap.size _ i l rfl HOA.out V.heap.size _ e rfl (cnewb.trans rfl) (cnewb.trans rfl) (cnewb.trans rfl) (cnewb.trans rfl) (cnewb.trans rfl) (cnewb.trans rfl) (by omega) (by simp; omega) ?_; intro vl' u2 ho2 hg2))
            have HO2 := Lib.hid ho2
            have HB2' := Lib.hid ((HBV.out.alloc hvs (.cells #[.int .i64 e.k, .int .i64 e.a, .int .i64 e.b, .int .i64 e.n, .int .i64 e.m, .int .u64 (e.s : Int)] 34)).grown hg2 (by simp; omega) (fun j e => (HOA.out.lt j e).1))
            clear ho2 hg2
            go_roundw
            case rel => exact ⟨i + 1, l ++ [e], by go_num, hlt, by rw [List.length_append, HLL.out]; rfl, HN.out, HO2.out, HB2'.out⟩
            case measure => simp [intOf]; omega
          · have hb1 : ((b : Int) == 0) = false := by simp; omega
            have hb2 : ((b : Int) != 0) = true := by simp; omega
            have HN := Lib.hid (HSA.out.bad HT.out (.inl (by rw [HLN.out, HM.out]; omega)) HBB.out hb0)
            clear hb0
            go_wp2
            go_ret3
            exact scrGives_nil HN.out rfl (HB2.out.trans (HBV.out.mono hbs))
      · have hlt' : ¬ (i : Int) < (m : Int) + 1 := by omega
        have HF := Lib.hid (HSA.out.fin (by rw [HLN.out, HM.out]; omega))
        go_wp2
        go_ret3
        exact scrGives_of HF.out rfl HLL.out (HO.out.base hbs) (HB2.out.trans (HB.out.mono hbs))
theorem parse_prog (s : ByteArray) (w : World) (hw : EvW w) (hs : s.size ≤ 100000000) :
    Calls Tryd.prog 10 #[.string s] w (ScrGives (scriptL (bl s)) w) := by
  cases he : s.toList.isEmpty with
  | true => exact parse_e s w he
  | false =>
    cases h : decide ((bl s).getLast? = some 10) with
    | true => exact parse_t s w hw hs he h
    | false => exact parse_f s w hw hs he h
end Go.Proofs.YtcboopkalpmglaaDoor
