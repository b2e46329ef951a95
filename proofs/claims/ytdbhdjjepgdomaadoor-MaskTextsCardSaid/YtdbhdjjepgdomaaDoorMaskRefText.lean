/- A set's text is made by the document. Conditions: none. -/
import Derived.Test.YtdbhdjjepgdomaaDoorMaskFig
import Derived.Test.YtdbhdjjepgdomaaDoorMaskScan
namespace Go.Proofs.YtdbhdjjepgdomaaDoor
set_option linter.unusedVariables false
open Go.RowKit
def startsTo (m k : Nat) : List Nat := (List.range k).filter (startB m)
theorem startsTo_yes {m k : Nat} (h : startB m k = true) : startsTo m (k + 1) = startsTo m k ++ [k] := by
  unfold startsTo; rw [List.range_succ, List.filter_append]; simp [h]
theorem startsTo_no {m k : Nat} (h : startB m k = false) : startsTo m (k + 1) = startsTo m k := by
  unfold startsTo; rw [List.range_succ, List.filter_append]; simp [h]
def outTo (m k : Nat) : ByteArray := str (joinL ((startsTo m k).map (seg m)))
theorem str_append (a b : List Nat) : str (a ++ b) = str a ++ str b := by
  unfold str
  apply ByteArray.ext
  simp
theorem str_app (a b : List Nat) : str a ++ str b = str (a ++ b) := (str_append a b).symm
theorem outTo_no {m k : Nat} (h : startB m k = false) : outTo m (k + 1) = outTo m k := by unfold outTo; rw [startsTo_no h]
theorem outTo_first {m k : Nat} (h : startB m k = true) (he : outTo m k = str []) : outTo m (k + 1) = str (seg m k) := by
  unfold outTo at *
  rw [startsTo_yes h, List.map_append]
  have : joinL ((startsTo m k).map (seg m)) = [] := by
    have := congrArg ByteArray.size he
    rw [str_size, str_size] at this
    exact List.length_eq_zero_iff.1 this
  rw [joinL_nil (fun s hs => by obtain ⟨p, _, rfl⟩ := List.mem_map.1 hs; exact seg_ne m p)] at this
  rw [this]
  rfl
theorem outTo_next {m k : Nat} (h : startB m k = true) (he : outTo m k ≠ str []) : outTo m (k + 1) = outTo m k ++ str [44] ++ str (seg m k) := by
  unfold outTo at *
  rw [startsTo_yes h, List.map_append, List.map_cons, List.map_nil, joinL_snoc, if_neg, str_app, str_app]
  · congr 1; simp
  · intro e; rw [e] at he; exact he rfl
theorem seg_one {m k : Nat} (h : endOf m k = k) : seg m k = figL k := by unfold seg; rw [h, if_neg (Nat.lt_irrefl _)]
theorem seg_two {m k t : Nat} (h : endOf m k = t) (hk : k < t) : seg m k = figL k ++ ([45] ++ figL t) := by unfold seg; rw [h, if_pos hk]; rfl
theorem empty_iff (s : ByteArray) : s.toList.isEmpty = true ↔ s = str [] := by
  rw [Lib.toList_data, List.isEmpty_iff]
  constructor
  · intro h
    have : bl s = [] := by unfold bl; rw [h]; rfl
    rw [← str_bl s, this]
  · intro h; rw [h]; rfl
theorem fig_size (n : Nat) : (str (figL n)).size ≤ 2 := by rw [str_size]; unfold figL; split <;> simp
set_option maxHeartbeats 8000000 in
set_option maxRecDepth 100000 in
theorem refText_any (m : Nat) (w : World) (hm : m < 18446744073709551616) :
    Calls Tryd.prog 19 #[.int .u64 (m : Int)] w fun e w' => e = .returned (.string (str (textL m))) ∧ Below w.heap.size w w' := by
  go_enter Tryd.func19, Tryd.ntmps19
  go_wp2_with fail
  go_loopw [3, 4] (fun vo vp wr => ∃ (k : Nat) (S : ByteArray), k ≤ 64 ∧ vp = .int .i64 k ∧ vo = .string S ∧ S = outTo m k ∧ S.size ≤ 6 * k ∧ Below w.heap.size w wr) (fun _ vp _ => 64 - (intOf vp).toNat)
  case atStart => exact ⟨0, _, by omega, rfl, rfl, rfl, by decide, Below.refl _ _⟩
  case round =>
    obtain ⟨k, S, hk, rfl, rfl, hS, hsz, hB⟩ := hrel
    have HS := Lib.hid hS
    have HB := Lib.hid hB
    clear hS hB
    by_cases g1 : k < 64
    · have g2 : (k : Int) < 64 := by omega
      go_wp2_with fail
      refine (refHas_any m hm (k : Int) _ (by omega) (by omega)).mono ?_
      rintro e w' ⟨rfl, rfl⟩
      rw [hasB_nat g1]
      cases hb : m.testBit k
      · have HN := Lib.hid (outTo_no (show startB m k = false by unfold startB; rw [hb]; rfl))
        clear hb
        go_wp2
        go_roundw
        case rel => exact ⟨k + 1, S, by omega, by go_num, rfl, by rw [HN.out, HS.out], by omega, HB.out⟩
        case measure => simp [intOf]; omega
      · go_wp2_with fail
        refine (refHas_any m hm ((k : Int) - 1) _ (by omega) (by omega)).mono ?_
        rintro e w' ⟨rfl, rfl⟩
        cases hb2 : hasB m ((k : Int) - 1)
        · have HST := Lib.hid (show startB m k = true by
            unfold startB
            rw [hb]
            cases k with
            | zero => rfl
            | succ k =>
              rw [show (((k + 1 : Nat) : Int) - 1) = (k : Int) by omega, hasB_nat (by omega)] at hb2
              simp [hb2])
          have HBK := Lib.hid hb
          clear hb hb2
          obtain ⟨wo, rfl⟩ : ∃ wo : World, wo = wr := ⟨_, rfl⟩
          go_wp2_with fail
          go_loop [5] (fun vt => ∃ t : Nat, k ≤ t ∧ t < 64 ∧ vt = .int .i64 t ∧ ∀ q, k ≤ q → q ≤ t → m.testBit q = true) (fun vt => 64 - (intOf vt).toNat)
          case atStart => exact ⟨k, Nat.le_refl _, g1, rfl, fun q h1 h2 => (show k = q by omega) ▸ HBK.out⟩
          case round =>
            obtain ⟨t, ht1, ht2, rfl, hq⟩ := hrel
            have HQ := Lib.hid hq
            clear hq
            go_wp2_with fail
            refine (refHas_any m hm ((t : Int) + 1) _ (by omega) (by omega)).mono ?_
            rintro e w' ⟨rfl, rfl⟩
            cases hb3 : hasB m ((t : Int) + 1)
            · have HE := Lib.hid (show endOf m k = t from endOf_eq hm ht1 HQ.out (by
                by_cases e : t + 1 < 64
                · rw [show ((t : Int) + 1) = ((t + 1 : Nat) : Int) by omega, hasB_nat e] at hb3; exact hb3
                · exact high_bit hm (by omega)))
              clear hb3
              cases hE : S.toList.isEmpty
              · have HEM := Lib.hid (show S ≠ str [] from fun h => by rw [(empty_iff S).2 h] at hE; cases hE)
                rcases Nat.lt_or_ge t (k + 1) with htk | htk
                · have gt : ¬ (k : Int) < (t : Int) := by omega
                  have HV := Lib.hid (show S ++ { data := #[44] } ++ str (figL k) = outTo m (k + 1) by
                    rw [outTo_next HST.out (fun h => HEM.out (HS.out.trans h)), ← HS.out]
                    rw [seg_one (HE.out.trans (by omega))]
                    rw [show ({ data := #[44] } : ByteArray) = str [44] from rfl])
                  have HZ := Lib.hid (show (S ++ { data := #[44] } ++ str (figL k)).size ≤ 6 * (k + 1) by
                    have z1 := fig_size k
                    simp only [ByteArray.size_append]
                    have e1 : ({ data := #[44] } : ByteArray).size = 1 := rfl
                    have e2 : ({ data := #[45] } : ByteArray).size = 1 := rfl
                    omega)
                  have z1 := fig_size k
                  go_wp2_with fail
                  refine (refFig_any k _ (by omega)).mono ?_
                  rintro e w2 ⟨rfl, hb4⟩
                  have HB4 := Lib.hid (HB.out.trans (hb4.mono HB.out.size))
                  clear hb4
                  go_wp2
                  go_roundw
                  case rel => exact ⟨k + 1, _, by omega, by go_num, rfl, HV.out, HZ.out, HB4.out⟩
                  case measure => simp [intOf]; omega
                · have gt : (k : Int) < (t : Int) := by omega
                  have HV := Lib.hid (show S ++ { data := #[44] } ++ str (figL k) ++ { data := #[45] } ++ str (figL t) = outTo m (k + 1) by
                    rw [outTo_next HST.out (fun h => HEM.out (HS.out.trans h)), ← HS.out]
                    rw [seg_two HE.out htk]
                    rw [show ({ data := #[44] } : ByteArray) = str [44] from rfl, show ({ data := #[45] } : ByteArray) = str [45] from rfl]
                    simp only [str_append, ByteArray.append_assoc])
                  have HZ := Lib.hid (show (S ++ { data := #[44] } ++ str (figL k) ++ { data := #[45] } ++ str (figL t)).size ≤ 6 * (k + 1) by
                    have z1 := fig_size k
                    have z2 := fig_size t
                    simp only [ByteArray.size_append]
                    have e1 : ({ data := #[44] } : ByteArray).size = 1 := rfl
                    have e2 : ({ data := #[45] } : ByteArray).size = 1 := rfl
                    omega)
                  have z1 := fig_size k
                  have z2 := fig_size t
                  go_wp2_with fail
                  refine (refFig_any k _ (by omega)).mono ?_
                  rintro e w2 ⟨rfl, hb4⟩
                  have HB4 := Lib.hid (HB.out.trans (hb4.mono HB.out.size))
                  clear hb4
                  go_wp2_with fail
                  refine (refFig_any t _ (by omega)).mono ?_
                  rintro e w3 ⟨rfl, hb5⟩
                  have HB5 := Lib.hid (HB4.out.trans (hb5.mono HB4.out.size))
                  clear hb5
                  go_wp2
                  go_roundw
                  case rel => exact ⟨k + 1, _, by omega, by go_num, rfl, HV.out, HZ.out, HB5.out⟩
                  case measure => simp [intOf]; omega
              · have HEM := Lib.hid (show S = str [] from (empty_iff S).1 hE)
                rcases Nat.lt_or_ge t (k + 1) with htk | htk
                · have gt : ¬ (k : Int) < (t : Int) := by omega
                  have HV := Lib.hid (show S ++ str (figL k) = outTo m (k + 1) by
                    rw [outTo_first HST.out (HS.out.symm.trans HEM.out), HEM.out]
                    rw [seg_one (HE.out.trans (by omega))]
                    try rw [show (str [] : ByteArray) = ByteArray.empty from rfl]
                    simp only [ByteArray.empty_append])
                  have HZ := Lib.hid (show (S ++ str (figL k)).size ≤ 6 * (k + 1) by
                    have z1 := fig_size k
                    simp only [ByteArray.size_append]
                    have e1 : ({ data := #[44] } : ByteArray).size = 1 := rfl
                    have e2 : ({ data := #[45] } : ByteArray).size = 1 := rfl
                    omega)
                  have z1 := fig_size k
                  go_wp2_with fail
                  refine (refFig_any k _ (by omega)).mono ?_
                  rintro e w2 ⟨rfl, hb4⟩
                  have HB4 := Lib.hid (HB.out.trans (hb4.mono HB.out.size))
                  clear hb4
                  go_wp2
                  go_roundw
                  case rel => exact ⟨k + 1, _, by omega, by go_num, rfl, HV.out, HZ.out, HB4.out⟩
                  case measure => simp [intOf]; omega
                · have gt : (k : Int) < (t : Int) := by omega
                  have HV := Lib.hid (show S ++ str (figL k) ++ { data := #[45] } ++ str (figL t) = outTo m (k + 1) by
                    rw [outTo_first HST.out (HS.out.symm.trans HEM.out), HEM.out]
                    rw [seg_two HE.out htk]
                    rw [show ({ data := #[45] } : ByteArray) = str [45] from rfl]
                    simp only [str_append, ByteArray.append_assoc]
                    try rw [show (str [] : ByteArray) = ByteArray.empty from rfl]
                    simp only [ByteArray.empty_append])
                  have HZ := Lib.hid (show (S ++ str (figL k) ++ { data := #[45] } ++ str (figL t)).size ≤ 6 * (k + 1) by
                    have z1 := fig_size k
                    have z2 := fig_size t
                    simp only [ByteArray.size_append]
                    have e1 : ({ data := #[44] } : ByteArray).size = 1 := rfl
                    have e2 : ({ data := #[45] } : ByteArray).size = 1 := rfl
                    omega)
                  have z1 := fig_size k
                  have z2 := fig_size t
                  go_wp2_with fail
                  refine (refFig_any k _ (by omega)).mono ?_
                  rintro e w2 ⟨rfl, hb4⟩
                  have HB4 := Lib.hid (HB.out.trans (hb4.mono HB.out.size))
                  clear hb4
                  go_wp2_with fail
                  refine (refFig_any t _ (by omega)).mono ?_
                  rintro e w3 ⟨rfl, hb5⟩
                  have HB5 := Lib.hid (HB4.out.trans (hb5.mono HB4.out.size))
                  clear hb5
                  go_wp2
                  go_roundw
                  case rel => exact ⟨k + 1, _, by omega, by go_num, rfl, HV.out, HZ.out, HB5.out⟩
                  case measure => simp [intOf]; omega
            · have ht3 : t + 1 < 64 := by
                rcases Nat.lt_or_ge (t + 1) 64 with h | h
                · exact h
                · rw [hasB_high (by omega)] at hb3; cases hb3
              have HB3 := Lib.hid (show m.testBit (t + 1) = true by rw [show ((t : Int) + 1) = ((t + 1 : Nat) : Int) by omega, hasB_nat ht3] at hb3; exact hb3)
              clear hb3
              go_wp2
              go_round
              case rel => exact ⟨t + 1, by omega, ht3, by go_num, fun q h1 h2 => by
                by_cases e : q = t + 1
                · rw [e]; exact HB3.out
                · exact HQ.out q h1 (by omega)⟩
              case measure => simp [intOf]; omega
        · have HN := Lib.hid (outTo_no (show startB m k = false by
            unfold startB
            rw [hb]
            cases k with
            | zero => rw [hasB_low (by decide)] at hb2; cases hb2
            | succ k =>
              rw [show (((k + 1 : Nat) : Int) - 1) = (k : Int) by omega, hasB_nat (by omega)] at hb2
              simp [hb2]))
          clear hb hb2
          go_wp2
          go_roundw
          case rel => exact ⟨k + 1, S, by omega, by go_num, rfl, by rw [HN.out, HS.out], by omega, HB.out⟩
          case measure => simp [intOf]; omega
    · have g2 : ¬ (k : Int) < 64 := by omega
      obtain rfl : k = 64 := by omega
      have HF := Lib.hid (show S = str (textL m) from HS.out)
      go_wp2
      go_ret
      exact ⟨by rw [← HF.out]; rfl, HB.out⟩
end Go.Proofs.YtdbhdjjepgdomaaDoor
