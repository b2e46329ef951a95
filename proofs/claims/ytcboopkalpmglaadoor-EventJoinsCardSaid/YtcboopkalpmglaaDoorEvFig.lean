/- A number's figures, by the document: a function that calls itself. Conditions: as each says. -/
import Derived.Test.YtcboopkalpmglaaDoorEvWorld
import Derived.Laws.BytesArg
import Derived.Deep.RegionWith
import Derived.Outline
namespace Go.Proofs.YtcboopkalpmglaaDoor
set_option linter.unusedVariables false
open Go.RowKit
theorem conv_b (W : World) (b d : Nat) (hd : d < 10) (hc : W.cell? ⟨b, 0, none⟩ = some (.int .u8 (48 + (d : Int)))) : (convert 56 9 (.slice (some ⟨b, 0, none⟩) 1 1)).run Tryd.prog W = .ok (.string (str [48 + d])) W := by
  have h := run_convert_bytes_arg (P := Tryd.prog) W 56 5 Tryd.underlying56 Tryd.underlying5 b 0 1 1 [48 + (d : Int)] rfl (fun i hi => by
    obtain rfl : i = 0 := by omega
    exact hc) 9 Tryd.underlying9
  rw [h]
  have : strOfNums [48 + (d : Int)] = str [48 + d] := by
    unfold strOfNums str
    have e1 : (48 + (d : Int)).toNat = 48 + d := by omega
    simp [e1]
  rw [this]
set_option maxRecDepth 20000 in
set_option maxHeartbeats 2000000 in
theorem fig_a (n : Int) (d : Nat) (w : World) (h0 : n < 0) (h1 : -10 < n) (hd : d < 10) (key : wrap64 (48 - n.tmod 10) % 256 = 48 + (d : Int)) :
    Calls Tryd.prog 43 #[.int .i64 n] w fun e w' => e = .returned (.string (str [45, 48 + d])) ∧ Below w.heap.size w w' := by
  have hcv := conv_b (w.alloc (.cells #[.int .u8 (48 + (d : Int))] 5)) w.heap.size d hd ((cnewb (j := 0)).trans rfl)
  have KEY := Lib.hid key
  have HY := Lib.hid (show (⟨#[45]⟩ : ByteArray) ++ str [48 + d] = str [45, 48 + d] by unfold str; rfl)
  have hz : (str [48 + d]).size = 1 := str_size _
  clear key
  go_enter Tryd.func43, Tryd.ntmps43
  go_wp2_with fail
  rw [KEY.out, hcv]
  go_wp2
  go_ret
  exact ⟨by rw [← HY.out]; rfl, belowA w _⟩
set_option maxRecDepth 20000 in
set_option maxHeartbeats 2000000 in
theorem fig_b (n : Int) (d : Nat) (w : World) (h0 : n < 0) (h1 : ¬ -10 < n) (hd : d < 10) (key : wrap64 (48 - n.tmod 10) % 256 = 48 + (d : Int)) (m : Int) (hm : wrap64 (n.tdiv 10) = m) (l : List Nat) (hl : l.length ≤ 20)
    (ih : ∀ W : World, Calls Tryd.prog 43 #[.int .i64 m] W fun e w' => e = .returned (.string (str l)) ∧ Below W.heap.size W w') :
    Calls Tryd.prog 43 #[.int .i64 n] w fun e w' => e = .returned (.string (str (l ++ [48 + d]))) ∧ Below w.heap.size w w' := by
  have hcv := conv_b (w.alloc (.cells #[.int .u8 (48 + (d : Int))] 5)) w.heap.size d hd ((cnewb (j := 0)).trans rfl)
  have KEY := Lib.hid key
  have HM := Lib.hid hm
  have HY := Lib.hid (show str l ++ str [48 + d] = str (l ++ [48 + d]) by unfold str; simp [ByteArray.ext_iff])
  have hz : (str [48 + d]).size = 1 := str_size _
  have hzl : (str l).size ≤ 20 := by rw [str_size]; exact hl
  clear key hm
  go_enter Tryd.func43, Tryd.ntmps43
  go_wp2_with fail
  rw [KEY.out, hcv]
  go_wp2_with fail
  rw [HM.out]
  refine (ih _).mono ?_
  rintro e w1 ⟨rfl, hb⟩
  have HB := Lib.hid (nx (belowA w _) hb)
  clear hb
  go_wp2
  go_ret
  exact ⟨by rw [← HY.out]; rfl, HB.out⟩
set_option maxRecDepth 20000 in
set_option maxHeartbeats 2000000 in
theorem fig_c (n : Nat) (w : World) (hd : n < 10) :
    Calls Tryd.prog 43 #[.int .i64 (n : Int)] w fun e w' => e = .returned (.string (str [48 + n])) ∧ Below w.heap.size w w' := by
  have hcv := conv_b (w.alloc (.cells #[.int .u8 (48 + (n : Int))] 5)) w.heap.size n hd ((cnewb (j := 0)).trans rfl)
  have g0 : ¬ (n : Int) < 0 := by omega
  have g1 : (n : Int) < 10 := by omega
  go_enter Tryd.func43, Tryd.ntmps43
  go_wp2
  go_ret
  exact ⟨rfl, belowA w _⟩
theorem cellAfter {W w1 : World} {C : Array Value} {t : Nat} {v : Value} (hb : Below (W.alloc (.cells C t)).heap.size (W.alloc (.cells C t)) w1) (hv : C[0]? = some v) : w1.cell? ⟨W.heap.size, 0, none⟩ = some v ∧ Below W.heap.size W w1 :=
  ⟨cellb hb (by simp) (cnewb.trans hv), nx (belowA W _) hb⟩
set_option maxRecDepth 20000 in
set_option maxHeartbeats 2000000 in
theorem fig_d (n : Int) (d : Nat) (w : World) (h1 : ¬ n < 10) (hd : d < 10) (key : IntKind.u8.wrap (IntKind.i64.wrap (48 + n.tmod 10)) = 48 + (d : Int)) (m : Int) (hm : IntKind.i64.wrap (n.tdiv 10) = m) (l : List Nat) (hl : l.length ≤ 20)
    (ih : ∀ W : World, Calls Tryd.prog 43 #[.int .i64 m] W fun e w' => e = .returned (.string (str l)) ∧ Below W.heap.size W w') :
    Calls Tryd.prog 43 #[.int .i64 n] w fun e w' => e = .returned (.string (str (l ++ [48 + d]))) ∧ Below w.heap.size w w' := by
  have hcv : ∀ (W : World) (b : Nat), W.cell? ⟨b, 0, none⟩ = some (.int .u8 (IntKind.u8.wrap (IntKind.i64.wrap (48 + n.tmod 10)))) → (convert 56 9 (.slice (some ⟨b, 0, none⟩) 1 1)).run Tryd.prog W = .ok (.string (str [48 + d])) W := fun W b hc => conv_b W b d hd (by rw [hc, key])
  have HM := Lib.hid hm
  have HY := Lib.hid (show str l ++ str [48 + d] = str (l ++ [48 + d]) by unfold str; simp [ByteArray.ext_iff])
  have hz : (str [48 + d]).size = 1 := str_size _
  have hzl : (str l).size ≤ 20 := by rw [str_size]; exact hl
  have g0 : ¬ n < 0 := by omega
  clear key hm
  go_enter Tryd.func43, Tryd.ntmps43
  go_upto_region 8 with fail
  go_region_with (first
    | (go_at_call 43; rw [HM.out]; refine (ih _).mono ?_; rintro e w1 ⟨rfl, hb⟩
       first
         | (obtain ⟨hc, hB⟩ := cellAfter (W := w.drew) hb rfl
            have HB := Lib.hid (nx (Below.refl _ w).drew hB)
            change w1.cell? ⟨w.heap.size, 0, none⟩ = _ at hc
            clear hb hB)
         | (have HB := Lib.hid (nx (Below.refl _ w).drew hb)
            clear hb)))
  all_goals
    go_wp2
    go_ret
    refine ⟨by rw [← HY.out]; rfl, ?_⟩
    first
      | exact HB.out
      | exact HB.out.alloc HB.out.size _
theorem i64_in {n : Int} (h0 : -9223372036854775808 ≤ n) (h1 : n ≤ 9223372036854775807) : wrap64 n = n := by unfold wrap64; omega
theorem i64_wrap (n : Int) : IntKind.i64.wrap n = wrap64 n := by
  unfold wrap64
  simp [IntKind.wrap, IntKind.signed, IntKind.bits]
  omega
theorem decN_lt {u k : Nat} (hk : 1 ≤ k) (h : u < 10 ^ k) : (decN u).length ≤ k := by
  unfold decN; rw [List.length_map, Lib.decDigits_length]
  induction k generalizing u with
  | zero => omega
  | succ k ih =>
    by_cases h9 : u < 10
    · rw [Lib.nDigits_small h9]; omega
    · rcases Nat.lt_or_ge u (10 ^ k) with q | q
      · have hk1 : 1 ≤ k := by
          rcases Nat.eq_zero_or_pos k with rfl | h
          · simp at q; omega
          · exact h
        have := ih hk1 q; omega
      · rw [Lib.nDigits_unique k u q h]; omega
theorem td_neg {n : Int} (h : n < 0) : n.tdiv 10 = -((-n) / 10) ∧ n.tmod 10 = -((-n) % 10) := by
  have e : n = -(-n) := by omega
  constructor
  · conv => lhs; rw [e]
    rw [Int.neg_tdiv, Int.tdiv_eq_ediv_of_nonneg (by omega)]
  · conv => lhs; rw [e]
    rw [Int.neg_tmod, Int.tmod_eq_emod_of_nonneg (by omega)]
theorem td_pos {n : Int} (h : 0 ≤ n) : n.tdiv 10 = n / 10 ∧ n.tmod 10 = n % 10 := ⟨Int.tdiv_eq_ediv_of_nonneg h, Int.tmod_eq_emod_of_nonneg h⟩
theorem dec_neg_small {n : Int} (h0 : n < 0) (h1 : -10 < n) : dec n = [45, 48 + n.natAbs] := by
  unfold dec; rw [if_pos h0, decN_small (by omega)]
theorem dec_neg_big {n : Int} (h0 : n < 0) (h1 : ¬ -10 < n) : dec n = dec (n.tdiv 10) ++ [48 + n.natAbs % 10] := by
  rw [(td_neg h0).1]
  unfold dec; rw [if_pos h0, decN_big (by omega), if_pos (by omega)]
  have : (-((-n) / 10)).natAbs = n.natAbs / 10 := by omega
  rw [this]; rfl
theorem dec_pos_big {n : Int} (h1 : ¬ n < 10) : dec n = dec (n.tdiv 10) ++ [48 + n.toNat % 10] := by
  rw [(td_pos (by omega)).1]
  unfold dec; rw [if_neg (by omega), decN_big (by omega), if_neg (by omega)]
  have : (n / 10).toNat = n.toNat / 10 := by omega
  rw [this]
/-- The figures of every number. -/
theorem fig_any (k : Nat) : ∀ (n : Int) (w : World), n.natAbs ≤ k → -9223372036854775808 ≤ n → n ≤ 9223372036854775807 →
    Calls Tryd.prog 43 #[.int .i64 n] w fun e w' => e = .returned (.string (str (dec n))) ∧ Below w.heap.size w w' := by
  induction k using Nat.strongRecOn with
  | _ k ih =>
    intro n w hk l1 l2
    by_cases h0 : n < 0
    · obtain ⟨q, r⟩ := td_neg h0
      by_cases h1 : -10 < n
      · rw [dec_neg_small h0 h1]
        exact fig_a n n.natAbs w h0 h1 (by omega) (by rw [r, i64_in (by omega) (by omega)]; omega)
      · rw [dec_neg_big h0 h1]
        have hm : wrap64 (n.tdiv 10) = n.tdiv 10 := by rw [q]; exact i64_in (by omega) (by omega)
        exact fig_b n (n.natAbs % 10) w h0 h1 (by omega) (by rw [r, i64_in (by omega) (by omega)]; omega) _ hm _ (dec_len (by omega) (by omega)) fun W => ih (n.tdiv 10).natAbs (by omega) _ W (Nat.le_refl _) (by omega) (by omega)
    · obtain ⟨q, r⟩ := td_pos (n := n) (by omega)
      by_cases h1 : n < 10
      · obtain ⟨m, rfl⟩ : ∃ m : Nat, n = m := ⟨n.toNat, by omega⟩
        have e : dec (m : Int) = [48 + m] := by
          unfold dec; rw [if_neg (by omega), decN_small (by omega)]; rfl
        rw [e]
        exact fig_c m w (by omega)
      · rw [dec_pos_big h1]
        have hm : IntKind.i64.wrap (n.tdiv 10) = n.tdiv 10 := by rw [i64_wrap, q]; exact i64_in (by omega) (by omega)
        exact fig_d n (n.toNat % 10) w h1 (by omega) (by rw [r, i64_wrap, i64_in (by omega) (by omega)]; simp [IntKind.wrap, IntKind.signed, IntKind.bits]; omega) _ hm _ (dec_len (by omega) (by omega)) fun W => ih (n.tdiv 10).natAbs (by omega) _ W (Nat.le_refl _) (by omega) (by omega)
end Go.Proofs.YtcboopkalpmglaaDoor
