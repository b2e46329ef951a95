/- Sets of numbers below 64, the program's functions and the document's: whether one is in it, the first, those below one, all from one to another. Conditions: as each says. A set's text is read by the document: number, split, part, Parse. Conditions: none. A set's text is read by the document: Parse. Conditions: none. A number's figures, by the document and by the statements. Conditions: a number below 100. A set's text is made by the document. Conditions: none. -/
import Derived.Test.YtcboopkalpmglaaDoorMaskPlain
import Derived.Test.YtcboopkalpmglaaDoorTz
import Derived.Deep.Cut
import Derived.Outline
import Derived.Test.YtcboopkalpmglaaDoorMaskParse
import Derived.Test.YtcboopkalpmglaaDoorBytes
import Derived.Test.YtcboopkalpmglaaDoorMem
import Derived.Test.YtcboopkalpmglaaDoorProg
import Derived.Laws.BytesArg
namespace Go.Proofs.YtcboopkalpmglaaDoor
set_option linter.unusedVariables false
open Go.RowKit
def hasB (m : Nat) (p : Int) : Bool := decide (0 ≤ p) && (decide (p < 64) && m.testBit p.toNat)
theorem hasB_low {m : Nat} {p : Int} (h : p < 0) : hasB m p = false := by unfold hasB; simp; omega
theorem hasB_high {m : Nat} {p : Int} (h : 64 ≤ p) : hasB m p = false := by unfold hasB; simp; omega
theorem hasB_nat {m k : Nat} (h : k < 64) : hasB m (k : Int) = m.testBit k := by unfold hasB; simp; omega
theorem bit_and {m k : Nat} (hm : m < 18446744073709551616) : (bits BinOp.and IntKind.u64 ((m : Int) / 2 ^ k) 1 == 1) = m.testBit k := by
  have h1 : ((m : Int) / 2 ^ k) = ((m / 2 ^ k : Nat) : Int) := by simp
  rw [h1, show (1 : Int) = ((1 : Nat) : Int) from rfl, u64_and_nat _ _ (Nat.lt_of_le_of_lt (Nat.div_le_self _ _) hm) (by decide), Nat.and_one_is_mod, Nat.testBit_eq_decide_div_mod_eq]
  rw [Bool.eq_iff_iff]
  simp
  omega
theorem half_pow (m k : Nat) : m / 2 ^ k / 2 = m / 2 ^ (k + 1) := by
  rw [Nat.pow_succ, ← Nat.div_div_eq_div_mul]
theorem bit_mod {m k M : Nat} (h : M = m / 2 ^ k) : ((M : Int) % 2 == 1) = m.testBit k := by
  rw [Nat.testBit_eq_decide_div_mod_eq, ← h, Bool.eq_iff_iff]
  rw [beq_iff_eq, decide_eq_true_eq]
  omega
set_option maxHeartbeats 1000000 in
theorem refHas_any (m : Nat) (hm : m < 18446744073709551616) (p : Int) (w : World) (h1 : -9223372036854775808 ≤ p) (h2 : p ≤ 9223372036854775807) :
    Calls Tryd.prog 58 #[.int .u64 (m : Int), .int .i64 p] w fun e w' => e = .returned (.bool (hasB m p)) ∧ w = w' := by
  go_enter Tryd.func58, Tryd.ntmps58
  go_wp2_with fail
  go_loop [0, 5] (fun vm vi => ∃ k M : Nat, k ≤ 64 ∧ (k = 0 ∨ (k : Int) ≤ p) ∧ vi = .int .i64 k ∧ vm = .int .u64 (M : Int) ∧ M = m / 2 ^ k) (fun _ vi => 64 - (intOf vi).toNat)
  case atStart => exact ⟨0, m, by omega, .inl rfl, rfl, rfl, by simp⟩
  case round =>
    obtain ⟨k, M, hk, hkp, rfl, rfl, hM⟩ := hrel
    have hlt : M < 18446744073709551616 := by rw [hM]; exact Nat.lt_of_le_of_lt (Nat.div_le_self _ _) hm
    have HM := Lib.hid hM
    clear hM
    by_cases g1 : (k : Int) < p
    · by_cases g2 : k < 64
      · have g3 : (k : Int) < 64 := by omega
        go_wp2
        go_round
        case rel => exact ⟨k + 1, M / 2, by omega, .inr (by omega), by go_num, by go_num, by rw [HM.out, half_pow]⟩
        case measure => simp [intOf]; omega
      · have g3 : ¬ (k : Int) < 64 := by omega
        have g4 : ¬ p < 64 := by omega
        have g5 : (0 : Int) ≤ p := by omega
        have HB := Lib.hid (hasB_high (m := m) (p := p) (by omega))
        go_wp2
        go_ret
        exact ⟨by rw [HB.out]; rfl, rfl⟩
    · by_cases g5 : (0 : Int) ≤ p
      · obtain ⟨q, rfl⟩ := Int.eq_ofNat_of_zero_le g5
        obtain rfl : q = k := by omega
        by_cases g2 : q < 64
        · have g3 : (q : Int) < 64 := by omega
          have HB := Lib.hid ((hasB_nat (m := m) (k := q) g2).trans (bit_mod HM.out).symm)
          go_wp2
          go_ret
          exact ⟨by rw [HB.out]; rfl, rfl⟩
        · have g3 : ¬ (q : Int) < 64 := by omega
          have HB := Lib.hid (hasB_high (m := m) (p := (q : Int)) (by omega))
          go_wp2
          go_ret
          exact ⟨by rw [HB.out]; rfl, rfl⟩
      · have HB := Lib.hid (hasB_low (m := m) (p := p) (by omega))
        go_wp2
        go_ret
        exact ⟨by rw [HB.out]; rfl, rfl⟩
def firstI (m : Nat) : Int := if m = 0 then -1 else (Lib.ctz 64 m : Int)
/-- Those below n. -/
def onlyN (m : Nat) (n : Int) : Nat := if n ≤ 0 then 0 else if 64 ≤ n then m else m % 2 ^ n.toNat
theorem span_zero (m n : Nat) : m &&& span 0 n = if 64 ≤ n + 1 then m % 2 ^ 64 else m % 2 ^ (n + 1) := by
  refine Nat.eq_of_testBit_eq fun q => ?_
  rw [Nat.testBit_and, span_bit]
  split
  · rw [Nat.testBit_mod_two_pow, Bool.eq_iff_iff]; cases m.testBit q <;> simp <;> omega
  · rw [Nat.testBit_mod_two_pow, Bool.eq_iff_iff]; cases m.testBit q <;> simp <;> omega
theorem low_bits {m k : Nat} (hm : m < 18446744073709551616) (hk : k < 64) : bits .and .u64 (m : Int) (IntKind.u64.wrap (IntKind.u64.wrap (2 ^ k) - 1)) = ((m % 2 ^ k : Nat) : Int) := by
  have e : (2 : Int) ^ k = ((2 ^ k : Nat) : Int) := by simp
  have hlt : 2 ^ k < 18446744073709551616 := (Nat.pow_lt_pow_right (by decide) hk : 2 ^ k < 2 ^ 64)
  have hpos : 0 < 2 ^ k := Nat.two_pow_pos k
  have h1 : IntKind.u64.wrap (IntKind.u64.wrap (2 ^ k) - 1) = ((2 ^ k - 1 : Nat) : Int) := by
    rw [IntKind.wrap_u64, IntKind.wrap_u64, e]
    generalize 2 ^ k = X at hlt hpos
    omega
  rw [h1, u64_and_nat _ _ hm (by omega), Nat.and_two_pow_sub_one_eq_mod]
theorem set_step {a b k M O : Nat} (hM : M = spanTo a b k) (hO : O = 2 ^ k % 18446744073709551616) (hk : k < 64) :
    M + O < 18446744073709551616 ∧ O < 18446744073709551616 ∧ ((a ≤ k ∧ k ≤ b) → M + O = spanTo a b (k + 1)) ∧ (¬ (a ≤ k ∧ k ≤ b) → M = spanTo a b (k + 1)) ∧ 2 * O % 18446744073709551616 = 2 ^ (k + 1) % 18446744073709551616 := by
  have hlt : 2 ^ k < 18446744073709551616 := (Nat.pow_lt_pow_right (by decide) hk : 2 ^ k < 2 ^ 64)
  have hO' : O = 2 ^ k := by rw [hO, Nat.mod_eq_of_lt hlt]
  have hs := spanTo_lt a b k
  have hle : 2 ^ (k + 1) ≤ 18446744073709551616 := (Nat.pow_le_pow_right (by decide) (by omega) : 2 ^ (k + 1) ≤ 2 ^ 64)
  have hp : 2 ^ (k + 1) = 2 ^ k + 2 ^ k := by rw [Nat.pow_succ]; omega
  subst hM
  rw [hO']
  refine ⟨by omega, hlt, fun h => by rw [spanTo, if_pos h], fun h => by rw [spanTo, if_neg h, Nat.add_zero], by rw [hp, Nat.two_mul]⟩
set_option maxHeartbeats 1000000 in
theorem set_any (a b : Nat) (w : World) (ha : a < 9223372036854775808) (hb : b < 9223372036854775808) :
    Calls Tryd.prog 85 #[.int .i64 (a : Int), .int .i64 (b : Int)] w fun e w' => e = .returned (.int .u64 (span a b : Nat)) ∧ w = w' := by
  go_enter Tryd.func85, Tryd.ntmps85
  go_wp2_with fail
  go_loop [5, 6, 7] (fun vm vo vp => ∃ k M O : Nat, k ≤ 64 ∧ vp = .int .i64 k ∧ vm = .int .u64 (M : Int) ∧ vo = .int .u64 (O : Int) ∧ M = spanTo a b k ∧ O = 2 ^ k % 18446744073709551616) (fun _ _ vp => 64 - (intOf vp).toNat)
  case atStart => exact ⟨0, 0, 1, by omega, rfl, rfl, rfl, rfl, rfl⟩
  case round =>
    obtain ⟨k, M, O, hk, rfl, rfl, rfl, hM, hO⟩ := hrel
    by_cases g1 : k < 64
    · have g2 : (k : Int) < 64 := by omega
      obtain ⟨s1, s2, s3, s4, s5⟩ := set_step hM hO g1
      have HM := Lib.hid hM
      have HO := Lib.hid hO
      have HS3 := Lib.hid s3
      have HS4 := Lib.hid s4
      have HS5 := Lib.hid s5
      clear hM hO s3 s4 s5
      by_cases g3 : a ≤ k
      · have g4 : (a : Int) ≤ (k : Int) := by omega
        by_cases g5 : k ≤ b
        · have g6 : (k : Int) ≤ (b : Int) := by omega
          go_wp2
          go_round
          case rel => exact ⟨k + 1, M + O, 2 * O % 18446744073709551616, by omega, by go_num, by go_num, by rw [IntKind.wrap_u64]; go_num, HS3.out ⟨g3, g5⟩, HS5.out⟩
          case measure => simp [intOf]; omega
        · have g6 : ¬ (k : Int) ≤ (b : Int) := by omega
          go_wp2
          go_round
          case rel => exact ⟨k + 1, M, 2 * O % 18446744073709551616, by omega, by go_num, by go_num, by rw [IntKind.wrap_u64]; go_num, HS4.out (by omega), HS5.out⟩
          case measure => simp [intOf]; omega
      · have g4 : ¬ (a : Int) ≤ (k : Int) := by omega
        go_wp2
        go_round
        case rel => exact ⟨k + 1, M, 2 * O % 18446744073709551616, by omega, by go_num, by go_num, by rw [IntKind.wrap_u64]; go_num, HS4.out (by omega), HS5.out⟩
        case measure => simp [intOf]; omega
    · have g2 : ¬ (k : Int) < 64 := by omega
      obtain rfl : k = 64 := by omega
      have HM := Lib.hid (show M = span a b from hM)
      clear hM hO
      go_wp2
      go_ret
      exact ⟨by rw [HM.out]; rfl, rfl⟩
theorem only_span {m : Nat} (hm : m < 18446744073709551616) {n : Int} (hn : 0 < n) : m &&& span 0 (n - 1).toNat = onlyN m n := by
  rw [span_zero]
  unfold onlyN
  rw [if_neg (show ¬ n ≤ 0 by omega)]
  by_cases g : 64 ≤ n
  · rw [if_pos (show 64 ≤ (n - 1).toNat + 1 by omega), if_pos g]; exact Nat.mod_eq_of_lt hm
  · rw [if_neg (show ¬ 64 ≤ (n - 1).toNat + 1 by omega), if_neg g, show (n - 1).toNat + 1 = n.toNat by omega]
theorem join_any (a b : Nat) (ha : a < 18446744073709551616) (hb : b < 18446744073709551616) (w : World) :
    Calls Tryd.prog 69 #[.int .u64 (a : Int), .int .u64 (b : Int)] w fun e w' => e = .returned (.int .u64 (a ||| b : Nat)) ∧ w = w' := by
  have HA := Lib.hid (u64_or_nat a b ha hb)
  go_enter Tryd.func69, Tryd.ntmps69
  go_wp2
  go_ret
  exact ⟨by rw [← HA.out]; rfl, rfl⟩
end Go.Proofs.YtcboopkalpmglaaDoor
namespace Go.Proofs.YtcboopkalpmglaaDoor
set_option linter.unusedVariables false
open Go.RowKit
/-- A number's value so far. -/
def valTo (l : List Nat) (k : Nat) : Nat := (l.take k).foldl (fun n c => 10 * n + (c - 48)) 0
theorem valTo_succ {l : List Nat} {k c : Nat} (h : l[k]? = some c) : valTo l (k + 1) = 10 * valTo l k + (c - 48) := by
  unfold valTo
  rw [List.take_add_one, h, List.foldl_append]
  rfl
theorem number_long {l : List Nat} (h : l.length = 0 ∨ 2 < l.length) : numberL l = none := by
  match l, h with
  | [], _ => rfl
  | [x], h => simp at h
  | [x, y], h => simp at h
  | x :: y :: z :: l, _ => rfl
theorem number_zero {l : List Nat} (h : l.length = 2) (h0 : l[0]? = some 48) : numberL l = none := by
  match l, h with
  | [x, y], _ => simp at h0; subst h0; simp [numberL]
theorem number_bad {l : List Nat} {k c : Nat} (h : l[k]? = some c) (hc : ¬ (48 ≤ c ∧ c ≤ 57)) : numberL l = none := by
  cases hn : numberL l with
  | none => rfl
  | some v => exact absurd (numberL_in hn c (List.mem_of_getElem? h)) hc
theorem number_good {l : List Nat} (h : l.length = 1 ∨ (l.length = 2 ∧ l[0]? ≠ some 48)) (hd : ∀ k c : Nat, l[k]? = some c → 48 ≤ c ∧ c ≤ 57) : numberL l = some (valTo l l.length) := by
  match l, h with
  | [x], _ => have := hd 0 x rfl; simp [numberL, this, valTo]
  | [x, y], h => have h1 := hd 0 x rfl; have h2 := hd 1 y rfl; simp at h; simp [numberL, h1, h2, h, valTo]
  | [], h => simp at h
  | x :: y :: z :: l, h => simp at h
def NumGives (s : ByteArray) (w : World) (e : Ending) (w' : World) : Prop := e = .returned (.tuple #[.int .i64 (((numberL (bl s)).getD 0 : Nat) : Int), .bool (numberL (bl s)).isSome]) ∧ w = w'
theorem num_none {s : ByteArray} {w : World} {e : Ending} (h : numberL (bl s) = none) (he : e = .returned (.tuple #[.int .i64 0, .bool false])) : NumGives s w e w := by
  unfold NumGives; rw [h]; exact ⟨he, rfl⟩
theorem num_some {s : ByteArray} {w : World} {e : Ending} {v : Nat} (h : numberL (bl s) = some v) (he : e = .returned (.tuple #[.int .i64 (v : Int), .bool true])) : NumGives s w e w := by
  unfold NumGives; rw [h]; exact ⟨he, rfl⟩
set_option maxHeartbeats 2000000 in
theorem refNumber_any (s : ByteArray) (w : World) (hs : s.size ≤ 9223372036854775807) :
    Calls Tryd.prog 84 #[.string s] w (NumGives s w) := by
  have hbl := bl_length s
  by_cases h1 : s.size < 1
  · have HN := Lib.hid (number_long (l := bl s) (by omega))
    have g1 : (s.size : Int) < 1 := by omega
    clear hbl
    go_enter Tryd.func84, Tryd.ntmps84
    go_wp2
    go_ret2
    exact num_none HN.out rfl
  · by_cases h2 : 2 < s.size
    · have HN := Lib.hid (number_long (l := bl s) (by omega))
      have g1 : ¬ (s.size : Int) < 1 := by omega
      have g2 : (2 : Int) < (s.size : Int) := by omega
      clear hbl
      go_enter Tryd.func84, Tryd.ntmps84
      go_wp2
      go_ret2
      exact num_none HN.out rfl
    · have g1 : ¬ (s.size : Int) < 1 := by omega
      have g2 : ¬ (2 : Int) < (s.size : Int) := by omega
      have g3 : 0 < s.size := by omega
      have hb0 := bl_at g3
      by_cases hz : s.size = 2 ∧ (s[0]'g3).toNat = 48
      · have HN := Lib.hid (number_zero (l := bl s) (by omega) (by rw [hb0, hz.2]))
        have g4 : ((s.size : Int) == 2) = true := by simp; omega
        have g5 : (((s[0]'g3).toNat : Int) == 48) = true := by simp; omega
        clear hbl hb0 hz
        go_enter Tryd.func84, Tryd.ntmps84
        go_wp2
        go_ret2
        exact num_none HN.out rfl
      · have hcond : (bl s).length = 1 ∨ ((bl s).length = 2 ∧ (bl s)[0]? ≠ some 48) := by
          rw [hbl, hb0]
          by_cases e : s.size = 2
          · exact .inr ⟨e, fun h => hz ⟨e, by injection h⟩⟩
          · exact .inl (by omega)
        have HG := Lib.hid (fun (hd : ∀ k c : Nat, (bl s)[k]? = some c → 48 ≤ c ∧ c ≤ 57) => number_good (l := bl s) hcond hd)
        clear hcond
        have HL := Lib.hid hbl
        have g4 : s.size = 1 ∧ ((s.size : Int) == 2) = false ∨ ((s.size : Int) == 2) = true ∧ (((s[0]'g3).toNat : Int) == 48) = false := by
          by_cases e : s.size = 2
          · refine .inr ⟨by simp; omega, ?_⟩
            have : (s[0]'g3).toNat ≠ 48 := fun h => hz ⟨e, h⟩
            simp; omega
          · exact .inl ⟨by omega, by simp; omega⟩
        have hs2 : s.size ≤ 2 := by omega
        clear hbl hb0 hz
        rcases g4 with ⟨_, g4⟩ | ⟨g4, g5⟩
        all_goals
          go_enter Tryd.func84, Tryd.ntmps84
          go_wp2_with fail
          go_loop [4, 5] (fun vn vi => ∃ k n : Nat, k ≤ s.size ∧ vi = .int .i64 k ∧ vn = .int .i64 (n : Int) ∧ n = valTo (bl s) k ∧ n < 10 ^ k ∧ ∀ j c, j < k → (bl s)[j]? = some c → 48 ≤ c ∧ c ≤ 57) (fun _ vi => s.size - (intOf vi).toNat)
          case atStart => exact ⟨0, 0, Nat.zero_le _, rfl, rfl, rfl, by decide, fun j c h => by omega⟩
          case round =>
            obtain ⟨k, n, hk, rfl, rfl, hn, hn10, hd⟩ := hrel
            have HN := Lib.hid hn
            have HD := Lib.hid hd
            have hn100 : n ≤ 100 := Nat.le_trans (Nat.le_of_lt hn10) (by have := Nat.pow_le_pow_right (n := 10) (by decide) (show k ≤ 2 by omega); omega)
            have HT := Lib.hid hn10
            clear hn hd hn10
            by_cases hlt : k < s.size
            · have hlt' : (k : Int) < (s.size : Int) := by omega
              have hbk := bl_at hlt
              by_cases hc : 48 ≤ (s[k]'hlt).toNat ∧ (s[k]'hlt).toNat ≤ 57
              · have HB := Lib.hid hbk
                have c1 : ¬ ((s[k]'hlt).toNat : Int) < 48 := by omega
                have c2 : ¬ (57 : Int) < ((s[k]'hlt).toNat : Int) := by omega
                have c3 := hc.1
                have c4 := hc.2
                clear hbk hc
                go_wp2
                go_round
                case rel =>
                  refine ⟨k + 1, 10 * n + ((s[k]'hlt).toNat - 48), by omega, by go_num, by congr 1; omega, by rw [valTo_succ HB.out, ← HN.out], ?_, fun j c hj hc => ?_⟩
                  · have := HT.out; rw [Nat.pow_succ]; omega
                  · by_cases e : j = k
                    · subst e
                      have := hc.symm.trans HB.out
                      injection this with this
                      omega
                    · exact HD.out j c (by omega) hc
                case measure => simp [intOf]; omega
              · have HNO := Lib.hid (number_bad hbk hc)
                clear hbk
                rcases Nat.lt_or_ge (s[k]'hlt).toNat 48 with c1 | c1
                · have c2 : ((s[k]'hlt).toNat : Int) < 48 := by omega
                  clear hc
                  go_wp2
                  go_ret2
                  exact num_none HNO.out rfl
                · have c2 : ¬ ((s[k]'hlt).toNat : Int) < 48 := by omega
                  have c3 : (57 : Int) < ((s[k]'hlt).toNat : Int) := by omega
                  clear hc
                  go_wp2
                  go_ret2
                  exact num_none HNO.out rfl
            · have hlt' : ¬ (k : Int) < (s.size : Int) := by omega
              obtain rfl : k = s.size := by omega
              have HY := Lib.hid (show numberL (bl s) = some n by rw [HG.out (fun j c h => HD.out j c (by have := (List.getElem?_eq_some_iff.1 h).1; rw [HL.out] at this; exact this) h), HN.out, HL.out])
              go_wp2
              go_ret2
              exact num_some HY.out rfl
def SplitGives (s : ByteArray) (c : Nat) (w : World) (e : Ending) (w' : World) : Prop := e = .returned (.tuple #[.string (str (splitL c (bl s)).1), .string (str ((splitL c (bl s)).2.getD [])), .bool (splitL c (bl s)).2.isSome]) ∧ Below w.heap.size w w'
theorem split_at {s : ByteArray} {k c : Nat} (hk : k < s.size) (hc : (s[k]'hk).toNat = c) (hq : ∀ x ∈ (bl s).take k, x ≠ c) : splitL c (bl s) = ((bl s).take k, some ((bl s).drop (k + 1))) := by
  have e : bl s = (bl s).take k ++ c :: (bl s).drop (k + 1) := by rw [← hc, ← bl_drop s k hk, List.take_append_drop]
  have := splitL_of (b := (bl s).drop (k + 1)) hq
  rw [← e] at this
  exact this
set_option maxHeartbeats 2000000 in
theorem refSplit_any (s : ByteArray) (c : Nat) (w : World) (hs : s.size ≤ 9223372036854775807) (hc : c < 256) :
    Calls Tryd.prog 67 #[.string s, .int .u8 (c : Int)] w (SplitGives s c w) := by
  have HL := Lib.hid (bl_length s)
  go_enter Tryd.func67, Tryd.ntmps67
  go_wp2_with fail
  go_loop [7] (fun vi => ∃ k : Nat, k ≤ s.size ∧ vi = .int .i64 k ∧ ∀ x ∈ (bl s).take k, x ≠ c) (fun vi => s.size - (intOf vi).toNat)
  case atStart => exact ⟨0, Nat.zero_le _, rfl, fun x hx => by simp at hx⟩
  case round =>
    obtain ⟨k, hk, rfl, hq⟩ := hrel
    have HQ := Lib.hid hq
    clear hq
    by_cases hlt : k < s.size
    · have hlt' : (k : Int) < (s.size : Int) := by omega
      by_cases he : (s[k]'hlt).toNat = c
      · have HS := Lib.hid (split_at hlt he HQ.out)
        have e1 : (((s[k]'hlt).toNat : Int) == (c : Int)) = true := by simp; omega
        have HA := Lib.hid (str_of_bl (bl_head s k))
        have HB := Lib.hid (str_of_bl (bl_tail s (k + 1)))
        have hk1 : (k : Int) + 1 ≤ (s.size : Int) := by omega
        clear he
        go_wp2_with fail
        go_quiet (fail)
        go_wp2
        go_ret3
        exact ⟨by rw [HS.out]; show _ = Ending.returned (.tuple #[.string (str ((bl s).take k)), .string (str ((bl s).drop (k + 1))), .bool true]); rw [← HA.out, ← HB.out]; rfl, below_drewN (Below.refl _ _) _⟩
      · have e1 : (((s[k]'hlt).toNat : Int) == (c : Int)) = false := by simp; omega
        have HE := Lib.hid he
        clear he
        go_wp2
        go_round
        case rel => exact ⟨k + 1, by omega, by go_num, fun x hx => by
          rw [bl_snoc s k hlt] at hx
          rcases List.mem_append.1 hx with hx | hx
          · exact HQ.out x hx
          · rw [List.mem_singleton] at hx; rw [hx]; exact HE.out⟩
        case measure => simp [intOf]; omega
    · have hlt' : ¬ (k : Int) < (s.size : Int) := by omega
      obtain rfl : k = s.size := by omega
      have HS := Lib.hid (show splitL c (bl s) = (bl s, none) from splitL_of_not (by have := HQ.out; rw [List.take_of_length_le (by rw [HL.out]; exact Nat.le_refl _)] at this; exact this))
      have HT := Lib.hid (str_bl s)
      go_wp2
      go_ret3
      exact ⟨by rw [HS.out, HT.out]; rfl, Below.refl _ _⟩
def PartGives (s : ByteArray) (w : World) (e : Ending) (w' : World) : Prop := e = .returned (.tuple (match partL (bl s) with | none => #[.int .u64 0, .bool false, .bool false] | some (n, m) => #[.int .u64 (span n m : Nat), .bool (beyond n m), .bool true])) ∧ Below w.heap.size w w'
theorem part_none {s : ByteArray} {w w' : World} {e : Ending} (h : partL (bl s) = none) (he : e = .returned (.tuple #[.int .u64 0, .bool false, .bool false])) (hb : Below w.heap.size w w') : PartGives s w e w' := by
  unfold PartGives; rw [h]; exact ⟨he, hb⟩
theorem part_some {s : ByteArray} {w w' : World} {e : Ending} {n m : Nat} {b : Bool} (h : partL (bl s) = some (n, m)) (hb' : beyond n m = b) (he : e = .returned (.tuple #[.int .u64 (span n m : Nat), .bool b, .bool true])) (hb : Below w.heap.size w w') : PartGives s w e w' := by
  unfold PartGives; rw [h]; subst hb'; exact ⟨he, hb⟩
theorem numberL_lt {l : List Nat} {v : Nat} (h : numberL l = some v) : v < 100 := by
  match l, h with
  | [x], h =>
    simp only [numberL] at h
    by_cases hx : 48 ≤ x ∧ x ≤ 57
    · rw [if_pos hx] at h; injection h with h; omega
    · rw [if_neg hx] at h; cases h
  | [x, y], h =>
    simp only [numberL] at h
    by_cases hx : x ≠ 48 ∧ (48 ≤ x ∧ x ≤ 57) ∧ (48 ≤ y ∧ y ≤ 57)
    · rw [if_pos hx] at h; injection h with h; omega
    · rw [if_neg hx] at h; cases h
theorem split_size (s : ByteArray) (c : Nat) : (splitL c (bl s)).1.length ≤ s.size ∧ ∀ b, (splitL c (bl s)).2 = some b → b.length < s.size := by
  have h := congrArg List.length (splitL_join c (bl s))
  rw [bl_length] at h
  cases hs : (splitL c (bl s)).2 with
  | none => rw [hs] at h; simp at h; exact ⟨by omega, fun b hb => by cases hb⟩
  | some r => rw [hs] at h; simp at h; exact ⟨by omega, fun b hb => by injection hb with hb; subst hb; omega⟩
theorem split_bytes (s : ByteArray) (c : Nat) : (∀ x ∈ (splitL c (bl s)).1, x < 256) ∧ ∀ b, (splitL c (bl s)).2 = some b → ∀ x ∈ b, x < 256 := by
  have h := splitL_join c (bl s)
  refine ⟨fun x hx => bl_lt s x (by rw [h]; simp [hx]), fun b hb x hx => bl_lt s x (by rw [h, hb]; simp [hx])⟩
set_option maxHeartbeats 2000000 in
theorem refPart_any (s : ByteArray) (w : World) (hs : s.size ≤ 9223372036854775807) :
    Calls Tryd.prog 68 #[.string s] w (PartGives s w) := by
  have hz := split_size s 45
  have hby := split_bytes s 45
  have hp : partL (bl s) = match (splitL 45 (bl s)).2 with | none => (numberL (splitL 45 (bl s)).1).map fun n => (n, n) | some b => (numberL (splitL 45 (bl s)).1).bind fun n => (numberL b).map fun m => (n, m) := rfl
  generalize hsp : splitL 45 (bl s) = sp at hz hby hp
  obtain ⟨a, o⟩ := sp
  have HSP := Lib.hid hsp
  have hba := bl_str hby.1
  clear hsp
  simp only at hz hby hp hba
  cases hna : numberL a with
  | none =>
    have HP := Lib.hid (show partL (bl s) = none by rw [hp, hna]; cases o <;> rfl)
    have HN := Lib.hid (show numberL (bl (str a)) = none by rw [hba]; exact hna)
    have hsa : (str a).size ≤ 9223372036854775807 := by rw [str_size]; omega
    clear hp hna hba hby hz
    go_enter Tryd.func68, Tryd.ntmps68
    go_wp2_with fail
    refine (refSplit_any s 45 _ hs (by decide)).mono ?_
    rintro e w1 ⟨rfl, hb⟩
    rw [HSP.out]
    have HB := Lib.hid hb
    clear hb
    go_wp2_with fail
    refine (refNumber_any (str a) _ hsa).mono ?_
    rintro e w' ⟨rfl, rfl⟩
    rw [HN.out]
    go_wp2
    go_ret3
    exact part_none HP.out rfl HB.out
  | some n =>
    have hn100 := numberL_lt hna
    have HN := Lib.hid (show numberL (bl (str a)) = some n by rw [hba]; exact hna)
    have hsa : (str a).size ≤ 9223372036854775807 := by rw [str_size]; omega
    cases o with
    | none =>
      have HP := Lib.hid (show partL (bl s) = some (n, n) by rw [hp, hna]; rfl)
      clear hp hna hba hby hz
      go_enter Tryd.func68, Tryd.ntmps68
      go_wp2_with fail
      refine (refSplit_any s 45 _ hs (by decide)).mono ?_
      rintro e w1 ⟨rfl, hb⟩
      rw [HSP.out]
      have HB := Lib.hid hb
      clear hb
      go_wp2_with fail
      refine (refNumber_any (str a) _ hsa).mono ?_
      rintro e w' ⟨rfl, rfl⟩
      rw [HN.out]
      go_wp2_with fail
      refine (set_any n n _ (by omega) (by omega)).mono ?_
      rintro e w' ⟨rfl, rfl⟩
      go_wp2
      all_goals
        go_ret3
        refine part_some HP.out ?_ rfl HB.out
        unfold beyond
        rw [Bool.eq_iff_iff]
        simp
        omega
    | some b =>
      have hsb : (str b).size ≤ 9223372036854775807 := by rw [str_size]; have := hz.2 b rfl; omega
      have hbb := bl_str (hby.2 b rfl)
      cases hnb : numberL b with
      | none =>
        have HP := Lib.hid (show partL (bl s) = none by rw [hp, hna]; show (numberL b).map _ = none; rw [hnb]; rfl)
        have HM := Lib.hid (show numberL (bl (str b)) = none by rw [hbb]; exact hnb)
        clear hp hna hba hby hz hnb hbb
        go_enter Tryd.func68, Tryd.ntmps68
        go_wp2_with fail
        refine (refSplit_any s 45 _ hs (by decide)).mono ?_
        rintro e w1 ⟨rfl, hb⟩
        rw [HSP.out]
        have HB := Lib.hid hb
        clear hb
        go_wp2_with fail
        refine (refNumber_any (str a) _ hsa).mono ?_
        rintro e w' ⟨rfl, rfl⟩
        rw [HN.out]
        go_wp2_with fail
        refine (refNumber_any (str b) _ hsb).mono ?_
        rintro e w' ⟨rfl, rfl⟩
        rw [HM.out]
        go_wp2
        go_ret3
        exact part_none HP.out rfl HB.out
      | some m =>
        have hm100 := numberL_lt hnb
        have HP := Lib.hid (show partL (bl s) = some (n, m) by rw [hp, hna]; show (numberL b).map _ = _; rw [hnb]; rfl)
        have HM := Lib.hid (show numberL (bl (str b)) = some m by rw [hbb]; exact hnb)
        clear hp hna hba hby hz hnb hbb
        go_enter Tryd.func68, Tryd.ntmps68
        go_wp2_with fail
        refine (refSplit_any s 45 _ hs (by decide)).mono ?_
        rintro e w1 ⟨rfl, hb⟩
        rw [HSP.out]
        have HB := Lib.hid hb
        clear hb
        go_wp2_with fail
        refine (refNumber_any (str a) _ hsa).mono ?_
        rintro e w' ⟨rfl, rfl⟩
        rw [HN.out]
        go_wp2_with fail
        refine (refNumber_any (str b) _ hsb).mono ?_
        rintro e w' ⟨rfl, rfl⟩
        rw [HM.out]
        go_wp2_with fail
        refine (set_any n m _ (by omega) (by omega)).mono ?_
        rintro e w' ⟨rfl, rfl⟩
        go_wp2
        all_goals
          go_ret3
          refine part_some HP.out ?_ rfl HB.out
          unfold beyond
          rw [Bool.eq_iff_iff]
          simp
          omega
end Go.Proofs.YtcboopkalpmglaaDoor
namespace Go.Proofs.YtcboopkalpmglaaDoor
set_option linter.unusedVariables false
open Go.RowKit
def mOf : Value → Value → Nat
  | .bool true, .string s => s.size + 1
  | _, _ => 0
/-- What the document's loop holds. -/
def RefAt (R : Nat × Nat) (S : ByteArray) (A : Nat) (O mo : Bool) : Prop := A < 18446744073709551616 ∧ S.size ≤ 9223372036854775807 ∧ (mo = true → parseFrom A O (bl S) = R) ∧ (mo = false → (if O = true then (0, 1) else (A, 0)) = R)
theorem refAt_none {R : Nat × Nat} {S : ByteArray} {A : Nat} {O : Bool} (h : RefAt R S A O true) (hp : partL (splitL 44 (bl S)).1 = none) : R = (0, 11) := by
  have h3 := h.2.2.1 rfl
  cases hs : (splitL 44 (bl S)).2 with
  | none =>
    rcases parse_last A O hs with ⟨_, g⟩ | ⟨n, m, g, _⟩
    · rw [← h3, g]
    · rw [hp] at g; cases g
  | some b =>
    rcases parse_more A O hs with ⟨_, g⟩ | ⟨n, m, g, _⟩
    · rw [← h3, g]
    · rw [hp] at g; cases g
theorem refAt_some {R : Nat × Nat} {S : ByteArray} {A : Nat} {O : Bool} (h : RefAt R S A O true) {n m : Nat} (hp : partL (splitL 44 (bl S)).1 = some (n, m)) :
    RefAt R (str ((splitL 44 (bl S)).2.getD [])) (A ||| span n m) (O || beyond n m) (splitL 44 (bl S)).2.isSome := by
  obtain ⟨h1, h2, h3, _⟩ := h
  have h3 := h3 rfl
  refine ⟨or_lt h1 (span_lt _ _), ?_, ?_, ?_⟩
  · rw [str_size]
    cases hs : (splitL 44 (bl S)).2 with
    | none => simp
    | some b => have := (split_size S 44).2 b hs; simp; omega
  · intro hm
    cases hs : (splitL 44 (bl S)).2 with
    | none => rw [hs] at hm; cases hm
    | some b =>
      rcases parse_more A O hs with ⟨g, _⟩ | ⟨n', m', g, _, _, g4⟩
      · rw [hp] at g; cases g
      · rw [hp] at g
        simp only [Option.some.injEq, Prod.mk.injEq] at g
        obtain ⟨rfl, rfl⟩ := g
        rw [Option.getD_some, bl_str ((split_bytes S 44).2 b hs), ← h3, g4]
  · intro hm
    cases hs : (splitL 44 (bl S)).2 with
    | some b => rw [hs] at hm; cases hm
    | none =>
      rcases parse_last A O hs with ⟨g, _⟩ | ⟨n', m', g, _, _, g4⟩
      · rw [hp] at g; cases g
      · rw [hp] at g
        simp only [Option.some.injEq, Prod.mk.injEq] at g
        obtain ⟨rfl, rfl⟩ := g
        rw [← h3, g4]
theorem mOf_lt {S : ByteArray} : mOf (.bool (splitL 44 (bl S)).2.isSome) (.string (str ((splitL 44 (bl S)).2.getD []))) < S.size + 1 := by
  cases hs : (splitL 44 (bl S)).2 with
  | none => simp [mOf]
  | some b =>
    have := (split_size S 44).2 b hs
    show (str b).size + 1 < _
    rw [str_size]
    omega
def Parsed (R : Nat × Nat) (w : World) (e : Ending) (w' : World) : Prop := e = .returned (.tuple #[.int .u64 (R.1 : Int), .int .i64 (R.2 : Int)]) ∧ Below w.heap.size w w'
theorem parsed_of {R : Nat × Nat} {a b : Nat} {w w' : World} {e : Ending} (h : R = (a, b)) (he : e = .returned (.tuple #[.int .u64 (a : Int), .int .i64 (b : Int)])) (hb : Below w.heap.size w w') : Parsed R w e w' := by
  subst h; exact ⟨he, hb⟩
set_option maxHeartbeats 4000000 in
theorem refParse_any (s : ByteArray) (w : World) (hs : s.size ≤ maxLen) :
    Calls Tryd.prog 51 #[.string s] w (Parsed (parseL (bl s)) w) := by
  unfold maxLen at hs
  cases he : s.toList.isEmpty
  · have hs0 : s.size ≠ 0 := by
      rw [Lib.toList_data] at he
      intro h
      have h2 := (bl_nil s).2 h
      unfold bl at h2
      rw [List.map_eq_nil_iff] at h2
      rw [h2] at he
      cases he
    have HR := Lib.hid (show RefAt (parseL (bl s)) s 0 false true from ⟨by decide, by omega, fun _ => (parseL_from (fun h => hs0 ((bl_nil s).1 h))).symm, fun h => by cases h⟩)
    generalize parseL (bl s) = R at HR ⊢
    go_enter Tryd.func51, Tryd.ntmps51
    go_wp2_with fail
    go_loopw [0, 4, 5, 6] (fun vs va vo vm wr => ∃ (S : ByteArray) (A : Nat) (O mo : Bool), vs = .string S ∧ va = .int .u64 (A : Int) ∧ vo = .bool O ∧ vm = .bool mo ∧ RefAt R S A O mo ∧ Below w.heap.size w wr) (fun vs _ _ vm _ => mOf vm vs)
    case atStart => exact ⟨s, 0, false, true, rfl, rfl, rfl, rfl, HR.out, Below.refl _ _⟩
    case round =>
      obtain ⟨S, A, O, mo, rfl, rfl, rfl, rfl, hr, hB⟩ := hrel
      have HA := Lib.hid hr
      have HB := Lib.hid hB
      have hA64 := hr.1
      have hS := hr.2.1
      clear hr hB
      cases mo
      · cases O
        · have HY := Lib.hid (HA.out.2.2.2 rfl).symm
          go_wp2
          go_ret2
          exact parsed_of HY.out rfl HB.out
        · have HY := Lib.hid (HA.out.2.2.2 rfl).symm
          go_wp2
          go_ret2
          exact parsed_of HY.out rfl HB.out
      · have HN := Lib.hid (fun hp => refAt_none HA.out hp)
        have HS := Lib.hid (fun n m hp => refAt_some HA.out (n := n) (m := m) hp)
        have HM := Lib.hid (mOf_lt (S := S))
        have hz := (split_size S 44).1
        have hby := (split_bytes S 44).1
        go_wp2_with fail
        refine (refSplit_any S 44 _ hS (by decide)).mono ?_
        rintro e w1 ⟨rfl, hb⟩
        have HB1 := Lib.hid (HB.out.trans (hb.mono HB.out.size))
        clear hb
        generalize (splitL 44 (bl S)).1 = a at HN HS hz hby ⊢
        generalize (splitL 44 (bl S)).2 = o at HS HM ⊢
        have hba := bl_str hby
        have hsa : (str a).size ≤ 9223372036854775807 := by rw [str_size]; omega
        have HBA := Lib.hid hba
        clear hba hby
        go_wp2_with fail
        refine (refPart_any (str a) _ hsa).mono ?_
        rintro e w2 ⟨rfl, hb⟩
        have HB2 := Lib.hid (HB1.out.trans (hb.mono HB1.out.size))
        clear hb
        rw [HBA.out]
        cases hp : partL a with
        | none =>
          have HY := Lib.hid (HN.out hp)
          clear hp
          go_wp2
          go_ret2
          exact parsed_of HY.out rfl HB2.out
        | some nm =>
          obtain ⟨n, m⟩ := nm
          have HY := Lib.hid (HS.out n m hp)
          have hsp := span_lt n m
          clear hp
          go_wp2_with fail
          refine (join_any A (span n m) hA64 hsp _).mono ?_
          rintro e w' ⟨rfl, rfl⟩
          cases O
          · go_wp2
            go_roundw
            case rel => exact ⟨_, _, _, _, rfl, rfl, rfl, rfl, HY.out, HB2.out⟩
            case measure => exact HM.out
          · go_wp2
            go_roundw
            case rel => exact ⟨_, _, _, _, rfl, rfl, rfl, rfl, HY.out, HB2.out⟩
            case measure => exact HM.out
  · have hs0 : s.size = 0 := by
      rw [Lib.toList_data, List.isEmpty_iff] at he
      exact (bl_nil s).1 (by unfold bl; rw [he]; rfl)
    have HY := Lib.hid (show parseL (bl s) = (0, 0) by unfold parseL; rw [if_pos ((bl_nil s).2 hs0)])
    go_enter Tryd.func51, Tryd.ntmps51
    go_wp2
    go_ret2
    exact parsed_of HY.out rfl (Below.refl _ _)
end Go.Proofs.YtcboopkalpmglaaDoor
namespace Go.Proofs.YtcboopkalpmglaaDoor
set_option linter.unusedVariables false
open Go.RowKit
theorem conv_one (n : Nat) (w : World) (hn : n < 10) : (convert 56 9 (.slice (some ⟨w.heap.size, 0, none⟩) 1 1)).run Tryd.prog (w.alloc (.cells #[.int .u8 (48 + (n : Int))] 5)) = .ok (.string (str (figL n))) (w.alloc (.cells #[.int .u8 (48 + (n : Int))] 5)) := by
  have h := run_convert_bytes_arg (P := Tryd.prog) (w.alloc (.cells #[.int .u8 (48 + (n : Int))] 5)) 56 5 Tryd.underlying56 Tryd.underlying5 w.heap.size 0 1 1 [48 + (n : Int)] rfl (fun i hi => by
    obtain rfl : i = 0 := by omega
    exact (cnewb (j := 0)).trans rfl) 9 Tryd.underlying9
  rw [h]
  have : strOfNums [48 + (n : Int)] = str (figL n) := by
    unfold figL; rw [if_pos hn]
    unfold strOfNums str
    have e1 : (48 + (n : Int)).toNat = 48 + n := by omega
    simp [e1]
  rw [this]
theorem conv_two (n : Nat) (w : World) (hn : ¬ n < 10) : (convert 56 9 (.slice (some ⟨w.heap.size, 0, none⟩) 2 2)).run Tryd.prog (w.alloc (.cells #[.int .u8 (48 + (n : Int) / 10), .int .u8 (48 + (n : Int) % 10)] 5)) = .ok (.string (str (figL n))) (w.alloc (.cells #[.int .u8 (48 + (n : Int) / 10), .int .u8 (48 + (n : Int) % 10)] 5)) := by
  have h := run_convert_bytes_arg (P := Tryd.prog) (w.alloc (.cells #[.int .u8 (48 + (n : Int) / 10), .int .u8 (48 + (n : Int) % 10)] 5)) 56 5 Tryd.underlying56 Tryd.underlying5 w.heap.size 0 2 2 [48 + (n : Int) / 10, 48 + (n : Int) % 10] rfl (fun i hi => by
    rcases (by omega : i = 0 ∨ i = 1) with rfl | rfl
    · exact (cnewb (j := 0)).trans rfl
    · exact (cnewb (j := 1)).trans rfl) 9 Tryd.underlying9
  rw [h]
  have : strOfNums [48 + (n : Int) / 10, 48 + (n : Int) % 10] = str (figL n) := by
    unfold figL; rw [if_neg hn]
    unfold strOfNums str
    have e1 : (48 + (n : Int) / 10).toNat = 48 + n / 10 := by omega
    have e2 : (48 + (n : Int) % 10).toNat = 48 + n % 10 := by omega
    simp [e1, e2]
  rw [this]
set_option maxHeartbeats 1000000 in
theorem refFig_any (n : Nat) (w : World) (hn : n < 100) :
    Calls Tryd.prog 59 #[.int .i64 (n : Int)] w fun e w' => e = .returned (.string (str (figL n))) ∧ Below w.heap.size w w' := by
  by_cases h10 : n < 10
  · have g1 : (n : Int) < 10 := by omega
    have hcv := conv_one n w h10
    go_enter Tryd.func59, Tryd.ntmps59
    go_wp2
    go_ret
    exact ⟨rfl, belowA w _⟩
  · have g1 : ¬ (n : Int) < 10 := by omega
    have hcv := conv_two n w h10
    go_enter Tryd.func59, Tryd.ntmps59
    go_wp2
    go_ret
    exact ⟨rfl, belowA w _⟩
end Go.Proofs.YtcboopkalpmglaaDoor
namespace Go.Proofs.YtcboopkalpmglaaDoor
set_option linter.unusedVariables false
open Go.RowKit
def startsTo (m k : Nat) : List Nat := (List.range k).filter (startB m)
theorem startsTo_yes {m k : Nat} (h : startB m k = true) : startsTo m (k + 1) = startsTo m k ++ [k] := by
  unfold startsTo; rw [List.range_succ, List.filter_append]; simp [h]
theorem startsTo_no {m k : Nat} (h : startB m k = false) : startsTo m (k + 1) = startsTo m k := by
  unfold startsTo; rw [List.range_succ, List.filter_append]; simp [h]
def outTo (m k : Nat) : ByteArray := str (joinL ((startsTo m k).map (seg m)))
theorem str_append (a b : List Nat) : str (a ++ b) = str a ++ str b := by
  unfold str
  apply ByteArray.ext
  simp
theorem str_app (a b : List Nat) : str a ++ str b = str (a ++ b) := (str_append a b).symm
theorem outTo_no {m k : Nat} (h : startB m k = false) : outTo m (k + 1) = outTo m k := by unfold outTo; rw [startsTo_no h]
theorem outTo_first {m k : Nat} (h : startB m k = true) (he : outTo m k = str []) : outTo m (k + 1) = str (seg m k) := by
  unfold outTo at *
  rw [startsTo_yes h, List.map_append]
  have : joinL ((startsTo m k).map (seg m)) = [] := by
    have := congrArg ByteArray.size he
    rw [str_size, str_size] at this
    exact List.length_eq_zero_iff.1 this
  rw [joinL_nil (fun s hs => by obtain ⟨p, _, rfl⟩ := List.mem_map.1 hs; exact seg_ne m p)] at this
  rw [this]
  rfl
theorem outTo_next {m k : Nat} (h : startB m k = true) (he : outTo m k ≠ str []) : outTo m (k + 1) = outTo m k ++ str [44] ++ str (seg m k) := by
  unfold outTo at *
  rw [startsTo_yes h, List.map_append, List.map_cons, List.map_nil, joinL_snoc, if_neg, str_app, str_app]
  · congr 1; simp
  · intro e; rw [e] at he; exact he rfl
theorem seg_one {m k : Nat} (h : endOf m k = k) : seg m k = figL k := by unfold seg; rw [h, if_neg (Nat.lt_irrefl _)]
theorem seg_two {m k t : Nat} (h : endOf m k = t) (hk : k < t) : seg m k = figL k ++ ([45] ++ figL t) := by unfold seg; rw [h, if_pos hk]; rfl
theorem empty_iff (s : ByteArray) : s.toList.isEmpty = true ↔ s = str [] := by
  rw [Lib.toList_data, List.isEmpty_iff]
  constructor
  · intro h
    have : bl s = [] := by unfold bl; rw [h]; rfl
    rw [← str_bl s, this]
  · intro h; rw [h]; rfl
theorem refFig_size (n : Nat) : (str (figL n)).size ≤ 2 := by rw [str_size]; unfold figL; split <;> simp
set_option maxHeartbeats 8000000 in
set_option maxRecDepth 100000 in
theorem refText_any (m : Nat) (w : World) (hm : m < 18446744073709551616) :
    Calls Tryd.prog 44 #[.int .u64 (m : Int)] w fun e w' => e = .returned (.string (str (textL m))) ∧ Below w.heap.size w w' := by
  go_enter Tryd.func44, Tryd.ntmps44
  go_wp2_with fail
  go_loopw [3, 4] (fun vo vp wr => ∃ (k : Nat) (S : ByteArray), k ≤ 64 ∧ vp = .int .i64 k ∧ vo = .string S ∧ S = outTo m k ∧ S.size ≤ 6 * k ∧ Below w.heap.size w wr) (fun _ vp _ => 64 - (intOf vp).toNat)
  case atStart => exact ⟨0, _, by omega, rfl, rfl, rfl, by decide, Below.refl _ _⟩
  case round =>
    obtain ⟨k, S, hk, rfl, rfl, hS, hsz, hB⟩ := hrel
    have HS := Lib.hid hS
    have HB := Lib.hid hB
    clear hS hB
    by_cases g1 : k < 64
    · have g2 : (k : Int) < 64 := by omega
      go_wp2_with fail
      refine (refHas_any m hm (k : Int) _ (by omega) (by omega)).mono ?_
      rintro e w' ⟨rfl, rfl⟩
      rw [hasB_nat g1]
      cases hb : m.testBit k
      · have HN := Lib.hid (outTo_no (show startB m k = false by unfold startB; rw [hb]; rfl))
        clear hb
        go_wp2
        go_roundw
        case rel => exact ⟨k + 1, S, by omega, by go_num, rfl, by rw [HN.out, HS.out], by omega, HB.out⟩
        case measure => simp [intOf]; omega
      · go_wp2_with fail
        refine (refHas_any m hm ((k : Int) - 1) _ (by omega) (by omega)).mono ?_
        rintro e w' ⟨rfl, rfl⟩
        cases hb2 : hasB m ((k : Int) - 1)
        · have HST := Lib.hid (show startB m k = true by
            unfold startB
            rw [hb]
            cases k with
            | zero => rfl
            | succ k =>
              rw [show (((k + 1 : Nat) : Int) - 1) = (k : Int) by omega, hasB_nat (by omega)] at hb2
              simp [hb2])
          have HBK := Lib.hid hb
          clear hb hb2
          obtain ⟨wo, rfl⟩ : ∃ wo : World, wo = wr := ⟨_, rfl⟩
          go_wp2_with fail
          go_loop [5] (fun vt => ∃ t : Nat, k ≤ t ∧ t < 64 ∧ vt = .int .i64 t ∧ ∀ q, k ≤ q → q ≤ t → m.testBit q = true) (fun vt => 64 - (intOf vt).toNat)
          case atStart => exact ⟨k, Nat.le_refl _, g1, rfl, fun q h1 h2 => (show k = q by omega) ▸ HBK.out⟩
          case round =>
            obtain ⟨t, ht1, ht2, rfl, hq⟩ := hrel
            have HQ := Lib.hid hq
            clear hq
            go_wp2_with fail
            refine (refHas_any m hm ((t : Int) + 1) _ (by omega) (by omega)).mono ?_
            rintro e w' ⟨rfl, rfl⟩
            cases hb3 : hasB m ((t : Int) + 1)
            · have HE := Lib.hid (show endOf m k = t from endOf_eq hm ht1 HQ.out (by
                by_cases e : t + 1 < 64
                · rw [show ((t : Int) + 1) = ((t + 1 : Nat) : Int) by omega, hasB_nat e] at hb3; exact hb3
                · exact high_bit hm (by omega)))
              clear hb3
              cases hE : S.toList.isEmpty
              · have HEM := Lib.hid (show S ≠ str [] from fun h => by rw [(empty_iff S).2 h] at hE; cases hE)
                rcases Nat.lt_or_ge t (k + 1) with htk | htk
                · have gt : ¬ (k : Int) < (t : Int) := by omega
                  have HV := Lib.hid (show S ++ { data := #[44] } ++ str (figL k) = outTo m (k + 1) by
                    rw [outTo_next HST.out (fun h => HEM.out (HS.out.trans h)), ← HS.out]
                    rw [seg_one (HE.out.trans (by omega))]
                    rw [show ({ data := #[44] } : ByteArray) = str [44] from rfl])
                  have HZ := Lib.hid (show (S ++ { data := #[44] } ++ str (figL k)).size ≤ 6 * (k + 1) by
                    have z1 := refFig_size k
                    simp only [ByteArray.size_append]
                    have e1 : ({ data := #[44] } : ByteArray).size = 1 := rfl
                    have e2 : ({ data := #[45] } : ByteArray).size = 1 := rfl
                    omega)
                  have z1 := refFig_size k
                  go_wp2_with fail
                  refine (refFig_any k _ (by omega)).mono ?_
                  rintro e w2 ⟨rfl, hb4⟩
                  have HB4 := Lib.hid (HB.out.trans (hb4.mono HB.out.size))
                  clear hb4
                  go_wp2
                  go_roundw
                  case rel => exact ⟨k + 1, _, by omega, by go_num, rfl, HV.out, HZ.out, HB4.out⟩
                  case measure => simp [intOf]; omega
                · have gt : (k : Int) < (t : Int) := by omega
                  have HV := Lib.hid (show S ++ { data := #[44] } ++ str (figL k) ++ { data := #[45] } ++ str (figL t) = outTo m (k + 1) by
                    rw [outTo_next HST.out (fun h => HEM.out (HS.out.trans h)), ← HS.out]
                    rw [seg_two HE.out htk]
                    rw [show ({ data := #[44] } : ByteArray) = str [44] from rfl, show ({ data := #[45] } : ByteArray) = str [45] from rfl]
                    simp only [str_append, ByteArray.append_assoc])
                  have HZ := Lib.hid (show (S ++ { data := #[44] } ++ str (figL k) ++ { data := #[45] } ++ str (figL t)).size ≤ 6 * (k + 1) by
                    have z1 := refFig_size k
                    have z2 := refFig_size t
                    simp only [ByteArray.size_append]
                    have e1 : ({ data := #[44] } : ByteArray).size = 1 := rfl
                    have e2 : ({ data := #[45] } : ByteArray).size = 1 := rfl
                    omega)
                  have z1 := refFig_size k
                  have z2 := refFig_size t
                  go_wp2_with fail
                  refine (refFig_any k _ (by omega)).mono ?_
                  rintro e w2 ⟨rfl, hb4⟩
                  have HB4 := Lib.hid (HB.out.trans (hb4.mono HB.out.size))
                  clear hb4
                  go_wp2_with fail
                  refine (refFig_any t _ (by omega)).mono ?_
                  rintro e w3 ⟨rfl, hb5⟩
                  have HB5 := Lib.hid (HB4.out.trans (hb5.mono HB4.out.size))
                  clear hb5
                  go_wp2
                  go_roundw
                  case rel => exact ⟨k + 1, _, by omega, by go_num, rfl, HV.out, HZ.out, HB5.out⟩
                  case measure => simp [intOf]; omega
              · have HEM := Lib.hid (show S = str [] from (empty_iff S).1 hE)
                rcases Nat.lt_or_ge t (k + 1) with htk | htk
                · have gt : ¬ (k : Int) < (t : Int) := by omega
                  have HV := Lib.hid (show S ++ str (figL k) = outTo m (k + 1) by
                    rw [outTo_first HST.out (HS.out.symm.trans HEM.out), HEM.out]
                    rw [seg_one (HE.out.trans (by omega))]
                    try rw [show (str [] : ByteArray) = ByteArray.empty from rfl]
                    simp only [ByteArray.empty_append])
                  have HZ := Lib.hid (show (S ++ str (figL k)).size ≤ 6 * (k + 1) by
                    have z1 := refFig_size k
                    simp only [ByteArray.size_append]
                    have e1 : ({ data := #[44] } : ByteArray).size = 1 := rfl
                    have e2 : ({ data := #[45] } : ByteArray).size = 1 := rfl
                    omega)
                  have z1 := refFig_size k
                  go_wp2_with fail
                  refine (refFig_any k _ (by omega)).mono ?_
                  rintro e w2 ⟨rfl, hb4⟩
                  have HB4 := Lib.hid (HB.out.trans (hb4.mono HB.out.size))
                  clear hb4
                  go_wp2
                  go_roundw
                  case rel => exact ⟨k + 1, _, by omega, by go_num, rfl, HV.out, HZ.out, HB4.out⟩
                  case measure => simp [intOf]; omega
                · have gt : (k : Int) < (t : Int) := by omega
                  have HV := Lib.hid (show S ++ str (figL k) ++ { data := #[45] } ++ str (figL t) = outTo m (k + 1) by
                    rw [outTo_first HST.out (HS.out.symm.trans HEM.out), HEM.out]
                    rw [seg_two HE.out htk]
                    rw [show ({ data := #[45] } : ByteArray) = str [45] from rfl]
                    simp only [str_append, ByteArray.append_assoc]
                    try rw [show (str [] : ByteArray) = ByteArray.empty from rfl]
                    simp only [ByteArray.empty_append])
                  have HZ := Lib.hid (show (S ++ str (figL k) ++ { data := #[45] } ++ str (figL t)).size ≤ 6 * (k + 1) by
                    have z1 := refFig_size k
                    have z2 := refFig_size t
                    simp only [ByteArray.size_append]
                    have e1 : ({ data := #[44] } : ByteArray).size = 1 := rfl
                    have e2 : ({ data := #[45] } : ByteArray).size = 1 := rfl
                    omega)
                  have z1 := refFig_size k
                  have z2 := refFig_size t
                  go_wp2_with fail
                  refine (refFig_any k _ (by omega)).mono ?_
                  rintro e w2 ⟨rfl, hb4⟩
                  have HB4 := Lib.hid (HB.out.trans (hb4.mono HB.out.size))
                  clear hb4
                  go_wp2_with fail
                  refine (refFig_any t _ (by omega)).mono ?_
                  rintro e w3 ⟨rfl, hb5⟩
                  have HB5 := Lib.hid (HB4.out.trans (hb5.mono HB4.out.size))
                  clear hb5
                  go_wp2
                  go_roundw
                  case rel => exact ⟨k + 1, _, by omega, by go_num, rfl, HV.out, HZ.out, HB5.out⟩
                  case measure => simp [intOf]; omega
            · have ht3 : t + 1 < 64 := by
                rcases Nat.lt_or_ge (t + 1) 64 with h | h
                · exact h
                · rw [hasB_high (by omega)] at hb3; cases hb3
              have HB3 := Lib.hid (show m.testBit (t + 1) = true by rw [show ((t : Int) + 1) = ((t + 1 : Nat) : Int) by omega, hasB_nat ht3] at hb3; exact hb3)
              clear hb3
              go_wp2
              go_round
              case rel => exact ⟨t + 1, by omega, ht3, by go_num, fun q h1 h2 => by
                by_cases e : q = t + 1
                · rw [e]; exact HB3.out
                · exact HQ.out q h1 (by omega)⟩
              case measure => simp [intOf]; omega
        · have HN := Lib.hid (outTo_no (show startB m k = false by
            unfold startB
            rw [hb]
            cases k with
            | zero => rw [hasB_low (by decide)] at hb2; cases hb2
            | succ k =>
              rw [show (((k + 1 : Nat) : Int) - 1) = (k : Int) by omega, hasB_nat (by omega)] at hb2
              simp [hb2]))
          clear hb hb2
          go_wp2
          go_roundw
          case rel => exact ⟨k + 1, S, by omega, by go_num, rfl, by rw [HN.out, HS.out], by omega, HB.out⟩
          case measure => simp [intOf]; omega
    · have g2 : ¬ (k : Int) < 64 := by omega
      obtain rfl : k = 64 := by omega
      have HF := Lib.hid (show S = str (textL m) from HS.out)
      go_wp2
      go_ret
      exact ⟨by rw [← HF.out]; rfl, HB.out⟩
end Go.Proofs.YtcboopkalpmglaaDoor
