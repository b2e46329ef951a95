/- A set's text is read by the document: number, split, part, Parse. Conditions: none. -/
import Derived.Test.YtdbhdjjepgdomaaDoorMaskSets
import Derived.Test.YtdbhdjjepgdomaaDoorMaskParse
import Derived.Test.YtdbhdjjepgdomaaDoorBytes
import Derived.Test.YtdbhdjjepgdomaaDoorMem
namespace Go.Proofs.YtdbhdjjepgdomaaDoor
set_option linter.unusedVariables false
open Go.RowKit
/-- A number's value so far. -/
def valTo (l : List Nat) (k : Nat) : Nat := (l.take k).foldl (fun n c => 10 * n + (c - 48)) 0
theorem valTo_succ {l : List Nat} {k c : Nat} (h : l[k]? = some c) : valTo l (k + 1) = 10 * valTo l k + (c - 48) := by
  unfold valTo
  rw [List.take_add_one, h, List.foldl_append]
  rfl
theorem number_long {l : List Nat} (h : l.length = 0 ∨ 2 < l.length) : numberL l = none := by
  match l, h with
  | [], _ => rfl
  | [x], h => simp at h
  | [x, y], h => simp at h
  | x :: y :: z :: l, _ => rfl
theorem number_zero {l : List Nat} (h : l.length = 2) (h0 : l[0]? = some 48) : numberL l = none := by
  match l, h with
  | [x, y], _ => simp at h0; subst h0; simp [numberL]
theorem number_bad {l : List Nat} {k c : Nat} (h : l[k]? = some c) (hc : ¬ (48 ≤ c ∧ c ≤ 57)) : numberL l = none := by
  cases hn : numberL l with
  | none => rfl
  | some v => exact absurd (numberL_in hn c (List.mem_of_getElem? h)) hc
theorem number_good {l : List Nat} (h : l.length = 1 ∨ (l.length = 2 ∧ l[0]? ≠ some 48)) (hd : ∀ k c : Nat, l[k]? = some c → 48 ≤ c ∧ c ≤ 57) : numberL l = some (valTo l l.length) := by
  match l, h with
  | [x], _ => have := hd 0 x rfl; simp [numberL, this, valTo]
  | [x, y], h => have h1 := hd 0 x rfl; have h2 := hd 1 y rfl; simp at h; simp [numberL, h1, h2, h, valTo]
  | [], h => simp at h
  | x :: y :: z :: l, h => simp at h
def NumGives (s : ByteArray) (w : World) (e : Ending) (w' : World) : Prop := e = .returned (.tuple #[.int .i64 (((numberL (bl s)).getD 0 : Nat) : Int), .bool (numberL (bl s)).isSome]) ∧ w = w'
theorem num_none {s : ByteArray} {w : World} {e : Ending} (h : numberL (bl s) = none) (he : e = .returned (.tuple #[.int .i64 0, .bool false])) : NumGives s w e w := by
  unfold NumGives; rw [h]; exact ⟨he, rfl⟩
theorem num_some {s : ByteArray} {w : World} {e : Ending} {v : Nat} (h : numberL (bl s) = some v) (he : e = .returned (.tuple #[.int .i64 (v : Int), .bool true])) : NumGives s w e w := by
  unfold NumGives; rw [h]; exact ⟨he, rfl⟩
set_option maxHeartbeats 2000000 in
theorem refNumber_any (s : ByteArray) (w : World) (hs : s.size ≤ 9223372036854775807) :
    Calls Tryd.prog 38 #[.string s] w (NumGives s w) := by
  have hbl := bl_length s
  by_cases h1 : s.size < 1
  · have HN := Lib.hid (number_long (l := bl s) (by omega))
    have g1 : (s.size : Int) < 1 := by omega
    clear hbl
    go_enter Tryd.func38, Tryd.ntmps38
    go_wp2
    go_ret2
    exact num_none HN.out rfl
  · by_cases h2 : 2 < s.size
    · have HN := Lib.hid (number_long (l := bl s) (by omega))
      have g1 : ¬ (s.size : Int) < 1 := by omega
      have g2 : (2 : Int) < (s.size : Int) := by omega
      clear hbl
      go_enter Tryd.func38, Tryd.ntmps38
      go_wp2
      go_ret2
      exact num_none HN.out rfl
    · have g1 : ¬ (s.size : Int) < 1 := by omega
      have g2 : ¬ (2 : Int) < (s.size : Int) := by omega
      have g3 : 0 < s.size := by omega
      have hb0 := bl_at g3
      by_cases hz : s.size = 2 ∧ (s[0]'g3).toNat = 48
      · have HN := Lib.hid (number_zero (l := bl s) (by omega) (by rw [hb0, hz.2]))
        have g4 : ((s.size : Int) == 2) = true := by simp; omega
        have g5 : (((s[0]'g3).toNat : Int) == 48) = true := by simp; omega
        clear hbl hb0 hz
        go_enter Tryd.func38, Tryd.ntmps38
        go_wp2
        go_ret2
        exact num_none HN.out rfl
      · have hcond : (bl s).length = 1 ∨ ((bl s).length = 2 ∧ (bl s)[0]? ≠ some 48) := by
          rw [hbl, hb0]
          by_cases e : s.size = 2
          · exact .inr ⟨e, fun h => hz ⟨e, by injection h⟩⟩
          · exact .inl (by omega)
        have HG := Lib.hid (fun (hd : ∀ k c : Nat, (bl s)[k]? = some c → 48 ≤ c ∧ c ≤ 57) => number_good (l := bl s) hcond hd)
        clear hcond
        have HL := Lib.hid hbl
        have g4 : s.size = 1 ∧ ((s.size : Int) == 2) = false ∨ ((s.size : Int) == 2) = true ∧ (((s[0]'g3).toNat : Int) == 48) = false := by
          by_cases e : s.size = 2
          · refine .inr ⟨by simp; omega, ?_⟩
            have : (s[0]'g3).toNat ≠ 48 := fun h => hz ⟨e, h⟩
            simp; omega
          · exact .inl ⟨by omega, by simp; omega⟩
        have hs2 : s.size ≤ 2 := by omega
        clear hbl hb0 hz
        rcases g4 with ⟨_, g4⟩ | ⟨g4, g5⟩
        all_goals
          go_enter Tryd.func38, Tryd.ntmps38
          go_wp2_with fail
          go_loop [4, 5] (fun vn vi => ∃ k n : Nat, k ≤ s.size ∧ vi = .int .i64 k ∧ vn = .int .i64 (n : Int) ∧ n = valTo (bl s) k ∧ n < 10 ^ k ∧ ∀ j c, j < k → (bl s)[j]? = some c → 48 ≤ c ∧ c ≤ 57) (fun _ vi => s.size - (intOf vi).toNat)
          case atStart => exact ⟨0, 0, Nat.zero_le _, rfl, rfl, rfl, by decide, fun j c h => by omega⟩
          case round =>
            obtain ⟨k, n, hk, rfl, rfl, hn, hn10, hd⟩ := hrel
            have HN := Lib.hid hn
            have HD := Lib.hid hd
            have hn100 : n ≤ 100 := Nat.le_trans (Nat.le_of_lt hn10) (by have := Nat.pow_le_pow_right (n := 10) (by decide) (show k ≤ 2 by omega); omega)
            have HT := Lib.hid hn10
            clear hn hd hn10
            by_cases hlt : k < s.size
            · have hlt' : (k : Int) < (s.size : Int) := by omega
              have hbk := bl_at hlt
              by_cases hc : 48 ≤ (s[k]'hlt).toNat ∧ (s[k]'hlt).toNat ≤ 57
              · have HB := Lib.hid hbk
                have c1 : ¬ ((s[k]'hlt).toNat : Int) < 48 := by omega
                have c2 : ¬ (57 : Int) < ((s[k]'hlt).toNat : Int) := by omega
                have c3 := hc.1
                have c4 := hc.2
                clear hbk hc
                go_wp2
                go_round
                case rel =>
                  refine ⟨k + 1, 10 * n + ((s[k]'hlt).toNat - 48), by omega, by go_num, by congr 1; omega, by rw [valTo_succ HB.out, ← HN.out], ?_, fun j c hj hc => ?_⟩
                  · have := HT.out; rw [Nat.pow_succ]; omega
                  · by_cases e : j = k
                    · subst e
                      have := hc.symm.trans HB.out
                      injection this with this
                      omega
                    · exact HD.out j c (by omega) hc
                case measure => simp [intOf]; omega
              · have HNO := Lib.hid (number_bad hbk hc)
                clear hbk
                rcases Nat.lt_or_ge (s[k]'hlt).toNat 48 with c1 | c1
                · have c2 : ((s[k]'hlt).toNat : Int) < 48 := by omega
                  clear hc
                  go_wp2
                  go_ret2
                  exact num_none HNO.out rfl
                · have c2 : ¬ ((s[k]'hlt).toNat : Int) < 48 := by omega
                  have c3 : (57 : Int) < ((s[k]'hlt).toNat : Int) := by omega
                  clear hc
                  go_wp2
                  go_ret2
                  exact num_none HNO.out rfl
            · have hlt' : ¬ (k : Int) < (s.size : Int) := by omega
              obtain rfl : k = s.size := by omega
              have HY := Lib.hid (show numberL (bl s) = some n by rw [HG.out (fun j c h => HD.out j c (by have := (List.getElem?_eq_some_iff.1 h).1; rw [HL.out] at this; exact this) h), HN.out, HL.out])
              go_wp2
              go_ret2
              exact num_some HY.out rfl
def SplitGives (s : ByteArray) (c : Nat) (w : World) (e : Ending) (w' : World) : Prop := e = .returned (.tuple #[.string (str (splitL c (bl s)).1), .string (str ((splitL c (bl s)).2.getD [])), .bool (splitL c (bl s)).2.isSome]) ∧ Below w.heap.size w w'
theorem split_at {s : ByteArray} {k c : Nat} (hk : k < s.size) (hc : (s[k]'hk).toNat = c) (hq : ∀ x ∈ (bl s).take k, x ≠ c) : splitL c (bl s) = ((bl s).take k, some ((bl s).drop (k + 1))) := by
  have e : bl s = (bl s).take k ++ c :: (bl s).drop (k + 1) := by rw [← hc, ← bl_drop s k hk, List.take_append_drop]
  have := splitL_of (b := (bl s).drop (k + 1)) hq
  rw [← e] at this
  exact this
set_option maxHeartbeats 2000000 in
theorem refSplit_any (s : ByteArray) (c : Nat) (w : World) (hs : s.size ≤ 9223372036854775807) (hc : c < 256) :
    Calls Tryd.prog 27 #[.string s, .int .u8 (c : Int)] w (SplitGives s c w) := by
  have HL := Lib.hid (bl_length s)
  go_enter Tryd.func27, Tryd.ntmps27
  go_wp2_with fail
  go_loop [7] (fun vi => ∃ k : Nat, k ≤ s.size ∧ vi = .int .i64 k ∧ ∀ x ∈ (bl s).take k, x ≠ c) (fun vi => s.size - (intOf vi).toNat)
  case atStart => exact ⟨0, Nat.zero_le _, rfl, fun x hx => by simp at hx⟩
  case round =>
    obtain ⟨k, hk, rfl, hq⟩ := hrel
    have HQ := Lib.hid hq
    clear hq
    by_cases hlt : k < s.size
    · have hlt' : (k : Int) < (s.size : Int) := by omega
      by_cases he : (s[k]'hlt).toNat = c
      · have HS := Lib.hid (split_at hlt he HQ.out)
        have e1 : (((s[k]'hlt).toNat : Int) == (c : Int)) = true := by simp; omega
        have HA := Lib.hid (str_of_bl (bl_head s k))
        have HB := Lib.hid (str_of_bl (bl_tail s (k + 1)))
        have hk1 : (k : Int) + 1 ≤ (s.size : Int) := by omega
        clear he
        go_wp2_with fail
        go_quiet (fail)
        go_wp2
        go_ret3
        exact ⟨by rw [HS.out]; show _ = Ending.returned (.tuple #[.string (str ((bl s).take k)), .string (str ((bl s).drop (k + 1))), .bool true]); rw [← HA.out, ← HB.out]; rfl, below_drewN (Below.refl _ _) _⟩
      · have e1 : (((s[k]'hlt).toNat : Int) == (c : Int)) = false := by simp; omega
        have HE := Lib.hid he
        clear he
        go_wp2
        go_round
        case rel => exact ⟨k + 1, by omega, by go_num, fun x hx => by
          rw [bl_snoc s k hlt] at hx
          rcases List.mem_append.1 hx with hx | hx
          · exact HQ.out x hx
          · rw [List.mem_singleton] at hx; rw [hx]; exact HE.out⟩
        case measure => simp [intOf]; omega
    · have hlt' : ¬ (k : Int) < (s.size : Int) := by omega
      obtain rfl : k = s.size := by omega
      have HS := Lib.hid (show splitL c (bl s) = (bl s, none) from splitL_of_not (by have := HQ.out; rw [List.take_of_length_le (by rw [HL.out]; exact Nat.le_refl _)] at this; exact this))
      have HT := Lib.hid (str_bl s)
      go_wp2
      go_ret3
      exact ⟨by rw [HS.out, HT.out]; rfl, Below.refl _ _⟩
def PartGives (s : ByteArray) (w : World) (e : Ending) (w' : World) : Prop := e = .returned (.tuple (match partL (bl s) with | none => #[.int .u64 0, .bool false, .bool false] | some (n, m) => #[.int .u64 (span n m : Nat), .bool (beyond n m), .bool true])) ∧ Below w.heap.size w w'
theorem part_none {s : ByteArray} {w w' : World} {e : Ending} (h : partL (bl s) = none) (he : e = .returned (.tuple #[.int .u64 0, .bool false, .bool false])) (hb : Below w.heap.size w w') : PartGives s w e w' := by
  unfold PartGives; rw [h]; exact ⟨he, hb⟩
theorem part_some {s : ByteArray} {w w' : World} {e : Ending} {n m : Nat} {b : Bool} (h : partL (bl s) = some (n, m)) (hb' : beyond n m = b) (he : e = .returned (.tuple #[.int .u64 (span n m : Nat), .bool b, .bool true])) (hb : Below w.heap.size w w') : PartGives s w e w' := by
  unfold PartGives; rw [h]; subst hb'; exact ⟨he, hb⟩
theorem numberL_lt {l : List Nat} {v : Nat} (h : numberL l = some v) : v < 100 := by
  match l, h with
  | [x], h =>
    simp only [numberL] at h
    by_cases hx : 48 ≤ x ∧ x ≤ 57
    · rw [if_pos hx] at h; injection h with h; omega
    · rw [if_neg hx] at h; cases h
  | [x, y], h =>
    simp only [numberL] at h
    by_cases hx : x ≠ 48 ∧ (48 ≤ x ∧ x ≤ 57) ∧ (48 ≤ y ∧ y ≤ 57)
    · rw [if_pos hx] at h; injection h with h; omega
    · rw [if_neg hx] at h; cases h
theorem split_size (s : ByteArray) (c : Nat) : (splitL c (bl s)).1.length ≤ s.size ∧ ∀ b, (splitL c (bl s)).2 = some b → b.length < s.size := by
  have h := congrArg List.length (splitL_join c (bl s))
  rw [bl_length] at h
  cases hs : (splitL c (bl s)).2 with
  | none => rw [hs] at h; simp at h; exact ⟨by omega, fun b hb => by cases hb⟩
  | some r => rw [hs] at h; simp at h; exact ⟨by omega, fun b hb => by injection hb with hb; subst hb; omega⟩
theorem split_bytes (s : ByteArray) (c : Nat) : (∀ x ∈ (splitL c (bl s)).1, x < 256) ∧ ∀ b, (splitL c (bl s)).2 = some b → ∀ x ∈ b, x < 256 := by
  have h := splitL_join c (bl s)
  refine ⟨fun x hx => bl_lt s x (by rw [h]; simp [hx]), fun b hb x hx => bl_lt s x (by rw [h, hb]; simp [hx])⟩
set_option maxHeartbeats 2000000 in
theorem refPart_any (s : ByteArray) (w : World) (hs : s.size ≤ 9223372036854775807) :
    Calls Tryd.prog 28 #[.string s] w (PartGives s w) := by
  have hz := split_size s 45
  have hby := split_bytes s 45
  have hp : partL (bl s) = match (splitL 45 (bl s)).2 with | none => (numberL (splitL 45 (bl s)).1).map fun n => (n, n) | some b => (numberL (splitL 45 (bl s)).1).bind fun n => (numberL b).map fun m => (n, m) := rfl
  generalize hsp : splitL 45 (bl s) = sp at hz hby hp
  obtain ⟨a, o⟩ := sp
  have HSP := Lib.hid hsp
  have hba := bl_str hby.1
  clear hsp
  simp only at hz hby hp hba
  cases hna : numberL a with
  | none =>
    have HP := Lib.hid (show partL (bl s) = none by rw [hp, hna]; cases o <;> rfl)
    have HN := Lib.hid (show numberL (bl (str a)) = none by rw [hba]; exact hna)
    have hsa : (str a).size ≤ 9223372036854775807 := by rw [str_size]; omega
    clear hp hna hba hby hz
    go_enter Tryd.func28, Tryd.ntmps28
    go_wp2_with fail
    refine (refSplit_any s 45 _ hs (by decide)).mono ?_
    rintro e w1 ⟨rfl, hb⟩
    rw [HSP.out]
    have HB := Lib.hid hb
    clear hb
    go_wp2_with fail
    refine (refNumber_any (str a) _ hsa).mono ?_
    rintro e w' ⟨rfl, rfl⟩
    rw [HN.out]
    go_wp2
    go_ret3
    exact part_none HP.out rfl HB.out
  | some n =>
    have hn100 := numberL_lt hna
    have HN := Lib.hid (show numberL (bl (str a)) = some n by rw [hba]; exact hna)
    have hsa : (str a).size ≤ 9223372036854775807 := by rw [str_size]; omega
    cases o with
    | none =>
      have HP := Lib.hid (show partL (bl s) = some (n, n) by rw [hp, hna]; rfl)
      clear hp hna hba hby hz
      go_enter Tryd.func28, Tryd.ntmps28
      go_wp2_with fail
      refine (refSplit_any s 45 _ hs (by decide)).mono ?_
      rintro e w1 ⟨rfl, hb⟩
      rw [HSP.out]
      have HB := Lib.hid hb
      clear hb
      go_wp2_with fail
      refine (refNumber_any (str a) _ hsa).mono ?_
      rintro e w' ⟨rfl, rfl⟩
      rw [HN.out]
      go_wp2_with fail
      refine (set_any n n _ (by omega) (by omega)).mono ?_
      rintro e w' ⟨rfl, rfl⟩
      go_wp2
      all_goals
        go_ret3
        refine part_some HP.out ?_ rfl HB.out
        unfold beyond
        rw [Bool.eq_iff_iff]
        simp
        omega
    | some b =>
      have hsb : (str b).size ≤ 9223372036854775807 := by rw [str_size]; have := hz.2 b rfl; omega
      have hbb := bl_str (hby.2 b rfl)
      cases hnb : numberL b with
      | none =>
        have HP := Lib.hid (show partL (bl s) = none by rw [hp, hna]; show (numberL b).map _ = none; rw [hnb]; rfl)
        have HM := Lib.hid (show numberL (bl (str b)) = none by rw [hbb]; exact hnb)
        clear hp hna hba hby hz hnb hbb
        go_enter Tryd.func28, Tryd.ntmps28
        go_wp2_with fail
        refine (refSplit_any s 45 _ hs (by decide)).mono ?_
        rintro e w1 ⟨rfl, hb⟩
        rw [HSP.out]
        have HB := Lib.hid hb
        clear hb
        go_wp2_with fail
        refine (refNumber_any (str a) _ hsa).mono ?_
        rintro e w' ⟨rfl, rfl⟩
        rw [HN.out]
        go_wp2_with fail
        refine (refNumber_any (str b) _ hsb).mono ?_
        rintro e w' ⟨rfl, rfl⟩
        rw [HM.out]
        go_wp2
        go_ret3
        exact part_none HP.out rfl HB.out
      | some m =>
        have hm100 := numberL_lt hnb
        have HP := Lib.hid (show partL (bl s) = some (n, m) by rw [hp, hna]; show (numberL b).map _ = _; rw [hnb]; rfl)
        have HM := Lib.hid (show numberL (bl (str b)) = some m by rw [hbb]; exact hnb)
        clear hp hna hba hby hz hnb hbb
        go_enter Tryd.func28, Tryd.ntmps28
        go_wp2_with fail
        refine (refSplit_any s 45 _ hs (by decide)).mono ?_
        rintro e w1 ⟨rfl, hb⟩
        rw [HSP.out]
        have HB := Lib.hid hb
        clear hb
        go_wp2_with fail
        refine (refNumber_any (str a) _ hsa).mono ?_
        rintro e w' ⟨rfl, rfl⟩
        rw [HN.out]
        go_wp2_with fail
        refine (refNumber_any (str b) _ hsb).mono ?_
        rintro e w' ⟨rfl, rfl⟩
        rw [HM.out]
        go_wp2_with fail
        refine (set_any n m _ (by omega) (by omega)).mono ?_
        rintro e w' ⟨rfl, rfl⟩
        go_wp2
        all_goals
          go_ret3
          refine part_some HP.out ?_ rfl HB.out
          unfold beyond
          rw [Bool.eq_iff_iff]
          simp
          omega
end Go.Proofs.YtdbhdjjepgdomaaDoor
