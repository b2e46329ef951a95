/- The document's number at every string. Conditions: the string below 2^47 bytes. -/
import Derived.Test.YtcboopkalpmglaaDoorEvNum
import Derived.Test.YtcboopkalpmglaaDoorEvFig
namespace Go.Proofs.YtcboopkalpmglaaDoor
set_option linter.unusedVariables false
open Go.RowKit
/-- Where the figures begin. -/
def dFrom (l : List Nat) : Nat := if l.head? = some 45 then 1 else 0
/-- The value as far as i, if the text is a number. -/
def NumAt (s : ByteArray) (i : Nat) (n : Int) : Prop := (-9223372036854775808 ≤ n ∧ n ≤ 9223372036854775807) ∧ ∀ x, numOf (bl s) = some x → n = lowTo (((bl s).drop (dFrom (bl s))).take (i - dFrom (bl s)))
theorem lowTo_snoc (l : List Nat) (c : Nat) : lowTo (l ++ [c]) = 10 * lowTo l - ((c : Int) - 48) := by unfold lowTo; rw [List.foldl_append]; rfl
/-- A number's text: its figures, their value, its length. -/
theorem num_text {s : ByteArray} {x : Int} (h : numOf (bl s) = some x) :
    digs ((bl s).drop (dFrom (bl s))) ∧ lowTo ((bl s).drop (dFrom (bl s))) = -(x.natAbs : Int) ∧ (x < 0 ↔ (bl s).head? = some 45) ∧ s.size ≤ 20 ∧ dFrom (bl s) ≤ s.size := by
  obtain ⟨e, l1, l2⟩ := numOf_some h
  have hlen : s.size ≤ 20 := by rw [← bl_length, ← e]; exact dec_len l1 l2
  have hlow : ∀ l, digs l → lowTo l = -((uval 0 l : Nat) : Int) := fun l hd => by
    have := low_uval hd 0
    unfold lowTo
    simpa using this
  rcases dec_shape x with ⟨hx, l, hl, hd, hu, hn⟩ | ⟨hx, hd, hu, hn⟩
  · rw [e] at hl
    have hf : dFrom (bl s) = 1 := by unfold dFrom; rw [hl]; rfl
    refine ⟨?_, ?_, ?_, hlen, ?_⟩
    · rw [hf, hl]; exact hd
    · rw [hf, hl]; show lowTo l = _; rw [hlow l hd, hu]
    · rw [hl]; simp [hx]
    · rw [hf, ← bl_length, hl]; simp
  · rw [e] at hd hu hn
    have hh : (bl s).head? ≠ some 45 := fun h => by
      cases hb : bl s with
      | nil => rw [hb] at h; cases h
      | cons c r =>
        rw [hb] at h hd
        simp at h
        have := hd c (by simp)
        omega
    have hf : dFrom (bl s) = 0 := by unfold dFrom; rw [if_neg hh]
    refine ⟨?_, ?_, ?_, hlen, ?_⟩
    · rw [hf]; exact hd
    · rw [hf, List.drop_zero, hlow _ hd, hu]; omega
    · constructor
      · intro h; omega
      · intro h; exact absurd h hh
    · rw [hf]; omega
theorem low_le {l : List Nat} (hd : digs l) (k : Nat) : lowTo l ≤ lowTo (l.take k) ∧ lowTo (l.take k) ≤ 0 := by
  have key : ∀ l, digs l → lowTo l = -((uval 0 l : Nat) : Int) := fun l hd => by
    have := low_uval hd 0
    unfold lowTo
    simpa using this
  have ht : digs (l.take k) := fun c hc => hd c (List.mem_of_mem_take hc)
  rw [key l hd, key _ ht]
  have e : uval 0 l = uval (uval 0 (l.take k)) (l.drop k) := by
    unfold uval
    rw [← List.foldl_append, List.take_append_drop]
  have := uval_le (l := l.drop k) (acc := uval 0 (l.take k))
  rw [← e] at this
  omega
theorem numAt_next {s : ByteArray} {i : Nat} {n : Int} (h : NumAt s i n) (hi : i < s.size) (hf : dFrom (bl s) ≤ i) (m : Int)
    (hm : m = wrap64 (10 * n - (((s[i]'hi).toNat : Int) - 48))) : NumAt s (i + 1) m := by
  refine ⟨by rw [hm]; unfold wrap64; omega, fun x hx => ?_⟩
  have hn := h.2 x hx
  obtain ⟨hd, hv, _, _, _⟩ := num_text hx
  obtain ⟨_, l1, l2⟩ := numOf_some hx
  have e : ((bl s).drop (dFrom (bl s))).take (i + 1 - dFrom (bl s)) = ((bl s).drop (dFrom (bl s))).take (i - dFrom (bl s)) ++ [(s[i]'hi).toNat] := by
    rw [show i + 1 - dFrom (bl s) = (i - dFrom (bl s)) + 1 by omega, List.take_add_one, List.getElem?_drop, show dFrom (bl s) + (i - dFrom (bl s)) = i by omega, bl_at hi]
    rfl
  have hb := low_le hd (i + 1 - dFrom (bl s))
  rw [e, lowTo_snoc] at hb ⊢
  rw [hm, hn]
  exact i64_in (by omega) (by omega)
theorem numAt_start (s : ByteArray) : NumAt s (dFrom (bl s)) 0 := ⟨⟨by decide, by decide⟩, fun x hx => by rw [Nat.sub_self]; rfl⟩
/-- What is left at the end. -/
theorem numAt_end {s : ByteArray} {n m : Int} (h : NumAt s s.size n) (hm : m = if (bl s).head? = some 45 then n else wrap64 (-n)) :
    (-9223372036854775808 ≤ m ∧ m ≤ 9223372036854775807) ∧ (∀ x, numOf (bl s) = some x → m = x) ∧ (numOf (bl s)).isSome = decide (str (dec m) = s) := by
  have hr : -9223372036854775808 ≤ m ∧ m ≤ 9223372036854775807 := by
    rw [hm]; split
    · exact h.1
    · unfold wrap64; omega
  have hx : ∀ x, numOf (bl s) = some x → m = x := fun x hx => by
    have hn := h.2 x hx
    obtain ⟨hd, hv, hsg, _, hf⟩ := num_text hx
    obtain ⟨_, l1, l2⟩ := numOf_some hx
    rw [List.take_of_length_le (by rw [List.length_drop, bl_length]; exact Nat.le_refl _), hv] at hn
    rw [hm]
    by_cases hs : (bl s).head? = some 45
    · rw [if_pos hs]; have := hsg.2 hs; omega
    · rw [if_neg hs]
      have : ¬ x < 0 := fun h => hs (hsg.1 h)
      rw [hn]; exact (i64_in (by omega) (by omega)).trans (by omega)
  refine ⟨hr, hx, ?_⟩
  cases hq : numOf (bl s) with
  | some x =>
    have := hx x hq
    subst this
    have e := (numOf_some hq).1
    rw [show str (dec m) = s by rw [e, str_bl]]
    simp
  | none =>
    have : ¬ str (dec m) = s := fun e => by
      have e2 : dec m = bl s := by
        rw [← e, bl_str (fun x hx => by
          rw [← dec_itoa] at hx
          obtain ⟨y, _, rfl⟩ := List.mem_map.1 hx
          exact y.toNat_lt)]
      rw [numOf_iff.2 ⟨e2, hr.1, hr.2⟩] at hq
      cases hq
    simp [this]
/-- A byte that no number has, or too many of them. -/
theorem num_bad {s : ByteArray} {i : Nat} (hi : i < s.size) (hf : dFrom (bl s) ≤ i) (hb : (s[i]'hi).toNat < 48 ∨ 57 < (s[i]'hi).toNat ∨ 20 < s.size) : numOf (bl s) = none := by
  cases hq : numOf (bl s) with
  | none => rfl
  | some x =>
    exfalso
    obtain ⟨hd, _, _, hz, _⟩ := num_text hq
    have : (s[i]'hi).toNat ∈ (bl s).drop (dFrom (bl s)) := by
      rw [List.mem_iff_getElem?]
      exact ⟨i - dFrom (bl s), by rw [List.getElem?_drop, show dFrom (bl s) + (i - dFrom (bl s)) = i by omega, bl_at hi]⟩
    have := hd _ this
    omega
theorem numGives_of {s : ByteArray} {w w' : World} {e : Ending} {m : Int} {b : Bool} (hr : -9223372036854775808 ≤ m ∧ m ≤ 9223372036854775807) (hx : ∀ x, numOf (bl s) = some x → m = x) (hb : (numOf (bl s)).isSome = b) (he : e = .returned (.tuple #[.int .i64 m, .bool b])) (hw : Below w.heap.size w w') : EvGives s w e w' :=
  ⟨⟨m, by rw [hb]; exact he, hx, hr⟩, hw⟩
theorem numGives_bad {s : ByteArray} {w w' : World} {e : Ending} (hn : numOf (bl s) = none) (he : e = .returned (.tuple #[.int .i64 0, .bool false])) (hw : Below w.heap.size w w') : EvGives s w e w' :=
  numGives_of (by decide) (fun x hx => by rw [hn] at hx; cases hx) (by rw [hn]; rfl) he hw
set_option maxRecDepth 20000 in
set_option maxHeartbeats 4000000 in
theorem evNumber_neg (s : ByteArray) (w : World) (hs : s.size ≤ 140737488351232) (h0 : 0 < s.size) (h1 : (s[0]'h0).toNat = 45) :
    Calls Tryd.prog 52 #[.string s] w (EvGives s w) := by
  have hh : (bl s).head? = some 45 := by rw [List.head?_eq_getElem?, bl_at h0, h1]
  have HH := Lib.hid hh
  have HF := Lib.hid (show dFrom (bl s) = 1 by unfold dFrom; rw [if_pos hh])
  have h0' : (0 : Int) < (s.size : Int) := by omega
  have h2 : (((s[0]'h0).toNat : Int) == 45) = true := by simp; omega
  clear hh
  go_enter Tryd.func52, Tryd.ntmps52
  go_wp2_with fail
  go_loop [4, 7] (fun vn vi => ∃ (n : Int) (i : Nat), vn = .int .i64 n ∧ vi = .int .i64 (i : Int) ∧ i ≤ s.size ∧ 1 ≤ i ∧ NumAt s i n) (fun _ vi => s.size - (intOf vi).toNat)
  case atStart => exact ⟨0, 1, rfl, rfl, h0, Nat.le_refl _, by have := numAt_start s; rw [HF.out] at this; exact this⟩
  case round =>
    obtain ⟨n, i, rfl, rfl, hi, hfi, hat⟩ := hrel
    have HA := Lib.hid hat
    have hn1 := hat.1.1
    have hn2 := hat.1.2
    clear hat
    by_cases hlt : i < s.size
    · have hlt' : (i : Int) < (s.size : Int) := by omega
      have HN := Lib.hid (numAt_next HA.out hlt (by rw [HF.out]; exact hfi))
      have HX := Lib.hid (num_bad hlt (by rw [HF.out]; exact hfi))
      rcases Nat.lt_or_ge (s[i]'hlt).toNat 48 with c1 | c1
      · have HY := Lib.hid (HX.out (.inl c1))
        have c2 : ((s[i]'hlt).toNat : Int) < 48 := by omega
        go_wp2
        go_ret2
        exact numGives_bad HY.out rfl (Below.refl _ _)
      · have c2 : ¬ ((s[i]'hlt).toNat : Int) < 48 := by omega
        rcases Nat.lt_or_ge 57 (s[i]'hlt).toNat with c3 | c3
        · have HY := Lib.hid (HX.out (.inr (.inl c3)))
          have c4 : (57 : Int) < ((s[i]'hlt).toNat : Int) := by omega
          go_wp2
          go_ret2
          exact numGives_bad HY.out rfl (Below.refl _ _)
        · have c4 : ¬ (57 : Int) < ((s[i]'hlt).toNat : Int) := by omega
          rcases Nat.lt_or_ge 20 s.size with c5 | c5
          · have HY := Lib.hid (HX.out (.inr (.inr c5)))
            have c6 : (20 : Int) < (s.size : Int) := by omega
            go_wp2
            go_ret2
            exact numGives_bad HY.out rfl (Below.refl _ _)
          · have c6 : ¬ (20 : Int) < (s.size : Int) := by omega
            go_wp2
            go_round
            case rel => exact ⟨_, i + 1, rfl, by go_num, by omega, by omega, HN.out _ (by unfold wrap64; omega)⟩
            case measure => simp [intOf]; omega
    · have hlt' : ¬ (i : Int) < (s.size : Int) := by omega
      obtain rfl : i = s.size := by omega
      have HE := Lib.hid (numAt_end HA.out (m := n) (by rw [if_pos HH.out]))
      clear HA
      go_wp2_with fail
      generalize n = m at HE ⊢
      refine (fig_any m.natAbs m _ (Nat.le_refl _) HE.out.1.1 HE.out.1.2).mono ?_
      rintro e w1 ⟨rfl, hb⟩
      have HB := Lib.hid hb
      clear hb
      by_cases hq : str (dec m) = s
      · have HQ := Lib.hid (show (numOf (bl s)).isSome = true by rw [HE.out.2.2]; simp [hq])
        have hbe : ((str (dec m)).toList == s.toList) = true := by rw [hq]; exact list_beq_true s
        clear hq
        go_wp2
        go_ret2
        exact numGives_of HE.out.1 HE.out.2.1 HQ.out rfl HB.out
      · have HQ := Lib.hid (show (numOf (bl s)).isSome = false by rw [HE.out.2.2]; simp [hq])
        have hbe := list_beq_false hq
        clear hq
        go_wp2
        go_ret2
        exact numGives_of HE.out.1 HE.out.2.1 HQ.out rfl HB.out
set_option maxRecDepth 20000 in
set_option maxHeartbeats 4000000 in
theorem evNumber_pos (s : ByteArray) (w : World) (hs : s.size ≤ 140737488351232) (h0 : 0 < s.size) (h1 : (s[0]'h0).toNat ≠ 45) :
    Calls Tryd.prog 52 #[.string s] w (EvGives s w) := by
  have hh : (bl s).head? ≠ some 45 := by rw [List.head?_eq_getElem?, bl_at h0]; simp; exact h1
  have HH := Lib.hid hh
  have HF := Lib.hid (show dFrom (bl s) = 0 by unfold dFrom; rw [if_neg hh])
  have h0' : (0 : Int) < (s.size : Int) := by omega
  have h2 : (((s[0]'h0).toNat : Int) == 45) = false := by simp; omega
  clear hh
  go_enter Tryd.func52, Tryd.ntmps52
  go_wp2_with fail
  go_loop [4, 7] (fun vn vi => ∃ (n : Int) (i : Nat), vn = .int .i64 n ∧ vi = .int .i64 (i : Int) ∧ i ≤ s.size ∧ 0 ≤ i ∧ NumAt s i n) (fun _ vi => s.size - (intOf vi).toNat)
  case atStart => exact ⟨0, 0, rfl, rfl, Nat.zero_le _, Nat.le_refl _, by have := numAt_start s; rw [HF.out] at this; exact this⟩
  case round =>
    obtain ⟨n, i, rfl, rfl, hi, hfi, hat⟩ := hrel
    have HA := Lib.hid hat
    have hn1 := hat.1.1
    have hn2 := hat.1.2
    clear hat
    by_cases hlt : i < s.size
    · have hlt' : (i : Int) < (s.size : Int) := by omega
      have HN := Lib.hid (numAt_next HA.out hlt (by rw [HF.out]; exact hfi))
      have HX := Lib.hid (num_bad hlt (by rw [HF.out]; exact hfi))
      rcases Nat.lt_or_ge (s[i]'hlt).toNat 48 with c1 | c1
      · have HY := Lib.hid (HX.out (.inl c1))
        have c2 : ((s[i]'hlt).toNat : Int) < 48 := by omega
        go_wp2
        go_ret2
        exact numGives_bad HY.out rfl (Below.refl _ _)
      · have c2 : ¬ ((s[i]'hlt).toNat : Int) < 48 := by omega
        rcases Nat.lt_or_ge 57 (s[i]'hlt).toNat with c3 | c3
        · have HY := Lib.hid (HX.out (.inr (.inl c3)))
          have c4 : (57 : Int) < ((s[i]'hlt).toNat : Int) := by omega
          go_wp2
          go_ret2
          exact numGives_bad HY.out rfl (Below.refl _ _)
        · have c4 : ¬ (57 : Int) < ((s[i]'hlt).toNat : Int) := by omega
          rcases Nat.lt_or_ge 20 s.size with c5 | c5
          · have HY := Lib.hid (HX.out (.inr (.inr c5)))
            have c6 : (20 : Int) < (s.size : Int) := by omega
            go_wp2
            go_ret2
            exact numGives_bad HY.out rfl (Below.refl _ _)
          · have c6 : ¬ (20 : Int) < (s.size : Int) := by omega
            go_wp2
            go_round
            case rel => exact ⟨_, i + 1, rfl, by go_num, by omega, by omega, HN.out _ (by unfold wrap64; omega)⟩
            case measure => simp [intOf]; omega
    · have hlt' : ¬ (i : Int) < (s.size : Int) := by omega
      obtain rfl : i = s.size := by omega
      have HE := Lib.hid (numAt_end HA.out (m := wrap64 (-n)) (by rw [if_neg HH.out]))
      clear HA
      go_wp2_with fail
      generalize wrap64 (-n) = m at HE ⊢
      refine (fig_any m.natAbs m _ (Nat.le_refl _) HE.out.1.1 HE.out.1.2).mono ?_
      rintro e w1 ⟨rfl, hb⟩
      have HB := Lib.hid hb
      clear hb
      by_cases hq : str (dec m) = s
      · have HQ := Lib.hid (show (numOf (bl s)).isSome = true by rw [HE.out.2.2]; simp [hq])
        have hbe : ((str (dec m)).toList == s.toList) = true := by rw [hq]; exact list_beq_true s
        clear hq
        go_wp2
        go_ret2
        exact numGives_of HE.out.1 HE.out.2.1 HQ.out rfl HB.out
      · have HQ := Lib.hid (show (numOf (bl s)).isSome = false by rw [HE.out.2.2]; simp [hq])
        have hbe := list_beq_false hq
        clear hq
        go_wp2
        go_ret2
        exact numGives_of HE.out.1 HE.out.2.1 HQ.out rfl HB.out
set_option maxRecDepth 20000 in
set_option maxHeartbeats 4000000 in
theorem evNumber_nil (s : ByteArray) (w : World) (hs : s.size ≤ 140737488351232) (h0 : s.size = 0) :
    Calls Tryd.prog 52 #[.string s] w (EvGives s w) := by
  have hh : (bl s).head? ≠ some 45 := by rw [(bl_nil s).2 h0]; simp
  have HH := Lib.hid hh
  have HF := Lib.hid (show dFrom (bl s) = 0 by unfold dFrom; rw [if_neg hh])
  have h0' : ¬ (0 : Int) < (s.size : Int) := by omega
  clear hh
  go_enter Tryd.func52, Tryd.ntmps52
  go_wp2_with fail
  go_loop [4, 7] (fun vn vi => ∃ (n : Int) (i : Nat), vn = .int .i64 n ∧ vi = .int .i64 (i : Int) ∧ i ≤ s.size ∧ 0 ≤ i ∧ NumAt s i n) (fun _ vi => s.size - (intOf vi).toNat)
  case atStart => exact ⟨0, 0, rfl, rfl, Nat.zero_le _, Nat.le_refl _, by have := numAt_start s; rw [HF.out] at this; exact this⟩
  case round =>
    obtain ⟨n, i, rfl, rfl, hi, hfi, hat⟩ := hrel
    have HA := Lib.hid hat
    have hn1 := hat.1.1
    have hn2 := hat.1.2
    clear hat
    by_cases hlt : i < s.size
    · exact absurd hlt (by omega)
    · have hlt' : ¬ (i : Int) < (s.size : Int) := by omega
      obtain rfl : i = s.size := by omega
      have HE := Lib.hid (numAt_end HA.out (m := wrap64 (-n)) (by rw [if_neg HH.out]))
      clear HA
      go_wp2_with fail
      generalize wrap64 (-n) = m at HE ⊢
      refine (fig_any m.natAbs m _ (Nat.le_refl _) HE.out.1.1 HE.out.1.2).mono ?_
      rintro e w1 ⟨rfl, hb⟩
      have HB := Lib.hid hb
      clear hb
      by_cases hq : str (dec m) = s
      · have HQ := Lib.hid (show (numOf (bl s)).isSome = true by rw [HE.out.2.2]; simp [hq])
        have hbe : ((str (dec m)).toList == s.toList) = true := by rw [hq]; exact list_beq_true s
        clear hq
        go_wp2
        go_ret2
        exact numGives_of HE.out.1 HE.out.2.1 HQ.out rfl HB.out
      · have HQ := Lib.hid (show (numOf (bl s)).isSome = false by rw [HE.out.2.2]; simp [hq])
        have hbe := list_beq_false hq
        clear hq
        go_wp2
        go_ret2
        exact numGives_of HE.out.1 HE.out.2.1 HQ.out rfl HB.out
theorem evNumber (s : ByteArray) (w : World) (hs : s.size ≤ 140737488351232) :
    Calls Tryd.prog 52 #[.string s] w (EvGives s w) := by
  rcases Nat.eq_zero_or_pos s.size with h0 | h0
  · exact evNumber_nil s w hs h0
  · by_cases h1 : (s[0]'h0).toNat = 45
    · exact evNumber_neg s w hs h0 h1
    · exact evNumber_pos s w hs h0 h1
end Go.Proofs.YtcboopkalpmglaaDoor
