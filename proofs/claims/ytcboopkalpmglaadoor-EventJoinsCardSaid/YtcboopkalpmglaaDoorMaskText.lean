/- A set's text is made: mask.Text at every set. Conditions: the table of math/bits lies as its initialiser lays it. -/
import Derived.Test.YtcboopkalpmglaaDoorMaskPlain
import Derived.Test.YtcboopkalpmglaaDoorMaskParse
import Derived.Test.YtcboopkalpmglaaDoorBytes
import Derived.Test.YtcboopkalpmglaaDoorStrs
import Derived.Test.YtcboopkalpmglaaDoorTz
import Derived.Test.YtcboopkalpmglaaDoorShelf
namespace Go.Proofs.YtcboopkalpmglaaDoor
set_option linter.unusedVariables false
open Go.RowKit
theorem compl_eq {M f : Nat} (hM : M < 18446744073709551616) : bits .xor .u64 IntKind.u64.max ((M : Int) / 2 ^ f) = ((18446744073709551615 - M / 2 ^ f : Nat) : Int) := by
  have h1 : ((M : Int) / 2 ^ f) = ((M / 2 ^ f : Nat) : Int) := by simp
  have h2 : IntKind.u64.max = ((18446744073709551615 : Nat) : Int) := by decide
  have hy : M / 2 ^ f < 18446744073709551616 := Nat.lt_of_le_of_lt (Nat.div_le_self _ _) hM
  rw [h1, h2, u64_xor_nat _ _ (by decide) hy]
  congr 1
  refine Nat.eq_of_testBit_eq fun i => ?_
  have e : 18446744073709551615 - M / 2 ^ f = 2 ^ 64 - (M / 2 ^ f + 1) := by have : (2 : Nat) ^ 64 = 18446744073709551616 := rfl; omega
  rw [e, Nat.testBit_two_pow_sub_succ (n := 64) hy, Nat.testBit_xor, show (18446744073709551615 : Nat) = 2 ^ 64 - 1 from rfl, Nat.testBit_two_pow_sub_one]
  by_cases h : i < 64
  · simp [h]
  · rw [high_bit hy (by omega)]; simp [h]
theorem less_eq {M n f : Nat} (hM : M < 18446744073709551616) (hn : 0 < n) (hfn : f + n ≤ 64) : bits .andNot .u64 (M : Int) (IntKind.u64.wrap (IntKind.u64.wrap (IntKind.u64.wrap (2 ^ n) - 1) * 2 ^ f)) = ((M &&& (18446744073709551615 - gone n f) : Nat) : Int) := by
  have e : ∀ k : Nat, (2 : Int) ^ k = ((2 ^ k : Nat) : Int) := fun k => by simp
  have h1 : IntKind.u64.wrap (IntKind.u64.wrap (2 ^ n) - 1) = ((2 ^ n - 1 : Nat) : Int) := by
    have hle : 2 ^ n ≤ 18446744073709551616 := (Nat.pow_le_pow_right (by decide) (by omega) : 2 ^ n ≤ 2 ^ 64)
    have hpos : 0 < 2 ^ n := Nat.two_pow_pos n
    rw [IntKind.wrap_u64, IntKind.wrap_u64, e]
    generalize 2 ^ n = X at hle hpos
    omega
  have h2 : ((2 ^ n - 1 : Nat) : Int) * 2 ^ f = ((gone n f : Nat) : Int) := by rw [e, ← Int.natCast_mul]; rfl
  have hg := gone_lt hfn
  have hw : ∀ X : Nat, X < 18446744073709551616 → (X : Int) % 18446744073709551616 = X := fun X h => by omega
  rw [h1, h2, IntKind.wrap_u64, hw _ hg]
  exact u64_andNot_nat _ _ hM hg
theorem itoa_any (i : Nat) (hi : i < 100) (w : World) : Calls Tryd.prog 40 #[.int .i64 i] w fun e w' => e = .returned (.string (str (figL i))) ∧ w = w' := by
  have h : (⟨(Lib.decDigits i).toArray⟩ : ByteArray) = str (figL i) := by
    unfold str
    rw [← dec_figL hi, map_back]
  rw [← h]
  exact (Tryd.strconv_Itoa_small i hi w).mono fun e w' ⟨h1, h2⟩ => ⟨h1, h2.symm⟩
theorem join2 (a b : List UInt8) (r : List (List UInt8)) : Lib.join (a :: b :: r) [44] = a ++ 44 :: Lib.join (b :: r) [44] := by
  rw [Lib.join_cons, Lib.join_cons]; simp [Lib.joinTail]
theorem join_bl (L : List ByteArray) : (Lib.join (L.map (·.data.toList)) [44]).map UInt8.toNat = joinL (L.map bl) := by
  induction L with
  | nil => rfl
  | cons x L ih =>
    cases L with
    | nil => rw [List.map_cons, List.map_nil, Lib.join_one]; rfl
    | cons y L =>
      show (Lib.join (x.data.toList :: y.data.toList :: L.map (·.data.toList)) [44]).map UInt8.toNat = bl x ++ 44 :: joinL ((y :: L).map bl)
      rw [← ih, join2, List.map_append]
      rfl
theorem cost_le (m k : Nat) : costTo m k ≤ 3 * k := by
  induction k with
  | zero => simp [costTo]
  | succ k ih =>
    unfold costTo
    have : wt k ≤ 3 := by unfold wt figL; split <;> simp
    split <;> omega
theorem text_len {m : Nat} (hm : m < 18446744073709551616) : (textL m).length ≤ 192 := by
  by_cases h0 : m = 0
  · rw [(textL_nil hm).2 h0]; exact Nat.zero_le _
  · have h1 := text_cost hm h0
    have h2 := cost_le m 64
    unfold cost at h1
    omega
theorem join_text {m : Nat} (hm : m < 18446744073709551616) {L : List ByteArray} (h : L.map bl = (starts m).map (seg m)) :
    str (textL m) = ⟨(Lib.join (L.map (·.data.toList)) [44]).toArray⟩ ∧ (Lib.join (L.map (·.data.toList)) [44]).length ≤ 140737488355328 := by
  have e : (Lib.join (L.map (·.data.toList)) [44]).map UInt8.toNat = textL m := by rw [join_bl, h]; rfl
  constructor
  · unfold str
    rw [← e, map_back]
  · have := congrArg List.length e
    have h2 := text_len hm
    rw [List.length_map] at this
    omega
theorem figL_len (n : Nat) : (figL n).length ≤ 2 := by unfold figL; split <;> simp
theorem fig_size (n : Nat) : (str (figL n)).size ≤ 2 := by rw [str_size]; exact figL_len n
set_option maxHeartbeats 4000000 in
set_option maxRecDepth 100000 in
theorem text_any (m : Nat) (hm : m < 18446744073709551616) (w : World) (hT : Tab64 w) :
    Calls Tryd.prog 42 #[.int .u64 (m : Int)] w fun e w' => e = .returned (.string (str (textL m))) ∧ Below w.heap.size w w' := by
  have HT := Lib.hid hT
  clear hT
  go_enter Tryd.func42, Tryd.ntmps42
  go_wp2_with fail
  go_loopw [0, 3] (fun vm vl wr => ∃ (M : Nat) (L : List ByteArray), M < 18446744073709551616 ∧ vm = .int .u64 (M : Int) ∧ Own encS wr w.heap.size 9 vl L.length L ∧ L.map bl ++ (starts M).map (seg M) = (starts m).map (seg m) ∧ Below w.heap.size w wr) (fun vm _ _ => (intOf vm).toNat)
  case atStart => exact ⟨m, [], hm, rfl, Own.nil _ _ _, rfl, Below.refl _ _⟩
  case round =>
    obtain ⟨M, L, hM, rfl, hown, hL, hB⟩ := hrel
    have HL := Lib.hid hL
    have HO := Lib.hid hown
    have HB := Lib.hid hB
    have HTr := Lib.hid (HT.out.below hB (Nat.le_refl _))
    clear hL hown hB
    by_cases h0 : M = 0
    · subst h0
      have hL0 : L.map bl = (starts m).map (seg m) := by have := HL.out; rw [(starts_nil (by decide)).2 rfl] at this; simpa using this
      have hJ := join_text hm hL0
      have hl64 : L.length ≤ 64 := by
        have := congrArg List.length hL0
        have h3 : (starts m).length ≤ 64 := by unfold starts; exact Nat.le_trans (List.length_filter_le _ _) (by simp)
        simp at this
        omega
      clear hL0
      obtain ⟨_, sa, sc, hv, hc1, hc2, hc3, hrd⟩ := HO.out.rd
      subst hv
      have HJ := Lib.hid hJ
      have HR := Lib.hid hrd
      rcases Nat.eq_zero_or_pos L.length with hl | hl
      · have hln : L = [] := List.length_eq_zero_iff.1 hl
        subst hln
        go_wp2_with fail
        refine (Tryd.strings_Join_none sa sc _ _).mono ?_
        rintro e w' ⟨rfl, rfl⟩
        go_wp2
        go_ret
        exact ⟨by rw [HJ.out.1]; rfl, HB.out⟩
      · obtain ⟨b, off, hab, hbl, hcs⟩ := hrd.cells hl
        subst hab
        go_wp2_with fail
        refine (Tryd.strings_Join b off sc L _ _ (fun j x hj => by have := hcs j x hj 0 _ rfl; simpa [encS] using this) hbl (by omega) hc1 HJ.out.2).mono ?_
        rintro e w' ⟨rfl, hb⟩
        have HB3 := Lib.hid (HB.out.trans (hb.mono (by have := HB.out.size; omega)))
        clear hb
        go_wp2
        go_ret
        exact ⟨by rw [HJ.out.1]; rfl, HB3.out⟩
    · have h1 : ((M : Int) != 0) = true := by simp; omega
      have HS := Lib.hid (step_ctz hM h0)
      go_wp2_with fail
      refine (tz_any M hM _ HTr.out).mono ?_
      rintro e w' ⟨rfl, rfl⟩
      generalize Lib.ctz 64 M = f at HS ⊢
      have hf := HS.out.f64
      go_wp2_with fail
      rw [compl_eq hM]
      refine (tz_any _ (Nat.lt_of_le_of_lt (Nat.sub_le _ _) (by decide)) _ HTr.out).mono ?_
      rintro e w' ⟨rfl, rfl⟩
      generalize Lib.ctz 64 (18446744073709551615 - M / 2 ^ f) = n at HS ⊢
      have hn0 := HS.out.n0
      have hfn := HS.out.fn
      go_wp2_with fail
      refine (itoa_any f (by omega) _).mono ?_
      rintro e w' ⟨rfl, rfl⟩
      by_cases hn1 : 1 < n
      · have hn2 : (1 : Int) < (n : Int) := by omega
        go_wp2_with fail
        have e1 : (f : Int) + (n : Int) - 1 = ((f + n - 1 : Nat) : Int) := by omega
        rw [e1]
        clear e1
        refine (itoa_any (f + n - 1) (by omega) _).mono ?_
        rintro e w' ⟨rfl, rfl⟩
        have z1 := fig_size f
        have z2 := fig_size (f + n - 1)
        go_upto_region 8 with fail
        rw [show ({ data := #[45] } : ByteArray) = str [45] from rfl]
        generalize hone : str (figL f) ++ (str [45] ++ str (figL (f + n - 1))) = one
        have HONE := Lib.hid (show bl one = seg M f by
          rw [← hone]
          unfold seg
          rw [HS.out.ende]
          rw [if_pos (by omega), bl_append, bl_append, bl_str (l := figL f) (fun x hx => by have := figL_in f (by omega) x hx; omega), bl_str (l := figL (f + n - 1)) (fun x hx => by have := figL_in (f + n - 1) (by omega) x hx; omega), bl_str (l := [45]) (by decide)]
          rfl)
        clear hone
        have hl64 : L.length ≤ 64 := by
          have := congrArg List.length HL.out
          have h3 : (starts m).length ≤ 64 := by unfold starts; exact Nat.le_trans (List.length_filter_le _ _) (by simp)
          simp at this
          omega
        have HOA := Lib.hid (HO.out.alloc (.cells #[.string one] 9))
        have hszw := HB.out.size
        go_wp2_with ((at_builtin; refine append_str rfl _ _ rfl w.heap.size _ L.length L rfl HOA.out wr.heap.size _ one rfl (cnewb.trans rfl) (by omega) (by simp; omega) ?_; intro vl' u2 ho2 hg2 hloc2))
        have HO2 := Lib.hid ho2
        have HB2 := Lib.hid ((HB.out.alloc hszw (.cells #[.string one] 9)).grown hg2 (by simp; omega) (fun j e => (HO.out.lt j e).1))
        clear ho2 hg2 hloc2 hszw
        have HLE := Lib.hid (less_eq hM hn0 hfn)
        go_roundw
        case rel => exact ⟨_, L ++ [one], Nat.lt_of_le_of_lt Nat.and_le_left hM, by rw [HLE.out], by rw [List.length_append]; exact HO2.out, by rw [← HL.out, HS.out.segs, List.map_append, List.append_assoc, ← HONE.out]; rfl, HB2.out⟩
        case measure => rw [HLE.out]; have := HS.out.lt; simp [intOf]; omega
      · have hn2 : ¬ (1 : Int) < (n : Int) := by omega
        go_upto_region 8 with fail
        generalize hone : str (figL f) = one
        have HONE := Lib.hid (show bl one = seg M f by
          rw [← hone]
          unfold seg
          rw [HS.out.ende]
          rw [if_neg (by omega), bl_str (fun x hx => by have := figL_in f (by omega) x hx; omega)])
        clear hone
        have hl64 : L.length ≤ 64 := by
          have := congrArg List.length HL.out
          have h3 : (starts m).length ≤ 64 := by unfold starts; exact Nat.le_trans (List.length_filter_le _ _) (by simp)
          simp at this
          omega
        have HOA := Lib.hid (HO.out.alloc (.cells #[.string one] 9))
        have hszw := HB.out.size
        go_wp2_with ((at_builtin; refine append_str rfl _ _ rfl w.heap.size _ L.length L rfl HOA.out wr.heap.size _ one rfl (cnewb.trans rfl) (by omega) (by simp; omega) ?_; intro vl' u2 ho2 hg2 hloc2))
        have HO2 := Lib.hid ho2
        have HB2 := Lib.hid ((HB.out.alloc hszw (.cells #[.string one] 9)).grown hg2 (by simp; omega) (fun j e => (HO.out.lt j e).1))
        clear ho2 hg2 hloc2 hszw
        have HLE := Lib.hid (less_eq hM hn0 hfn)
        go_roundw
        case rel => exact ⟨_, L ++ [one], Nat.lt_of_le_of_lt Nat.and_le_left hM, by rw [HLE.out], by rw [List.length_append]; exact HO2.out, by rw [← HL.out, HS.out.segs, List.map_append, List.append_assoc, ← HONE.out]; rfl, HB2.out⟩
        case measure => rw [HLE.out]; have := HS.out.lt; simp [intOf]; omega
theorem joinL_bytes {l : List (List Nat)} (h : ∀ s ∈ l, ∀ x ∈ s, x < 256) : ∀ x ∈ joinL l, x < 256 := by
  match l, h with
  | [], _ => intro x hx; cases hx
  | [s], h => exact h s (by simp)
  | s :: t :: l, h =>
    intro x hx
    rcases List.mem_append.1 hx with hx | hx
    · exact h s (by simp) x hx
    · rcases List.mem_cons.1 hx with rfl | hx
      · decide
      · exact joinL_bytes (l := t :: l) (fun s hs => h s (by simp at hs ⊢; exact .inr hs)) x hx
theorem text_bytes {m : Nat} (hm : m < 18446744073709551616) : ∀ x ∈ textL m, x < 256 := by
  refine joinL_bytes fun s hs => ?_
  obtain ⟨p, hp, rfl⟩ := List.mem_map.1 hs
  obtain ⟨h1, h2, _, _⟩ := endOf_spec hm (starts_bit p hp)
  have f1 := figL_in p (by omega)
  have f2 := figL_in (endOf m p) (by omega)
  intro x hx
  unfold seg at hx
  split at hx
  · rcases List.mem_append.1 hx with hx | hx
    · have := f1 x hx; omega
    · rcases List.mem_cons.1 hx with rfl | hx
      · decide
      · have := f2 x hx; omega
  · have := f1 x hx; omega
end Go.Proofs.YtcboopkalpmglaaDoor
