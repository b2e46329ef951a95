/- What the laws of loads lean on: a mask of none, of one; the idle one and the least one; the sums and the gaps. Conditions: as each says. -/
import Derived.Test.YtigpcjikdpknnaaLaw
import Derived.Laws.BitsAllLaws
import Derived.OneCell
import Derived.Maps.AppendAt
namespace Go.Proofs.Ytigpcjikdpknnaa
set_option linter.unusedVariables false
open Go.RowKit
theorem tb_nat (m p : Nat) (hm : m < 18446744073709551616) : tb (m : Int) p = (m / 2 ^ p % 2 == 1) := by
  unfold tb
  have e : ((m : Int) / 2 ^ p) = ((m / 2 ^ p : Nat) : Int) := by simp
  have hlt : m / 2 ^ p < 18446744073709551616 := Nat.lt_of_le_of_lt (Nat.div_le_self _ _) hm
  have h := u64_and_nat (m / 2 ^ p) 1 hlt (by decide)
  rw [e]
  have h1 : ((1 : Nat) : Int) = 1 := rfl
  rw [h1] at h
  rw [h, nat_mask1]
  cases hb : (m / 2 ^ p % 2 == 1)
  · simp at hb ⊢; omega
  · simp at hb ⊢; omega
theorem tb_testBit (m p : Nat) (hm : m < 18446744073709551616) : tb (m : Int) p = m.testBit p := by
  rw [tb_nat m p hm, Nat.testBit_eq_decide_div_mod_eq]
  cases h : (m / 2 ^ p % 2 == 1) <;> simp_all
theorem tb_zero (p : Nat) : tb 0 p = false := by
  have := tb_testBit 0 p (by decide)
  simpa using this
theorem tb_pow (k p : Nat) (hk : k < 64) : tb (2 ^ k : Int) p = decide (k = p) := by
  have hlt : 2 ^ k < 18446744073709551616 := Nat.lt_of_lt_of_le (Nat.pow_lt_pow_right (by decide) hk) (by decide)
  have := tb_testBit (2 ^ k) p hlt
  rw [Nat.testBit_two_pow] at this
  rw [← this]; simp
theorem may_zero (zs : List Int) (p : Nat) : mayB zs 0 p = false := by unfold mayB; rw [tb_zero]; simp
theorem may_pow (zs : List Int) (k p : Nat) (hk : k < 64) : mayB zs (2 ^ k : Int) p = decide (p = k ∧ k < zs.length) := by
  unfold mayB; rw [tb_pow k p hk]
  by_cases h : k = p
  · subst h; simp [hk]
  · have : ¬ p = k := fun e => h e.symm
    simp [h, this]
theorem busiest_zero (zs : List Int) (mine : Int) : busiest zs mine 0 = -1 := firstP_none fun q _ => by
  cases h : topB zs mine 0 q
  · rfl
  · have := (topB_iff.1 h).1.1; rw [may_zero] at this; cases this
theorem least_zero (zs : List Int) : least zs 0 = -1 := firstP_none fun q _ => by
  cases h : lowB zs 0 q
  · rfl
  · have := (lowB_iff.1 h).1; rw [may_zero] at this; cases this
theorem idle0_zero (zs : List Int) : idle0 zs 0 = -1 := firstP_none fun q _ => by
  cases h : nilB zs 0 q
  · rfl
  · have := (nilB_iff.1 h).1; rw [may_zero] at this; cases this
def wantOf (zs : List Int) (k : Nat) : Int := if k < zs.length then (k : Int) else -1
theorem least_pow (zs : List Int) (k : Nat) (hk : k < 64) : least zs (2 ^ k : Int) = wantOf zs k := by
  rcases least_spec zs (2 ^ k : Int) with ⟨h1, h2⟩ | ⟨p, h1, h2, h3, _⟩
  · rw [h1]; unfold wantOf
    by_cases h : k < zs.length
    · have := h2 k h; rw [may_pow zs k k hk] at this; simp [h] at this
    · rw [if_neg h]
  · rw [may_pow zs k p hk] at h3
    simp at h3
    unfold wantOf; rw [h1, if_pos h3.2, h3.1]
theorem busiest_pow (zs : List Int) (mine : Int) (k : Nat) (hk : k < 64) (hm : (k : Int) ≠ mine) : busiest zs mine (2 ^ k : Int) = wantOf zs k := by
  rcases busiest_spec zs mine (2 ^ k : Int) with ⟨h1, h2⟩ | ⟨p, h1, h2, h3, _⟩
  · rw [h1]; unfold wantOf
    by_cases h : k < zs.length
    · have := h2 k h (by rw [may_pow zs k k hk]; simp [h]); exact absurd this hm
    · rw [if_neg h]
  · rw [may_pow zs k p hk] at h3
    simp at h3
    unfold wantOf; rw [h1, if_pos h3.2, h3.1]
theorem busiest_mine (zs : List Int) (k : Nat) (hk : k < 64) : busiest zs k (2 ^ k : Int) = -1 := by
  rcases busiest_spec zs k (2 ^ k : Int) with ⟨h1, h2⟩ | ⟨p, h1, h2, h3, h4, _⟩
  · exact h1
  · rw [may_pow zs k p hk] at h3
    simp at h3
    exact absurd (by rw [h3.1]) h4
theorem idle_least {zs : List Int} {m : Int} (hz : ∀ p, 0 ≤ zat zs p ∧ zat zs p < 18446744073709551616) :
    (∃ p : Nat, least zs m = p ∧ p < zs.length ∧ zat zs p = 0 ∧ idle0 zs m = p) ∨ (∃ p : Nat, least zs m = p ∧ p < zs.length ∧ zat zs p ≠ 0 ∧ idle0 zs m = -1) ∨ (least zs m = -1 ∧ idle0 zs m = -1) := by
  rcases least_spec zs m with ⟨h1, h2⟩ | ⟨p, h1, h2, h3, h4⟩
  · refine .inr (.inr ⟨h1, firstP_none fun q hq => ?_⟩)
    cases h : nilB zs m q
    · rfl
    · have := (nilB_iff.1 h).1; rw [h2 q hq] at this; cases this
  · by_cases h0 : zat zs p = 0
    · refine .inl ⟨p, h1, h2, h0, firstP_at h2 (nilB_iff.2 ⟨h3, h0⟩) fun q hq => ?_⟩
      cases h : nilB zs m q
      · rfl
      · obtain ⟨a, b⟩ := nilB_iff.1 h
        have := (h4 q (by omega) a).2 hq
        omega
    · refine .inr (.inl ⟨p, h1, h2, h0, firstP_none fun q hq => ?_⟩)
      cases h : nilB zs m q
      · rfl
      · obtain ⟨a, b⟩ := nilB_iff.1 h
        have := (h4 q hq a).1
        have := (hz p).1
        omega

/-- What a slice that came in is to a law, cut to a hundred. -/
theorem pre {w : World} {a0 : Option Addr} {len0 cap0 : Nat} {z0 : List Int} (w0 : IsRow .u64 w a0 len0 cap0 z0) :
    ∃ zs : List Int, zs.length ≤ len0 ∧ zs.length ≤ 100 ∧ Ints w.heap.size w (.slice a0 zs.length cap0) zs ∧ (∀ p, 0 ≤ zat zs p ∧ zat zs p < 18446744073709551616) ∧
      ∀ f W, (f = 16 ∨ f = 29) → Calls Try.prog f #[.slice a0 len0 cap0] W fun e w' => e = .returned (.slice a0 zs.length cap0) ∧ W = w' := by
  obtain ⟨f1, f2, f3⟩ := w0.few
  obtain ⟨hI, hl, hbd⟩ := w0.ints (n := min len0 100) (by omega)
  refine ⟨z0.take (min len0 100), by omega, by omega, by rw [hl]; exact hI, hbd, fun f W hf => ?_⟩
  rw [hl]
  exact few_any f a0 len0 cap0 W f1 f2 f3 hf
/-- The cells of a slice, where there is a place. -/
theorem Ints.cells {n₀ : Nat} {W : World} {a : Option Addr} {n cap : Nat} {zs : List Int} (h : Ints n₀ W (.slice a n cap) zs) {p : Nat} (hp : p < zs.length) :
    ∃ b off, a = some ⟨b, off, none⟩ ∧ b < n₀ ∧ ∀ j, j < zs.length → W.cell? ⟨b, off + j, none⟩ = some (.int .u64 (zat zs j)) := by
  rcases h with ⟨_, rfl⟩ | ⟨b, off, c, h1, hb, hc⟩
  · simp at hp
  · simp only [Value.slice.injEq] at h1
    exact ⟨b, off, h1.1, hb, hc⟩

/-! ### Sums -/
def sumN (zs : List Int) : Nat → Int
  | 0 => 0
  | k + 1 => sumN zs k + zat zs k
theorem sumN_lo {zs : List Int} (hz : ∀ p, 0 ≤ zat zs p) (k : Nat) : 0 ≤ sumN zs k := by
  induction k with
  | zero => simp [sumN]
  | succ k ih => have := hz k; unfold sumN; omega
theorem sumN_mono {zs : List Int} (hz : ∀ p, 0 ≤ zat zs p) {j k : Nat} (h : j ≤ k) : sumN zs j ≤ sumN zs k := by
  induction k with
  | zero => obtain rfl : j = 0 := by omega
            omega
  | succ k ih =>
    by_cases e : j = k + 1
    · subst e; omega
    · have := ih (by omega); have := hz k; show _ ≤ sumN zs k + zat zs k; omega
def satSum (zs : List Int) : Int := if sumN zs zs.length ≤ 18446744073709551615 then sumN zs zs.length else 18446744073709551615
theorem satSum_top {zs : List Int} (hz : ∀ p, 0 ≤ zat zs p) {k : Nat} (hk : k ≤ zs.length) (h : 18446744073709551615 < sumN zs k) : satSum zs = 18446744073709551615 := by
  have := sumN_mono hz hk
  unfold satSum; rw [if_neg (by omega)]

set_option maxHeartbeats 1000000 in
theorem sum_any (a : Option Addr) (cap : Nat) (zs : List Int) (w : World) (hI : Ints w.heap.size w (.slice a zs.length cap) zs) (hz : ∀ p, 0 ≤ zat zs p ∧ zat zs p < 18446744073709551616) (hr : zs.length ≤ 140737488351232) :
    Calls Try.prog 24 #[.slice a zs.length cap] w fun e w' => e = .returned (.int .u64 (satSum zs)) ∧ w = w' := by
  have hz0 : ∀ p, 0 ≤ zat zs p := fun p => (hz p).1
  obtain ⟨len, hlen⟩ : ∃ len, zs.length = len := ⟨_, rfl⟩
  have HL := Lib.hid hlen
  have HZ := Lib.hid hz
  have HZ0 := Lib.hid hz0
  have HI := Lib.hid hI
  rw [hlen] at hr ⊢
  clear hlen hz hz0 hI
  go_enter Try.func24, Try.ntmps24
  go_wp2
  go_loop [3, 8] (fun s i => ∃ k : Nat, k ≤ len ∧ i = .int .i64 k ∧ s = .int .u64 (sumN zs k) ∧ sumN zs k ≤ 18446744073709551615) (fun _ i => len - (intOf i).toNat)
  case atStart => exact ⟨0, Nat.zero_le _, rfl, rfl, by simp [sumN]⟩
  case round =>
    obtain ⟨k, hk, rfl, rfl, hs⟩ := hrel
    have hs0 := sumN_lo HZ0.out k
    by_cases hlt : k < len
    · obtain ⟨b, off, ha, hb, hc⟩ := HI.out.cells (p := k) (by rw [HL.out]; exact hlt)
      have hck := hc k (by rw [HL.out]; exact hlt)
      clear hc
      subst ha
      have hb1 := (HZ.out k).1
      have hb2 := (HZ.out k).2
      have hsu : sumN zs (k + 1) = sumN zs k + zat zs k := rfl
      have HS := Lib.hid hsu; clear hsu
      have hlt' : (k : Int) < (len : Int) := by omega
      generalize sumN zs k = S at *
      generalize zat zs k = Z at *
      by_cases hov : 18446744073709551615 - S < Z
      · have hres := satSum_top HZ0.out (k := k + 1) (by rw [HL.out]; omega) (by rw [HS.out]; omega)
        have HR := Lib.hid hres; clear hres
        go_wp2
        go_ret
        exact ⟨by rw [HR.out]; rfl, rfl⟩
      · go_wp2
        go_round
        case rel => exact ⟨k + 1, by omega, by go_num, by rw [HS.out], by rw [HS.out]; omega⟩
        case measure => simp [intOf]; omega
    · obtain rfl : k = len := by omega
      have hres : satSum zs = sumN zs k := by unfold satSum; rw [HL.out, if_pos hs]
      have HR := Lib.hid hres; clear hres
      go_wp2
      go_ret
      exact ⟨by rw [HR.out]; rfl, rfl⟩

set_option maxHeartbeats 1000000 in
theorem refSum_any (a : Option Addr) (cap : Nat) (zs : List Int) (w : World) (hI : Ints w.heap.size w (.slice a zs.length cap) zs) (hz : ∀ p, 0 ≤ zat zs p ∧ zat zs p < 18446744073709551616) (hr : zs.length ≤ 140737488351232) :
    Calls Try.prog 25 #[.slice a zs.length cap] w fun e w' => e = .returned (.int .u64 (satSum zs)) ∧ w = w' := by
  have hz0 : ∀ p, 0 ≤ zat zs p := fun p => (hz p).1
  obtain ⟨len, hlen⟩ : ∃ len, zs.length = len := ⟨_, rfl⟩
  have HL := Lib.hid hlen
  have HZ := Lib.hid hz
  have HZ0 := Lib.hid hz0
  have HI := Lib.hid hI
  rw [hlen] at hr ⊢
  clear hlen hz hz0 hI
  go_enter Try.func25, Try.ntmps25
  go_wp2
  go_loop [3, 4] (fun s i => ∃ k : Nat, k ≤ len ∧ i = .int .i64 k ∧ s = .int .u64 (sumN zs k) ∧ sumN zs k ≤ 18446744073709551615) (fun _ i => len - (intOf i).toNat)
  case atStart => exact ⟨0, Nat.zero_le _, rfl, rfl, by simp [sumN]⟩
  case round =>
    obtain ⟨k, hk, rfl, rfl, hs⟩ := hrel
    have hs0 := sumN_lo HZ0.out k
    by_cases hlt : k < len
    · obtain ⟨b, off, ha, hb, hc⟩ := HI.out.cells (p := k) (by rw [HL.out]; exact hlt)
      have hck := hc k (by rw [HL.out]; exact hlt)
      clear hc
      subst ha
      have hb1 := (HZ.out k).1
      have hb2 := (HZ.out k).2
      have hsu : sumN zs (k + 1) = sumN zs k + zat zs k := rfl
      have HS := Lib.hid hsu; clear hsu
      have hlt' : (k : Int) < (len : Int) := by omega
      generalize sumN zs k = S at *
      generalize zat zs k = Z at *
      by_cases hov : 18446744073709551615 < S + Z
      · have hres := satSum_top HZ0.out (k := k + 1) (by rw [HL.out]; omega) (by rw [HS.out]; omega)
        have HR := Lib.hid hres; clear hres
        have hw : IntKind.u64.wrap (S + Z) < S := by rw [IntKind.wrap_u64]; omega
        go_wp2
        go_ret
        exact ⟨by rw [HR.out]; rfl, rfl⟩
      · have hno : ¬ S + Z < S := by omega
        go_wp2
        go_round
        case rel => exact ⟨k + 1, by omega, by go_num, by rw [HS.out], by rw [HS.out]; omega⟩
        case measure => simp [intOf]; omega
    · obtain rfl : k = len := by omega
      have hres : satSum zs = sumN zs k := by unfold satSum; rw [HL.out, if_pos hs]
      have HR := Lib.hid hres; clear hres
      go_wp2
      go_ret
      exact ⟨by rw [HR.out]; rfl, rfl⟩

def gapI (a b : Int) : Int := if b ≤ a then a - b else 0
theorem gap_any (a b : Int) (w : World) (ha : 0 ≤ a) (hb : 0 ≤ b) (ha1 : a < 18446744073709551616) (hb1 : b < 18446744073709551616) :
    Calls Try.prog 26 #[.int .u64 a, .int .u64 b] w fun e w' => e = .returned (.int .u64 (gapI a b)) ∧ w = w' := by
  by_cases h : b < a
  · have HG := Lib.hid (show gapI a b = a - b by unfold gapI; rw [if_pos (by omega)])
    go_enter Try.func26, Try.ntmps26
    go_wp2
    all_goals first | omega | (go_ret; exact ⟨by rw [HG.out]; rfl, rfl⟩)
  · have h' : a ≤ b := by omega
    have HG := Lib.hid (show gapI a b = 0 by unfold gapI; split <;> omega)
    have h0 : a - a = 0 := by omega
    go_enter Try.func26, Try.ntmps26
    go_wp2
    all_goals first | omega | (go_ret; exact ⟨by rw [HG.out]; rfl, rfl⟩) | (obtain rfl : a = b := by omega
                                                                            go_ret; exact ⟨by rw [HG.out]; simp, rfl⟩)
theorem refGap_any (a b : Int) (w : World) (ha : 0 ≤ a) (hb : 0 ≤ b) (ha1 : a < 18446744073709551616) (hb1 : b < 18446744073709551616) :
    Calls Try.prog 27 #[.int .u64 a, .int .u64 b] w fun e w' => e = .returned (.int .u64 (gapI a b)) ∧ w = w' := by
  by_cases h : b ≤ a
  · have h' : ¬ a < b := by omega
    have HG := Lib.hid (show gapI a b = a - b by unfold gapI; rw [if_pos h])
    go_enter Try.func27, Try.ntmps27
    go_wp2
    go_ret
    exact ⟨by rw [HG.out]; rfl, rfl⟩
  · have h' : a < b := by omega
    have HG := Lib.hid (show gapI a b = 0 by unfold gapI; rw [if_neg h])
    go_enter Try.func27, Try.ntmps27
    go_wp2
    go_ret
    exact ⟨by rw [HG.out]; rfl, rfl⟩

theorem ownsRow_ints {w : World} {base : Nat} {v : Value} {xs : List Int} (h : w.ownsRow base 23 1 v xs.length (xs.map (Value.int .u64))) :
    ∃ a cap, v = .slice a xs.length cap ∧ Ints w.heap.size w (.slice a xs.length cap) xs := by
  obtain ⟨h0, h1⟩ := h
  rcases h1 with ⟨rfl, hn⟩ | ⟨g, cap, cur, rfl, hg, hc, hn, hm, hs, ht⟩
  · have : xs = [] := List.length_eq_zero_iff.1 hn
    subst this
    exact ⟨none, 0, rfl, .inl ⟨⟨_, _, rfl⟩, rfl⟩⟩
  · refine ⟨_, cap, rfl, .inr ⟨g, 0, cap, rfl, (Array.getElem?_eq_some_iff.1 hc).1, fun j hj => ?_⟩⟩
    have hown : w.ownsRow base 23 1 (.slice (some ⟨g, 0, none⟩) xs.length cap) xs.length (xs.map (Value.int .u64)) := ⟨h0, .inr ⟨g, cap, cur, rfl, hg, hc, hn, hm, hs, ht⟩⟩
    have := hown.cellAt j (by omega)
    rw [show 0 + j = j by omega, this]
    simp [zat, hj]
/-- The last k of zs, turned round. -/
def backTo (zs : List Int) (k : Nat) : List Int := zs.reverse.take k
theorem backTo_length {zs : List Int} {k : Nat} (h : k ≤ zs.length) : (backTo zs k).length = k := by simp [backTo]; omega
theorem backTo_succ {zs : List Int} {k : Nat} (h : k < zs.length) : backTo zs (k + 1) = backTo zs k ++ [zat zs (zs.length - 1 - k)] := by
  unfold backTo zat
  rw [List.take_succ_eq_append_getElem (by simpa using h), List.getElem_reverse, List.getElem?_eq_getElem (by omega)]
  rfl
theorem backTo_all (zs : List Int) : backTo zs zs.length = zs.reverse := by
  unfold backTo; exact List.take_of_length_le (by simp)
theorem sumN_eq (zs : List Int) (k : Nat) (h : k ≤ zs.length) : sumN zs k = (zs.take k).sum := by
  induction k with
  | zero => simp [sumN]
  | succ k ih =>
    rw [List.take_succ_eq_append_getElem (by omega)]
    simp only [sumN, List.sum_append, ih (by omega)]
    unfold zat; rw [List.getElem?_eq_getElem (by omega)]; simp
theorem satSum_reverse (zs : List Int) : satSum zs.reverse = satSum zs := by
  have h : sumN zs.reverse zs.reverse.length = sumN zs zs.length := by
    rw [sumN_eq _ _ (Nat.le_refl _), sumN_eq _ _ (Nat.le_refl _), List.take_of_length_le (Nat.le_refl _), List.take_of_length_le (Nat.le_refl _), List.sum_reverse]
  unfold satSum; rw [h]
theorem satSum_part {zs : List Int} (hz : ∀ p, 0 ≤ zat zs p ∧ zat zs p < 18446744073709551616) {p : Nat} (hp : p < zs.length) : zat zs p ≤ satSum zs := by
  have h1 := sumN_mono (fun q => (hz q).1) (show p + 1 ≤ zs.length by omega)
  have h2 := sumN_lo (fun q => (hz q).1) p
  have h3 := (hz p).2
  have h4 : sumN zs (p + 1) = sumN zs p + zat zs p := rfl
  unfold satSum; split <;> omega
theorem zat_reverse_bd {zs : List Int} (hz : ∀ p, 0 ≤ zat zs p ∧ zat zs p < 18446744073709551616) (p : Nat) : 0 ≤ zat zs.reverse p ∧ zat zs.reverse p < 18446744073709551616 := by
  by_cases h : p < zs.length
  · have := hz (zs.length - 1 - p)
    unfold zat at this ⊢
    rw [List.getElem?_reverse h]; exact this
  · have : zat zs.reverse p = 0 := by unfold zat; rw [List.getElem?_eq_none (by simpa using h)]; rfl
    rw [this]; omega
theorem Try.info23 : (Try.prog.info? 23).map (fun i => (i.zero, i.size, i.bytes)) = some (some (.int .u64 0), 1, 8) := by kernel_rfl
theorem sum_len (a : Option Addr) (len cap : Nat) (zs : List Int) (w : World) (hl : zs.length = len) (hI : Ints w.heap.size w (.slice a zs.length cap) zs) (hz : ∀ p, 0 ≤ zat zs p ∧ zat zs p < 18446744073709551616) (hr : zs.length ≤ 140737488351232) :
    Calls Try.prog 24 #[.slice a len cap] w fun e w' => e = .returned (.int .u64 (satSum zs)) ∧ w = w' := by
  subst hl; exact sum_any a cap zs w hI hz hr
theorem one_int (k : IntKind) (x : Int) : ∀ u ∈ [Value.int k x], u.oneCell' = true := by intro u hu; simp at hu; subst hu; rfl
theorem back_own {w : World} {base k : Nat} {v : Value} {zs : List Int} {x : Int} (e : backTo zs (k + 1) = backTo zs k ++ [x]) (h : w.ownsRow base 23 1 v (k + 1) ((backTo zs k).map (Value.int .u64) ++ [.int .u64 x])) :
    w.ownsRow base 23 1 v (k + 1) ((backTo zs (k + 1)).map (Value.int .u64)) := by rw [e, List.map_append]; exact h
theorem ownsRow_intsn {w : World} {base n : Nat} {v : Value} {xs : List Int} (hn : xs.length = n) (h : w.ownsRow base 23 1 v n (xs.map (Value.int .u64))) :
    ∃ a cap, v = .slice a n cap ∧ Ints w.heap.size w (.slice a n cap) xs := by subst hn; exact ownsRow_ints h
theorem gap_if {a b : Int} (h : b ≤ a) : gapI a b = a - b := by unfold gapI; rw [if_pos h]
theorem gap_no {a b : Int} (h : a ≤ b) : gapI a b = 0 := by unfold gapI; split <;> omega
end Go.Proofs.Ytigpcjikdpknnaa
