/- What asks one task, or two: whether one may be pulled, by the program and by the document; the orders; the closures of pull.Choose. Conditions: the numbers are within their kinds. -/
import Derived.Test.YtkgpjcoapopgmaaFns
namespace Go.Proofs.Ytkgpjcoapopgmaa
set_option linter.unusedVariables false
open Go.RowKit
theorem tb_nat (m p : Nat) (hm : m < 18446744073709551616) : tb (m : Int) p = (m / 2 ^ p % 2 == 1) := by
  unfold tb
  have e : ((m : Int) / 2 ^ p) = ((m / 2 ^ p : Nat) : Int) := by simp
  have hlt : m / 2 ^ p < 18446744073709551616 := Nat.lt_of_le_of_lt (Nat.div_le_self _ _) hm
  have h := u64_and_nat (m / 2 ^ p) 1 hlt (by decide)
  rw [e]
  have h1 : ((1 : Nat) : Int) = 1 := rfl
  rw [h1] at h
  rw [h, nat_mask1]
  cases hb : (m / 2 ^ p % 2 == 1)
  · simp at hb ⊢; omega
  · simp at hb ⊢; omega
/-- The numbers of a task are within their kinds. -/
def CdOk (c : Cd) : Prop := U64 c.w ∧ U64 c.m
theorem tb_rem {m : Int} (k : Nat) (hm : U64 m) : ((m / 2 ^ k).tmod 2 == 1) = tb m k := by
  obtain ⟨h0, h1⟩ := hm
  obtain ⟨n, rfl⟩ := Int.eq_ofNat_of_zero_le h0
  rw [Int.tmod_eq_emod_of_nonneg (Int.ediv_nonneg (by omega) (Int.pow_nonneg (by omega)))]
  rw [tb_nat n k (by omega)]
  have e : ((n : Int) / 2 ^ k) = ((n / 2 ^ k : Nat) : Int) := by simp
  rw [e]
  cases hb : (n / 2 ^ k % 2 == 1)
  · simp at hb ⊢; omega
  · simp at hb ⊢; omega
theorem mayC_neg {c : Cd} {gap p : Int} (h : ¬ 0 ≤ p) : mayC c gap p = false := by unfold mayC; rw [decide_eq_false h]; rfl
theorem mayC_far {c : Cd} {gap p : Int} (h : ¬ p < 64) : mayC c gap p = false := by unfold mayC; rw [decide_eq_false h]; simp
theorem mayC_mask {c : Cd} {gap : Int} {k : Nat} (h : tb c.m k = false) : mayC c gap k = false := by unfold mayC; simp [h]
theorem mayC_runs {c : Cd} {gap p : Int} (h : c.r = true) : mayC c gap p = false := by unfold mayC; simp [h]
theorem mayC_none {c : Cd} {gap p : Int} (h : ¬ 0 < c.w) : mayC c gap p = false := by unfold mayC; rw [decide_eq_false h]; simp
theorem mayC_gap {c : Cd} {gap p : Int} (h : ¬ c.w < gap) : mayC c gap p = false := by unfold mayC; rw [decide_eq_false h]; simp
set_option maxHeartbeats 1000000 in
theorem may_any (c : Cd) (gap p : Int) (w : World) (hc : CdOk c) :
    Calls Try.prog 16 #[.agg #[.int .i64 c.id, .int .u64 c.w, .int .u64 c.m, .bool c.r], .int .u64 gap, .int .i64 p] w fun e w' => e = .returned (.bool (mayC c gap p)) ∧ w' = w.alloc (.cells #[.int .i64 c.id, .int .u64 c.w, .int .u64 c.m, .bool c.r] 35) := by
  obtain ⟨i, wt, m, r⟩ := c
  obtain ⟨⟨hw0, hw1⟩, ⟨hm0, hm1⟩⟩ := hc
  simp only at hw0 hw1 hm0 hm1
  by_cases hp : 0 ≤ p
  · obtain ⟨k, rfl⟩ := Int.eq_ofNat_of_zero_le hp
    by_cases h64 : (k : Int) < 64
    · have hte : (bits BinOp.and IntKind.u64 (m / 2 ^ k) 1 == 1) = tb m k := rfl
      cases ht : tb m k
      · have HD := Lib.hid (mayC_mask (c := ⟨i, wt, m, r⟩) (gap := gap) ht)
        rw [ht] at hte
        clear ht
        go_enter Try.func16, Try.ntmps16
        go_wp2
        go_ret
        exact ⟨by rw [HD.out]; rfl, rfl⟩
      · rw [ht] at hte
        cases r
        · by_cases h0 : 0 < wt
          · by_cases hg : wt < gap
            · have HD := Lib.hid (show mayC ⟨i, wt, m, false⟩ gap k = true from mayC_iff.2 ⟨hp, h64, by simpa using ht, rfl, h0, hg⟩)
              clear ht
              go_enter Try.func16, Try.ntmps16
              go_wp2
              go_ret
              exact ⟨by rw [HD.out]; rfl, rfl⟩
            · have HD := Lib.hid (mayC_gap (c := ⟨i, wt, m, false⟩) (p := k) hg)
              clear ht
              go_enter Try.func16, Try.ntmps16
              go_wp2
              go_ret
              exact ⟨by rw [HD.out]; rfl, rfl⟩
          · have HD := Lib.hid (mayC_none (c := ⟨i, wt, m, false⟩) (gap := gap) (p := k) h0)
            clear ht
            go_enter Try.func16, Try.ntmps16
            go_wp2
            go_ret
            exact ⟨by rw [HD.out]; rfl, rfl⟩
        · have HD := Lib.hid (mayC_runs (c := ⟨i, wt, m, true⟩) (gap := gap) (p := k) rfl)
          clear ht
          go_enter Try.func16, Try.ntmps16
          go_wp2
          go_ret
          exact ⟨by rw [HD.out]; rfl, rfl⟩
    · have HD := Lib.hid (mayC_far (c := ⟨i, wt, m, r⟩) (gap := gap) h64)
      go_enter Try.func16, Try.ntmps16
      go_wp2
      go_ret
      exact ⟨by rw [HD.out]; rfl, rfl⟩
  · have HD := Lib.hid (mayC_neg (c := ⟨i, wt, m, r⟩) (gap := gap) hp)
    go_enter Try.func16, Try.ntmps16
    go_wp2
    go_ret
    exact ⟨by rw [HD.out]; rfl, rfl⟩
set_option maxHeartbeats 1000000 in
theorem refMay_any (c : Cd) (gap p : Int) (w : World) (hc : CdOk c) :
    Calls Try.prog 17 #[.agg #[.int .i64 c.id, .int .u64 c.w, .int .u64 c.m, .bool c.r], .int .u64 gap, .int .i64 p] w fun e w' => e = .returned (.bool (mayC c gap p)) ∧ w' = w.alloc (.cells #[.int .i64 c.id, .int .u64 c.w, .int .u64 c.m, .bool c.r] 37) := by
  obtain ⟨i, wt, m, r⟩ := c
  obtain ⟨⟨hw0, hw1⟩, hm⟩ := hc
  have hm' := hm
  obtain ⟨hm0, hm1⟩ := hm'
  simp only at hw0 hw1 hm0 hm1 hm
  by_cases hp : p < 0
  · have HD := Lib.hid (mayC_neg (c := ⟨i, wt, m, r⟩) (gap := gap) (p := p) (by omega))
    go_enter Try.func17, Try.ntmps17
    go_wp2
    go_ret
    exact ⟨by rw [HD.out]; rfl, rfl⟩
  · obtain ⟨k, rfl⟩ := Int.eq_ofNat_of_zero_le (show 0 ≤ p by omega)
    by_cases h64 : 63 < (k : Int)
    · have HD := Lib.hid (mayC_far (c := ⟨i, wt, m, r⟩) (gap := gap) (p := k) (by omega))
      go_enter Try.func17, Try.ntmps17
      go_wp2
      go_ret
      exact ⟨by rw [HD.out]; rfl, rfl⟩
    · cases r
      · cases h0 : (wt == 0)
        · have hte := tb_rem k hm
          cases ht : tb m k
          · have HD := Lib.hid (mayC_mask (c := ⟨i, wt, m, false⟩) (gap := gap) ht)
            rw [ht] at hte
            clear ht
            go_enter Try.func17, Try.ntmps17
            go_wp2
            go_ret
            exact ⟨by rw [HD.out]; rfl, rfl⟩
          · rw [ht] at hte
            by_cases hg : wt < gap
            · have HD := Lib.hid (show mayC ⟨i, wt, m, false⟩ gap k = true from mayC_iff.2 ⟨by omega, by omega, by simpa using ht, rfl, by simp at h0; simp only; omega, hg⟩)
              clear ht
              go_enter Try.func17, Try.ntmps17
              go_wp2
              go_ret
              exact ⟨by rw [HD.out]; rfl, rfl⟩
            · have HD := Lib.hid (mayC_gap (c := ⟨i, wt, m, false⟩) (p := k) hg)
              clear ht
              go_enter Try.func17, Try.ntmps17
              go_wp2
              go_ret
              exact ⟨by rw [HD.out]; rfl, rfl⟩
        · have HD := Lib.hid (mayC_none (c := ⟨i, wt, m, false⟩) (gap := gap) (p := k) (by simp at h0; simp only; omega))
          go_enter Try.func17, Try.ntmps17
          go_wp2
          go_ret
          exact ⟨by rw [HD.out]; rfl, rfl⟩
      · have HD := Lib.hid (mayC_runs (c := ⟨i, wt, m, true⟩) (gap := gap) (p := k) rfl)
        go_enter Try.func17, Try.ntmps17
        go_wp2
        go_ret
        exact ⟨by rw [HD.out]; rfl, rfl⟩

/-! ### Orders -/
def cmpI (a b : Int) : Int := if a < b then -1 else if b < a then 1 else 0
theorem nan64_any (x : Int) (w : World) : Calls Try.prog 30 #[.int .u64 x] w fun e w' => e = .returned (.bool false) ∧ w = w' := by
  have h : (x != x) = false := by simp
  go_enter Try.func30, Try.ntmps30
  go_wp2
  go_ret
  exact ⟨rfl, rfl⟩
theorem nan_any (x : Int) (w : World) : Calls Try.prog 34 #[.int .i64 x] w fun e w' => e = .returned (.bool false) ∧ w = w' := by
  have h : (x != x) = false := by simp
  go_enter Try.func34, Try.ntmps34
  go_wp2
  go_ret
  exact ⟨rfl, rfl⟩
theorem cmp64_any (x y : Int) (w : World) : Calls Try.prog 23 #[.int .u64 x, .int .u64 y] w fun e w' => e = .returned (.int .i64 (cmpI x y)) ∧ w = w' := by
  by_cases h1 : x < y
  · have HC := Lib.hid (show cmpI x y = -1 by unfold cmpI; rw [if_pos h1])
    go_enter Try.func23, Try.ntmps23
    go_wp2_with (go_at_call 30; refine (nan64_any _ _).mono ?_; rintro e w' ⟨rfl, rfl⟩)
    go_ret
    exact ⟨by rw [HC.out]; rfl, rfl⟩
  · by_cases h2 : y < x
    · have HC := Lib.hid (show cmpI x y = 1 by unfold cmpI; rw [if_neg h1, if_pos h2])
      go_enter Try.func23, Try.ntmps23
      go_wp2_with (go_at_call 30; refine (nan64_any _ _).mono ?_; rintro e w' ⟨rfl, rfl⟩)
      go_ret
      exact ⟨by rw [HC.out]; rfl, rfl⟩
    · have HC := Lib.hid (show cmpI x y = 0 by unfold cmpI; rw [if_neg h1, if_neg h2])
      go_enter Try.func23, Try.ntmps23
      go_wp2_with (go_at_call 30; refine (nan64_any _ _).mono ?_; rintro e w' ⟨rfl, rfl⟩)
      go_ret
      exact ⟨by rw [HC.out]; rfl, rfl⟩
theorem cmpi_any (x y : Int) (w : World) : Calls Try.prog 32 #[.int .i64 x, .int .i64 y] w fun e w' => e = .returned (.int .i64 (cmpI x y)) ∧ w = w' := by
  by_cases h1 : x < y
  · have HC := Lib.hid (show cmpI x y = -1 by unfold cmpI; rw [if_pos h1])
    go_enter Try.func32, Try.ntmps32
    go_wp2_with (go_at_call 34; refine (nan_any _ _).mono ?_; rintro e w' ⟨rfl, rfl⟩)
    go_ret
    exact ⟨by rw [HC.out]; rfl, rfl⟩
  · by_cases h2 : y < x
    · have HC := Lib.hid (show cmpI x y = 1 by unfold cmpI; rw [if_neg h1, if_pos h2])
      go_enter Try.func32, Try.ntmps32
      go_wp2_with (go_at_call 34; refine (nan_any _ _).mono ?_; rintro e w' ⟨rfl, rfl⟩)
      go_ret
      exact ⟨by rw [HC.out]; rfl, rfl⟩
    · have HC := Lib.hid (show cmpI x y = 0 by unfold cmpI; rw [if_neg h1, if_neg h2])
      go_enter Try.func32, Try.ntmps32
      go_wp2_with (go_at_call 34; refine (nan_any _ _).mono ?_; rintro e w' ⟨rfl, rfl⟩)
      go_ret
      exact ⟨by rw [HC.out]; rfl, rfl⟩
def orI (x y : Int) : Int := if x = 0 then y else x
set_option maxHeartbeats 1000000 in
theorem or2_any (b cap : Nat) (x y : Int) (w : World) (c0 : w.cell? ⟨b, 0, none⟩ = some (.int .i64 x)) (c1 : w.cell? ⟨b, 1, none⟩ = some (.int .i64 y)) :
    Calls Try.prog 31 #[.slice (some ⟨b, 0, none⟩) 2 cap] w fun e w' => e = .returned (.int .i64 (orI x y)) ∧ w = w' := by
  cases hx : (x != 0)
  · have hx0 : x = 0 := by simpa using hx
    subst hx0
    clear hx
    cases hy : (y != 0)
    · have hy0 : y = 0 := by simpa using hy
      subst hy0
      clear hy
      go_enter Try.func31, Try.ntmps31
      go_wp2
      go_loop [8] (fun i => ∃ k : Nat, k ≤ 2 ∧ i = .int .i64 k) (fun i => 2 - (intOf i).toNat)
      case atStart => exact ⟨0, by omega, rfl⟩
      case round =>
        obtain ⟨k, hk, rfl⟩ := hrel
        have h3 : k = 0 ∨ k = 1 ∨ k = 2 := by omega
        rcases h3 with rfl | rfl | rfl
        · go_wp2
          go_round
          case rel => exact ⟨1, by omega, by go_num⟩
          case measure => simp [intOf]
        · go_wp2
          go_round
          case rel => exact ⟨2, by omega, by go_num⟩
          case measure => simp [intOf]
        · go_wp2
          go_ret
          exact ⟨rfl, rfl⟩
    · have HO := Lib.hid (show orI 0 y = y by simp [orI])
      go_enter Try.func31, Try.ntmps31
      go_wp2
      go_loop [8] (fun i => i = .int .i64 0 ∨ i = .int .i64 1) (fun i => 2 - (intOf i).toNat)
      case atStart => exact .inl rfl
      case round =>
        rcases hrel with rfl | rfl
        · go_wp2
          go_round
          case rel => exact .inr rfl
          case measure => simp [intOf]
        · go_wp2
          go_ret
          exact ⟨by rw [HO.out]; rfl, rfl⟩
  · have HO := Lib.hid (show orI x y = x by unfold orI; rw [if_neg (by simpa using hx)])
    go_enter Try.func31, Try.ntmps31
    go_wp2
    go_loop [8] (fun i => i = .int .i64 0) (fun i => 2 - (intOf i).toNat)
    case atStart => rfl
    case round =>
      subst hrel
      go_wp2
      go_ret
      exact ⟨by rw [HO.out]; rfl, rfl⟩
theorem heavy_any (a b : Cd) (w : World) : Calls Try.prog 22 #[.agg #[.int .i64 a.id, .int .u64 a.w, .int .u64 a.m, .bool a.r], .agg #[.int .i64 b.id, .int .u64 b.w, .int .u64 b.m, .bool b.r]] w fun e w' => e = .returned (.int .i64 (cmpI b.w a.w)) ∧
    w' = (w.alloc (.cells #[.int .i64 a.id, .int .u64 a.w, .int .u64 a.m, .bool a.r] 35)).alloc (.cells #[.int .i64 b.id, .int .u64 b.w, .int .u64 b.m, .bool b.r] 35) := by
  go_enter Try.func22, Try.ntmps22
  go_wp2_with (go_at_call 23; refine (cmp64_any _ _ _).mono ?_; rintro e w' ⟨rfl, rfl⟩)
  go_ret
  exact ⟨rfl, rfl⟩
theorem light_any (a b : Cd) (bh : Nat) (w : World) (hh : w.cell? ⟨bh, 0, none⟩ = some (.func (.func 22) #[] #[])) : Calls Try.prog 25 #[.agg #[.int .i64 a.id, .int .u64 a.w, .int .u64 a.m, .bool a.r], .agg #[.int .i64 b.id, .int .u64 b.w, .int .u64 b.m, .bool b.r], .pointer (some ⟨bh, 0, none⟩)] w fun e w' => e = .returned (.int .i64 (-cmpI b.w a.w)) ∧
    w' = (((w.alloc (.cells #[.int .i64 a.id, .int .u64 a.w, .int .u64 a.m, .bool a.r] 35)).alloc (.cells #[.int .i64 b.id, .int .u64 b.w, .int .u64 b.m, .bool b.r] 35)).alloc (.cells #[.int .i64 a.id, .int .u64 a.w, .int .u64 a.m, .bool a.r] 35)).alloc (.cells #[.int .i64 b.id, .int .u64 b.w, .int .u64 b.m, .bool b.r] 35) := by
  have hcm : cmpI b.w a.w = -1 ∨ cmpI b.w a.w = 0 ∨ cmpI b.w a.w = 1 := by unfold cmpI; split <;> (try split) <;> simp
  have hlt := World.block_lt_of_cell? w _ hh
  go_enter Try.func25, Try.ntmps25
  go_wp2_with fail
  refine (heavy_any a b _).mono ?_
  rintro e w' ⟨rfl, rfl⟩
  rcases hcm with hcm | hcm | hcm
  all_goals
    have HC := Lib.hid hcm
    rw [hcm]
    clear hcm
    go_wp2
    go_ret
    exact ⟨by rw [HC.out]; rfl, rfl⟩
end Go.Proofs.Ytkgpjcoapopgmaa
