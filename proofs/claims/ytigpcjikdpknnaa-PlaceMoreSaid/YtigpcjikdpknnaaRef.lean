/- The document's own words on loads: May, Busiest, Least, Idle, Sum, Gap, and the cut to a hundred, each as the plain word. Conditions: the slice reads as a list of numbers within the reach. -/
import Derived.Test.YtigpcjikdpknnaaLoad
import Derived.Deep.QuietTactic
import Derived.BigQuiet
namespace Go.Proofs.Ytigpcjikdpknnaa
set_option linter.unusedVariables false
open Go.RowKit

theorem tb_eq (m : Int) (p : Nat) : (bits BinOp.and IntKind.u64 (m / 2 ^ p) 1 == 1) = tb m p := rfl

/-- May, of a place that is a natural number. -/
theorem may_any (a : Option Addr) (len cap p : Nat) (zs : List Int) (m : Int) (w : World) (hz : zs.length = len) (hm : 0 ≤ m) (hm2 : m < 18446744073709551616) (hlen : len ≤ 9223372036854775807) :
    Calls Try.prog 23 #[.slice a len cap, .int .i64 (p : Int), .int .u64 m] w fun e w' => e = .returned (.bool (mayB zs m p)) ∧ w' = w := by
  have hp : (0 : Int) ≤ (p : Int) := by omega
  by_cases h1 : (p : Int) < (len : Int)
  · by_cases h2 : (p : Int) < 64
    · have hf : mayB zs m p = (bits BinOp.and IntKind.u64 (m / 2 ^ p) 1 == 1) := by
        rw [tb_eq]; unfold mayB; rw [decide_eq_true (by omega), decide_eq_true (by omega)]; rfl
      have HF := Lib.hid hf; clear hf hz
      go_enter Try.func23, Try.ntmps23
      go_wp2
      go_ret
      exact ⟨by rw [HF.out]; simp, rfl⟩
    · have hf : mayB zs m p = false := by unfold mayB; rw [decide_eq_true (by omega), decide_eq_false (by omega)]; rfl
      have HF := Lib.hid hf; clear hf hz
      go_enter Try.func23, Try.ntmps23
      go_wp2
      go_ret
      exact ⟨by rw [HF.out]; simp, rfl⟩
  · have hf : mayB zs m p = false := by unfold mayB; rw [decide_eq_false (by omega)]; rfl
    have HF := Lib.hid hf; clear hf hz
    go_enter Try.func23, Try.ntmps23
    go_wp2
    go_ret
    exact ⟨by rw [HF.out]; simp, rfl⟩
theorem may_val (a : Option Addr) (len cap p : Nat) (zs : List Int) (m : Int) (v : Bool) (w : World) (h : mayB zs m p = v) (hz : zs.length = len) (hm : 0 ≤ m) (hm2 : m < 18446744073709551616) (hlen : len ≤ 9223372036854775807) :
    Calls Try.prog 23 #[.slice a len cap, .int .i64 (p : Int), .int .u64 m] w fun e w' => e = .returned (.bool v) ∧ w' = w := by
  subst h; exact may_any a len cap p zs m w hz hm hm2 hlen
theorem may_neg (a : Option Addr) (len cap : Nat) (p m : Int) (w : World) (hp : p < 0) :
    Calls Try.prog 23 #[.slice a len cap, .int .i64 p, .int .u64 m] w fun e w' => e = .returned (.bool false) ∧ w' = w := by
  have h : ¬ 0 ≤ p := by omega
  go_enter Try.func23, Try.ntmps23
  go_wp2
  go_ret
  exact ⟨rfl, rfl⟩

theorem lowTo_zero (zs : List Int) (m : Int) (p : Nat) : lowTo zs m p 0 = mayB zs m p := by simp [lowTo]
theorem lowTo_succ (zs : List Int) (m : Int) (p j : Nat) : lowTo zs m p (j + 1) = (lowTo zs m p j && !(mayB zs m j && decide (zat zs j < zat zs p))) := by
  simp [lowTo, List.range_succ, Bool.and_assoc]
theorem lowTo_false {zs : List Int} {m : Int} {p j : Nat} (h : lowTo zs m p j = false) (hj : j ≤ zs.length) : lowB zs m p = false := by
  have : ∀ d, lowTo zs m p (j + d) = false := by
    intro d
    induction d with
    | zero => exact h
    | succ d ih => rw [← Nat.add_assoc, lowTo_succ, ih]; rfl
  have := this (zs.length - j)
  rwa [show j + (zs.length - j) = zs.length by omega] at this

set_option maxRecDepth 100000 in
set_option maxHeartbeats 1000000 in
theorem refLeast_any (a : Option Addr) (len cap : Nat) (zs : List Int) (m : Int) (w : World) (hI : Ints w.heap.size w (.slice a len cap) zs) (hreach : zs.length * 8 ≤ 140737488351232) (hm : 0 ≤ m) (hm2 : m < 18446744073709551616) :
    Calls Try.prog 20 #[.slice a len cap, .int .u64 m] w fun e W' => e = .returned (.int .i64 (least zs m)) ∧ Drew w W' := by
  rcases hI with ⟨⟨a', cap', h1⟩, h2⟩ | ⟨b, off, cap', h1, hb, hcs⟩
  · simp only [Value.slice.injEq] at h1
    obtain ⟨rfl, rfl, rfl⟩ := h1
    subst h2
    go_enter Try.func20, Try.ntmps20
    go_wp2
    go_loop [5] (fun i => i = .int .i64 0) (fun _ => 0)
    case atStart => rfl
    case round =>
      obtain rfl := hrel
      go_wp2
      go_ret
      exact ⟨rfl, Drew.refl _⟩
  · simp only [Value.slice.injEq] at h1
    obtain ⟨rfl, rfl, rfl⟩ := h1
    obtain ⟨len, hlen⟩ : ∃ len, zs.length = len := ⟨_, rfl⟩
    have HL := Lib.hid hlen
    rw [hlen] at hreach hcs ⊢
    clear hlen
    go_enter Try.func20, Try.ntmps20
    go_wp2
    go_loopw [5] (fun i wr => ∃ k : Nat, k ≤ len ∧ i = .int .i64 k ∧ Drew w wr ∧ ∀ q, q < k → lowB zs m q = false) (fun i _ => len - (intOf i).toNat)
    case atStart => exact ⟨0, Nat.zero_le _, rfl, Drew.refl _, fun q h => by omega⟩
    case round =>
      obtain ⟨k, hk, rfl, hd, hno⟩ := hrel
      obtain ⟨wo, rfl⟩ : ∃ wo : World, wo = wr := ⟨_, rfl⟩
      have HN := Lib.hid hno; clear hno
      by_cases hlt : k < len
      · have hlt' : (k : Int) < (len : Int) := by omega
        go_wp2_with (go_at_call 23; refine (may_any _ _ _ _ zs m _ HL.out hm hm2 (by omega)).mono ?_; rintro e w' ⟨rfl, rfl⟩)
        go_loopw [6, 7] (fun is q wr => ∃ j : Nat, j ≤ len ∧ q = .int .i64 j ∧ is = .bool (lowTo zs m k j) ∧ Drew w wr) (fun _ q _ => len - (intOf q).toNat)
        case atStart => exact ⟨0, Nat.zero_le _, rfl, by rw [lowTo_zero], hd⟩
        case round =>
          obtain ⟨j, hj, rfl, rfl, hd'⟩ := hrel
          have hck : wr.cell? ⟨b, off + k, none⟩ = some (.int .u64 (zat zs k)) := (hd'.cell _).trans (hcs k hlt)
          by_cases hjl : j < len
          · have hcj : wr.cell? ⟨b, off + j, none⟩ = some (.int .u64 (zat zs j)) := (hd'.cell _).trans (hcs j hjl)
            have hjl' : (j : Int) < (len : Int) := by omega
            cases his : lowTo zs m k j
            · have HS := Lib.hid (lowTo_false his (by rw [HL.out]; omega)); clear his
              go_wp2
              go_roundw
              case rel => exact ⟨k + 1, by omega, by go_num, hd', fun q hq => by
                by_cases e : q = k
                · subst e; exact HS.out
                · exact HN.out q (by omega)⟩
              case measure => simp [intOf]; omega
            · have hsu := lowTo_succ zs m k j
              rw [his] at hsu
              have HS := Lib.hid hsu; clear hsu his
              cases hmq : mayB zs m j
              · have HM := Lib.hid hmq; clear hmq
                go_wp2
                go_quiet ((go_at_call 23; exact Calls.quiet_of_same (may_val _ _ _ _ zs m false _ HM.out HL.out hm hm2 (by omega))))
                go_wp2
                go_roundw
                case rel => exact ⟨j + 1, by omega, by go_num, by rw [HS.out, HM.out]; rfl, hd'.drewN _⟩
                case measure => simp [intOf]; omega
              · have HM := Lib.hid hmq; clear hmq
                by_cases hzl : zat zs j < zat zs k
                · go_wp2
                  go_quiet ((go_at_call 23; exact Calls.quiet_of_same (may_val _ _ _ _ zs m true _ HM.out HL.out hm hm2 (by omega))))
                  go_wp2
                  go_roundw
                  case rel => exact ⟨j + 1, by omega, by go_num, by rw [HS.out, HM.out, decide_eq_true hzl]; rfl, hd'.drewN _⟩
                  case measure => simp [intOf]; omega
                · go_wp2
                  go_quiet ((go_at_call 23; exact Calls.quiet_of_same (may_val _ _ _ _ zs m true _ HM.out HL.out hm hm2 (by omega))))
                  go_wp2
                  go_roundw
                  case rel => exact ⟨j + 1, by omega, by go_num, by rw [HS.out, HM.out, decide_eq_false (by omega)]; rfl, hd'.drewN _⟩
                  case measure => simp [intOf]; omega
          · obtain rfl : j = len := by omega
            cases his : lowTo zs m k j
            · have HS := Lib.hid (lowTo_false his (by rw [HL.out]; omega)); clear his
              go_wp2
              go_roundw
              case rel => exact ⟨k + 1, by omega, by go_num, hd', fun q hq => by
                by_cases e : q = k
                · subst e; exact HS.out
                · exact HN.out q (by omega)⟩
              case measure => simp [intOf]; omega
            · have hres : least zs m = k := by unfold least; exact firstP_at (by rw [HL.out]; exact hlt) (by unfold lowB; rw [HL.out]; exact his) HN.out
              have HR := Lib.hid hres; clear hres his
              go_wp2
              go_ret
              exact ⟨by rw [HR.out]; rfl, hd'⟩
      · obtain rfl : k = len := by omega
        have hres : least zs m = -1 := by unfold least; exact firstP_none (fun q hq => HN.out q (by have := HL.out; omega))
        have HR := Lib.hid hres; clear hres
        go_wp2
        go_ret
        exact ⟨by rw [HR.out]; rfl, hd⟩

theorem topTo_zero (zs : List Int) (mine m : Int) (p : Nat) : topTo zs mine m p 0 = (mayB zs m p && (p : Int) != mine) := by simp [topTo]
theorem topTo_succ (zs : List Int) (mine m : Int) (p j : Nat) : topTo zs mine m p (j + 1) = (topTo zs mine m p j && !(mayB zs m j && (j : Int) != mine && decide (zat zs p < zat zs j))) := by
  simp [topTo, List.range_succ, Bool.and_assoc]
theorem topTo_false {zs : List Int} {mine m : Int} {p j : Nat} (h : topTo zs mine m p j = false) (hj : j ≤ zs.length) : topB zs mine m p = false := by
  have : ∀ d, topTo zs mine m p (j + d) = false := by
    intro d
    induction d with
    | zero => exact h
    | succ d ih => rw [← Nat.add_assoc, topTo_succ, ih]; rfl
  have := this (zs.length - j)
  rwa [show j + (zs.length - j) = zs.length by omega] at this

set_option maxRecDepth 100000 in
set_option maxHeartbeats 4000000 in
theorem refBusiest_any (a : Option Addr) (len cap : Nat) (zs : List Int) (mine m : Int) (w : World) (hI : Ints w.heap.size w (.slice a len cap) zs) (hreach : zs.length * 8 ≤ 140737488351232) (hm : 0 ≤ m) (hm2 : m < 18446744073709551616) :
    Calls Try.prog 18 #[.slice a len cap, .int .i64 mine, .int .u64 m] w fun e W' => e = .returned (.int .i64 (busiest zs mine m)) ∧ Drew w W' := by
  rcases hI with ⟨⟨a', cap', h1⟩, h2⟩ | ⟨b, off, cap', h1, hb, hcs⟩
  · simp only [Value.slice.injEq] at h1
    obtain ⟨rfl, rfl, rfl⟩ := h1
    subst h2
    go_enter Try.func18, Try.ntmps18
    go_wp2
    go_loop [7] (fun i => i = .int .i64 0) (fun _ => 0)
    case atStart => rfl
    case round =>
      obtain rfl := hrel
      go_wp2
      go_ret
      exact ⟨rfl, Drew.refl _⟩
  · simp only [Value.slice.injEq] at h1
    obtain ⟨rfl, rfl, rfl⟩ := h1
    obtain ⟨len, hlen⟩ : ∃ len, zs.length = len := ⟨_, rfl⟩
    have HL := Lib.hid hlen
    rw [hlen] at hreach hcs ⊢
    clear hlen
    go_enter Try.func18, Try.ntmps18
    go_wp2
    go_loopw [7] (fun i wr => ∃ k : Nat, k ≤ len ∧ i = .int .i64 k ∧ Drew w wr ∧ ∀ q, q < k → topB zs mine m q = false) (fun i _ => len - (intOf i).toNat)
    case atStart => exact ⟨0, Nat.zero_le _, rfl, Drew.refl _, fun q h => by omega⟩
    case round =>
      obtain ⟨k, hk, rfl, hd, hno⟩ := hrel
      obtain ⟨wo, rfl⟩ : ∃ wo : World, wo = wr := ⟨_, rfl⟩
      have HN := Lib.hid hno; clear hno
      by_cases hlt : k < len
      · have hlt' : (k : Int) < (len : Int) := by omega
        have hc : (mayB zs m k = true ∧ ((k : Int) != mine) = true) ∨ (mayB zs m k = true ∧ ((k : Int) != mine) = false) ∨ (mayB zs m k = false ∧ True) := by
          cases mayB zs m k <;> cases ((k : Int) != mine) <;> simp
        rcases hc with ⟨hmk, hne⟩ | ⟨hmk, hne⟩ | ⟨hmk, hne⟩
        all_goals
          have HK := Lib.hid hmk; clear hmk
          go_wp2_with (go_at_call 23; refine (may_val _ _ _ _ zs m _ _ HK.out HL.out hm hm2 (by omega)).mono ?_; rintro e w' ⟨rfl, rfl⟩)
          go_loopw [8, 9] (fun is q wr => ∃ j : Nat, j ≤ len ∧ q = .int .i64 j ∧ is = .bool (topTo zs mine m k j) ∧ Drew w wr) (fun _ q _ => len - (intOf q).toNat)
          case atStart => exact ⟨0, Nat.zero_le _, rfl, by first | (rw [topTo_zero, HK.out, hne]; rfl) | (rw [topTo_zero, HK.out]; rfl), hd⟩
          case round =>
            clear hne
            obtain ⟨j, hj, rfl, rfl, hd'⟩ := hrel
            have hck : wr.cell? ⟨b, off + k, none⟩ = some (.int .u64 (zat zs k)) := (hd'.cell _).trans (hcs k hlt)
            by_cases hjl : j < len
            · have hcj : wr.cell? ⟨b, off + j, none⟩ = some (.int .u64 (zat zs j)) := (hd'.cell _).trans (hcs j hjl)
              have hjl' : (j : Int) < (len : Int) := by omega
              cases his : topTo zs mine m k j
              · have HS := Lib.hid (topTo_false his (by rw [HL.out]; omega)); clear his
                go_wp2
                go_roundw
                case rel => exact ⟨k + 1, by omega, by go_num, hd', fun q hq => by
                  by_cases e : q = k
                  · subst e; exact HS.out
                  · exact HN.out q (by omega)⟩
                case measure => simp [intOf]; omega
              · have hsu := topTo_succ zs mine m k j
                rw [his] at hsu
                have HS := Lib.hid hsu; clear hsu his
                cases hmq : mayB zs m j
                · have HM := Lib.hid hmq; clear hmq
                  go_wp2
                  go_quiet ((go_at_call 23; exact Calls.quiet_of_same (may_val _ _ _ _ zs m false _ HM.out HL.out hm hm2 (by omega))))
                  go_wp2
                  go_roundw
                  case rel => exact ⟨j + 1, by omega, by go_num, by rw [HS.out, HM.out]; rfl, hd'.drewN _⟩
                  case measure => simp [intOf]; omega
                · have HM := Lib.hid hmq; clear hmq
                  cases hnq : ((j : Int) != mine)
                  · go_wp2
                    go_quiet ((go_at_call 23; exact Calls.quiet_of_same (may_val _ _ _ _ zs m true _ HM.out HL.out hm hm2 (by omega))))
                    go_wp2
                    go_roundw
                    case rel => exact ⟨j + 1, by omega, by go_num, by rw [HS.out, HM.out, hnq]; rfl, hd'.drewN _⟩
                    case measure => simp [intOf]; omega
                  · by_cases hzl : zat zs k < zat zs j
                    · go_wp2
                      go_quiet ((go_at_call 23; exact Calls.quiet_of_same (may_val _ _ _ _ zs m true _ HM.out HL.out hm hm2 (by omega))))
                      go_wp2
                      go_roundw
                      case rel => exact ⟨j + 1, by omega, by go_num, by rw [HS.out, HM.out, hnq, decide_eq_true hzl]; rfl, hd'.drewN _⟩
                      case measure => simp [intOf]; omega
                    · go_wp2
                      go_quiet ((go_at_call 23; exact Calls.quiet_of_same (may_val _ _ _ _ zs m true _ HM.out HL.out hm hm2 (by omega))))
                      go_wp2
                      go_roundw
                      case rel => exact ⟨j + 1, by omega, by go_num, by rw [HS.out, HM.out, hnq, decide_eq_false (by omega)]; rfl, hd'.drewN _⟩
                      case measure => simp [intOf]; omega
            · obtain rfl : j = len := by omega
              cases his : topTo zs mine m k j
              · have HS := Lib.hid (topTo_false his (by rw [HL.out]; omega)); clear his
                go_wp2
                go_roundw
                case rel => exact ⟨k + 1, by omega, by go_num, hd', fun q hq => by
                  by_cases e : q = k
                  · subst e; exact HS.out
                  · exact HN.out q (by omega)⟩
                case measure => simp [intOf]; omega
              · have hres : busiest zs mine m = k := by unfold busiest; exact firstP_at (by rw [HL.out]; exact hlt) (by unfold topB; rw [HL.out]; exact his) HN.out
                have HR := Lib.hid hres; clear hres his
                go_wp2
                go_ret
                exact ⟨by rw [HR.out]; rfl, hd'⟩
      · obtain rfl : k = len := by omega
        have hres : busiest zs mine m = -1 := by unfold busiest; exact firstP_none (fun q hq => HN.out q (by have := HL.out; omega))
        have HR := Lib.hid hres; clear hres
        go_wp2
        go_ret
        exact ⟨by rw [HR.out]; rfl, hd⟩

set_option maxRecDepth 100000 in
set_option maxHeartbeats 1000000 in
theorem refIdle0_any (a : Option Addr) (len cap : Nat) (zs : List Int) (m : Int) (w : World) (hI : Ints w.heap.size w (.slice a len cap) zs) (hreach : zs.length * 8 ≤ 140737488351232) (hm : 0 ≤ m) (hm2 : m < 18446744073709551616) :
    Calls Try.prog 22 #[.slice a len cap, .int .u64 m] w fun e W' => e = .returned (.int .i64 (idle0 zs m)) ∧ w = W' := by
  rcases hI with ⟨⟨a', cap', h1⟩, h2⟩ | ⟨b, off, cap', h1, hb, hcs⟩
  · simp only [Value.slice.injEq] at h1
    obtain ⟨rfl, rfl, rfl⟩ := h1
    subst h2
    go_enter Try.func22, Try.ntmps22
    go_wp2
    go_loop [5] (fun i => i = .int .i64 0) (fun _ => 0)
    case atStart => rfl
    case round =>
      obtain rfl := hrel
      go_wp2
      go_ret
      exact ⟨rfl, rfl⟩
  · simp only [Value.slice.injEq] at h1
    obtain ⟨rfl, rfl, rfl⟩ := h1
    obtain ⟨len, hlen⟩ : ∃ len, zs.length = len := ⟨_, rfl⟩
    have HL := Lib.hid hlen
    rw [hlen] at hreach hcs ⊢
    clear hlen
    go_enter Try.func22, Try.ntmps22
    go_wp2
    go_loop [5] (fun i => ∃ k : Nat, k ≤ len ∧ i = .int .i64 k ∧ ∀ q, q < k → nilB zs m q = false) (fun i => len - (intOf i).toNat)
    case atStart => exact ⟨0, Nat.zero_le _, rfl, fun q h => by omega⟩
    case round =>
      obtain ⟨k, hk, rfl, hno⟩ := hrel
      have HN := Lib.hid hno; clear hno
      by_cases hlt : k < len
      · have hck : w.cell? ⟨b, off + k, none⟩ = some (.int .u64 (zat zs k)) := hcs k hlt
        have hlt' : (k : Int) < (len : Int) := by omega
        cases hmk : mayB zs m k
        · have HK := Lib.hid hmk; clear hmk
          go_wp2_with (go_at_call 23; refine (may_val _ _ _ _ zs m _ _ HK.out HL.out hm hm2 (by omega)).mono ?_; rintro e w' ⟨rfl, rfl⟩)
          go_round
          case rel => exact ⟨k + 1, by omega, by go_num, fun q hq => by
            by_cases e : q = k
            · subst e; unfold nilB; rw [HK.out]; rfl
            · exact HN.out q (by omega)⟩
          case measure => simp [intOf]; omega
        · have HK := Lib.hid hmk; clear hmk
          by_cases hz : zat zs k = 0
          · have hres : idle0 zs m = k := by unfold idle0; exact firstP_at (by rw [HL.out]; exact hlt) (nilB_iff.2 ⟨HK.out, hz⟩) HN.out
            have HR := Lib.hid hres; clear hres
            have hzb : (zat zs k == 0) = true := by simp [hz]
            clear hz
            go_wp2_with (go_at_call 23; refine (may_val _ _ _ _ zs m _ _ HK.out HL.out hm hm2 (by omega)).mono ?_; rintro e w' ⟨rfl, rfl⟩)
            go_ret
            exact ⟨by rw [HR.out]; rfl, rfl⟩
          · have hzb : (zat zs k == 0) = false := by simp [hz]
            clear hz
            go_wp2_with (go_at_call 23; refine (may_val _ _ _ _ zs m _ _ HK.out HL.out hm hm2 (by omega)).mono ?_; rintro e w' ⟨rfl, rfl⟩)
            go_round
            case rel => exact ⟨k + 1, by omega, by go_num, fun q hq => by
              by_cases e : q = k
              · subst e; unfold nilB; rw [hzb]; simp
              · exact HN.out q (by omega)⟩
            case measure => simp [intOf]; omega
      · obtain rfl : k = len := by omega
        have hres : idle0 zs m = -1 := by unfold idle0; exact firstP_none (fun q hq => HN.out q (by have := HL.out; omega))
        have HR := Lib.hid hres; clear hres
        go_wp2
        go_ret
        exact ⟨by rw [HR.out]; rfl, rfl⟩

/-- The cut to a hundred at most. -/
theorem few_any (f : Nat) (a : Option Addr) (len cap : Nat) (w : World) (hlc : len ≤ cap) (hcap : cap ≤ 9223372036854775807) (hnil : a = none → len = 0) (hf : f = 16 ∨ f = 29) :
    Calls Try.prog f #[.slice a len cap] w fun e w' => e = .returned (.slice a (min len 100) cap) ∧ w = w' := by
  have hf' := hf
  by_cases h : len ≤ 100
  · have hm : min len 100 = len := by omega
    rw [hm]; clear hm
    have hn : ¬ (100 : Int) < (len : Int) := by omega
    rcases hf with rfl | rfl
    · go_enter Try.func16, Try.ntmps16
      go_wp2
      go_ret
      exact ⟨rfl, rfl⟩
    · go_enter Try.func29, Try.ntmps29
      go_wp2
      go_ret
      exact ⟨rfl, rfl⟩
  · have hm : min len 100 = 100 := by omega
    have HM := Lib.hid hm; clear hm
    have hn : (100 : Int) < (len : Int) := by omega
    have hc : (100 : Nat) ≤ cap := by omega
    obtain ⟨x, rfl⟩ : ∃ x, a = some x := by
      cases a with
      | none => have := hnil rfl; omega
      | some x => exact ⟨x, rfl⟩
    rcases hf with rfl | rfl
    · go_enter Try.func16, Try.ntmps16
      go_wp2
      go_ret
      exact ⟨by rw [HM.out]; rfl, rfl⟩
    · go_enter Try.func29, Try.ntmps29
      go_wp2
      go_ret
      exact ⟨by rw [HM.out]; rfl, rfl⟩
end Go.Proofs.Ytigpcjikdpknnaa
