/- Which one of a list is the first of which something holds, and whether there is one: package slices' functions over numbers and over tasks, whatever the closure; whether a group is under another one. Conditions: the slices read as lists. -/
import Derived.Test.YtoclkhnejanlnaaAbove
namespace Go.Proofs.Ytoclkhnejanlnaa
set_option linter.unusedVariables false
open Go.RowKit
/-- The place of the first one of which H holds, or -1. -/
def GivesIx (n : Nat) (H : Nat → Bool) (e : Ending) : Prop := (anyB n H = true ∧ ∃ k : Nat, k < n ∧ e = .returned (.int .i64 (k : Int))) ∨ (anyB n H = false ∧ e = .returned (.int .i64 (-1)))
theorem any_list {l : List Int} {v : Int} : (anyB l.length fun k => rat l k == v) = l.any fun x => x == v := by
  rw [Bool.eq_iff_iff]
  simp only [anyB, List.any_eq_true, List.mem_range]
  constructor
  · rintro ⟨k, hk, h⟩
    exact ⟨rat l k, List.mem_of_getElem? (rat_at hk), h⟩
  · rintro ⟨x, hx, h⟩
    obtain ⟨k, hk⟩ := List.getElem?_of_mem hx
    have hl := (List.getElem?_eq_some_iff.1 hk).1
    refine ⟨k, hl, ?_⟩
    have := rat_at hl
    rw [hk] at this
    injection this with this
    rw [← this]; exact h
set_option maxHeartbeats 1000000 in
theorem index_any (a : Option Addr) (n c : Nat) (zs : List Int) (v : Int) (w : World) (hR : Rd encI w.heap.size w a n zs) (hn : n ≤ 9223372036854775807) :
    Calls Try.prog 49 #[.slice a n c, .int .i64 v] w fun e w' => GivesIx n (fun k => rat zs k == v) e ∧ w = w' := by
  have HR := Lib.hid hR
  clear hR
  go_enter Try.func49, Try.ntmps49
  go_wp2_with fail
  go_loop [8] (fun i => ∃ k : Nat, k ≤ n ∧ i = .int .i64 k ∧ (∀ q, q < k → (rat zs q == v) = false)) (fun i => n - (intOf i).toNat)
  case atStart => exact ⟨0, Nat.zero_le _, rfl, fun q h => by omega⟩
  case round =>
    obtain ⟨k, hk, rfl, hq⟩ := hrel
    have HQ := Lib.hid hq
    clear hq
    by_cases hlt : k < n
    · have hlt' : (k : Int) < (n : Int) := by omega
      obtain ⟨b, off, ha, hb, hc⟩ := HR.out.ints (by omega)
      subst ha
      have c0 := hc k hlt
      clear hc
      cases hv : (v == rat zs k)
      · have HH := Lib.hid (show (rat zs k == v) = false by simp at hv ⊢; omega)
        go_wp2
        go_round
        case rel => exact ⟨k + 1, by omega, by go_num, fun q hq => by
          by_cases e : q = k
          · subst e; exact HH.out
          · exact HQ.out q (by omega)⟩
        case measure => simp [intOf]; omega
      · have HH := Lib.hid (anyB_true (P := fun k => rat zs k == v) hlt (by simp at hv ⊢; omega))
        go_wp2
        go_ret
        exact ⟨.inl ⟨HH.out, k, hlt, rfl⟩, rfl⟩
    · obtain rfl : k = n := by omega
      have HH := Lib.hid (anyB_false.2 HQ.out)
      go_wp2
      go_ret
      exact ⟨.inr ⟨HH.out, rfl⟩, rfl⟩
theorem contains_any (a : Option Addr) (n c : Nat) (zs : List Int) (v : Int) (w : World) (hR : Rd encI w.heap.size w a n zs) (hn : n ≤ 9223372036854775807) :
    Calls Try.prog 34 #[.slice a n c, .int .i64 v] w fun e w' => e = .returned (.bool (zs.any fun x => x == v)) ∧ w = w' := by
  have HR := Lib.hid hR
  have HL := Lib.hid hR.1
  clear hR
  go_enter Try.func34, Try.ntmps34
  go_wp2_with fail
  refine (index_any a n c zs v _ HR.out hn).mono ?_
  rintro e w' ⟨hg, rfl⟩
  rcases hg with ⟨hany, k, hk, rfl⟩ | ⟨hany, rfl⟩
  · have HA := Lib.hid (show (zs.any fun x => x == v) = true by rw [← any_list, HL.out]; exact hany)
    clear hany
    have h0 : (0 : Int) ≤ (k : Int) := by omega
    go_wp2
    go_ret
    exact ⟨by rw [HA.out]; rfl, rfl⟩
  · have HA := Lib.hid (show (zs.any fun x => x == v) = false by rw [← any_list, HL.out]; exact hany)
    clear hany
    go_wp2
    go_ret
    exact ⟨by rw [HA.out]; rfl, rfl⟩
theorem under_any (a : Option Addr) (n c : Nat) (gs : List Gr) (g top : Int) (w : World) (hR : Rd encG w.heap.size w a n gs) (hn : n ≤ 1000) :
    Calls Try.prog 13 #[.slice a n c, .int .i64 g, .int .i64 top] w fun e w' => e = .returned (.bool (underB gs g top)) ∧ Below w.heap.size w w' := by
  have HR := Lib.hid hR
  clear hR
  go_enter Try.func13, Try.ntmps13
  go_wp2_with fail
  refine (above_any a n c gs g _ HR.out hn).mono ?_
  rintro e w1 ⟨⟨a', n', c', rfl, hn', hr⟩, hb⟩
  have HB := Lib.hid hb
  have HR1 := Lib.hid hr
  clear hb hr
  go_wp2_with fail
  refine (contains_any a' n' c' _ top _ HR1.out (by omega)).mono ?_
  rintro e w' ⟨rfl, rfl⟩
  go_wp2
  go_ret
  exact ⟨rfl, HB.out⟩

/-- The closure answers H of the number that stands at k. -/
def AsksI (g : Nat) (caps : Array Value) (w : World) (zs : List Int) (n : Nat) (H : Nat → Bool) : Prop :=
  ∀ k W, k < n → Below w.heap.size w W → Calls Try.prog g (#[.int .i64 (rat zs k)] ++ caps) W fun e W' => e = .returned (.bool (H k)) ∧ Below W.heap.size W W'
/-- The closure answers H of the task that stands at k. -/
def AsksT (g : Nat) (caps : Array Value) (w : World) (zs : List Tk) (n : Nat) (H : Nat → Bool) : Prop :=
  ∀ k W, k < n → Below w.heap.size w W → Calls Try.prog g (#[.agg #[.int .i64 (tat zs k).st, .int .i64 (tat zs k).p, .int .u64 (tat zs k).m, .int .i64 (tat zs k).g]] ++ caps) W fun e W' => e = .returned (.bool (H k)) ∧ Below W.heap.size W W'
set_option maxHeartbeats 1000000 in
theorem indexF_any (g : Nat) (caps : Array Value) (a : Option Addr) (n c : Nat) (zs : List Int) (H : Nat → Bool) (w : World) (hR : Rd encI w.heap.size w a n zs) (hn : n ≤ 9223372036854775807) (hcf : Enters g) (hc : AsksI g caps w zs n H) :
    Calls Try.prog 44 #[.slice a n c, .func (.func g) #[] caps] w fun e w' => GivesIx n H e ∧ Below w.heap.size w w' := by
  have HR := Lib.hid hR
  have HC := Lib.hid hc
  have hcf' := hcf
  unfold Enters at hcf'
  clear hc hcf hR
  go_enter Try.func44, Try.ntmps44
  go_wp2_with fail
  go_loopw [8] (fun i wr => ∃ k : Nat, k ≤ n ∧ i = .int .i64 k ∧ (∀ q, q < k → H q = false) ∧ Below w.heap.size w wr) (fun i _ => n - (intOf i).toNat)
  case atStart => exact ⟨0, Nat.zero_le _, rfl, fun q h => by omega, Below.refl _ _⟩
  case round =>
    obtain ⟨k, hk, rfl, hq, hB⟩ := hrel
    have HQ := Lib.hid hq
    have HB := Lib.hid hB
    clear hq hB
    by_cases hlt : k < n
    · have hlt' : (k : Int) < (n : Int) := by omega
      obtain ⟨b, off, ha, hb, hc⟩ := HR.out.ints (by omega)
      subst ha
      have c0 := cellb HB.out hb (hc k hlt)
      clear hc
      go_wp2_with fail
      refine (HC.out k _ hlt HB.out).mono ?_
      rintro e W1 ⟨rfl, hb1⟩
      have HB1 := Lib.hid (nx HB.out hb1)
      clear hb1
      cases hh : H k
      · have HH := Lib.hid hh
        clear hh
        go_wp2
        go_roundw
        case rel => exact ⟨k + 1, by omega, by go_num, fun q hq => by
          by_cases e : q = k
          · subst e; exact HH.out
          · exact HQ.out q (by omega), HB1.out⟩
        case measure => simp [intOf]; omega
      · have HH := Lib.hid (anyB_true hlt hh)
        clear hh
        go_wp2
        go_ret
        exact ⟨.inl ⟨HH.out, k, hlt, rfl⟩, HB1.out⟩
    · obtain rfl : k = n := by omega
      have HH := Lib.hid (anyB_false.2 HQ.out)
      go_wp2
      go_ret
      exact ⟨.inr ⟨HH.out, rfl⟩, HB.out⟩
set_option maxHeartbeats 1000000 in
theorem indexT_any (g : Nat) (caps : Array Value) (a : Option Addr) (n c : Nat) (zs : List Tk) (H : Nat → Bool) (w : World) (hR : Rd encT w.heap.size w a n zs) (hn : n ≤ 9223372036854775807) (hcf : Enters g) (hc : AsksT g caps w zs n H) :
    Calls Try.prog 52 #[.slice a n c, .func (.func g) #[] caps] w fun e w' => GivesIx n H e ∧ Below w.heap.size w w' := by
  have HR := Lib.hid hR
  have HC := Lib.hid hc
  have hcf' := hcf
  unfold Enters at hcf'
  clear hc hcf hR
  go_enter Try.func52, Try.ntmps52
  go_wp2_with fail
  go_loopw [8] (fun i wr => ∃ k : Nat, k ≤ n ∧ i = .int .i64 k ∧ (∀ q, q < k → H q = false) ∧ Below w.heap.size w wr) (fun i _ => n - (intOf i).toNat)
  case atStart => exact ⟨0, Nat.zero_le _, rfl, fun q h => by omega, Below.refl _ _⟩
  case round =>
    obtain ⟨k, hk, rfl, hq, hB⟩ := hrel
    have HQ := Lib.hid hq
    have HB := Lib.hid hB
    clear hq hB
    by_cases hlt : k < n
    · have hlt' : (k : Int) < (n : Int) := by omega
      obtain ⟨b, off, ha, hb, hc⟩ := HR.out.tks (by omega)
      subst ha
      obtain ⟨x0, x1, x2, x3⟩ := hc k hlt
      have c0 := cellb HB.out hb x0
      have c1 := cellb HB.out hb x1
      have c2 := cellb HB.out hb x2
      have c3 := cellb HB.out hb x3
      clear hc x0 x1 x2 x3
      go_wp2_with fail
      refine (HC.out k _ hlt HB.out).mono ?_
      rintro e W1 ⟨rfl, hb1⟩
      have HB1 := Lib.hid (nx HB.out hb1)
      clear hb1
      cases hh : H k
      · have HH := Lib.hid hh
        clear hh
        go_wp2
        go_roundw
        case rel => exact ⟨k + 1, by omega, by go_num, fun q hq => by
          by_cases e : q = k
          · subst e; exact HH.out
          · exact HQ.out q (by omega), HB1.out⟩
        case measure => simp [intOf]; omega
      · have HH := Lib.hid (anyB_true hlt hh)
        clear hh
        go_wp2
        go_ret
        exact ⟨.inl ⟨HH.out, k, hlt, rfl⟩, HB1.out⟩
    · obtain rfl : k = n := by omega
      have HH := Lib.hid (anyB_false.2 HQ.out)
      go_wp2
      go_ret
      exact ⟨.inr ⟨HH.out, rfl⟩, HB.out⟩
theorem containsF_any (g : Nat) (caps : Array Value) (a : Option Addr) (n c : Nat) (zs : List Int) (H : Nat → Bool) (w : World) (hR : Rd encI w.heap.size w a n zs) (hn : n ≤ 9223372036854775807) (hcf : Enters g) (hc : AsksI g caps w zs n H) :
    Calls Try.prog 21 #[.slice a n c, .func (.func g) #[] caps] w fun e w' => e = .returned (.bool (anyB n H)) ∧ Below w.heap.size w w' := by
  have HR := Lib.hid hR
  have HC := Lib.hid hc
  have HE := Lib.hid hcf
  clear hR hc hcf
  go_enter Try.func21, Try.ntmps21
  go_wp2_with fail
  refine (indexF_any g caps a n c zs H _ HR.out hn HE.out HC.out).mono ?_
  rintro e w1 ⟨hg, hb⟩
  have HB := Lib.hid hb
  clear hb
  rcases hg with ⟨hany, k, hk, rfl⟩ | ⟨hany, rfl⟩
  · have HA := Lib.hid hany
    clear hany
    have h0 : (0 : Int) ≤ (k : Int) := by omega
    go_wp2
    go_ret
    exact ⟨by rw [HA.out]; rfl, HB.out⟩
  · have HA := Lib.hid hany
    clear hany
    go_wp2
    go_ret
    exact ⟨by rw [HA.out]; rfl, HB.out⟩
theorem containsT_any (g : Nat) (caps : Array Value) (a : Option Addr) (n c : Nat) (zs : List Tk) (H : Nat → Bool) (w : World) (hR : Rd encT w.heap.size w a n zs) (hn : n ≤ 9223372036854775807) (hcf : Enters g) (hc : AsksT g caps w zs n H) :
    Calls Try.prog 42 #[.slice a n c, .func (.func g) #[] caps] w fun e w' => e = .returned (.bool (anyB n H)) ∧ Below w.heap.size w w' := by
  have HR := Lib.hid hR
  have HC := Lib.hid hc
  have HE := Lib.hid hcf
  clear hR hc hcf
  go_enter Try.func42, Try.ntmps42
  go_wp2_with fail
  refine (indexT_any g caps a n c zs H _ HR.out hn HE.out HC.out).mono ?_
  rintro e w1 ⟨hg, hb⟩
  have HB := Lib.hid hb
  clear hb
  rcases hg with ⟨hany, k, hk, rfl⟩ | ⟨hany, rfl⟩
  · have HA := Lib.hid hany
    clear hany
    have h0 : (0 : Int) ≤ (k : Int) := by omega
    go_wp2
    go_ret
    exact ⟨by rw [HA.out]; rfl, HB.out⟩
  · have HA := Lib.hid hany
    clear hany
    go_wp2
    go_ret
    exact ⟨by rw [HA.out]; rfl, HB.out⟩
end Go.Proofs.Ytoclkhnejanlnaa
