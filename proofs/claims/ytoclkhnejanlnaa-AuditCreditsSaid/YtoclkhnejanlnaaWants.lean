/- What each one has behind a row of turns, and that Credits tells it: plain laws. Conditions: as each says. -/
import Derived.Test.YtoclkhnejanlnaaCred
import Derived.Test.YtoclkhnejanlnaaCopy
import Derived.Test.YtoclkhnejanlnaaSums
namespace Go.Proofs.Ytoclkhnejanlnaa
set_option linter.unusedVariables false
open Go.RowKit
def turnL (zs : List Int) (n k : Nat) : List Int := (List.range k).map fun i => rat zs i % n
theorem turnL_succ (zs : List Int) (n k : Nat) : turnL zs n (k + 1) = turnL zs n k ++ [rat zs k % n] := by simp [turnL, List.range_succ]
def wants (z L : List Int) (ns : Int) (n : Nat) : List Int := (List.range n).map fun i => wantI z L ns i
theorem wants_length {z L : List Int} {ns : Int} {n : Nat} : (wants z L ns n).length = n := by simp [wants]
theorem rat_wants {z L : List Int} {ns : Int} {n i : Nat} (h : i < n) : rat (wants z L ns n) i = wantI z L ns i := by
  unfold rat wants; rw [List.getElem?_map, List.getElem?_range h]; rfl
theorem wants_nil {z : List Int} {ns : Int} {n : Nat} (h : z.length = n) : wants z [] ns n = z := by
  refine List.ext_getElem? fun i => ?_
  by_cases hi : i < n
  · unfold wants
    rw [List.getElem?_map, List.getElem?_range hi, rat_at (by rw [h]; exact hi)]
    rfl
  · rw [List.getElem?_eq_none (by rw [wants_length]; omega), List.getElem?_eq_none (by omega)]
theorem hasI_snoc (L : List Int) (x y : Int) : hasI (L ++ [x]) y = (hasI L y || x == y) := by simp [hasI, List.any_append]
theorem wants_new {z L : List Int} {ns : Int} {n m : Nat} (hm : m < n) : wants z (L ++ [(m : Int)]) ns n = (wants z L ns n).set m (wi (rat z m + ns)) := by
  refine List.ext_getElem? fun i => ?_
  by_cases hi : i < n
  · by_cases e : i = m
    · subst e
      rw [List.getElem?_set_self (by rw [wants_length]; exact hi)]
      unfold wants
      rw [List.getElem?_map, List.getElem?_range hi]
      simp only [Option.map_some, wantI, hasI_snoc]
      simp
    · rw [List.getElem?_set_ne (by omega)]
      unfold wants
      rw [List.getElem?_map, List.getElem?_map, List.getElem?_range hi]
      have h2 : ((m : Int) == (i : Int)) = false := by simp; omega
      simp only [Option.map_some, wantI, hasI_snoc, h2, Bool.or_false]
  · rw [List.getElem?_eq_none (by rw [wants_length]; omega), List.getElem?_eq_none (by rw [List.length_set, wants_length]; omega)]
theorem wants_old {z L : List Int} {ns : Int} {n m : Nat} (hm : m < n) (hh : hasI L m = false) : rat (wants z L ns n) m = rat z m := by
  rw [rat_wants hm]; unfold wantI; rw [hh]; rfl
theorem wants_has {z L : List Int} {ns : Int} {n m : Nat} (hh : hasI L m = true) : wants z (L ++ [(m : Int)]) ns n = wants z L ns n := by
  unfold wants
  refine List.map_congr_left fun i _ => ?_
  unfold wantI
  rw [hasI_snoc]
  by_cases e : i = m
  · subst e; rw [hh]; rfl
  · have h2 : ((m : Int) == (i : Int)) = false := by simp; omega
    rw [h2, Bool.or_false]
theorem cred_wants {z L : List Int} {ns : Int} {n : Nat} (h : z.length = n) : credB z (wants z L ns n) L ns = true :=
  cred_of (by rw [wants_length, h]) fun i hi => rat_wants (by omega)
theorem cred_other {z L : List Int} {ns : Int} {n m : Nat} (h : z.length = n) (hm : m < n) : credB z ((wants z L ns n).set m (wi (rat (wants z L ns n) m + 1))) L ns = false := by
  refine cred_not (i := m) (by omega) ?_
  have e : rat ((wants z L ns n).set m (wi (rat (wants z L ns n) m + 1))) m = wi (rat (wants z L ns n) m + 1) := by
    rw [rat, List.getElem?_set_self (by rw [wants_length]; exact hm)]; rfl
  rw [e, ← rat_wants hm]
  exact wi_ne _
theorem cred_same (z : List Int) (ns : Int) : credB z z [] ns = true := cred_of rfl fun i hi => rfl
theorem rd_drop1 {n₀ n g : Nat} {W : World} {zs : List Int} (h : Rd encI n₀ W (some ⟨g, 0, none⟩) n zs) (hn : 0 < n) : Rd encI n₀ W (some ⟨g, 1, none⟩) (n - 1) (zs.drop 1) :=
  ⟨by rw [List.length_drop, h.1], fun h0 => by
    obtain ⟨b, off, e, hb, hc⟩ := h.cells hn
    simp only [Option.some.injEq, Addr.mk.injEq, and_true] at e
    obtain ⟨rfl, rfl⟩ := e
    refine ⟨g, 1, rfl, hb, fun j z hj q v hq => ?_⟩
    rw [List.getElem?_drop] at hj
    have := hc (1 + j) z hj q v hq
    have e : (1 + j) * encI.c + q = 1 + (j * encI.c + q) := by simp [encI]; omega
    rw [Nat.zero_add, e] at this
    exact this⟩
theorem rd_none {n₀ n : Nat} {W : World} {a : Option Addr} {zs : List Int} (h : zs.length = n) (hn : n = 0) : Rd encI n₀ W a n zs := ⟨h, fun h0 => by omega⟩
end Go.Proofs.Ytoclkhnejanlnaa
