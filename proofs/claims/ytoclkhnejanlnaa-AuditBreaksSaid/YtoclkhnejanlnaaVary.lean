/- The five snapshots that are one change away from a sound one: what is wrong with each first, and that its masks are within their kind. Conditions: the snapshot is sound, a task runs there. -/
import Derived.Test.YtoclkhnejanlnaaPhase
namespace Go.Proofs.Ytoclkhnejanlnaa
set_option linter.unusedVariables false
open Go.RowKit
section
theorem var3 {s : Sn} {K t rn tn gn : Nat} (hz : soundI s = 0) (hon : On s K t) (hr : s.run.length = rn) (ht : s.ts.length = tn) (hg : s.gs.length = gn) (hK : K < rn) (hK64 : (K : Int) < 64) : soundI ⟨s.run, s.ts.set t ⟨1, (tat s.ts t).p, (tat s.ts t).m, (tat s.ts t).g⟩, s.gs⟩ = 5 := break_asleep hz (by omega) hon rfl rfl rfl
theorem var4 {s : Sn} {K t rn tn gn : Nat} (hz : soundI s = 0) (hon : On s K t) (hr : s.run.length = rn) (ht : s.ts.length = tn) (hg : s.gs.length = gn) (hK : K < rn) (hK64 : (K : Int) < 64) : soundI ⟨s.run, s.ts.set t ⟨(tat s.ts t).st, (tat s.ts t).p, 0, (tat s.ts t).g⟩, s.gs⟩ = 7 := break_off hz (by omega) hon rfl rfl rfl (by
  rw [hasB_in hK64]; unfold tb
  have : ((0 : Int) / 2 ^ K) = 0 := Int.zero_ediv _
  rw [this]; decide)
theorem var5 {s : Sn} {K t rn tn gn : Nat} (hz : soundI s = 0) (hon : On s K t) (hr : s.run.length = rn) (ht : s.ts.length = tn) (hg : s.gs.length = gn) (hK : K < rn) (hK64 : (K : Int) < 64) : soundI ⟨s.run.set K (-1), s.ts, s.gs⟩ = 6 := break_gone hz (by omega) hon rfl rfl rfl
theorem var6 {s : Sn} {K t rn tn gn : Nat} (hz : soundI s = 0) (hon : On s K t) (hr : s.run.length = rn) (ht : s.ts.length = tn) (hg : s.gs.length = gn) (hK : K < rn) (hK64 : (K : Int) < 64) : soundI ⟨s.run, s.ts, s.gs.set 0 ⟨(gat s.gs 0).par, IntKind.u64.wrap ((2 : Int) ^ K)⟩⟩ = 8 := break_stop hz (by omega) hon rfl rfl rfl (by
  rw [hasB_in hK64]; unfold tb
  have hlt : (2 : Nat) ^ K < 18446744073709551616 := by
    have : (2 : Nat) ^ K < 2 ^ 64 := Nat.pow_lt_pow_right (by decide) (by omega)
    simpa using this
  have e : IntKind.u64.wrap ((2 : Int) ^ K) = (2 : Int) ^ K := by
    have e1 : ((2 : Int) ^ K) = ((2 ^ K : Nat) : Int) := by simp
    rw [IntKind.wrap_u64, e1]
    generalize (2 : Nat) ^ K = y at hlt
    omega
  rw [e, Int.ediv_self (by
    have : (0 : Int) < 2 ^ K := Int.pow_pos (by decide)
    omega)]
  decide)
theorem var7 {s : Sn} {K t rn tn gn : Nat} (hz : soundI s = 0) (hon : On s K t) (hr : s.run.length = rn) (ht : s.ts.length = tn) (hg : s.gs.length = gn) (hK : K < rn) (hK64 : (K : Int) < 64) : soundI ⟨s.run.set K (tn : Int), s.ts, s.gs⟩ = 4 := by
  subst ht
  exact break_none hz (by omega) rfl rfl rfl
end
section
variable {s : Sn} {K t tn : Nat}
theorem ok_ts {v : Tk} {l : List Tk} (h : ∀ i, 0 ≤ (tat l i).m ∧ (tat l i).m ≤ 18446744073709551615) {t : Nat} (ht : t < l.length) (h0 : 0 ≤ v.m ∧ v.m ≤ 18446744073709551615) : ∀ i, 0 ≤ (tat (l.set t v) i).m ∧ (tat (l.set t v) i).m ≤ 18446744073709551615 := fun i => by
  rw [tat_set ht]; split
  · exact h0
  · exact h i
theorem ok3 {gn : Nat} (hok : SnOk s) (hg : 0 < gn) (hon : On s K t) (hK64 : (K : Int) < 64) : SnOk ⟨s.run, s.ts.set t ⟨1, (tat s.ts t).p, (tat s.ts t).m, (tat s.ts t).g⟩, s.gs⟩ := ⟨ok_ts hok.1 hon.lt (hok.1 t), hok.2⟩
theorem ok4 {gn : Nat} (hok : SnOk s) (hg : 0 < gn) (hon : On s K t) (hK64 : (K : Int) < 64) : SnOk ⟨s.run, s.ts.set t ⟨(tat s.ts t).st, (tat s.ts t).p, 0, (tat s.ts t).g⟩, s.gs⟩ := ⟨ok_ts hok.1 hon.lt ⟨by simp, by simp⟩, hok.2⟩
theorem ok5 {gn : Nat} (hok : SnOk s) (hg : 0 < gn) (hon : On s K t) (hK64 : (K : Int) < 64) : SnOk ⟨s.run.set K (-1), s.ts, s.gs⟩ := hok
theorem ok6 {gn : Nat} (hok : SnOk s) (hg : 0 < gn) (hon : On s K t) (hK64 : (K : Int) < 64) : SnOk ⟨s.run, s.ts, s.gs.set 0 ⟨(gat s.gs 0).par, IntKind.u64.wrap ((2 : Int) ^ K)⟩⟩ := ⟨hok.1, fun i => by
  by_cases h : 0 < s.gs.length
  · simp only [gat_set h]; split
    · simp only; rw [IntKind.wrap_u64]; omega
    · exact hok.2 i
  · have : s.gs = [] := List.length_eq_zero_iff.1 (by omega)
    simp only [this]
    have := hok.2 i
    rename_i h2
    simpa [h2] using this⟩
theorem ok7 {gn : Nat} (hok : SnOk s) (hg : 0 < gn) (hon : On s K t) (hK64 : (K : Int) < 64) : SnOk ⟨s.run.set K (tn : Int), s.ts, s.gs⟩ := hok
end
end Go.Proofs.Ytoclkhnejanlnaa
