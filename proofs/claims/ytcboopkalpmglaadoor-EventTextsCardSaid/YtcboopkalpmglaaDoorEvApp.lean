/- A row of events behind a row of events of the call's own; an empty row of the call's own. Conditions: as each says. -/
import Derived.Test.YtcboopkalpmglaaDoorEvMem
import Derived.Laws.AppendOwnNone
namespace Go.Proofs.YtcboopkalpmglaaDoor
set_option linter.unusedVariables false
open Go.RowKit
theorem grown_refl (w : World) (r : Option Nat) : w.grownBy w r := ⟨rfl, rfl, rfl, Nat.le_refl _, fun _ _ _ => rfl⟩
theorem Own.empty {w : World} {g B : Nat} (h : w.heap[g]? = some (.cells #[] 34 (0, 0))) (hB : B ≤ g) : Own encEv w B 34 (.slice (some ⟨g, 0, none⟩) 0 0) 0 [] :=
  ⟨by simp [Enc.all], .inr ⟨g, 0, #[], rfl, hB, h, Nat.le_refl _, Nat.zero_le _, by simp, by simp [Enc.all]⟩⟩
/-- A guarded operation whose guard is met is walked as one without a guard. -/
theorem wpList_unguard {P : Program} {ops : Array Oper} {rest : List Oper} {o : Oper} {a : Act} {Q : Exit → Act → World → Prop} {w : World} (hw : Region.wanted o (yielded ops a.tmps) = true) (h : wpList P ops Q ({ o with guard := none } :: rest) a w) : wpList P ops Q (o :: rest) a w := by
  unfold wpList at h ⊢
  rw [if_pos hw]
  rw [if_pos (by rfl)] at h
  exact h
/-- Events more. -/
theorem append_evs {ops : Array Oper} {rest : List Oper} {o : Oper} {a : Act} {Q : Exit → Act → World → Prop} {w : World} (hgd : o.guard = none) (s x : Operand)
    (ho : o.op = .call { callee := .builtin .append, args := #[s, x], argTypes := #[23, 23] })
    (base : Nat) (v : Value) (n : Nat) (zs : List Ev) (hs : a.eval s = v) (hown : Own encEv w base 34 v n zs) (ad : Option Addr) (m c n₀ : Nat) (ys : List Ev) (hx : a.eval x = .slice ad m c)
    (hr : Rd encEv n₀ w ad m ys) (hnil : ad = none → c = 0) (hn : n + m ≤ 100000) (hbase : base ≤ w.heap.size)
    (h : ∀ v' w', Own encEv w' base 34 v' (n + m) (zs ++ ys) → w.grownBy w' v.ownBlock → (v'.ownBlock = v.ownBlock ∨ v'.ownBlock = some w.heap.size) → wpList Tryd.prog ops Q rest (a.put o.dst v') w') : wpList Tryd.prog ops Q (o :: rest) a w := by
  obtain ⟨i0, hi, hz0, hz1, hz2⟩ := info_parts ev_info
  have hl := hr.1
  cases ad with
  | none =>
    obtain rfl := hnil rfl
    have hm : m = 0 := by
      rcases Nat.eq_zero_or_pos m with h | h
      · exact h
      · obtain ⟨b, off, e, _⟩ := hr.2 h; cases e
    subst hm
    obtain rfl := List.length_eq_zero_iff.1 hl
    refine wpList_append_own_none hgd s x 23 ho base 34 i0 6 Tryd.underlying23 hi v n _ hs hown hx ?_
    exact h v w (by rw [List.append_nil]; exact hown) (grown_refl _ _) (.inl rfl)
  | some ad =>
    refine wpList_append_own_at _ hgd s x 23 ho base 34 i0 _ 6 48 Tryd.underlying23 hi hz0 hz1 hz2 rfl (by decide) v n _ hs hown ad m c (encEv.all ys) hx (by rw [Enc.all_length, hl]; rfl) ?_ Enc.all_one (by unfold maxLen; omega) (by omega) hbase ?_
    · intro j u hj
      have hjl : j < m * 6 := by
        have := (List.getElem?_eq_some_iff.1 hj).1
        rw [Enc.all_length, hl] at this; exact this
      obtain ⟨b, off, e, _, hc⟩ := hr.2 (by omega)
      obtain rfl := Option.some.inj e
      rw [addr_add]
      have hq : j % 6 < encEv.c := Nat.mod_lt _ (by decide)
      have hz : ys[j / 6]? = some (eat ys (j / 6)) := eat_some (by rw [hl]; omega)
      have hd : j / 6 * encEv.c + j % 6 = j := by show j / 6 * 6 + j % 6 = j; omega
      have := Enc.all_at hz hq
      rw [hd, hj] at this
      have h2 := hc _ _ hz _ _ this.symm
      rw [hd] at h2
      exact h2
    · intro v' w' g1 g2 _ g3
      exact h v' w' (by unfold Own; rw [Enc.all_append]; exact g1) g2 g3
end Go.Proofs.YtcboopkalpmglaaDoor
