/- A copy of a slice into a row of the call's own; one element of such a row written anew. Conditions: as each says. -/
import Derived.Test.YtoclkhnejanlnaaChecked
import Derived.Test.YtoclkhnejanlnaaMem
import Derived.Deep.AppendLies
namespace Go.Proofs.Ytoclkhnejanlnaa
set_option linter.unusedVariables false
open Go.RowKit
section
variable {α : Type} {E : Enc α}
/-- A row of n elements, n not 0, lies in one block, which holds it. -/
theorem Own.block {W : World} {B T n : Nat} {v : Value} {zs : List α} (h : Own E W B T v n zs) (hn : 0 < n) : ∃ g cap cur, v = .slice (some ⟨g, 0, none⟩) n cap ∧ B ≤ g ∧ g < W.heap.size ∧ n ≤ cap ∧ cap ≤ maxLen ∧ W.heap[g]? = some (.cells cur T (0, 0)) ∧ cur.size = cap * E.c ∧ cur.toList.take (n * E.c) = E.all zs := by
  rcases h.2 with ⟨rfl, h0⟩ | ⟨g, cap, cur, rfl, hg, hc, hnc, hm, hs, ht⟩
  · omega
  · exact ⟨g, cap, cur, rfl, hg, (Array.getElem?_eq_some_iff.1 hc).1, hnc, hm, hc, hs, ht⟩
theorem frozen_of {W : World} {g T j : Nat} {cur : Array Value} (h : W.heap[g]? = some (.cells cur T (0, 0))) : W.frozen? ⟨g, j, none⟩ = false := by
  simp [World.frozen?, h]
theorem set_at {zs : List α} {z z' : α} {j q : Nat} {u : Value} (hj : zs[j]? = some z) (hq : q < E.c) (he : E.e z' = (E.e z).set q u) : E.all (zs.set j z') = (E.all zs).set (j * E.c + q) u := by
  induction zs generalizing j with
  | nil => simp at hj
  | cons y zs ih =>
    have e : ∀ (y : α) zs, E.all (y :: zs) = E.e y ++ E.all zs := fun y zs => by simp [Enc.all]
    cases j with
    | zero =>
      simp at hj
      subst hj
      rw [List.set_cons_zero, e, e, he, Nat.zero_mul, Nat.zero_add, List.set_append_left _ _ (by rw [E.len]; exact hq)]
    | succ j =>
      rw [List.set_cons_succ, e, e, ih (by simpa using hj), List.set_append_right _ _ (by rw [E.len, Nat.add_mul]; omega), E.len, show (j + 1) * E.c + q - E.c = j * E.c + q by rw [Nat.add_mul]; omega]
/-- One cell of one element written anew. -/
theorem Own.set {W : World} {B T n g cap j q : Nat} {zs : List α} {z z' : α} {u : Value} (h : Own E W B T (.slice (some ⟨g, 0, none⟩) n cap) n zs) (hj : zs[j]? = some z) (hq : q < E.c) (he : E.e z' = (E.e z).set q u) (p : Nat) (hp : p = j * E.c + q) :
    Own E (W.setCell ⟨g, p, none⟩ u) B T (.slice (some ⟨g, 0, none⟩) n cap) n (zs.set j z') ∧ W.frozen? ⟨g, p, none⟩ = false ∧ W.cell? ⟨g, p, none⟩ = (E.e z)[q]? ∧ B ≤ g ∧ g < W.heap.size := by
  subst hp
  have hl := h.rd.1
  have hjl := (List.getElem?_eq_some_iff.1 hj).1
  have hpos := E.pos
  have hb : j * E.c + q < n * E.c := by
    have : (j + 1) * E.c ≤ n * E.c := Nat.mul_le_mul_right _ (by omega)
    rw [Nat.add_mul] at this; omega
  obtain ⟨g', cap', cur, hv, hg, hlt, hnc, hm, hc, hs, ht⟩ := h.block (by omega)
  simp only [Value.slice.injEq, Option.some.injEq, Addr.mk.injEq, and_true, true_and] at hv
  obtain ⟨rfl, rfl⟩ := hv
  have hcap : n * E.c ≤ cap * E.c := Nat.mul_le_mul_right _ hnc
  refine ⟨⟨by rw [Enc.all_length, List.length_set, hl], .inr ⟨g, cap, cur.setIfInBounds (j * E.c + q) u, rfl, hg, ?_, hnc, hm, by simpa using hs, ?_⟩⟩, frozen_of hc, ?_, hg, hlt⟩
  · simp [World.setCell, Array.getElem?_modify, hc]
  · rw [Array.toList_setIfInBounds, List.take_set, ht, set_at hj hq he]
  · have hown := h
    unfold Own at hown
    exact (hown.cellAt (j * E.c + q) hb).trans (Enc.all_at hj hq)
/-- A copy behind a row of the call's own. -/
theorem append_copy {T ET bytes : Nat} {z0 : Value} (hT : Try.prog.underlying T = some (.slice ET)) (hE : (Try.prog.info? ET).map (fun i => (i.zero, i.size, i.bytes)) = some (some z0, E.c, bytes)) (hz : z0.cells.size = E.c)
    {ops : Array Oper} {rest : List Oper} {o : Oper} {a : Act} {Q : Exit → Act → World → Prop} {w : World} (hgd : o.guard = none) (s x : Operand)
    (ho : o.op = .call { callee := .builtin .append, args := #[s, x], argTypes := #[T, T] })
    (base : Nat) (v : Value) (n : Nat) (xs : List α) (hs : a.eval s = v) (hown : Own E w base ET v n xs) (A : Option Addr) (m c : Nat) (zs : List α) (hx : a.eval x = .slice A m c) (hA : A = none → m = 0 ∧ c = 0) (hR : Rd E w.heap.size w A m zs)
    (hn : n + m ≤ 100000) (hby : bytes ≤ 1000) (hbase : base ≤ w.heap.size)
    (h : ∀ v' w', Own E w' base ET v' (n + m) (xs ++ zs) → w.grownBy w' v.ownBlock → wpList Try.prog ops Q rest (a.put o.dst v') w') : wpList Try.prog ops Q (o :: rest) a w := by
  obtain ⟨i0, hi, hz0, hz1, hz2⟩ := info_parts hE
  rcases A with _ | ad
  · obtain ⟨rfl, rfl⟩ := hA rfl
    have hzs : zs = [] := List.length_eq_zero_iff.1 hR.1
    subst hzs
    exact wpList_append_own_none hgd s x T ho base ET i0 E.c hT hi v n _ hs hown hx (h v w (by simpa using hown) (World.grownBy.refl w _))
  · refine wpList_append_own _ hgd s x T ho base ET i0 _ E.c bytes hT hi hz0 hz1 hz2 hz E.pos v n _ hs hown ad m c (E.all zs) hx (by rw [Enc.all_length, hR.1]) ?_ Enc.all_one (by unfold maxLen; omega) ?_ hbase ?_
    · intro j u hj
      have hjl := (List.getElem?_eq_some_iff.1 hj).1
      rw [Enc.all_length, hR.1] at hjl
      have hm0 : 0 < m := by
        rcases Nat.eq_zero_or_pos m with rfl | h0
        · simp at hjl
        · exact h0
      obtain ⟨b, off, hab, hb, hc⟩ := hR.cells hm0
      simp only [Option.some.injEq] at hab
      subst hab
      rw [addr_add]
      have hd : j / E.c < m := (Nat.div_lt_iff_lt_mul E.pos).2 hjl
      obtain ⟨z', hz'⟩ : ∃ z', zs[j / E.c]? = some z' := ⟨_, List.getElem?_eq_getElem (by rw [hR.1]; exact hd)⟩
      have hq : j % E.c < E.c := Nat.mod_lt _ E.pos
      have hjj : j / E.c * E.c + j % E.c = j := by have := Nat.div_add_mod j E.c; rw [Nat.mul_comm] at this; exact this
      have := hc (j / E.c) _ hz' (j % E.c) u (by rw [← Enc.all_at hz' hq, hjj]; exact hj)
      rw [hjj] at this
      exact this
    · have : (n + m) * bytes ≤ 100000 * 1000 := Nat.mul_le_mul hn hby
      omega
    · intro v' w' g1 g2 _
      exact h v' w' (by unfold Own; rw [Enc.all_append]; exact g1) g2
end
end Go.Proofs.Ytoclkhnejanlnaa
