/- A row of strings of the call's own, and one string more behind it. Conditions: as each says. -/
import Derived.Test.YtcboopkalpmglaaDoorProg
import Derived.Test.YtcboopkalpmglaaDoorMem
namespace Go.Proofs.YtcboopkalpmglaaDoor
set_option linter.unusedVariables false
open Go.RowKit
def encS : Enc ByteArray := ⟨1, fun x => [.string x], fun _ => rfl, fun _ u h => by simp at h; subst h; rfl, by decide⟩
theorem str_info : (Tryd.prog.info? 9).map (fun i => (i.zero, i.size, i.bytes)) = some (some (.string .empty), 1, 16) := by kernel_rfl
theorem encS_all (zs : List ByteArray) : encS.all zs = zs.map Value.string := by
  induction zs with
  | nil => rfl
  | cons z zs ih => show [Value.string z] ++ encS.all zs = _; rw [ih]; rfl
/-- One string more. -/
theorem append_str {ops : Array Oper} {rest : List Oper} {o : Oper} {a : Act} {Q : Exit → Act → World → Prop} {w : World} (hgd : o.guard = none) (s x : Operand)
    (ho : o.op = .call { callee := .builtin .append, args := #[s, x], argTypes := #[39, 39] })
    (base : Nat) (v : Value) (n : Nat) (zs : List ByteArray) (hs : a.eval s = v) (hown : Own encS w base 9 v n zs) (b c : Nat) (y : ByteArray) (hx : a.eval x = .slice (some ⟨b, 0, none⟩) 1 c)
    (h0 : w.cell? ⟨b, 0, none⟩ = some (.string y)) (hn : n ≤ 100000) (hbase : base ≤ w.heap.size)
    (h : ∀ v' w', Own encS w' base 9 v' (n + 1) (zs ++ [y]) → w.grownBy w' v.ownBlock → (v'.ownBlock = v.ownBlock ∨ v'.ownBlock = some w.heap.size) → wpList Tryd.prog ops Q rest (a.put o.dst v') w') : wpList Tryd.prog ops Q (o :: rest) a w := by
  obtain ⟨i0, hi, hz0, hz1, hz2⟩ := info_parts str_info
  refine wpList_append_own_at _ hgd s x 39 ho base 9 i0 _ 1 16 Tryd.underlying39 hi hz0 hz1 hz2 rfl (by decide) v n _ hs hown ⟨b, 0, none⟩ 1 c [.string y] hx rfl ?_ ?_ (by unfold maxLen; omega) (by omega) hbase ?_
  · intro j u hj
    rw [addr_add, Nat.zero_add]
    have hj4 : j < 1 := by have := (List.getElem?_eq_some_iff.1 hj).1; simpa using this
    obtain rfl : j = 0 := by omega
    rw [h0]; simpa using hj
  · intro u hu
    simp at hu
    subst hu; rfl
  · intro v' w' g1 g2 _ g3
    exact h v' w' (by unfold Own; rw [Enc.all_snoc]; exact g1) g2 g3
end Go.Proofs.YtcboopkalpmglaaDoor
