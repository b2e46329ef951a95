/- A row of integers of the call's own, and one more behind it; a slice that reads as a list of integers. Conditions: as each says. -/
import Derived.Test.YtdbhdjjepgdomaaDoorProg
import Derived.Test.YtdbhdjjepgdomaaDoorMem
namespace Go.Proofs.YtdbhdjjepgdomaaDoor
set_option linter.unusedVariables false
open Go.RowKit
def encI : Enc Int := ⟨1, fun x => [.int .i64 x], fun _ => rfl, fun _ u h => by simp at h; subst h; rfl, by decide⟩
theorem int_info : (Tryd.prog.info? 3).map (fun i => (i.zero, i.size, i.bytes)) = some (some (.int .i64 0), 1, 8) := by kernel_rfl
def rat (l : List Int) (p : Nat) : Int := l[p]?.getD 0
theorem rat_at {l : List Int} {p : Nat} (h : p < l.length) : l[p]? = some (rat l p) := by unfold rat; rw [List.getElem?_eq_getElem h]; rfl
theorem Rd.ints {n₀ n : Nat} {W : World} {a : Option Addr} {zs : List Int} (h : Rd encI n₀ W a n zs) (hn : 0 < n) : ∃ b off, a = some ⟨b, off, none⟩ ∧ b < n₀ ∧ ∀ j, j < n → W.cell? ⟨b, off + j, none⟩ = some (.int .i64 (rat zs j)) := by
  obtain ⟨b, off, e, hb, hc⟩ := h.cells hn
  refine ⟨b, off, e, hb, fun j hj => ?_⟩
  have := hc j _ (rat_at (by rw [h.1]; exact hj)) 0 _ rfl
  simpa [encI] using this
/-- One number more. -/
theorem append_int {ops : Array Oper} {rest : List Oper} {o : Oper} {a : Act} {Q : Exit → Act → World → Prop} {w : World} (hgd : o.guard = none) (s x : Operand)
    (ho : o.op = .call { callee := .builtin .append, args := #[s, x], argTypes := #[37, 37] })
    (base : Nat) (v : Value) (n : Nat) (zs : List Int) (hs : a.eval s = v) (hown : Own encI w base 3 v n zs) (b c : Nat) (y : Int) (hx : a.eval x = .slice (some ⟨b, 0, none⟩) 1 c)
    (h0 : w.cell? ⟨b, 0, none⟩ = some (.int .i64 y)) (hn : n ≤ 100000) (hbase : base ≤ w.heap.size)
    (h : ∀ v' w', Own encI w' base 3 v' (n + 1) (zs ++ [y]) → w.grownBy w' v.ownBlock → (v'.ownBlock = v.ownBlock ∨ v'.ownBlock = some w.heap.size) → wpList Tryd.prog ops Q rest (a.put o.dst v') w') : wpList Tryd.prog ops Q (o :: rest) a w := by
  obtain ⟨i0, hi, hz0, hz1, hz2⟩ := info_parts int_info
  refine wpList_append_own_at _ hgd s x 37 ho base 3 i0 _ 1 8 Tryd.underlying37 hi hz0 hz1 hz2 rfl (by decide) v n _ hs hown ⟨b, 0, none⟩ 1 c [.int .i64 y] hx rfl ?_ ?_ (by unfold maxLen; omega) (by omega) hbase ?_
  · intro j u hj
    rw [addr_add, Nat.zero_add]
    have hj4 : j < 1 := by have := (List.getElem?_eq_some_iff.1 hj).1; simpa using this
    obtain rfl : j = 0 := by omega
    rw [h0]; simpa using hj
  · intro u hu
    simp at hu
    subst hu; rfl
  · intro v' w' g1 g2 _ g3
    exact h v' w' (by unfold Own; rw [Enc.all_snoc]; exact g1) g2 g3
/-- A list of integers, given back. -/
def GivesI (zs : List Int) (w : World) (e : Ending) (w' : World) : Prop := ∃ a cap, e = .returned (.slice a zs.length cap) ∧ Rd encI w'.heap.size w' a zs.length zs ∧ zs.length ≤ cap ∧ cap ≤ 9223372036854775807 ∧ Below w.heap.size w w'
end Go.Proofs.YtdbhdjjepgdomaaDoor
