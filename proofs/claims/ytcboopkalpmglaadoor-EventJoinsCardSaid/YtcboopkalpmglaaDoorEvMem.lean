/- A row of events: how an event lies, one more behind a row of the call's own, and what a walk is told of a slice of events. Conditions: as each says. -/
import Derived.Test.YtcboopkalpmglaaDoorEvPlain
import Derived.Test.YtcboopkalpmglaaDoorStrs
namespace Go.Proofs.YtcboopkalpmglaaDoor
set_option linter.unusedVariables false
open Go.RowKit
def Ev.list (e : Ev) : List Value := [.int .i64 e.k, .int .i64 e.a, .int .i64 e.b, .int .i64 e.n, .int .i64 e.m, .int .u64 (e.s : Int)]
def evV (e : Ev) : Value := .agg #[.int .i64 e.k, .int .i64 e.a, .int .i64 e.b, .int .i64 e.n, .int .i64 e.m, .int .u64 (e.s : Int)]
def encEv : Enc Ev := ⟨6, Ev.list, fun _ => rfl, fun e u h => by simp [Ev.list] at h; rcases h with rfl | rfl | rfl | rfl | rfl | rfl <;> rfl, by decide⟩
theorem ev_info : (Tryd.prog.info? 34).map (fun i => (i.zero, i.size, i.bytes)) = some (some (.agg #[.int .i64 0, .int .i64 0, .int .i64 0, .int .i64 0, .int .i64 0, .int .u64 0]), 6, 48) := by kernel_rfl
/-- One event more. -/
theorem append_ev {ops : Array Oper} {rest : List Oper} {o : Oper} {a : Act} {Q : Exit → Act → World → Prop} {w : World} (hgd : o.guard = none) (s x : Operand)
    (ho : o.op = .call { callee := .builtin .append, args := #[s, x], argTypes := #[23, 23] })
    (base : Nat) (v : Value) (n : Nat) (zs : List Ev) (hs : a.eval s = v) (hown : Own encEv w base 34 v n zs) (b c : Nat) (y : Ev) (hx : a.eval x = .slice (some ⟨b, 0, none⟩) 1 c)
    (h0 : w.cell? ⟨b, 0, none⟩ = some (.int .i64 y.k)) (h1 : w.cell? ⟨b, 1, none⟩ = some (.int .i64 y.a)) (h2 : w.cell? ⟨b, 2, none⟩ = some (.int .i64 y.b)) (h3 : w.cell? ⟨b, 3, none⟩ = some (.int .i64 y.n)) (h4 : w.cell? ⟨b, 4, none⟩ = some (.int .i64 y.m)) (h5 : w.cell? ⟨b, 5, none⟩ = some (.int .u64 (y.s : Int)))
    (hn : n ≤ 100000) (hbase : base ≤ w.heap.size)
    (h : ∀ v' w', Own encEv w' base 34 v' (n + 1) (zs ++ [y]) → w.grownBy w' v.ownBlock → wpList Tryd.prog ops Q rest (a.put o.dst v') w') : wpList Tryd.prog ops Q (o :: rest) a w := by
  obtain ⟨i0, hi, hz0, hz1, hz2⟩ := info_parts ev_info
  refine wpList_append_own_at _ hgd s x 23 ho base 34 i0 _ 6 48 Tryd.underlying23 hi hz0 hz1 hz2 rfl (by decide) v n _ hs hown ⟨b, 0, none⟩ 1 c y.list hx rfl ?_ ?_ (by unfold maxLen; omega) (by omega) hbase ?_
  · intro j u hj
    rw [addr_add, Nat.zero_add]
    have hj4 : j < 6 := by have := (List.getElem?_eq_some_iff.1 hj).1; simpa [Ev.list] using this
    have : j = 0 ∨ j = 1 ∨ j = 2 ∨ j = 3 ∨ j = 4 ∨ j = 5 := by omega
    rcases this with rfl | rfl | rfl | rfl | rfl | rfl
    · rw [h0]; simpa [Ev.list] using hj
    · rw [h1]; simpa [Ev.list] using hj
    · rw [h2]; simpa [Ev.list] using hj
    · rw [h3]; simpa [Ev.list] using hj
    · rw [h4]; simpa [Ev.list] using hj
    · rw [h5]; simpa [Ev.list] using hj
  · intro u hu
    exact encEv.one y u hu
  · intro v' w' g1 g2 _ _
    exact h v' w' (by unfold Own; rw [Enc.all_snoc]; exact g1) g2
/-- The event at a place. -/
def eat (zs : List Ev) (j : Nat) : Ev := zs.getD j ev0
theorem eat_some {zs : List Ev} {j : Nat} (h : j < zs.length) : zs[j]? = some (eat zs j) := by
  unfold eat; rw [List.getD_eq_getElem?_getD, List.getElem?_eq_getElem h]; rfl
theorem eat_mem {zs : List Ev} {j : Nat} (h : j < zs.length) : eat zs j ∈ zs := List.mem_of_getElem? (eat_some h)
/-- The cells of an event in a slice. -/
structure EvAt (W : World) (b o : Nat) (e : Ev) : Prop where
  c0 : W.cell? ⟨b, o, none⟩ = some (.int .i64 e.k)
  c1 : W.cell? ⟨b, o + 1, none⟩ = some (.int .i64 e.a)
  c2 : W.cell? ⟨b, o + 2, none⟩ = some (.int .i64 e.b)
  c3 : W.cell? ⟨b, o + 3, none⟩ = some (.int .i64 e.n)
  c4 : W.cell? ⟨b, o + 4, none⟩ = some (.int .i64 e.m)
  c5 : W.cell? ⟨b, o + 5, none⟩ = some (.int .u64 (e.s : Int))
theorem rd_ev {n₀ : Nat} {W : World} {a : Option Addr} {n : Nat} {zs : List Ev} (h : Rd encEv n₀ W a n zs) (hn : 0 < n) : ∃ b off, a = some ⟨b, off, none⟩ ∧ b < n₀ ∧ ∀ j, j < n → EvAt W b (off + j * 6) (eat zs j) := by
  obtain ⟨b, off, e, hb, hc⟩ := h.cells hn
  refine ⟨b, off, e, hb, fun j hj => ?_⟩
  have hz := eat_some (zs := zs) (j := j) (by rw [h.1]; exact hj)
  have k : ∀ q v, (eat zs j).list[q]? = some v → W.cell? ⟨b, off + (j * 6 + q), none⟩ = some v := fun q v hq => hc j _ hz q v hq
  exact ⟨k 0 _ rfl, k 1 _ rfl, k 2 _ rfl, k 3 _ rfl, k 4 _ rfl, k 5 _ rfl⟩
end Go.Proofs.YtcboopkalpmglaaDoor
