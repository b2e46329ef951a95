/- append onto a row of the call's own, the source a slice that reads as a list, nil or not. Conditions: the lengths together are far below the reach. -/
import Derived.Test.YtenckibbjccebaaLaw
import Derived.Laws.AppendOwnNone
namespace Go.Proofs.Ytenckibbjccebaa
set_option linter.unusedVariables false
open Go.RowKit
theorem Try.info3 : (Try.prog.info? 3).map (fun i => (i.zero, i.size, i.bytes)) = some (some (.int .i64 0), 1, 8) := by kernel_rfl
theorem addr_add (b off j : Nat) : (⟨b, off, none⟩ : Addr).add j = ⟨b, off + j, none⟩ := by
  by_cases e : j = 0
  · subst e; simp [Addr.add]
  · simp [Addr.add, e]
theorem ints_one (zs : List Int) : ∀ u ∈ zs.map (Value.int .i64), u.oneCell' = true := by
  intro u hu
  obtain ⟨x, _, rfl⟩ := List.mem_map.1 hu
  rfl
theorem append_ints {ops : Array Oper} {rest : List Oper} {o : Oper} {a : Act} {Q : Exit → Act → World → Prop} {w : World} (hgd : o.guard = none) (s x : Operand)
    (ho : o.op = .call { callee := .builtin .append, args := #[s, x], argTypes := #[22, 22] })
    (base : Nat) (v : Value) (n : Nat) (xs : List Int) (hs : a.eval s = v) (hown : w.ownsRow base 3 1 v n (xs.map (Value.int .i64)))
    (B : Nat) (A : Option Addr) (m c : Nat) (zs : List Int) (hx : a.eval x = .slice A m c) (hnil : A = none → c = 0) (hm : zs.length = m) (hI : Ints B w (.slice A m c) zs)
    (hb : (n + m) * 8 ≤ 140737488355328) (hbase : base ≤ w.heap.size)
    (h : ∀ v' w', w'.ownsRow base 3 1 v' (n + m) ((xs ++ zs).map (Value.int .i64)) → w.grownBy w' v.ownBlock → wpList Try.prog ops Q rest (a.put o.dst v') w') : wpList Try.prog ops Q (o :: rest) a w := by
  obtain ⟨i0, hi, hz0, hz1, hz2⟩ := info_parts Try.info3
  cases A with
  | none =>
    obtain rfl := hnil rfl
    have hz : zs = [] := by
      rcases hI with ⟨_, h0⟩ | ⟨b, off, cap, h0, _⟩
      · exact h0
      · simp at h0
    subst hz
    obtain rfl : m = 0 := by simpa using hm.symm
    exact wpList_append_own_none hgd s x 22 ho base 3 i0 1 Try.underlying22 hi v n _ hs hown hx (by
      have := h v w (by simpa using hown) (World.grownBy.refl w _)
      exact this)
  | some ad =>
    refine wpList_append_own _ hgd s x 22 ho base 3 i0 (.int .i64 0) 1 8 Try.underlying22 hi hz0 hz1 hz2 rfl (by decide) v n _ hs hown ad m c (zs.map (Value.int .i64)) hx (by simp [hm]) ?_ (ints_one zs) (by unfold maxLen; omega) hb hbase ?_
    · intro j u hj
      have hjl : j < zs.length := by
        have := (List.getElem?_eq_some_iff.1 hj).1
        simpa using this
      obtain ⟨b, off, ha, _, hc⟩ := hI.cells hjl
      injection ha with ha
      subst ha
      rw [addr_add, hc j hjl]
      simp [zat, hjl] at hj ⊢
      exact hj
    · intro v' w' h1 h2 _
      exact h v' w' (by rw [List.map_append]; exact h1) h2
theorem ownsRow_intsn {w : World} {base n : Nat} {v : Value} {xs : List Int} (hn : xs.length = n) (h : w.ownsRow base 3 1 v n (xs.map (Value.int .i64))) :
    ∃ a cap, v = .slice a n cap ∧ (a = none → cap = 0) ∧ Ints w.heap.size w (.slice a n cap) xs := by
  subst hn
  have hown := h
  obtain ⟨h0, h1⟩ := h
  rcases h1 with ⟨rfl, hn⟩ | ⟨g, cap, cur, rfl, hg, hc, hn, hm, hs, ht⟩
  · have : xs = [] := List.length_eq_zero_iff.1 hn
    subst this
    exact ⟨none, 0, rfl, fun _ => rfl, .inl ⟨⟨_, _, rfl⟩, rfl⟩⟩
  · refine ⟨_, cap, rfl, fun e => by (cases e), .inr ⟨g, 0, cap, rfl, (Array.getElem?_eq_some_iff.1 hc).1, fun j hj => ?_⟩⟩
    have := hown.cellAt j (by omega)
    rw [show 0 + j = j by omega, this]
    simp [zat, hj]
theorem IsRow.nil {w : World} {a : Option Addr} {len cap : Nat} {zs : List Int} (h : IsRow .i64 w a len cap zs) : a = none → cap = 0 := by
  rcases h with ⟨_, _, rfl, _⟩ | ⟨x, rfl, _⟩
  · exact fun _ => rfl
  · intro h; cases h
/-- The empty row in a new block. -/
theorem own_empty (w : World) (base : Nat) (hb : base ≤ w.heap.size) : (w.alloc (.cells #[] 3)).ownsRow base 3 1 (.slice (some ⟨w.heap.size, 0, none⟩) 0 0) 0 (([] : List Int).map (Value.int .i64)) :=
  World.ownsRow_lit w #[] 0 hb (Nat.zero_le _) rfl
theorem Ints.new1 (w : World) (x : Int) : Ints (w.heap.size + 1) (w.alloc (.cells #[.int .i64 x] 3)) (.slice (some ⟨w.heap.size, 0, none⟩) 1 1) [x] :=
  .inr ⟨w.heap.size, 0, 1, rfl, by omega, fun j hj => by
    have h : j = 0 := by simp at hj; omega
    subst h; simp [zat]⟩
end Go.Proofs.Ytenckibbjccebaa
