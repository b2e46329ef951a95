/- Slices of numbers that read as lists, an append onto a row of the call's own, and what only draws. Conditions: as each says. -/
import Derived.Test.YtdijafdplkdfiaaChecked
import Derived.WalkKit
import Derived.Deep.QuietTactic
import Derived.BigQuiet
import Derived.Below
import Derived.Lib.Hide
import Derived.OpenShut
import Derived.OneCell
import Derived.Maps.AppendAt
import Derived.Laws.AppendOwnNone
import Derived.Outline
namespace Go.Proofs.Ytdijafdplkdfiaa
set_option linter.unusedVariables false
open Go.RowKit
/-- The element at a place. -/
def zat (zs : List Int) (p : Nat) : Int := zs[p]?.getD 0
theorem take_zat {zs : List Int} {k : Nat} (h : k < zs.length) : zs.take (k + 1) = zs.take k ++ [zat zs k] := by
  rw [List.take_succ_eq_append_getElem h]
  unfold zat; rw [List.getElem?_eq_getElem h]; rfl
/-- The slice value reads as zs, in a block below n₀. -/
def Ints (n₀ : Nat) (W : World) (sv : Value) (zs : List Int) : Prop :=
  ((∃ a cap, sv = .slice a 0 cap) ∧ zs = []) ∨ ∃ b off cap, sv = .slice (some ⟨b, off, none⟩) zs.length cap ∧ b < n₀ ∧ ∀ j, j < zs.length → W.cell? ⟨b, off + j, none⟩ = some (.int .i64 (zat zs j))
theorem Ints.below {n₀ : Nat} {A B : World} (h : Below n₀ A B) {sv : Value} {zs : List Int} : Ints n₀ A sv zs → Ints n₀ B sv zs
  | .inl e => .inl e
  | .inr ⟨b, off, cap, e, hb, hc⟩ => .inr ⟨b, off, cap, e, hb, fun j hj => (h.cell (p := ⟨b, off + j, none⟩) hb).trans (hc j hj)⟩
theorem Ints.grow {n₀ n₁ : Nat} {A : World} (hn : n₀ ≤ n₁) {sv : Value} {zs : List Int} : Ints n₀ A sv zs → Ints n₁ A sv zs
  | .inl e => .inl e
  | .inr ⟨b, off, cap, e, hb, hc⟩ => .inr ⟨b, off, cap, e, by omega, hc⟩
theorem Ints.cells {n₀ : Nat} {W : World} {a : Option Addr} {n cap : Nat} {zs : List Int} (h : Ints n₀ W (.slice a n cap) zs) {p : Nat} (hp : p < zs.length) :
    ∃ b off, a = some ⟨b, off, none⟩ ∧ b < n₀ ∧ ∀ j, j < zs.length → W.cell? ⟨b, off + j, none⟩ = some (.int .i64 (zat zs j)) := by
  rcases h with ⟨_, rfl⟩ | ⟨b, off, c, h1, hb, hc⟩
  · simp at hp
  · simp only [Value.slice.injEq] at h1
    exact ⟨b, off, h1.1, hb, hc⟩
theorem nx0 {A B : World} (h : Below A.heap.size A B) {sv : Value} {zs : List Int} (hI : Ints A.heap.size A sv zs) : Ints B.heap.size B sv zs := (hI.below h).grow h.size
theorem nx {A B C : World} (h : Below A.heap.size A B) (k : Below B.heap.size B C) : Below A.heap.size A C := h.trans (k.mono h.size)
/-- Only answers have been drawn. -/
def Drew (w w' : World) : Prop := ∃ n, w' = w.drewN n
theorem Drew.refl (w : World) : Drew w w := ⟨0, rfl⟩
theorem Drew.drewN {w w' : World} (h : Drew w w') (n : Nat) : Drew w (w'.drewN n) := by
  obtain ⟨k, rfl⟩ := h
  exact ⟨k + n, by rw [World.drewN_drewN]⟩
theorem Drew.cell {w w' : World} (h : Drew w w') (a : Addr) : w'.cell? a = w.cell? a := by
  obtain ⟨k, rfl⟩ := h; simp
theorem Drew.below {w w' : World} (h : Drew w w') (B : Nat) : Below B w w' := by
  obtain ⟨k, rfl⟩ := h
  induction k with
  | zero => exact Below.refl _ _
  | succ k ih => exact ih.drew

/-- WHAT THE WALK IS TOLD OF A SLICE OF INTEGERS THAT CAME IN. -/
def IsRow (k : IntKind) (w : World) (a : Option Addr) (len cap : Nat) (zs : List Int) : Prop :=
  (a = none ∧ len = 0 ∧ cap = 0 ∧ zs = []) ∨
  ∃ x, a = some x ∧ len ≤ cap ∧ cap ≤ maxLen ∧ zs.length = cap ∧ (∀ i, i < zs.length → w.cell? (x.add i) = some (.int k (zs.getD i 0))) ∧ ∀ n ∈ zs, (Lit.int k n).wf = true
theorem IsRow.ints {w : World} {a : Option Addr} {len cap : Nat} {zs : List Int} (h : IsRow .i64 w a len cap zs) {n : Nat} (hn : n ≤ len) : Ints w.heap.size w (.slice a n cap) (zs.take n) ∧ (zs.take n).length = n := by
  rcases h with ⟨rfl, rfl, rfl, rfl⟩ | ⟨x, rfl, h1, h2, h3, h4, h5⟩
  · obtain rfl : n = 0 := by omega
    exact ⟨.inl ⟨⟨_, _, rfl⟩, rfl⟩, rfl⟩
  · have hl : (zs.take n).length = n := by simp; omega
    refine ⟨?_, hl⟩
    by_cases h0 : n = 0
    · subst h0
      exact .inl ⟨⟨_, _, rfl⟩, by simp⟩
    · obtain ⟨b, off, spot⟩ := x
      have hc := h4 0 (by omega)
      have hspot : spot = none := by simpa [Addr.add] using World.cell?_spot hc
      subst hspot
      refine .inr ⟨b, off, cap, by rw [hl], ?_, fun j hj => ?_⟩
      · have := World.block_lt_of_cell? w _ hc
        simpa [Addr.add] using this
      · have := h4 j (by omega)
        rw [hl] at hj
        have ea : (⟨b, off, none⟩ : Addr).add j = ⟨b, off + j, none⟩ := by
          by_cases e : j = 0
          · subst e; simp [Addr.add]
          · simp [Addr.add, e]
        rw [ea] at this
        rw [this]; simp [zat, hj]
theorem IsRow.cap {w : World} {a : Option Addr} {len cap : Nat} {zs : List Int} (h : IsRow .i64 w a len cap zs) : len ≤ cap ∧ cap ≤ 9223372036854775807 := by
  rcases h with ⟨rfl, rfl, rfl, rfl⟩ | ⟨x, rfl, h1, h2, _⟩
  · exact ⟨by omega, by omega⟩
  · exact ⟨h1, by unfold maxLen at h2; omega⟩
/-- What a slice that came in is to a law. -/
theorem pre {w : World} {a0 : Option Addr} {len0 cap0 : Nat} {z0 : List Int} (w0 : IsRow .i64 w a0 len0 cap0 z0) :
    ∃ zs : List Int, zs.length = len0 ∧ Ints w.heap.size w (.slice a0 len0 cap0) zs ∧ len0 ≤ 9223372036854775807 := by
  obtain ⟨h1, h2⟩ := w0.ints (Nat.le_refl _)
  have := w0.cap
  exact ⟨_, h2, h1, by omega⟩

theorem addr_add (b off j : Nat) : (⟨b, off, none⟩ : Addr).add j = ⟨b, off + j, none⟩ := by
  by_cases e : j = 0
  · subst e; simp [Addr.add]
  · simp [Addr.add, e]
theorem ints_one (zs : List Int) : ∀ u ∈ zs.map (Value.int .i64), u.oneCell' = true := by
  intro u hu
  obtain ⟨x, _, rfl⟩ := List.mem_map.1 hu
  rfl
theorem append_ints {T E : TypeId} (hT : Try.prog.underlying T = some (.slice E)) (hE : (Try.prog.info? E).map (fun i => (i.zero, i.size, i.bytes)) = some (some (.int .i64 0), 1, 8)) {ops : Array Oper} {rest : List Oper} {o : Oper} {a : Act} {Q : Exit → Act → World → Prop} {w : World} (hgd : o.guard = none) (s x : Operand)
    (ho : o.op = .call { callee := .builtin .append, args := #[s, x], argTypes := #[T, T] })
    (base : Nat) (v : Value) (n : Nat) (xs : List Int) (hs : a.eval s = v) (hown : w.ownsRow base E 1 v n (xs.map (Value.int .i64)))
    (B : Nat) (A : Option Addr) (m c : Nat) (zs : List Int) (hx : a.eval x = .slice A m c) (hnil : A = none → c = 0) (hm : zs.length = m) (hI : Ints B w (.slice A m c) zs)
    (hb : (n + m) * 8 ≤ 140737488355328) (hbase : base ≤ w.heap.size)
    (h : ∀ v' w', w'.ownsRow base E 1 v' (n + m) ((xs ++ zs).map (Value.int .i64)) → w.grownBy w' v.ownBlock → wpList Try.prog ops Q rest (a.put o.dst v') w') : wpList Try.prog ops Q (o :: rest) a w := by
  obtain ⟨i0, hi, hz0, hz1, hz2⟩ := info_parts hE
  cases A with
  | none =>
    obtain rfl := hnil rfl
    have hz : zs = [] := by
      rcases hI with ⟨_, h0⟩ | ⟨b, off, cap, h0, _⟩
      · exact h0
      · simp at h0
    subst hz
    obtain rfl : m = 0 := by simpa using hm.symm
    exact wpList_append_own_none hgd s x T ho base E i0 1 hT hi v n _ hs hown hx (by
      have := h v w (by simpa using hown) (World.grownBy.refl w _)
      exact this)
  | some ad =>
    refine wpList_append_own _ hgd s x T ho base E i0 (.int .i64 0) 1 8 hT hi hz0 hz1 hz2 rfl (by decide) v n _ hs hown ad m c (zs.map (Value.int .i64)) hx (by simp [hm]) ?_ (ints_one zs) (by unfold maxLen; omega) hb hbase ?_
    · intro j u hj
      have hjl : j < zs.length := by
        have := (List.getElem?_eq_some_iff.1 hj).1
        simpa using this
      obtain ⟨b, off, ha, _, hc⟩ := hI.cells hjl
      injection ha with ha
      subst ha
      rw [addr_add, hc j hjl]
      simp [zat, hjl] at hj ⊢
      exact hj
    · intro v' w' h1 h2 _
      exact h v' w' (by rw [List.map_append]; exact h1) h2
theorem ownsRow_intsn {w : World} {E : TypeId} {base n : Nat} {v : Value} {xs : List Int} (hn : xs.length = n) (h : w.ownsRow base E 1 v n (xs.map (Value.int .i64))) :
    ∃ a cap, v = .slice a n cap ∧ (a = none → cap = 0) ∧ Ints w.heap.size w (.slice a n cap) xs := by
  subst hn
  have hown := h
  obtain ⟨h0, h1⟩ := h
  rcases h1 with ⟨rfl, hn⟩ | ⟨g, cap, cur, rfl, hg, hc, hn, hm, hs, ht⟩
  · have : xs = [] := List.length_eq_zero_iff.1 hn
    subst this
    exact ⟨none, 0, rfl, fun _ => rfl, .inl ⟨⟨_, _, rfl⟩, rfl⟩⟩
  · refine ⟨_, cap, rfl, fun e => by (cases e), .inr ⟨g, 0, cap, rfl, (Array.getElem?_eq_some_iff.1 hc).1, fun j hj => ?_⟩⟩
    have := hown.cellAt j (by omega)
    rw [show 0 + j = j by omega, this]
    simp [zat, hj]
theorem IsRow.nil {w : World} {a : Option Addr} {len cap : Nat} {zs : List Int} (h : IsRow .i64 w a len cap zs) : a = none → cap = 0 := by
  rcases h with ⟨_, _, rfl, _⟩ | ⟨x, rfl, _⟩
  · exact fun _ => rfl
  · intro h; cases h
/-- The empty row in a new block. -/
theorem own_empty (w : World) (E : TypeId) (base : Nat) (hb : base ≤ w.heap.size) : (w.alloc (.cells #[] E)).ownsRow base E 1 (.slice (some ⟨w.heap.size, 0, none⟩) 0 0) 0 (([] : List Int).map (Value.int .i64)) :=
  World.ownsRow_lit w #[] 0 hb (Nat.zero_le _) rfl
theorem Ints.new1 (w : World) (E : TypeId) (x : Int) : Ints (w.heap.size + 1) (w.alloc (.cells #[.int .i64 x] E)) (.slice (some ⟨w.heap.size, 0, none⟩) 1 1) [x] :=
  .inr ⟨w.heap.size, 0, 1, rfl, by omega, fun j hj => by
    have h : j = 0 := by simp at hj; omega
    subst h; simp [zat]⟩
theorem Try.info2 : (Try.prog.info? 2).map (fun i => (i.zero, i.size, i.bytes)) = some (some (.int .i64 0), 1, 8) := by kernel_rfl
theorem Try.info3 : (Try.prog.info? 3).map (fun i => (i.zero, i.size, i.bytes)) = some (some (.int .i64 0), 1, 8) := by kernel_rfl
theorem bx {A B C : World} (h : Below A.heap.size A B) (k : Drew B C) : Below A.heap.size A C := h.trans (k.below _)
end Go.Proofs.Ytdijafdplkdfiaa
