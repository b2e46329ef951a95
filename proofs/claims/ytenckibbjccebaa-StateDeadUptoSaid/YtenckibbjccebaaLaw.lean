/- What the laws of states share: the head of all statements returns true; a slice that came in reads as a row of events. Conditions: those of a slice of integers that came in. -/
import Derived.Test.YtenckibbjccebaaRun
import Derived.OpenShut
import Derived.Maps.AppendAt
import Derived.OneCell
namespace Go.Proofs.Ytenckibbjccebaa
set_option linter.unusedVariables false
open Go.RowKit

/-- WHAT THE WALK IS TOLD OF A SLICE OF INTEGERS THAT CAME IN. -/
def IsRow (k : IntKind) (w : World) (a : Option Addr) (len cap : Nat) (zs : List Int) : Prop :=
  (a = none ∧ len = 0 ∧ cap = 0 ∧ zs = []) ∨
  ∃ x, a = some x ∧ len ≤ cap ∧ cap ≤ maxLen ∧ zs.length = cap ∧ (∀ i, i < zs.length → w.cell? (x.add i) = some (.int k (zs.getD i 0))) ∧ ∀ n ∈ zs, (Lit.int k n).wf = true
theorem IsRow.ints {w : World} {a : Option Addr} {len cap : Nat} {zs : List Int} (h : IsRow .i64 w a len cap zs) {n : Nat} (hn : n ≤ len) : Ints w.heap.size w (.slice a n cap) (zs.take n) ∧ (zs.take n).length = n := by
  rcases h with ⟨rfl, rfl, rfl, rfl⟩ | ⟨x, rfl, h1, h2, h3, h4, h5⟩
  · obtain rfl : n = 0 := by omega
    exact ⟨.inl ⟨⟨_, _, rfl⟩, rfl⟩, rfl⟩
  · have hl : (zs.take n).length = n := by simp; omega
    refine ⟨?_, hl⟩
    by_cases h0 : n = 0
    · subst h0
      exact .inl ⟨⟨_, _, rfl⟩, by simp⟩
    · obtain ⟨b, off, spot⟩ := x
      have hc := h4 0 (by omega)
      have hspot : spot = none := by simpa [Addr.add] using World.cell?_spot hc
      subst hspot
      refine .inr ⟨b, off, cap, by rw [hl], ?_, fun j hj => ?_⟩
      · have := World.block_lt_of_cell? w _ hc
        simpa [Addr.add] using this
      · have := h4 j (by omega)
        rw [hl] at hj
        have ea : (⟨b, off, none⟩ : Addr).add j = ⟨b, off + j, none⟩ := by
          by_cases e : j = 0
          · subst e; simp [Addr.add]
          · simp [Addr.add, e]
        rw [ea] at this
        rw [this]; simp [zat, hj]
theorem IsRow.cap {w : World} {a : Option Addr} {len cap : Nat} {zs : List Int} (h : IsRow .i64 w a len cap zs) : len ≤ cap ∧ cap ≤ 9223372036854775807 := by
  rcases h with ⟨rfl, rfl, rfl, rfl⟩ | ⟨x, rfl, h1, h2, _⟩
  · exact ⟨by omega, by omega⟩
  · exact ⟨h1, by unfold maxLen at h2; omega⟩
/-- What a slice that came in is to a law. -/
theorem pre {w : World} {a0 : Option Addr} {len0 cap0 : Nat} {z0 : List Int} (w0 : IsRow .i64 w a0 len0 cap0 z0) :
    ∃ zs : List Int, zs.length = len0 ∧ Ints w.heap.size w (.slice a0 len0 cap0) zs ∧ len0 ≤ 9223372036854775807 := by
  obtain ⟨h1, h2⟩ := w0.ints (Nat.le_refl _)
  have := w0.cap
  exact ⟨_, h2, h1, by omega⟩

theorem Ints.new3 (w : World) (x y z : Int) : Ints (w.heap.size + 1) (w.alloc (.cells #[.int .i64 x, .int .i64 y, .int .i64 z] 3)) (.slice (some ⟨w.heap.size, 0, none⟩) 3 3) [x, y, z] :=
  .inr ⟨w.heap.size, 0, 3, rfl, by omega, fun j hj => by
    have h : j = 0 ∨ j = 1 ∨ j = 2 := by simp at hj; omega
    rcases h with rfl | rfl | rfl <;> simp [zat]⟩
/-- The head of all statements. -/
theorem shown_any (w : World) : Calls Try.prog 6 #[] w fun e w' => e = .returned (.bool true) ∧ Below w.heap.size w w' := by
  have HE := Lib.hid (show script 1 [7, 101, 9] = (2, 3, 0) by decide +kernel)
  have HI := Lib.hid (Ints.new3 w 7 101 9)
  have hb0 : Below w.heap.size w (w.alloc (.cells #[.int .i64 7, .int .i64 101, .int .i64 9] 3)) := (Below.refl _ w).alloc (Nat.le_refl _) _
  have HS := Lib.hid (show (w.alloc (.cells #[.int .i64 7, .int .i64 101, .int .i64 9] 3)).heap.size = w.heap.size + 1 by simp)
  go_enter Try.func6, Try.ntmps6
  go_wp2_with fail
  generalize w.alloc (.cells #[.int .i64 7, .int .i64 101, .int .i64 9] 3) = W at hb0 HI HS ⊢
  refine (script_any _ _ _ [7, 101, 9] W rfl (by rw [HS.out]; exact HI.out) (by decide)).mono ?_
  rintro e w1 ⟨rfl, hb1⟩
  rw [HE.out]
  go_wp2
  go_ret
  exact ⟨rfl, hb0.trans (hb1.mono (by have := HS.out; omega))⟩

/-! ### Counting -/
def picks : List Int → Int
  | [] => 0
  | e :: l => picks l + if e = 101 then 1 else 0
def stops : List Int → Int
  | [] => 0
  | e :: l => stops l + if e = 8 ∨ e = 9 ∨ e = 10 ∨ e = 102 then 1 else 0
theorem picks_snoc (l : List Int) (e : Int) : picks (l ++ [e]) = picks l + if e = 101 then 1 else 0 := by
  induction l with
  | nil => simp [picks]
  | cons a l ih => simp only [List.cons_append, picks, ih]; omega
theorem stops_snoc (l : List Int) (e : Int) : stops (l ++ [e]) = stops l + if e = 8 ∨ e = 9 ∨ e = 10 ∨ e = 102 then 1 else 0 := by
  induction l with
  | nil => simp [stops]
  | cons a l ih => simp only [List.cons_append, stops, ih]; omega
/-- One step that is taken. -/
theorem next_cases {s e : Int} (h : (next s e).2 = 0) :
    (s = 1 ∧ e = 7 ∧ (next s e).1 = 2) ∨ (s = 2 ∧ e = 101 ∧ (next s e).1 = 3) ∨ (s = 3 ∧ e = 8 ∧ (next s e).1 = 1) ∨ (s = 3 ∧ e = 9 ∧ (next s e).1 = 2) ∨ (s = 3 ∧ e = 10 ∧ (next s e).1 = 4) ∨ (s = 3 ∧ e = 102 ∧ (next s e).1 = 2) := by
  have hh : ∀ k, hit s e k = true → tab (3 * k) = s ∧ tab (3 * k + 1) = e := fun k hk => by simpa [hit] using hk
  unfold next at h ⊢
  split at h
  · simp at h
  · rename_i h1
    split at h
    · simp at h
    · rename_i h2
      rw [if_neg h1, if_neg h2]
      split at h
      · rename_i h3; obtain ⟨a, b⟩ := hh 0 h3; simp only [tab] at a b; subst a b; exact .inl ⟨rfl, rfl, by rw [if_pos h3]⟩
      · rename_i h3
        rw [if_neg h3]
        split at h
        · rename_i h4; obtain ⟨a, b⟩ := hh 1 h4; simp only [tab] at a b; subst a b; exact .inr (.inl ⟨rfl, rfl, by rw [if_pos h4]⟩)
        · rename_i h4
          rw [if_neg h4]
          split at h
          · rename_i h5; obtain ⟨a, b⟩ := hh 2 h5; simp only [tab] at a b; subst a b; exact .inr (.inr (.inl ⟨rfl, rfl, by rw [if_pos h5]⟩))
          · rename_i h5
            rw [if_neg h5]
            split at h
            · rename_i h6; obtain ⟨a, b⟩ := hh 3 h6; simp only [tab] at a b; subst a b; exact .inr (.inr (.inr (.inl ⟨rfl, rfl, by rw [if_pos h6]⟩)))
            · rename_i h6
              rw [if_neg h6]
              split at h
              · rename_i h7; obtain ⟨a, b⟩ := hh 4 h7; simp only [tab] at a b; subst a b; exact .inr (.inr (.inr (.inr (.inl ⟨rfl, rfl, by rw [if_pos h7]⟩))))
              · rename_i h7
                rw [if_neg h7]
                split at h
                · rename_i h8; obtain ⟨a, b⟩ := hh 5 h8; simp only [tab] at a b; subst a b; exact .inr (.inr (.inr (.inr (.inr ⟨rfl, rfl, by rw [if_pos h8]⟩))))
                · simp at h
theorem takes_take {s : Int} {l : List Int} (h : takes s l = true) (k : Nat) : takes s (l.take k) = true := by
  have := takes_append s (l.take k) (l.drop k)
  rw [List.take_append_drop, h] at this
  simp at this; exact this.1
/-- A row that is taken: picked less stopped is one just where a task runs. -/
theorem counted {l : List Int} (h : takes 1 l = true) : picks l - stops l = (if runs 1 l = 3 then 1 else 0) ∧ 0 ≤ stops l ∧ picks l ≤ l.length ∧ stops l ≤ l.length := by
  have key : ∀ k, k ≤ l.length → takes 1 (l.take k) = true ∧ picks (l.take k) - stops (l.take k) = (if runs 1 (l.take k) = 3 then 1 else 0) ∧ 0 ≤ stops (l.take k) ∧ picks (l.take k) ≤ k ∧ stops (l.take k) ≤ k := by
    intro k
    induction k with
    | zero => intro _; simp [takes, picks, stops, runs]
    | succ k ih =>
      intro hk
      obtain ⟨i1, i2, i3, i4, i5⟩ := ih (by omega)
      have ht : takes 1 (l.take (k + 1)) = true := by
        have := takes_append 1 (l.take (k + 1)) (l.drop (k + 1))
        rw [List.take_append_drop, h] at this
        simp at this; exact this.1
      rw [take_zat (by omega)] at ht ⊢
      have hs := takes_snoc 1 (l.take k) (zat l k)
      rw [ht, i1] at hs
      have hz : (next (runs 1 (l.take k)) (zat l k)).2 = 0 := by simpa using hs.symm
      refine ⟨ht, ?_⟩
      rw [picks_snoc, stops_snoc, runs_snoc]
      rcases next_cases hz with ⟨a, b, c⟩ | ⟨a, b, c⟩ | ⟨a, b, c⟩ | ⟨a, b, c⟩ | ⟨a, b, c⟩ | ⟨a, b, c⟩ <;> rw [a] at i2 c ⊢ <;> rw [b] at c ⊢ <;> rw [c] <;> simp at i2 ⊢ <;> omega
  have := key l.length (Nat.le_refl _)
  rw [List.take_length] at this
  exact this.2
end Go.Proofs.Ytenckibbjccebaa
