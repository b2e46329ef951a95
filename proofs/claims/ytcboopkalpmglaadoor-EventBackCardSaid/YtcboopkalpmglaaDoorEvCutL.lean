/- Plain words on a text cut at a byte, and the library's split in them. Conditions: none. -/
import Derived.Test.YtcboopkalpmglaaDoorBytes
import Derived.Lib.SplitLaws
import Derived.Lib.CountLaws
import Derived.Lib.IndexBytes
namespace Go.Proofs.YtcboopkalpmglaaDoor
set_option linter.unusedVariables false
/-- A text in parts, at a byte. -/
def cutL (c : Nat) : List Nat → List (List Nat)
  | [] => [[]]
  | x :: r => if x = c then [] :: cutL c r else match cutL c r with
    | [] => [[x]]
    | p :: ps => (x :: p) :: ps
theorem cutL_cons (c x : Nat) (r : List Nat) : cutL c (x :: r) = if x = c then [] :: cutL c r else match cutL c r with
    | [] => [[x]]
    | p :: ps => (x :: p) :: ps := rfl
theorem cutL_ne (c : Nat) (l : List Nat) : cutL c l ≠ [] := by
  cases l with
  | nil => simp [cutL]
  | cons x r =>
    unfold cutL
    split
    · simp
    · split <;> simp
theorem cutL_append (c : Nat) (a b : List Nat) : cutL c (a ++ c :: b) = cutL c a ++ cutL c b := by
  induction a with
  | nil => simp [cutL]
  | cons x a ih =>
    rw [List.cons_append, cutL_cons, cutL_cons]
    by_cases h : x = c
    · rw [if_pos h, if_pos h, ih]; rfl
    · rw [if_neg h, if_neg h, ih]
      cases hq : cutL c a with
      | nil => exact absurd hq (cutL_ne c a)
      | cons p ps => rfl
theorem cutL_clean {c : Nat} {l : List Nat} (h : ∀ x ∈ l, x ≠ c) : cutL c l = [l] := by
  induction l with
  | nil => rfl
  | cons x r ih =>
    unfold cutL
    rw [if_neg (h x (by simp)), ih (fun y hy => h y (by simp [hy]))]
theorem cutL_snoc {c x : Nat} {l q : List Nat} {P : List (List Nat)} (h : cutL c l = P ++ [q]) (hx : x ≠ c) : cutL c (l ++ [x]) = P ++ [q ++ [x]] := by
  induction l generalizing P q with
  | nil =>
    cases P with
    | nil =>
      simp [cutL] at h
      subst h
      simp [cutL, hx]
    | cons p ps => simp [cutL] at h
  | cons y r ih =>
    rw [List.cons_append, cutL_cons]
    rw [cutL_cons] at h
    by_cases hy : y = c
    · rw [if_pos hy] at h ⊢
      cases P with
      | nil =>
        rw [List.nil_append] at h
        have := cutL_ne c r
        injection h with _ h
        exact absurd h this
      | cons p ps =>
        rw [List.cons_append] at h
        injection h with h1 h2
        subst h1
        rw [ih h2]
        rfl
    · rw [if_neg hy] at h ⊢
      cases hq : cutL c r with
      | nil => exact absurd hq (cutL_ne c r)
      | cons p ps =>
        rw [hq] at h
        simp only at h
        cases P with
        | nil =>
          rw [List.nil_append] at h
          injection h with h1 h2
          subst h2
          rw [ih (P := []) (q := p) hq, ← h1]
          rfl
        | cons p' ps' =>
          rw [List.cons_append] at h
          injection h with h1 h2
          rw [ih (P := p :: ps') (q := q) (by rw [hq, h2]; rfl), ← h1]
          rfl
theorem cutL_sep {c : Nat} {l : List Nat} {P : List (List Nat)} (h : cutL c l = P) : cutL c (l ++ [c]) = P ++ [[]] := by
  rw [cutL_append, h]; rfl
/-- No part has the byte, and the parts are the text again. -/
theorem cutL_parts {c : Nat} {l p : List Nat} (h : p ∈ cutL c l) : ∀ x ∈ p, x ≠ c ∧ x ∈ l := by
  induction l generalizing p with
  | nil => simp [cutL] at h; subst h; intro x hx; cases hx
  | cons y r ih =>
    unfold cutL at h
    by_cases hy : y = c
    · rw [if_pos hy] at h
      rcases List.mem_cons.1 h with rfl | h
      · intro x hx; cases hx
      · intro x hx; exact ⟨(ih h x hx).1, by simp [(ih h x hx).2]⟩
    · rw [if_neg hy] at h
      cases hq : cutL c r with
      | nil => exact absurd hq (cutL_ne c r)
      | cons q qs =>
        rw [hq] at h
        simp only at h
        rcases List.mem_cons.1 h with rfl | h
        · intro x hx
          rcases List.mem_cons.1 hx with rfl | hx
          · exact ⟨hy, by simp⟩
          · have := ih (p := q) (by rw [hq]; simp) x hx
            exact ⟨this.1, by simp [this.2]⟩
        · intro x hx
          have := ih (p := p) (by rw [hq]; simp [h]) x hx
          exact ⟨this.1, by simp [this.2]⟩
theorem cutL_length (c : Nat) (l : List Nat) : (cutL c l).length ≤ l.length + 1 := by
  induction l with
  | nil => simp [cutL]
  | cons y r ih =>
    unfold cutL
    split
    · simp; omega
    · split
      · simp
      · next p ps hq => rw [hq] at ih; simp at ih ⊢; omega
theorem cutL_part_le {c : Nat} {l p : List Nat} (h : p ∈ cutL c l) : p.length ≤ l.length := by
  induction l generalizing p with
  | nil => simp [cutL] at h; subst h; simp
  | cons y r ih =>
    unfold cutL at h
    by_cases hy : y = c
    · rw [if_pos hy] at h
      rcases List.mem_cons.1 h with rfl | h
      · simp
      · have := ih h; simp; omega
    · rw [if_neg hy] at h
      cases hq : cutL c r with
      | nil => exact absurd hq (cutL_ne c r)
      | cons q qs =>
        rw [hq] at h
        simp only at h
        rcases List.mem_cons.1 h with rfl | h
        · have := ih (p := q) (by rw [hq]; simp); simp; omega
        · have := ih (p := p) (by rw [hq]; simp [h]); simp; omega
/-- The library's split at one byte. -/
theorem split_cut (c : UInt8) (k : Nat) : ∀ s : ByteArray, s.size ≤ k → (Lib.splitB ⟨#[c]⟩ 0 (Lib.countB s ⟨#[c]⟩) s).map bl = cutL c.toNat (bl s) := by
  have hone : ∀ s : ByteArray, Lib.indexB s ⟨#[c]⟩ = Lib.indexByte s.data.toList c := fun s => Lib.index_one s.data.toList c
  have miss : ∀ s : ByteArray, Lib.indexB s ⟨#[c]⟩ = -1 → (Lib.splitB ⟨#[c]⟩ 0 (Lib.countB s ⟨#[c]⟩) s).map bl = cutL c.toNat (bl s) := fun s h => by
    rw [Lib.countB_miss s _ h, Lib.splitB_zero, cutL_clean]
    · rfl
    · intro x hx e
      unfold bl at hx
      obtain ⟨u, hu, rfl⟩ := List.mem_map.1 hx
      obtain ⟨j, hj⟩ := List.mem_iff_getElem?.1 hu
      exact Lib.indexByte_none ((hone s).symm.trans h) j (by rw [hj, UInt8.toNat_inj.1 e])
  induction k with
  | zero =>
    intro s hs
    rcases Lib.indexB_cases s ⟨#[c]⟩ with h | ⟨i, h, hi⟩
    · exact miss s h
    · have : (⟨#[c]⟩ : ByteArray).size = 1 := rfl
      omega
  | succ k ih =>
    intro s hs
    rcases Lib.indexB_cases s ⟨#[c]⟩ with h | ⟨i, h, hi⟩
    · exact miss s h
    · have h1 : (⟨#[c]⟩ : ByteArray).size = 1 := rfl
      rw [h1] at hi
      rw [Lib.countB_hit s _ i (by rw [h1]; exact Nat.le_refl _) h, Nat.add_comm, Lib.splitB_hit _ _ _ _ i h, h1, List.map_cons, ih _ (by rw [ByteArray.size_extract]; omega), Nat.add_zero, bl_head, bl_tail]
      obtain ⟨ha, hb⟩ := Lib.indexByte_some ((hone s).symm.trans h)
      have hlt : i < s.size := by omega
      have hat : (s[i]'hlt).toNat = c.toNat := by
        have := bl_at hlt
        unfold bl at this
        rw [List.getElem?_map, ha] at this
        simpa using this.symm
      have hcl : cutL c.toNat ((bl s).take i) = [(bl s).take i] := cutL_clean (fun x hx e => by
        obtain ⟨j, hj⟩ := List.mem_iff_getElem?.1 hx
        rw [List.getElem?_take] at hj
        split at hj
        · next hji =>
          unfold bl at hj
          rw [List.getElem?_map] at hj
          cases hq : s.data.toList[j]? with
          | none => rw [hq] at hj; cases hj
          | some u =>
            rw [hq] at hj
            simp at hj
            exact hb j hji (by rw [hq, UInt8.toNat_inj.1 (hj.trans e)])
        · cases hj)
      conv => rhs; rw [← List.take_append_drop i (bl s), bl_drop s i hlt, hat, cutL_append, hcl]
      rfl
end Go.Proofs.YtcboopkalpmglaaDoor
