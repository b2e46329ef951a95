/- Plain words on tasks that may be pulled: who may, which one is the best by two keys, which one is chosen, and that it is the first one ahead of all others; without the program. No condition. -/
import Derived.WalkKit
import Derived.Deep.QuietTactic
import Derived.Below
namespace Go.Proofs.Ytkgpjcoapopgmaa
open Go.RowKit

/-- The bit p of m, as the walk spells it. -/
def tb (m : Int) (p : Nat) : Bool := bits BinOp.and IntKind.u64 (m / 2 ^ p) 1 == 1
structure Cd where
  id : Int
  w : Int
  m : Int
  r : Bool
def cat (zs : List Cd) (p : Nat) : Cd := zs[p]?.getD ⟨0, 0, 0, false⟩
/-- A number's place: -1 is none. -/
def firstP (P : Nat → Bool) : Nat → Int
  | 0 => -1
  | n + 1 => if 0 ≤ firstP P n then firstP P n else if P n then (n : Int) else -1
theorem firstP_spec (P : Nat → Bool) (n : Nat) : (firstP P n = -1 ∧ ∀ p, p < n → P p = false) ∨ (∃ p : Nat, p < n ∧ firstP P n = p ∧ P p = true ∧ ∀ q, q < p → P q = false) := by
  induction n with
  | zero => exact .inl ⟨rfl, fun p h => by omega⟩
  | succ n ih =>
    rcases ih with ⟨h1, h2⟩ | ⟨p, h1, h2, h3, h4⟩
    · by_cases hp : P n = true
      · refine .inr ⟨n, by omega, ?_, hp, h2⟩
        unfold firstP; rw [h1]; simp [hp]
      · refine .inl ⟨?_, fun q hq => ?_⟩
        · unfold firstP; rw [h1]; simp [hp]
        · by_cases e : q = n
          · subst e; simpa using hp
          · exact h2 q (by omega)
    · refine .inr ⟨p, by omega, ?_, h3, h4⟩
      unfold firstP; rw [h2]; simp
theorem firstP_at {P : Nat → Bool} {n k : Nat} (hk : k < n) (hP : P k = true) (hl : ∀ q, q < k → P q = false) : firstP P n = k := by
  rcases firstP_spec P n with ⟨_, h2⟩ | ⟨p, h1, h2, h3, h4⟩
  · exact absurd (h2 k hk) (by simp [hP])
  · rw [h2]
    rcases Nat.lt_trichotomy p k with h | h | h
    · rw [hl p h] at h3; cases h3
    · rw [h]
    · rw [h4 k h] at hP; cases hP
theorem firstP_none {P : Nat → Bool} {n : Nat} (hl : ∀ q, q < n → P q = false) : firstP P n = -1 := by
  rcases firstP_spec P n with ⟨h, _⟩ | ⟨p, h1, _, h3, _⟩
  · exact h
  · rw [hl p h1] at h3; cases h3

/-- One may be pulled. -/
def mayC (c : Cd) (gap p : Int) : Bool := decide (0 ≤ p) && (decide (p < 64) && (tb c.m p.toNat && (!c.r && (decide (0 < c.w) && decide (c.w < gap)))))
theorem mayC_iff {c : Cd} {gap p : Int} : mayC c gap p = true ↔ 0 ≤ p ∧ p < 64 ∧ tb c.m p.toNat = true ∧ c.r = false ∧ 0 < c.w ∧ c.w < gap := by
  simp [mayC]
def halfC (c : Cd) (gap p : Int) : Bool := mayC c gap p && decide (c.w ≤ gap / 2)
/-- Is i ahead of j, by two keys? -/
def ltK (k1 k2 : Nat → Int) (i j : Nat) : Bool := decide (k1 i < k1 j) || (decide (k1 i = k1 j) && decide (k2 i < k2 j))
theorem ltK_iff {k1 k2 : Nat → Int} {i j : Nat} : ltK k1 k2 i j = true ↔ k1 i < k1 j ∨ (k1 i = k1 j ∧ k2 i < k2 j) := by simp [ltK]
def bestStep (P : Nat → Bool) (k1 k2 : Nat → Int) (b : Int) (k : Nat) : Int := if P k = true ∧ (b < 0 ∨ ltK k1 k2 k b.toNat = true) then (k : Int) else b
def bestTo (P : Nat → Bool) (k1 k2 : Nat → Int) : Nat → Int
  | 0 => -1
  | n + 1 => bestStep P k1 k2 (bestTo P k1 k2 n) n
/-- b is the best one below k, or there is none. -/
def BestAt (P : Nat → Bool) (k1 k2 : Nat → Int) (k : Nat) (b : Int) : Prop :=
  (b = -1 ∧ ∀ q : Nat, q < k → P q = false) ∨
  ∃ p : Nat, b = p ∧ p < k ∧ P p = true ∧ ∀ q : Nat, q < k → P q = true → ¬ ltK k1 k2 q p = true ∧ (q < p → ltK k1 k2 p q = true)
theorem bestAt (P : Nat → Bool) (k1 k2 : Nat → Int) (k : Nat) : BestAt P k1 k2 k (bestTo P k1 k2 k) := by
  induction k with
  | zero => exact .inl ⟨rfl, fun q h => by omega⟩
  | succ k ih =>
    show BestAt _ _ _ _ (bestStep P k1 k2 (bestTo P k1 k2 k) k)
    by_cases hk : P k = true
    · rcases ih with ⟨h1, h2⟩ | ⟨p, h1, h2, h3, h5⟩
      · rw [h1]
        refine .inr ⟨k, by simp [bestStep, hk], by omega, hk, fun q hq hqm => ?_⟩
        by_cases e : q = k
        · subst e; exact ⟨fun h => by rw [ltK_iff] at h; omega, fun h => by omega⟩
        · rw [h2 q (by omega)] at hqm; cases hqm
      · rw [h1]
        by_cases hs : ltK k1 k2 k p = true
        · refine .inr ⟨k, ?_, by omega, hk, fun q hq hqm => ?_⟩
          · unfold bestStep; rw [if_pos ⟨hk, .inr (by simpa using hs)⟩]
          · by_cases e : q = k
            · subst e; exact ⟨fun h => by rw [ltK_iff] at h; omega, fun h => by omega⟩
            · have := (h5 q (by omega) hqm).1
              rw [ltK_iff] at this hs
              exact ⟨fun h => by rw [ltK_iff] at h; omega, fun _ => by rw [ltK_iff]; omega⟩
        · refine .inr ⟨p, ?_, by omega, h3, fun q hq hqm => ?_⟩
          · unfold bestStep; rw [if_neg (by rintro ⟨_, b | b⟩; · omega
                                            · exact hs (by simpa using b))]
          · by_cases e : q = k
            · subst e; exact ⟨hs, fun h => by omega⟩
            · exact h5 q (by omega) hqm
    · have hk' : P k = false := by simpa using hk
      have e0 : bestStep P k1 k2 (bestTo P k1 k2 k) k = bestTo P k1 k2 k := by unfold bestStep; rw [if_neg (by rintro ⟨a, _⟩; exact hk a)]
      rw [e0]
      rcases ih with ⟨h1, h2⟩ | ⟨p, h1, h2, h3, h5⟩
      · refine .inl ⟨h1, fun q hq => ?_⟩
        by_cases e : q = k
        · subst e; exact hk'
        · exact h2 q (by omega)
      · refine .inr ⟨p, h1, by omega, h3, fun q hq hqm => ?_⟩
        by_cases e : q = k
        · subst e; exact absurd hqm hk
        · exact h5 q (by omega) hqm
theorem bestTo_bd (P : Nat → Bool) (k1 k2 : Nat → Int) (k : Nat) : bestTo P k1 k2 k = -1 ∨ ∃ p : Nat, bestTo P k1 k2 k = p ∧ p < k := by
  rcases bestAt P k1 k2 k with ⟨h, _⟩ | ⟨p, h, h2, _⟩
  · exact .inl h
  · exact .inr ⟨p, h, h2⟩

def mayP (zs : List Cd) (gap p : Int) (k : Nat) : Bool := mayC (cat zs k) gap p
def halfP (zs : List Cd) (gap p : Int) (k : Nat) : Bool := halfC (cat zs k) gap p
def wK (zs : List Cd) (k : Nat) : Int := (cat zs k).w
def hK (zs : List Cd) (k : Nat) : Int := -(cat zs k).w
def iK (zs : List Cd) (k : Nat) : Int := (cat zs k).id
def heavyOf (zs : List Cd) (gap p : Int) : Int := bestTo (halfP zs gap p) (hK zs) (iK zs) zs.length
def lightOf (zs : List Cd) (gap p : Int) : Int := bestTo (mayP zs gap p) (wK zs) (iK zs) zs.length
/-- The place of the task that is pulled; -1: none is. -/
def chosen (zs : List Cd) (gap p : Int) : Int := if 0 ≤ heavyOf zs gap p then heavyOf zs gap p else lightOf zs gap p

/-- The document's order. -/
def isHalf (c : Cd) (gap : Int) : Bool := decide (c.w ≤ gap - c.w)
def aheadC (zs : List Cd) (gap : Int) (a b : Nat) : Bool :=
  if isHalf (cat zs a) gap ≠ isHalf (cat zs b) gap then isHalf (cat zs a) gap
  else if (cat zs a).w ≠ (cat zs b).w then decide ((cat zs b).w < (cat zs a).w) == isHalf (cat zs a) gap
  else if (cat zs a).id ≠ (cat zs b).id then decide ((cat zs a).id < (cat zs b).id) else decide (a < b)
def topTo (zs : List Cd) (gap p : Int) (a j : Nat) : Bool :=
  mayP zs gap p a && (List.range j).all fun b => !(b != a && (mayP zs gap p b && aheadC zs gap b a))
def topB (zs : List Cd) (gap p : Int) (a : Nat) : Bool := topTo zs gap p a zs.length
theorem topB_iff {zs : List Cd} {gap p : Int} {a : Nat} : topB zs gap p a = true ↔ mayP zs gap p a = true ∧ ∀ b, b < zs.length → b ≠ a → mayP zs gap p b = true → aheadC zs gap b a = false := by
  simp [topB, topTo]
  intro _
  refine ⟨fun h b h1 h2 h3 => ?_, fun h b h1 => ?_⟩
  · rcases h b h1 with h | h | h
    · exact absurd h h2
    · rw [h3] at h; cases h
    · exact h
  · by_cases e : b = a
    · exact .inl e
    · cases hm : mayP zs gap p b
      · exact .inr (.inl rfl)
      · exact .inr (.inr (h b h1 e hm))
def refChosen (zs : List Cd) (gap p : Int) : Int := firstP (topB zs gap p) zs.length
theorem isHalf_iff {c : Cd} {gap : Int} : isHalf c gap = true ↔ c.w ≤ gap / 2 := by simp [isHalf]; omega
/-- Of two that may be, one is ahead of the other one. -/
theorem ahead_total (zs : List Cd) (gap : Int) {a b : Nat} (h : a ≠ b) : aheadC zs gap a b = !aheadC zs gap b a := by
  unfold aheadC
  cases hx : isHalf (cat zs a) gap <;> cases hy : isHalf (cat zs b) gap <;> simp
  all_goals
    by_cases hw : (cat zs a).w = (cat zs b).w
    · rw [if_pos hw, if_pos hw.symm]
      by_cases hi : (cat zs a).id = (cat zs b).id
      · rw [if_pos hi, if_pos hi.symm]
        rw [Bool.eq_iff_iff]; simp; omega
      · rw [if_neg hi, if_neg (fun e => hi e.symm)]
        rw [Bool.eq_iff_iff]; simp; omega
    · rw [if_neg hw, if_neg (fun e => hw e.symm)]
      rw [Bool.eq_iff_iff]; simp; omega
/-- What is chosen: nobody may, or it may and is ahead of all others that may. -/
theorem chosen_spec (zs : List Cd) (gap p : Int) : (chosen zs gap p = -1 ∧ ∀ q, q < zs.length → mayP zs gap p q = false) ∨
    ∃ k : Nat, chosen zs gap p = k ∧ k < zs.length ∧ mayP zs gap p k = true ∧ ∀ q, q < zs.length → q ≠ k → mayP zs gap p q = true → aheadC zs gap k q = true := by
  have hh := bestAt (halfP zs gap p) (hK zs) (iK zs) zs.length
  have hl := bestAt (mayP zs gap p) (wK zs) (iK zs) zs.length
  have half_of : ∀ q, mayP zs gap p q = true → isHalf (cat zs q) gap = halfP zs gap p q := fun q h => by
    unfold mayP at h
    unfold halfP halfC
    rw [h, Bool.eq_iff_iff, isHalf_iff]; simp
  unfold chosen
  rcases hh with ⟨h1, h2⟩ | ⟨k, h1, h2, h3, h4⟩
  · change heavyOf zs gap p = -1 at h1
    rw [h1, if_neg (by omega)]
    rcases hl with ⟨l1, l2⟩ | ⟨k, l1, l2, l3, l4⟩
    · exact .inl ⟨l1, l2⟩
    · change lightOf zs gap p = k at l1
      refine .inr ⟨k, l1, l2, l3, fun q hq hne hm => ?_⟩
      have a1 := half_of k l3
      have a2 := half_of q hm
      rw [h2 k l2] at a1
      rw [h2 q hq] at a2
      have := l4 q hq hm
      rw [ltK_iff, ltK_iff] at this
      unfold wK iK at this
      unfold aheadC
      rw [a1, a2, if_neg (by simp)]
      split
      · rename_i hw
        have : ¬ (cat zs q).w < (cat zs k).w := by omega
        simp; omega
      · rename_i hw
        simp at hw
        split
        · rename_i hi; simp; omega
        · rename_i hi; simp at hi; simp; omega
  · change heavyOf zs gap p = k at h1
    rw [h1, if_pos (by omega)]
    have hmk : mayP zs gap p k = true := by unfold halfP halfC at h3; unfold mayP; simp at h3; exact h3.1
    refine .inr ⟨k, rfl, h2, hmk, fun q hq hne hm => ?_⟩
    have a1 := half_of k hmk
    have a2 := half_of q hm
    rw [h3] at a1
    unfold aheadC
    cases hx : halfP zs gap p q
    · rw [hx] at a2
      rw [a1, a2, if_pos (by simp)]
    · rw [hx] at a2
      rw [a1, a2, if_neg (by simp)]
      have := h4 q hq hx
      rw [ltK_iff, ltK_iff] at this
      unfold hK iK at this
      split
      · rename_i hw; simp; omega
      · rename_i hw
        simp at hw
        split
        · rename_i hi; simp; omega
        · rename_i hi; simp at hi; simp; omega
theorem refChosen_eq (zs : List Cd) (gap p : Int) : refChosen zs gap p = chosen zs gap p := by
  rcases chosen_spec zs gap p with ⟨h1, h2⟩ | ⟨k, h1, h2, h3, h4⟩
  · rw [h1]
    refine firstP_none fun q hq => ?_
    cases hb : topB zs gap p q
    · rfl
    · have := (topB_iff.1 hb).1; rw [h2 q hq] at this; cases this
  · rw [h1]
    refine firstP_at h2 (topB_iff.2 ⟨h3, fun q hq hne hm => ?_⟩) fun q hq => ?_
    · rw [ahead_total zs gap hne, h4 q hq hne hm]; rfl
    · cases hb : topB zs gap p q
      · rfl
      · obtain ⟨a, c⟩ := topB_iff.1 hb
        have e1 := c k h2 (by omega) h3
        rw [h4 q (by omega) (by omega) a] at e1; cases e1
theorem chosen_bd (zs : List Cd) (gap p : Int) : chosen zs gap p = -1 ∨ ∃ k : Nat, chosen zs gap p = k ∧ k < zs.length := by
  rcases chosen_spec zs gap p with ⟨h, _⟩ | ⟨k, h, h2, _⟩
  · exact .inl h
  · exact .inr ⟨k, h, h2⟩

/-- How much more one is. -/
def gapI (a b : Int) : Int := if b ≤ a then a - b else 0
/-- Two numbers together, at most the greatest. -/
def sat2 (a b : Int) : Int := if 18446744073709551615 < a + b then 18446744073709551615 else a + b

/-- Only answers have been drawn. -/
def Drew (w w' : World) : Prop := ∃ n, w' = w.drewN n
theorem Drew.refl (w : World) : Drew w w := ⟨0, rfl⟩
theorem Drew.drewN {w w' : World} (h : Drew w w') (n : Nat) : Drew w (w'.drewN n) := by
  obtain ⟨k, rfl⟩ := h
  exact ⟨k + n, by rw [World.drewN_drewN]⟩
theorem Drew.cell {w w' : World} (h : Drew w w') (a : Addr) : w'.cell? a = w.cell? a := by
  obtain ⟨k, rfl⟩ := h; simp
theorem Drew.below {w w' : World} (h : Drew w w') (B : Nat) : Below B w w' := by
  obtain ⟨k, rfl⟩ := h
  induction k with
  | zero => exact Below.refl _ _
  | succ k ih => exact ih.drew
theorem nx {A B C : World} (h : Below A.heap.size A B) (k : Below B.heap.size B C) : Below A.heap.size A C := h.trans (k.mono h.size)

/-- The slice value reads as the tasks zs, in a block below n₀. -/
def Cds (n₀ : Nat) (W : World) (sv : Value) (zs : List Cd) : Prop :=
  ((∃ a cap, sv = .slice a 0 cap) ∧ zs = []) ∨ ∃ b off cap, sv = .slice (some ⟨b, off, none⟩) zs.length cap ∧ b < n₀ ∧ ∀ j, j < zs.length →
    W.cell? ⟨b, off + j * 4, none⟩ = some (.int .i64 (cat zs j).id) ∧ W.cell? ⟨b, off + j * 4 + 1, none⟩ = some (.int .u64 (cat zs j).w) ∧
    W.cell? ⟨b, off + j * 4 + 2, none⟩ = some (.int .u64 (cat zs j).m) ∧ W.cell? ⟨b, off + j * 4 + 3, none⟩ = some (.bool (cat zs j).r)
theorem Cds.below {n₀ : Nat} {A B : World} (h : Below n₀ A B) {sv : Value} {zs : List Cd} : Cds n₀ A sv zs → Cds n₀ B sv zs
  | .inl e => .inl e
  | .inr ⟨b, off, cap, e, hb, hc⟩ => .inr ⟨b, off, cap, e, hb, fun j hj => by
    obtain ⟨h0, h1, h2, h3⟩ := hc j hj
    exact ⟨(h.cell (p := ⟨b, off + j * 4, none⟩) hb).trans h0, (h.cell (p := ⟨b, off + j * 4 + 1, none⟩) hb).trans h1, (h.cell (p := ⟨b, off + j * 4 + 2, none⟩) hb).trans h2, (h.cell (p := ⟨b, off + j * 4 + 3, none⟩) hb).trans h3⟩⟩
theorem Cds.grow {n₀ n₁ : Nat} {A : World} (hn : n₀ ≤ n₁) {sv : Value} {zs : List Cd} : Cds n₀ A sv zs → Cds n₁ A sv zs
  | .inl e => .inl e
  | .inr ⟨b, off, cap, e, hb, hc⟩ => .inr ⟨b, off, cap, e, by omega, hc⟩
/-- What a callee leaves: the slice reads as it read. -/
theorem Cds.next {A B : World} (h : Below A.heap.size A B) {sv : Value} {zs : List Cd} (hI : Cds A.heap.size A sv zs) : Cds B.heap.size B sv zs := (hI.below h).grow h.size
theorem Cds.cells {n₀ : Nat} {W : World} {a : Option Addr} {n cap : Nat} {zs : List Cd} (h : Cds n₀ W (.slice a n cap) zs) {p : Nat} (hp : p < zs.length) :
    ∃ b off, a = some ⟨b, off, none⟩ ∧ b < n₀ ∧ ∀ j, j < zs.length → W.cell? ⟨b, off + j * 4, none⟩ = some (.int .i64 (cat zs j).id) ∧ W.cell? ⟨b, off + j * 4 + 1, none⟩ = some (.int .u64 (cat zs j).w) ∧
    W.cell? ⟨b, off + j * 4 + 2, none⟩ = some (.int .u64 (cat zs j).m) ∧ W.cell? ⟨b, off + j * 4 + 3, none⟩ = some (.bool (cat zs j).r) := by
  rcases h with ⟨_, rfl⟩ | ⟨b, off, c, h1, hb, hc⟩
  · simp at hp
  · simp only [Value.slice.injEq] at h1
    exact ⟨b, off, h1.1, hb, hc⟩
end Go.Proofs.Ytkgpjcoapopgmaa
