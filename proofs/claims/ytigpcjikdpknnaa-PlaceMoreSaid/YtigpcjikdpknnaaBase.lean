/- Plain words on rows of numbers: the bit of a mask, who may be, the first of something, and a slice that reads as a list, without the program. -/
import Derived.WalkKit
import Derived.Deep.QuietTactic
import Derived.Below
namespace Go.Proofs.Ytigpcjikdpknnaa
open Go.RowKit

/-- The bit p of m, as the walk spells it. -/
def tb (m : Int) (p : Nat) : Bool := bits BinOp.and IntKind.u64 (m / 2 ^ p) 1 == 1
/-- P p may be. -/
def mayB (zs : List Int) (m : Int) (p : Nat) : Bool := decide (p < zs.length) && (decide (p < 64) && tb m p)
theorem mayB_iff {zs : List Int} {m : Int} {p : Nat} : mayB zs m p = true ↔ p < zs.length ∧ p < 64 ∧ tb m p = true := by
  simp [mayB]
/-- The p-th load. -/
def zat (zs : List Int) (p : Nat) : Int := zs[p]?.getD 0

/-- The first one below n of which P holds, or -1. -/
def firstP (P : Nat → Bool) : Nat → Int
  | 0 => -1
  | n + 1 => if 0 ≤ firstP P n then firstP P n else if P n then (n : Int) else -1
theorem firstP_lo (P : Nat → Bool) (n : Nat) : -1 ≤ firstP P n := by
  induction n with
  | zero => simp [firstP]
  | succ n ih => unfold firstP; split <;> (try split) <;> omega
theorem firstP_spec (P : Nat → Bool) (n : Nat) : (firstP P n = -1 ∧ ∀ p, p < n → P p = false) ∨ (∃ p : Nat, p < n ∧ firstP P n = p ∧ P p = true ∧ ∀ q, q < p → P q = false) := by
  induction n with
  | zero => exact .inl ⟨rfl, fun p h => by omega⟩
  | succ n ih =>
    rcases ih with ⟨h1, h2⟩ | ⟨p, h1, h2, h3, h4⟩
    · by_cases hp : P n = true
      · refine .inr ⟨n, by omega, ?_, hp, h2⟩
        unfold firstP; rw [h1]; simp [hp]
      · refine .inl ⟨?_, fun q hq => ?_⟩
        · unfold firstP; rw [h1]; simp [hp]
        · by_cases e : q = n
          · subst e; simpa using hp
          · exact h2 q (by omega)
    · refine .inr ⟨p, by omega, ?_, h3, h4⟩
      unfold firstP; rw [h2]; simp
theorem firstP_at {P : Nat → Bool} {n k : Nat} (hk : k < n) (hP : P k = true) (hl : ∀ q, q < k → P q = false) : firstP P n = k := by
  rcases firstP_spec P n with ⟨_, h2⟩ | ⟨p, h1, h2, h3, h4⟩
  · exact absurd (h2 k hk) (by simp [hP])
  · rw [h2]
    rcases Nat.lt_trichotomy p k with h | h | h
    · rw [hl p h] at h3; cases h3
    · rw [h]
    · rw [h4 k h] at hP; cases hP
theorem firstP_none {P : Nat → Bool} {n : Nat} (hl : ∀ q, q < n → P q = false) : firstP P n = -1 := by
  rcases firstP_spec P n with ⟨h, _⟩ | ⟨p, h1, _, h3, _⟩
  · exact h
  · rw [hl p h1] at h3; cases h3

/-- No q that may be and isn't 'mine' has more than p. -/
def topTo (zs : List Int) (mine m : Int) (p j : Nat) : Bool :=
  (mayB zs m p && (p : Int) != mine) && (List.range j).all fun q => !(mayB zs m q && (q : Int) != mine && decide (zat zs p < zat zs q))
def topB (zs : List Int) (mine m : Int) (p : Nat) : Bool := topTo zs mine m p zs.length
def lowTo (zs : List Int) (m : Int) (p j : Nat) : Bool :=
  mayB zs m p && (List.range j).all fun q => !(mayB zs m q && decide (zat zs q < zat zs p))
def lowB (zs : List Int) (m : Int) (p : Nat) : Bool := lowTo zs m p zs.length
def nilB (zs : List Int) (m : Int) (p : Nat) : Bool := mayB zs m p && zat zs p == 0
def busiest (zs : List Int) (mine m : Int) : Int := firstP (topB zs mine m) zs.length
def least (zs : List Int) (m : Int) : Int := firstP (lowB zs m) zs.length
def idle0 (zs : List Int) (m : Int) : Int := firstP (nilB zs m) zs.length

/-- Only answers have been drawn. -/
def Drew (w w' : World) : Prop := ∃ n, w' = w.drewN n
theorem Drew.refl (w : World) : Drew w w := ⟨0, rfl⟩
theorem Drew.drewN {w w' : World} (h : Drew w w') (n : Nat) : Drew w (w'.drewN n) := by
  obtain ⟨k, rfl⟩ := h
  exact ⟨k + n, by rw [World.drewN_drewN]⟩
theorem Drew.cell {w w' : World} (h : Drew w w') (a : Addr) : w'.cell? a = w.cell? a := by
  obtain ⟨k, rfl⟩ := h; simp
theorem Drew.below {w w' : World} (h : Drew w w') (B : Nat) : Below B w w' := by
  obtain ⟨k, rfl⟩ := h
  induction k with
  | zero => exact Below.refl _ _
  | succ k ih => exact ih.drew

/-- The slice a of 'len' numbers of kind k reads as zs. -/
structure Row (k : IntKind) (lo hi : Int) (w : World) (a : Option Addr) (len : Nat) (zs : List Int) : Prop where
  n : zs.length = len
  cells : (a = none ∧ len = 0) ∨ ∃ b off, a = some ⟨b, off, none⟩ ∧ b < w.heap.size ∧ ∀ i, i < len → w.cell? ⟨b, off + i, none⟩ = some (.int k (zat zs i))
  bd : ∀ i : Nat, lo ≤ zat zs i ∧ zat zs i < hi
  fits : len * 8 ≤ 140737488351232
theorem Row.below {k : IntKind} {lo hi : Int} {w w' : World} {a : Option Addr} {len : Nat} {zs : List Int} (h : Row k lo hi w a len zs) (hb : Below w.heap.size w w') : Row k lo hi w' a len zs := by
  refine ⟨h.n, ?_, h.bd, h.fits⟩
  rcases h.cells with h | ⟨b, off, e, hlt, hc⟩
  · exact .inl h
  · exact .inr ⟨b, off, e, by have := hb.size; omega, fun i hi => (hb.cell (p := ⟨b, off + i, none⟩) hlt).trans (hc i hi)⟩

/-! ### What the loops reckon, and that it is the first one that is best -/
/-- One round of Busiest. -/
def busyStep (zs : List Int) (mine : Int) (b : Int) (p : Nat) : Int := if (p : Int) ≠ mine ∧ (b < 0 ∨ zat zs b.toNat < zat zs p) then (p : Int) else b
def busyFold (zs : List Int) (mine m : Int) (l : List { p : Nat // mayB zs m p = true }) : Int := l.foldl (fun b x => busyStep zs mine b x.1) (-1)
theorem busyFold_snoc (zs : List Int) (mine m : Int) (l : List { p : Nat // mayB zs m p = true }) (x : { p : Nat // mayB zs m p = true }) : busyFold zs mine m (l ++ [x]) = busyStep zs mine (busyFold zs mine m l) x.1 := by simp [busyFold]
/-- One round of Least. -/
def lowStep (zs : List Int) (b : Int) (p : Nat) : Int := if b < 0 ∨ zat zs p < zat zs b.toNat then (p : Int) else b
def lowFold (zs : List Int) (m : Int) (l : List { p : Nat // mayB zs m p = true }) : Int := l.foldl (fun b x => lowStep zs b x.1) (-1)
theorem lowFold_snoc (zs : List Int) (m : Int) (l : List { p : Nat // mayB zs m p = true }) (x : { p : Nat // mayB zs m p = true }) : lowFold zs m (l ++ [x]) = lowStep zs (lowFold zs m l) x.1 := by simp [lowFold]

theorem snocInd {α : Type} {P : List α → Prop} (h0 : P []) (h1 : ∀ l x, P l → P (l ++ [x])) (l : List α) : P l := by
  have : ∀ l : List α, P l.reverse := by
    intro l
    induction l with
    | nil => exact h0
    | cons x l ih => rw [List.reverse_cons]; exact h1 _ _ ih
  simpa using this l.reverse
theorem busyFold_bd (zs : List Int) (mine m : Int) (l : List { p : Nat // mayB zs m p = true }) : -1 ≤ busyFold zs mine m l ∧ busyFold zs mine m l < zs.length ∨ busyFold zs mine m l = -1 := by
  refine snocInd (P := fun l => -1 ≤ busyFold zs mine m l ∧ busyFold zs mine m l < zs.length ∨ busyFold zs mine m l = -1) (.inr rfl) ?_ l
  intro l x ih
  rw [busyFold_snoc]
  have hx := (mayB_iff.1 x.2).1
  unfold busyStep; split <;> omega
theorem lowFold_bd (zs : List Int) (m : Int) (l : List { p : Nat // mayB zs m p = true }) : -1 ≤ lowFold zs m l ∧ lowFold zs m l < zs.length ∨ lowFold zs m l = -1 := by
  refine snocInd (P := fun l => -1 ≤ lowFold zs m l ∧ lowFold zs m l < zs.length ∨ lowFold zs m l = -1) (.inr rfl) ?_ l
  intro l x ih
  rw [lowFold_snoc]
  have hx := (mayB_iff.1 x.2).1
  unfold lowStep; split <;> omega

/-- Who has come when k rounds are over. -/
def came (zs : List Int) (m : Int) : Nat → List { p : Nat // mayB zs m p = true }
  | 0 => []
  | k + 1 => if h : mayB zs m k = true then came zs m k ++ [⟨k, h⟩] else came zs m k
theorem came_length (zs : List Int) (m : Int) (k : Nat) : (came zs m k).length ≤ k := by
  induction k with
  | zero => simp [came]
  | succ k ih => unfold came; split
                 · simp; omega
                 · omega
theorem came_yes {zs : List Int} {m : Int} {k : Nat} (h : mayB zs m k = true) : came zs m (k + 1) = came zs m k ++ [⟨k, h⟩] := by
  show (if h : mayB zs m k = true then came zs m k ++ [⟨k, h⟩] else came zs m k) = _
  rw [dif_pos h]
theorem came_no {zs : List Int} {m : Int} {k : Nat} (h : mayB zs m k = false) : came zs m (k + 1) = came zs m k := by
  show (if h : mayB zs m k = true then came zs m k ++ [⟨k, h⟩] else came zs m k) = _
  rw [dif_neg (by simp [h])]

/-- b is the busiest of those below k, or there is none. -/
def BusyAt (zs : List Int) (mine m : Int) (k : Nat) (b : Int) : Prop :=
  (b = -1 ∧ ∀ q : Nat, q < k → mayB zs m q = true → (q : Int) = mine) ∨
  ∃ p : Nat, b = p ∧ p < k ∧ mayB zs m p = true ∧ (p : Int) ≠ mine ∧ ∀ q : Nat, q < k → mayB zs m q = true → (q : Int) ≠ mine → zat zs q ≤ zat zs p ∧ (q < p → zat zs q < zat zs p)
theorem busyAt (zs : List Int) (mine m : Int) (k : Nat) : BusyAt zs mine m k (busyFold zs mine m (came zs m k)) := by
  induction k with
  | zero => exact .inl ⟨rfl, fun q h => by omega⟩
  | succ k ih =>
    by_cases hk : mayB zs m k = true
    · rw [came_yes hk, busyFold_snoc]
      show BusyAt _ _ _ _ (busyStep zs mine (busyFold zs mine m (came zs m k)) k)
      rcases ih with ⟨h1, h2⟩ | ⟨p, h1, h2, h3, h4, h5⟩
      · rw [h1]
        by_cases hm : (k : Int) = mine
        · refine .inl ⟨by simp [busyStep, hm], fun q hq hqm => ?_⟩
          by_cases e : q = k
          · subst e; exact hm
          · exact h2 q (by omega) hqm
        · refine .inr ⟨k, by simp [busyStep, hm], by omega, hk, hm, fun q hq hqm hqn => ?_⟩
          by_cases e : q = k
          · subst e; exact ⟨Int.le_refl _, fun h => by omega⟩
          · exact absurd (h2 q (by omega) hqm) hqn
      · rw [h1]
        by_cases hs : (k : Int) ≠ mine ∧ zat zs p < zat zs k
        · refine .inr ⟨k, ?_, by omega, hk, hs.1, fun q hq hqm hqn => ?_⟩
          · unfold busyStep; rw [if_pos ⟨hs.1, .inr (by simpa using hs.2)⟩]
          · by_cases e : q = k
            · subst e; exact ⟨Int.le_refl _, fun h => by omega⟩
            · have := h5 q (by omega) hqm hqn
              exact ⟨by omega, fun _ => by omega⟩
        · refine .inr ⟨p, ?_, by omega, h3, h4, fun q hq hqm hqn => ?_⟩
          · unfold busyStep; rw [if_neg (by rintro ⟨a, b | b⟩; · omega
                                            · exact hs ⟨a, by simpa using b⟩)]
          · by_cases e : q = k
            · subst e
              have : ¬ zat zs p < zat zs q := fun h => hs ⟨hqn, h⟩
              exact ⟨by omega, fun h => by omega⟩
            · exact h5 q (by omega) hqm hqn
    · have hk' : mayB zs m k = false := by simpa using hk
      rw [came_no hk']
      rcases ih with ⟨h1, h2⟩ | ⟨p, h1, h2, h3, h4, h5⟩
      · refine .inl ⟨h1, fun q hq hqm => ?_⟩
        by_cases e : q = k
        · subst e; exact absurd hqm hk
        · exact h2 q (by omega) hqm
      · refine .inr ⟨p, h1, by omega, h3, h4, fun q hq hqm hqn => ?_⟩
        by_cases e : q = k
        · subst e; exact absurd hqm hk
        · exact h5 q (by omega) hqm hqn
theorem topB_iff {zs : List Int} {mine m : Int} {p : Nat} : topB zs mine m p = true ↔ (mayB zs m p = true ∧ (p : Int) ≠ mine) ∧ ∀ q : Nat, q < zs.length → mayB zs m q = true → (q : Int) ≠ mine → zat zs q ≤ zat zs p := by
  simp [topB, topTo]
  intro _ _
  refine ⟨fun h q a b c => (h q a).resolve_left (by simp [b, c]), fun h x a => ?_⟩
  cases hb : mayB zs m x
  · exact .inl (.inl rfl)
  · by_cases hm : (x : Int) = mine
    · exact .inl (.inr hm)
    · exact .inr (h x a hb hm)
theorem lowB_iff {zs : List Int} {m : Int} {p : Nat} : lowB zs m p = true ↔ mayB zs m p = true ∧ ∀ q : Nat, q < zs.length → mayB zs m q = true → zat zs p ≤ zat zs q := by
  simp [lowB, lowTo]
  intro _
  refine ⟨fun h q a b => (h q a).resolve_left (by simp [b]), fun h x a => ?_⟩
  cases hb : mayB zs m x
  · exact .inl rfl
  · exact .inr (h x a hb)
theorem busiest_spec (zs : List Int) (mine m : Int) : BusyAt zs mine m zs.length (busiest zs mine m) := by
  have h := busyAt zs mine m zs.length
  have e : busyFold zs mine m (came zs m zs.length) = busiest zs mine m := by
    unfold busiest
    rcases h with ⟨h1, h2⟩ | ⟨p, h1, h2, h3, h4, h5⟩
    · rw [h1]; symm
      refine firstP_none fun q hq => ?_
      cases hb : topB zs mine m q
      · rfl
      · exact absurd (h2 q hq (topB_iff.1 hb).1.1) (topB_iff.1 hb).1.2
    · rw [h1]; symm
      refine firstP_at h2 (topB_iff.2 ⟨⟨h3, h4⟩, fun q hq hqm hqn => (h5 q hq hqm hqn).1⟩) fun q hq => ?_
      cases hb : topB zs mine m q
      · rfl
      · obtain ⟨⟨a, b⟩, c⟩ := topB_iff.1 hb
        have := (h5 q (by omega) a b).2 hq
        have := c p h2 h3 h4
        omega
  rw [← e]; exact h
theorem busyFold_eq (zs : List Int) (mine m : Int) : busyFold zs mine m (came zs m zs.length) = busiest zs mine m := by
  have h := busyAt zs mine m zs.length
  have k := busiest_spec zs mine m
  rcases h with ⟨h1, h2⟩ | ⟨p, h1, h2, h3, h4, h5⟩ <;> rcases k with ⟨k1, k2⟩ | ⟨r, k1, k2, k3, k4, k5⟩
  · rw [h1, k1]
  · exact absurd (h2 r k2 k3) k4
  · exact absurd (k2 p h2 h3) h4
  · rw [h1, k1]
    have a := h5 r k2 k3 k4
    have b := k5 p h2 h3 h4
    have : p = r := by omega
    rw [this]

/-- b is the least of those below k, or there is none. -/
def LowAt (zs : List Int) (m : Int) (k : Nat) (b : Int) : Prop :=
  (b = -1 ∧ ∀ q : Nat, q < k → mayB zs m q = false) ∨
  ∃ p : Nat, b = p ∧ p < k ∧ mayB zs m p = true ∧ ∀ q : Nat, q < k → mayB zs m q = true → zat zs p ≤ zat zs q ∧ (q < p → zat zs p < zat zs q)
theorem lowAt (zs : List Int) (m : Int) (k : Nat) : LowAt zs m k (lowFold zs m (came zs m k)) := by
  induction k with
  | zero => exact .inl ⟨rfl, fun q h => by omega⟩
  | succ k ih =>
    by_cases hk : mayB zs m k = true
    · rw [came_yes hk, lowFold_snoc]
      show LowAt _ _ _ (lowStep zs (lowFold zs m (came zs m k)) k)
      rcases ih with ⟨h1, h2⟩ | ⟨p, h1, h2, h3, h5⟩
      · rw [h1]
        refine .inr ⟨k, by simp [lowStep], by omega, hk, fun q hq hqm => ?_⟩
        by_cases e : q = k
        · subst e; exact ⟨Int.le_refl _, fun h => by omega⟩
        · rw [h2 q (by omega)] at hqm; cases hqm
      · rw [h1]
        by_cases hs : zat zs k < zat zs p
        · refine .inr ⟨k, ?_, by omega, hk, fun q hq hqm => ?_⟩
          · unfold lowStep; rw [if_pos (.inr (by simpa using hs))]
          · by_cases e : q = k
            · subst e; exact ⟨Int.le_refl _, fun h => by omega⟩
            · have := h5 q (by omega) hqm
              exact ⟨by omega, fun _ => by omega⟩
        · refine .inr ⟨p, ?_, by omega, h3, fun q hq hqm => ?_⟩
          · unfold lowStep; rw [if_neg (by rintro (b | b); · omega
                                           · exact hs (by simpa using b))]
          · by_cases e : q = k
            · subst e; exact ⟨by omega, fun h => by omega⟩
            · exact h5 q (by omega) hqm
    · have hk' : mayB zs m k = false := by simpa using hk
      rw [came_no hk']
      rcases ih with ⟨h1, h2⟩ | ⟨p, h1, h2, h3, h5⟩
      · refine .inl ⟨h1, fun q hq => ?_⟩
        by_cases e : q = k
        · subst e; exact hk'
        · exact h2 q (by omega)
      · refine .inr ⟨p, h1, by omega, h3, fun q hq hqm => ?_⟩
        by_cases e : q = k
        · subst e; exact absurd hqm hk
        · exact h5 q (by omega) hqm
theorem lowFold_eq (zs : List Int) (m : Int) : lowFold zs m (came zs m zs.length) = least zs m := by
  have h := lowAt zs m zs.length
  unfold least
  rcases h with ⟨h1, h2⟩ | ⟨p, h1, h2, h3, h5⟩
  · rw [h1]; symm
    refine firstP_none fun q hq => ?_
    cases hb : lowB zs m q
    · rfl
    · have := (lowB_iff.1 hb).1; rw [h2 q hq] at this; cases this
  · rw [h1]; symm
    refine firstP_at h2 (lowB_iff.2 ⟨h3, fun q hq hqm => (h5 q hq hqm).1⟩) fun q hq => ?_
    cases hb : lowB zs m q
    · rfl
    · obtain ⟨a, c⟩ := lowB_iff.1 hb
      have := (h5 q (by omega) a).2 hq
      have := c p h2 h3
      omega
theorem least_spec (zs : List Int) (m : Int) : LowAt zs m zs.length (least zs m) := by rw [← lowFold_eq]; exact lowAt zs m zs.length

theorem mem_came {zs : List Int} {m : Int} {k q : Nat} (hq : mayB zs m q = true) (h : q < k) : (⟨q, hq⟩ : { p : Nat // mayB zs m p = true }) ∈ came zs m k := by
  induction k with
  | zero => omega
  | succ k ih =>
    by_cases hk : mayB zs m k = true
    · rw [came_yes hk]
      by_cases e : q = k
      · subst e; simp
      · exact List.mem_append_left _ (ih (by omega))
    · rw [came_no (by simpa using hk)]
      by_cases e : q = k
      · subst e; exact absurd hq hk
      · exact ih (by omega)
theorem came_last {zs : List Int} {m : Int} {k : Nat} {ini : List { p : Nat // mayB zs m p = true }} {last : { p : Nat // mayB zs m p = true }} (h : came zs m k = ini ++ [last]) : ini = came zs m last.1 ∧ last.1 < k := by
  induction k with
  | zero => simp [came] at h
  | succ k ih =>
    by_cases hk : mayB zs m k = true
    · rw [came_yes hk] at h
      obtain ⟨h1, h2⟩ := List.append_inj' h rfl
      have : (⟨k, hk⟩ : { p : Nat // mayB zs m p = true }) = last := by simpa using h2
      subst this
      exact ⟨h1.symm, Nat.lt_succ_self _⟩
    · rw [came_no (by simpa using hk)] at h
      obtain ⟨a, b⟩ := ih h
      exact ⟨a, by omega⟩
theorem nilB_iff {zs : List Int} {m : Int} {p : Nat} : nilB zs m p = true ↔ mayB zs m p = true ∧ zat zs p = 0 := by simp [nilB]
theorem idle0_none {zs : List Int} {m : Int} (h : ∀ x ∈ came zs m zs.length, zat zs x.1 ≠ 0) : idle0 zs m = -1 := by
  refine firstP_none fun q hq => ?_
  cases hb : nilB zs m q
  · rfl
  · obtain ⟨a, c⟩ := nilB_iff.1 hb
    exact absurd c (h ⟨q, a⟩ (mem_came a hq))
theorem idle0_at {zs : List Int} {m : Int} {k : Nat} (hk : k ≤ zs.length) {ini : List { p : Nat // mayB zs m p = true }} {last : { p : Nat // mayB zs m p = true }} (e : came zs m k = ini ++ [last]) (h : ∀ x ∈ ini, zat zs x.1 ≠ 0) (hl : zat zs last.1 = 0) : idle0 zs m = last.1 := by
  obtain ⟨h1, h2⟩ := came_last e
  refine firstP_at (by omega) (nilB_iff.2 ⟨last.2, hl⟩) fun q hq => ?_
  cases hb : nilB zs m q
  · rfl
  · obtain ⟨a, c⟩ := nilB_iff.1 hb
    exact absurd c (h ⟨q, a⟩ (by rw [h1]; exact mem_came a hq))
end Go.Proofs.Ytigpcjikdpknnaa
