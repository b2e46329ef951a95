/- Plain words on a snapshot: which groups are above one, and the eight rules; what a sound one is, without the program. No condition. -/
import Derived.WalkKit
import Derived.Deep.QuietTactic
import Derived.Below
namespace Go.Proofs.Ytoclkhnejanlnaa
open Go.RowKit

/-- The bit p of m, as the walk spells it. -/
def tb (m : Int) (p : Nat) : Bool := bits BinOp.and IntKind.u64 (m / 2 ^ p) 1 == 1
structure Tk where
  st : Int
  p : Int
  m : Int
  g : Int
structure Gr where
  par : Int
  stop : Int
structure Sn where
  run : List Int
  ts : List Tk
  gs : List Gr
def rat (l : List Int) (p : Nat) : Int := l[p]?.getD 0
def tat (l : List Tk) (p : Nat) : Tk := l[p]?.getD ⟨0, 0, 0, 0⟩
def gat (l : List Gr) (p : Nat) : Gr := l[p]?.getD ⟨0, 0⟩
/-- A P is in a mask. -/
def hasB (m p : Int) : Bool := decide (0 ≤ p) && (decide (p < 64) && tb m p.toNat)
/-- A group and those that it is under, f at the most. -/
def chain (gs : List Gr) : Nat → Int → List Int
  | 0, _ => []
  | f + 1, g => if 0 ≤ g ∧ g < gs.length then g :: chain gs f (gat gs g.toNat).par else []
def above (gs : List Gr) (g : Int) : List Int := chain gs (gs.length + 1) g
def underB (gs : List Gr) (g top : Int) : Bool := (above gs g).any fun x => x == top
theorem underB_iff {gs : List Gr} {g top : Int} : underB gs g top = true ↔ top ∈ above gs g := by
  simp [underB]
theorem chain_in {gs : List Gr} {f : Nat} {g x : Int} (h : x ∈ chain gs f g) : 0 ≤ x ∧ x < gs.length := by
  induction f generalizing g with
  | zero => simp [chain] at h
  | succ f ih =>
    unfold chain at h
    split at h
    · rename_i hg
      rcases List.mem_cons.1 h with rfl | h
      · exact hg
      · exact ih h
    · simp at h
theorem chain_more {gs : List Gr} {f d : Nat} {g x : Int} (h : x ∈ chain gs f g) : x ∈ chain gs (f + d) g := by
  induction f generalizing g with
  | zero => simp [chain] at h
  | succ f ih =>
    rw [show f + 1 + d = (f + d) + 1 by omega]
    unfold chain at h ⊢
    split at h
    · rename_i hg
      rw [if_pos hg]
      rcases List.mem_cons.1 h with rfl | h
      · exact List.mem_cons_self
      · exact List.mem_cons_of_mem _ (ih h)
    · simp at h
/-- Where the root is reached, and is under nothing, there is no more to come. -/
theorem chain_done {gs : List Gr} (h0 : (gat gs 0).par = -1) {f d : Nat} {g : Int} (h : (0 : Int) ∈ chain gs f g) : chain gs (f + d) g = chain gs f g := by
  induction f generalizing g with
  | zero => simp [chain] at h
  | succ f ih =>
    rw [show f + 1 + d = (f + d) + 1 by omega]
    unfold chain at h ⊢
    split at h
    · rename_i hg
      rw [if_pos hg, if_pos hg]
      by_cases e : g = 0
      · subst e
        have e1 : ((0 : Int)).toNat = 0 := rfl
        rw [e1, h0]
        have : ∀ k, chain gs k (-1) = [] := fun k => by
          cases k with
          | zero => rfl
          | succ k => unfold chain; rw [if_neg (by omega)]
        rw [this, this]
      · rcases List.mem_cons.1 h with h | h
        · exact absurd h.symm e
        · rw [ih h]
    · simp at h
/-- What is behind one in a chain is its own chain's. -/
theorem chain_sub {gs : List Gr} {f : Nat} {g y : Int} (h : y ∈ chain gs f g) : ∃ d, d < f ∧ ∀ k z, z ∈ chain gs k y → z ∈ chain gs (d + k) g := by
  induction f generalizing g with
  | zero => simp [chain] at h
  | succ f ih =>
    unfold chain at h
    split at h
    · rename_i hg
      rcases List.mem_cons.1 h with rfl | h
      · exact ⟨0, by omega, fun k z hz => by rw [Nat.zero_add]; exact hz⟩
      · obtain ⟨d, h1, h2⟩ := ih h
        refine ⟨d + 1, by omega, fun k z hz => ?_⟩
        have := h2 k z hz
        rw [show d + 1 + k = (d + k) + 1 by omega]
        unfold chain
        rw [if_pos hg]
        exact List.mem_cons_of_mem _ this
    · simp at h
theorem above_trans {gs : List Gr} (h0 : (gat gs 0).par = -1) {x y z : Int} (hx : (0 : Int) ∈ above gs x) (hy : y ∈ above gs x) (hz : z ∈ above gs y) : z ∈ above gs x := by
  obtain ⟨d, h1, h2⟩ := chain_sub hy
  have := h2 _ z hz
  unfold above
  rw [← chain_done h0 (d := d) hx, Nat.add_comm]
  exact this
theorem above_self {gs : List Gr} {x : Int} (h0 : 0 ≤ x) (h1 : x < gs.length) : x ∈ above gs x := by
  unfold above chain; rw [if_pos ⟨h0, h1⟩]; exact List.mem_cons_self
theorem above_root {gs : List Gr} (h0 : (gat gs 0).par = -1) {y : Int} (h : y ∈ above gs 0) : y = 0 := by
  unfold above chain at h
  split at h
  · have e1 : ((0 : Int)).toNat = 0 := rfl
    rw [e1, h0] at h
    have : chain gs gs.length (-1) = [] := by
      cases gs.length with
      | zero => rfl
      | succ k => unfold chain; rw [if_neg (by omega)]
    rw [this] at h
    simpa using h
  · simp at h
theorem above_none {gs : List Gr} {x : Int} (h : ¬ (0 ≤ x ∧ x < gs.length)) : above gs x = [] := by unfold above chain; rw [if_neg h]

/-! ### The rules -/
def anyB (n : Nat) (P : Nat → Bool) : Bool := (List.range n).any P
theorem anyB_succ (n : Nat) (P : Nat → Bool) : anyB (n + 1) P = (anyB n P || P n) := by simp [anyB, List.range_succ]
theorem anyB_false {n : Nat} {P : Nat → Bool} : anyB n P = false ↔ ∀ q, q < n → P q = false := by
  simp [anyB]
theorem anyB_true {n q : Nat} {P : Nat → Bool} (hq : q < n) (h : P q = true) : anyB n P = true := by
  unfold anyB; rw [List.any_eq_true]; exact ⟨q, List.mem_range.2 hq, h⟩
def manyB (s : Sn) : Bool := decide (64 < s.run.length) || (decide (64 < s.ts.length) || (decide (32 < s.gs.length) || s.gs.length == 0))
def looseB (s : Sn) : Bool := (gat s.gs 0).par != -1 || anyB s.gs.length fun g => !underB s.gs g 0
def oddT (s : Sn) (t : Tk) : Bool := decide (t.st < 1) || (decide (4 < t.st) || (decide (t.g < 0) || decide ((s.gs.length : Int) ≤ t.g)))
def oddB (s : Sn) : Bool := anyB s.ts.length fun i => oddT s (tat s.ts i)
def offN (s : Sn) (n : Int) : Bool := decide (n < -1) || decide ((s.ts.length : Int) ≤ n)
def offB (s : Sn) : Bool := anyB s.run.length fun p => offN s (rat s.run p)
/-- There is a task on the P. -/
def onB (s : Sn) (p : Nat) : Bool := decide (0 ≤ rat s.run p) && decide (rat s.run p < s.ts.length)
def onT (s : Sn) (p : Nat) : Tk := tat s.ts (rat s.run p).toNat
def someB (s : Sn) (H : Nat → Tk → Bool) : Bool := anyB s.run.length fun p => onB s p && H p (onT s p)
def wrongH (p : Nat) (t : Tk) : Bool := t.st != 3 || t.p != (p : Int)
def runsB (s : Sn) (i : Nat) : Bool := decide (0 ≤ (tat s.ts i).p) && (decide ((tat s.ts i).p < s.run.length) && rat s.run (tat s.ts i).p.toNat == (i : Int))
def lostB (s : Sn) : Bool := anyB s.ts.length fun i => (tat s.ts i).st == 3 && !runsB s i
def maskH (p : Nat) (t : Tk) : Bool := !hasB t.m p
def stopH (s : Sn) (p : Nat) (t : Tk) : Bool := (above s.gs t.g).any fun g => hasB (gat s.gs g.toNat).stop p
def rule (s : Sn) : Nat → Bool
  | 0 => manyB s
  | 1 => looseB s
  | 2 => oddB s
  | 3 => offB s
  | 4 => someB s wrongH
  | 5 => lostB s
  | 6 => someB s maskH
  | _ => someB s (stopH s)
def soundTo (s : Sn) : Nat → Nat → Nat
  | 0, _ => 0
  | f + 1, i => if rule s i = true then i + 1 else soundTo s f (i + 1)
/-- The first thing that is wrong. -/
def soundI (s : Sn) : Nat := soundTo s 8 0
theorem sound_zero {s : Sn} (h : soundI s = 0) : ∀ i, i < 8 → rule s i = false := by
  have key : ∀ f i, soundTo s f i = 0 → ∀ j, i ≤ j → j < i + f → rule s j = false := by
    intro f
    induction f with
    | zero => intro i _ j h1 h2; omega
    | succ f ih =>
      intro i h j h1 h2
      unfold soundTo at h
      split at h
      · omega
      · rename_i hr
        by_cases e : j = i
        · subst e; simpa using hr
        · exact ih (i + 1) h j (by omega) (by omega)
  intro i hi
  exact key 8 0 h i (by omega) (by omega)
theorem sound_at {s : Sn} {k : Nat} (hk : k < 8) (h : rule s k = true) (hl : ∀ i, i < k → rule s i = false) : soundI s = k + 1 := by
  have key : ∀ f i, i ≤ k → k < i + f → soundTo s f i = k + 1 := by
    intro f
    induction f with
    | zero => intro i h1 h2; omega
    | succ f ih =>
      intro i h1 h2
      unfold soundTo
      by_cases e : i = k
      · subst e; rw [if_pos h]
      · rw [if_neg (by rw [hl i (by omega)]; simp)]
        exact ih (i + 1) (by omega) (by omega)
  exact key 8 0 (by omega) (by omega)
theorem sound_all {s : Sn} (h : ∀ i, i < 8 → rule s i = false) : soundI s = 0 := by
  have key : ∀ f i, i + f ≤ 8 → soundTo s f i = 0 := by
    intro f
    induction f with
    | zero => intro i _; rfl
    | succ f ih => intro i hi; unfold soundTo; rw [if_neg (by rw [h i (by omega)]; simp)]; exact ih (i + 1) (by omega)
  exact key 8 0 (by omega)
end Go.Proofs.Ytoclkhnejanlnaa
