/- A slice that reads as a list, and a row of the call's own, whatever the elements: what is kept, and what an append leaves. Conditions: as each says. -/
import Derived.WalkKit
import Derived.Below
import Derived.Deep.QuietTactic
import Derived.Maps.AppendAt
import Derived.Laws.AppendOwnNone
import Derived.Lib.Hide
namespace Go.Proofs.YtcboopkalpmglaaDoor
set_option linter.unusedVariables false
open Go.RowKit
theorem nx {A B C : World} (h : Below A.heap.size A B) (k : Below B.heap.size B C) : Below A.heap.size A C := h.trans (k.mono h.size)
theorem cellb {W W' : World} {n₀ : Nat} (hb : Below n₀ W W') {b o : Nat} {v : Value} (h : b < n₀) (hc : W.cell? ⟨b, o, none⟩ = some v) : W'.cell? ⟨b, o, none⟩ = some v := (hb.cell (p := ⟨b, o, none⟩) h).trans hc
theorem below_drewN {B : Nat} {a w : World} (h : Below B a w) (n : Nat) : Below B a (w.drewN n) := ⟨h.os, h.tape, h.output, h.size, h.block⟩
theorem celld {W : World} {a : Addr} {v : Value} (hc : W.cell? a = some v) : W.drew.cell? a = some v := hc
theorem belowA (W : World) (O : Obj) : Below W.heap.size W (W.alloc O) := (Below.refl _ _).alloc (Nat.le_refl _) O
theorem lta {W : World} {b : Nat} {O : Obj} (h : b < W.heap.size) : b < (W.alloc O).heap.size := by simp; omega
theorem cella {W : World} {b o : Nat} {v : Value} (O : Obj) (h : b < W.heap.size) (hc : W.cell? ⟨b, o, none⟩ = some v) : (W.alloc O).cell? ⟨b, o, none⟩ = some v := cellb ((Below.refl _ _).alloc (Nat.le_refl _) _) h hc
theorem cnewb {W : World} {t j : Nat} {C : Array Value} : (W.alloc (.cells C t)).cell? ⟨W.heap.size, j, none⟩ = C[j]? := by simp
theorem addr_add (b off j : Nat) : (⟨b, off, none⟩ : Addr).add j = ⟨b, off + j, none⟩ := by
  by_cases e : j = 0
  · subst e; simp [Addr.add]
  · simp [Addr.add, e]
/-- How an element lies in cells. -/
structure Enc (α : Type) where
  c : Nat
  e : α → List Value
  len : ∀ x, (e x).length = c
  one : ∀ x, ∀ u ∈ e x, u.oneCell' = true
  pos : 0 < c
def Enc.all {α : Type} (E : Enc α) (zs : List α) : List Value := zs.flatMap E.e
section
variable {α : Type} {E : Enc α}
theorem Enc.all_length (zs : List α) : (E.all zs).length = zs.length * E.c := by
  induction zs with
  | nil => simp [Enc.all]
  | cons z zs ih =>
    have : E.all (z :: zs) = E.e z ++ E.all zs := by simp [Enc.all]
    rw [this, List.length_append, ih, E.len, List.length_cons, Nat.add_mul]; omega
theorem Enc.all_snoc (zs : List α) (z : α) : E.all (zs ++ [z]) = E.all zs ++ E.e z := by simp [Enc.all]
theorem Enc.all_append (zs ys : List α) : E.all (zs ++ ys) = E.all zs ++ E.all ys := by simp [Enc.all]
theorem Enc.all_one {zs : List α} : ∀ u ∈ E.all zs, u.oneCell' = true := by
  intro u hu
  unfold Enc.all at hu
  obtain ⟨z, _, h⟩ := List.mem_flatMap.1 hu
  exact E.one z u h
theorem Enc.all_at {zs : List α} {j q : Nat} {z : α} (hj : zs[j]? = some z) (hq : q < E.c) : (E.all zs)[j * E.c + q]? = (E.e z)[q]? := by
  induction zs generalizing j with
  | nil => simp at hj
  | cons y zs ih =>
    have hy : (E.e y).length = E.c := E.len y
    have e : E.all (y :: zs) = E.e y ++ E.all zs := by simp [Enc.all]
    rw [e]
    cases j with
    | zero =>
      simp at hj
      subst hj
      rw [Nat.zero_mul, Nat.zero_add, List.getElem?_append_left (by omega)]
    | succ j =>
      have h1 := ih (j := j) (by simpa using hj)
      rw [List.getElem?_append_right (by rw [hy, Nat.add_mul]; omega), hy, show (j + 1) * E.c + q - E.c = j * E.c + q by rw [Nat.add_mul]; omega, h1]

/-- The slice at a, n long, reads as zs, in a block below n₀. -/
def Rd (E : Enc α) (n₀ : Nat) (W : World) (a : Option Addr) (n : Nat) (zs : List α) : Prop :=
  zs.length = n ∧ (0 < n → ∃ b off, a = some ⟨b, off, none⟩ ∧ b < n₀ ∧ ∀ j z, zs[j]? = some z → ∀ q v, (E.e z)[q]? = some v → W.cell? ⟨b, off + (j * E.c + q), none⟩ = some v)
theorem Rd.nil {n₀ : Nat} {W : World} {a : Option Addr} : Rd E n₀ W a 0 [] := ⟨rfl, fun h => by omega⟩
theorem Rd.below {n₀ : Nat} {A B : World} {a : Option Addr} {n : Nat} {zs : List α} (h : Rd E n₀ A a n zs) (hb : Below n₀ A B) : Rd E n₀ B a n zs :=
  ⟨h.1, fun hn => by
    obtain ⟨b, off, e, hlt, hc⟩ := h.2 hn
    exact ⟨b, off, e, hlt, fun j z hj q v hq => (hb.cell (p := ⟨b, _, none⟩) hlt).trans (hc j z hj q v hq)⟩⟩
theorem Rd.grow {n₀ n₁ : Nat} {A : World} {a : Option Addr} {n : Nat} {zs : List α} (h : Rd E n₀ A a n zs) (hn : n₀ ≤ n₁) : Rd E n₁ A a n zs :=
  ⟨h.1, fun h0 => by
    obtain ⟨b, off, e, hlt, hc⟩ := h.2 h0
    exact ⟨b, off, e, by omega, hc⟩⟩
/-- What a callee leaves: the slice reads as it read. -/
theorem Rd.next {A B : World} {a : Option Addr} {n : Nat} {zs : List α} (h : Rd E A.heap.size A a n zs) (hb : Below A.heap.size A B) : Rd E B.heap.size B a n zs := (h.below hb).grow hb.size
theorem Rd.take {n₀ : Nat} {A : World} {a : Option Addr} {n k : Nat} {zs : List α} (h : Rd E n₀ A a n zs) (hk : k ≤ n) : Rd E n₀ A a k (zs.take k) :=
  ⟨by rw [List.length_take, h.1]; omega, fun h0 => by
    obtain ⟨b, off, e, hlt, hc⟩ := h.2 (by omega)
    exact ⟨b, off, e, hlt, fun j z hj q v hq => hc j z (by rw [List.getElem?_take] at hj; split at hj; exact hj; cases hj) q v hq⟩⟩
theorem Rd.cells {n₀ : Nat} {W : World} {a : Option Addr} {n : Nat} {zs : List α} (h : Rd E n₀ W a n zs) (hn : 0 < n) :
    ∃ b off, a = some ⟨b, off, none⟩ ∧ b < n₀ ∧ ∀ j z, zs[j]? = some z → ∀ q v, (E.e z)[q]? = some v → W.cell? ⟨b, off + (j * E.c + q), none⟩ = some v := h.2 hn
/-- A row of the call's own. -/
def Own (E : Enc α) (W : World) (B T : Nat) (v : Value) (n : Nat) (zs : List α) : Prop := W.ownsRow B T E.c v n (E.all zs)
theorem Own.nil (w : World) (B T : Nat) : Own E w B T (.slice none 0 0) 0 [] := ⟨by simp [Enc.all], .inl ⟨rfl, rfl⟩⟩
theorem Own.alloc {W : World} {B T n : Nat} {v : Value} {zs : List α} (h : Own E W B T v n zs) (O : Obj) : Own E (W.alloc O) B T v n zs := World.ownsRow.alloc h O
theorem Own.drew {W : World} {B T n : Nat} {v : Value} {zs : List α} (h : Own E W B T v n zs) : Own E W.drew B T v n zs := World.ownsRow.drew h
theorem Own.rd {W : World} {B T n : Nat} {v : Value} {zs : List α} (h : Own E W B T v n zs) : zs.length = n ∧ ∃ a cap, v = .slice a n cap ∧ n ≤ cap ∧ cap ≤ maxLen ∧ (a = none → cap = 0) ∧ Rd E W.heap.size W a n zs := by
  have hc0 := E.pos
  have hl : zs.length = n := by
    have := h.1; rw [Enc.all_length] at this; exact Nat.eq_of_mul_eq_mul_right hc0 this
  subst hl
  refine ⟨rfl, ?_⟩
  have hown := h
  unfold Own at hown
  rcases h.2 with ⟨rfl, hn⟩ | ⟨g, cap, cur, rfl, hg, hc, hn, hm, hs, ht⟩
  · exact ⟨none, 0, by rw [hn], by omega, by unfold maxLen; omega, fun _ => rfl, rfl, fun h => by omega⟩
  · refine ⟨_, cap, rfl, hn, hm, (fun e => by cases e), rfl, fun h0 => ⟨g, 0, rfl, (Array.getElem?_eq_some_iff.1 hc).1, fun j z hj q v hq => ?_⟩⟩
    have hjl := (List.getElem?_eq_some_iff.1 hj).1
    have hql : q < E.c := by have := (List.getElem?_eq_some_iff.1 hq).1; rw [E.len] at this; exact this
    have hb : j * E.c + q < zs.length * E.c := by
      have : (j + 1) * E.c ≤ zs.length * E.c := Nat.mul_le_mul_right _ hjl
      rw [Nat.add_mul] at this; omega
    rw [Nat.zero_add]
    exact (hown.cellAt (j * E.c + q) hb).trans ((Enc.all_at hj hql).trans hq)
theorem Own.lt {W : World} {B T n : Nat} {v : Value} {zs : List α} (h : Own E W B T v n zs) : ∀ g, v.ownBlock = some g → B ≤ g ∧ g < W.heap.size := fun g e => World.ownsRow.lt h g e
end
end Go.Proofs.YtcboopkalpmglaaDoor
