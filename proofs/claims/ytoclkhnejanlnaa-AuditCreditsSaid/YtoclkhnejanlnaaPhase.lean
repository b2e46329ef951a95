/- A struct of slices that is copied, one of its slices copied and one cell of that written anew: what is known before and behind. Conditions: as it says. -/
import Derived.Test.YtoclkhnejanlnaaCopy
import Derived.Test.YtoclkhnejanlnaaShown
import Derived.OneCell
namespace Go.Proofs.Ytoclkhnejanlnaa
set_option linter.unusedVariables false
open Go.RowKit
theorem info34 : (Try.prog.info? 34).map (fun i => (i.zero, i.size, i.bytes)) = some (some (.agg #[.int .i64 0, .int .u64 0]), 2, 16) := by kernel_rfl
theorem grown_cell {A u : World} {row : Option Nat} (h : A.grownBy u row) {b i : Nat} (hb : b < A.heap.size) (hne : some b ≠ row) : u.cell? ⟨b, i, none⟩ = A.cell? ⟨b, i, none⟩ := World.cell?_of_block (h.block b hb hne)
theorem grown_frozen {A u : World} {row : Option Nat} (h : A.grownBy u row) {b i : Nat} (hb : b < A.heap.size) (hne : some b ≠ row) : u.frozen? ⟨b, i, none⟩ = A.frozen? ⟨b, i, none⟩ := by
  have := h.block b hb hne
  simp [World.frozen?, this]
theorem own_empty {α : Type} {E : Enc α} (W : World) (B ET : Nat) (h : B ≤ W.heap.size) : Own E (W.alloc (.cells #[] ET)) B ET (.slice (some ⟨W.heap.size, 0, none⟩) 0 0) 0 [] :=
  ⟨by simp [Enc.all], .inr ⟨W.heap.size, 0, #[], rfl, h, heap_alloc_new W _, Nat.le_refl _, by unfold maxLen; omega, by simp, by simp [Enc.all]⟩⟩
theorem set_cell_other {u : World} {a b : Addr} {x : Value} (h : a.block ≠ b.block) : (u.setCell a x).cell? b = u.cell? b := World.cell?_setCell_other u a b x (fun e => h (by rw [e]))
theorem set_frozen (u : World) (a b : Addr) (x : Value) : (u.setCell a x).frozen? b = u.frozen? b := by simp
/-- What is known behind: the struct's block b, its slice f, which reads as zs. -/
def After {α : Type} (W X : World) (f : Nat) (S : Array Value) (v' : Value) (E : Enc α) (g n : Nat) (zs : List α) : Prop :=
  Below W.heap.size W X ∧ (∀ i, i ≠ f → X.cell? ⟨W.heap.size, i, none⟩ = S[i]?) ∧ X.cell? ⟨W.heap.size, f, none⟩ = some v' ∧ Rd E X.heap.size X (some ⟨g, 0, none⟩) n zs ∧ W.heap.size < X.heap.size
theorem After.drew {α : Type} {W X : World} {f : Nat} {S : Array Value} {v' : Value} {E : Enc α} {g n : Nat} {zs : List α} (h : After W X f S v' E g n zs) : After W X.drew f S v' E g n zs := ⟨h.1.drew, h.2⟩
theorem phase_any {α : Type} {E : Enc α} {W u : World} {ET n f p j q : Nat} {S : Array Value} {v' : Value} {zs : List α} {z z' : α} {x : Value} (hn : 0 < n)
    (hown : Own E u (W.heap.size + 1) ET v' n zs) (hgrow : ((W.alloc (.cells S 26)).alloc (.cells #[] ET)).grownBy u (some (W.heap.size + 1))) (hf : f < S.size)
    (hj : zs[j]? = some z) (hq : q < E.c) (he : E.e z' = (E.e z).set q x) (hp : p = j * E.c + q) :
    ∃ g cap, v' = .slice (some ⟨g, 0, none⟩) n cap ∧ n ≤ cap ∧ cap ≤ 9223372036854775807 ∧ W.heap.size < g ∧ (∀ i, u.cell? ⟨W.heap.size, i, none⟩ = S[i]?) ∧ (∀ i, u.frozen? ⟨W.heap.size, i, none⟩ = false) ∧
      (u.setCell ⟨W.heap.size, f, none⟩ v').cell? ⟨g, p, none⟩ = (E.e z)[q]? ∧ (u.setCell ⟨W.heap.size, f, none⟩ v').frozen? ⟨g, p, none⟩ = false ∧
      After W ((u.setCell ⟨W.heap.size, f, none⟩ v').setCell ⟨g, p, none⟩ x) f S v' E g n (zs.set j z') := by
  obtain ⟨g, cap, cur, rfl, hg, hlt, hnc, hm, hcur, _⟩ := hown.block hn
  have hA : W.heap.size < ((W.alloc (.cells S 26)).alloc (.cells #[] ET)).heap.size := by simp; omega
  have hB : Below W.heap.size W u := ((belowA W (.cells S 26)).alloc (by simp) (.cells #[] ET)).grown hgrow (by omega) (fun k e => by injection e with e; omega)
  have hcell : ∀ i, u.cell? ⟨W.heap.size, i, none⟩ = S[i]? := fun i => (grown_cell hgrow hA (by simp)).trans (((Below.refl _ _).alloc (Nat.le_refl _) _).cell (p := ⟨W.heap.size, i, none⟩) (by simp) |>.trans cnewb)
  have hfr : ∀ i, u.frozen? ⟨W.heap.size, i, none⟩ = false := fun i => (grown_frozen hgrow hA (by simp)).trans (by
    have := heap_alloc_new W (.cells S 26)
    have h2 := heap_alloc_old (W.alloc (.cells S 26)) (.cells #[] ET) (by simp : W.heap.size < (W.alloc (.cells S 26)).heap.size)
    rw [this] at h2
    exact frozen_of h2)
  have hu1 : Own E (u.setCell ⟨W.heap.size, f, none⟩ (.slice (some ⟨g, 0, none⟩) n cap)) (W.heap.size + 1) ET (.slice (some ⟨g, 0, none⟩) n cap) n zs := ownsRow_setCell_other hown (by simp [Value.ownBlock]; omega) _
  obtain ⟨o1, o2, o3, o4, o5⟩ := hu1.set hj hq he p hp
  have hsz : (u.setCell ⟨W.heap.size, f, none⟩ (.slice (some ⟨g, 0, none⟩) n cap)).heap.size = u.heap.size := by simp
  refine ⟨g, cap, rfl, hnc, by unfold maxLen at hm; omega, by omega, hcell, hfr, o3, o2, (hB.setCell (by simp) _).setCell (by simp; omega) _, fun i hi => ?_, ?_, ?_, ?_⟩
  · rw [set_cell_other (by simp; omega), World.cell?_setCell_other _ _ _ _ (fun e => hi (by simpa using e.symm))]; exact hcell i
  · rw [set_cell_other (by simp; omega)]
    obtain ⟨y, hy⟩ : ∃ y, u.cell? ⟨W.heap.size, f, none⟩ = some y := ⟨S[f], by rw [hcell]; exact Array.getElem?_eq_getElem hf⟩
    exact World.cell?_setCell_same _ _ _ hy
  · obtain ⟨_, _, _, e, _, _, _, hr⟩ := o1.rd
    simp only [Value.slice.injEq] at e
    obtain ⟨rfl, _, rfl⟩ := e
    exact hr
  · simp; omega
/-- A copy that was made: its struct's block holds the slices S, one of which reads as zs. -/
def Kept {α : Type} (W : World) (b : Nat) (S : Array Value) (E : Enc α) (a : Option Addr) (n : Nat) (zs : List α) : Prop :=
  b < W.heap.size ∧ W.cell? ⟨b, 0, none⟩ = S[0]? ∧ W.cell? ⟨b, 1, none⟩ = S[1]? ∧ W.cell? ⟨b, 2, none⟩ = S[2]? ∧ Rd E W.heap.size W a n zs
theorem carry {α : Type} {W W' : World} {b : Nat} {S : Array Value} {E : Enc α} {a : Option Addr} {n : Nat} {zs : List α} (h : Kept W b S E a n zs) (hb : Below W.heap.size W W') : Kept W' b S E a n zs :=
  ⟨Nat.lt_of_lt_of_le h.1 hb.size, (hb.cell (p := ⟨b, 0, none⟩) h.1).trans h.2.1, (hb.cell (p := ⟨b, 1, none⟩) h.1).trans h.2.2.1, (hb.cell (p := ⟨b, 2, none⟩) h.1).trans h.2.2.2.1, h.2.2.2.2.next hb⟩
end Go.Proofs.Ytoclkhnejanlnaa
