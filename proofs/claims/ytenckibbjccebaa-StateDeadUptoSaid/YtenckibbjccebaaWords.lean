/- Rows of events, as plain words: what a row leads to, where it is refused; a slice that reads as a row. No condition. -/
import Derived.Test.YtenckibbjccebaaBase
namespace Go.Proofs.Ytenckibbjccebaa
open Go.RowKit

/-- The state behind a row of events, or where it is refused, and the error. -/
def script : Int → List Int → Int × Int × Int
  | s, [] => (s, 0, 0)
  | s, e :: l => if (next s e).2 = 0 then ((script (next s e).1 l).1, (script (next s e).1 l).2.1 + 1, (script (next s e).1 l).2.2) else (0, 0, (next s e).2)
/-- The state behind a row of events that is taken. -/
def runs : Int → List Int → Int
  | s, [] => s
  | s, e :: l => runs (next s e).1 l
/-- All of a row are taken. -/
def takes : Int → List Int → Bool
  | _, [] => true
  | s, e :: l => (next s e).2 == 0 && takes (next s e).1 l
/-- The element at a place. -/
def zat (zs : List Int) (p : Nat) : Int := zs[p]?.getD 0
theorem runs_snoc (s : Int) (l : List Int) (e : Int) : runs s (l ++ [e]) = (next (runs s l) e).1 := by
  induction l generalizing s with
  | nil => rfl
  | cons a l ih => exact ih _
theorem takes_snoc (s : Int) (l : List Int) (e : Int) : takes s (l ++ [e]) = (takes s l && (next (runs s l) e).2 == 0) := by
  induction l generalizing s with
  | nil => simp [takes, runs]
  | cons a l ih => show ((next s a).2 == 0 && takes _ (l ++ [e])) = (((next s a).2 == 0 && takes _ l) && _); rw [ih, Bool.and_assoc]; rfl
theorem takes_append (s : Int) (l m : List Int) : takes s (l ++ m) = (takes s l && takes (runs s l) m) := by
  induction l generalizing s with
  | nil => simp [takes, runs]
  | cons a l ih => show ((next s a).2 == 0 && takes _ (l ++ m)) = (((next s a).2 == 0 && takes _ l) && _); rw [ih, Bool.and_assoc]; rfl
theorem runs_append (s : Int) (l m : List Int) : runs s (l ++ m) = runs (runs s l) m := by
  induction l generalizing s with
  | nil => rfl
  | cons a l ih => exact ih _
theorem script_takes {s : Int} {l : List Int} (h : takes s l = true) : script s l = (runs s l, (l.length : Int), 0) := by
  induction l generalizing s with
  | nil => rfl
  | cons a l ih =>
    have h' : (next s a).2 = 0 ∧ takes (next s a).1 l = true := by simpa [takes] using h
    unfold script
    rw [if_pos h'.1, ih h'.2]
    simp [runs]
/-- Refused at the event behind l. -/
theorem script_stops {s : Int} {l : List Int} {e : Int} (m : List Int) (h : takes s l = true) (hn : (next (runs s l) e).2 ≠ 0) : script s (l ++ e :: m) = (0, (l.length : Int), (next (runs s l) e).2) := by
  induction l generalizing s with
  | nil =>
    have hn' : (next s e).2 ≠ 0 := hn
    show script s (e :: m) = _
    unfold script; rw [if_neg hn']; rfl
  | cons a l ih =>
    have h' : (next s a).2 = 0 ∧ takes (next s a).1 l = true := by simpa [takes] using h
    show script s (a :: (l ++ e :: m)) = _
    unfold script
    rw [if_pos h'.1, ih h'.2 hn]
    simp [runs]
/-- Either all is taken, or it is refused at one event behind those that were taken. -/
theorem takes_or (s : Int) (l : List Int) : takes s l = true ∨ ∃ a e m, l = a ++ e :: m ∧ takes s a = true ∧ (next (runs s a) e).2 ≠ 0 := by
  induction l generalizing s with
  | nil => exact .inl rfl
  | cons x l ih =>
    by_cases hx : (next s x).2 = 0
    · rcases ih (next s x).1 with h | ⟨a, e, m, h1, h2, h3⟩
      · exact .inl (by simp [takes, hx, h])
      · exact .inr ⟨x :: a, e, m, by rw [h1]; rfl, by simp [takes, hx, h2], h3⟩
    · exact .inr ⟨[], x, l, rfl, rfl, hx⟩
theorem take_zat {zs : List Int} {k : Nat} (h : k < zs.length) : zs.take (k + 1) = zs.take k ++ [zat zs k] := by
  rw [List.take_succ_eq_append_getElem h]
  unfold zat; rw [List.getElem?_eq_getElem h]; rfl
theorem take_split {zs : List Int} {k : Nat} (h : k < zs.length) : zs = zs.take k ++ zat zs k :: zs.drop (k + 1) := by
  have := List.take_append_drop k zs
  rw [List.drop_eq_getElem_cons h] at this
  unfold zat; rw [List.getElem?_eq_getElem h]; exact this.symm
theorem next_err_bd (s e : Int) : 0 ≤ (next s e).2 ∧ (next s e).2 ≤ 7 := by
  unfold next
  split
  · simp
  · split
    · simp
    · (repeat' split) <;> simp
theorem next_st_bd (s e : Int) : 0 ≤ (next s e).1 ∧ (next s e).1 ≤ 4 := by
  unfold next
  split
  · simp
  · split
    · simp
    · (repeat' split) <;> simp

/-- The slice value reads as zs, in a block below n₀. -/
def Ints (n₀ : Nat) (W : World) (sv : Value) (zs : List Int) : Prop :=
  ((∃ a cap, sv = .slice a 0 cap) ∧ zs = []) ∨ ∃ b off cap, sv = .slice (some ⟨b, off, none⟩) zs.length cap ∧ b < n₀ ∧ ∀ j, j < zs.length → W.cell? ⟨b, off + j, none⟩ = some (.int .i64 (zat zs j))
theorem Ints.below {n₀ : Nat} {A B : World} (h : Below n₀ A B) {sv : Value} {zs : List Int} : Ints n₀ A sv zs → Ints n₀ B sv zs
  | .inl e => .inl e
  | .inr ⟨b, off, cap, e, hb, hc⟩ => .inr ⟨b, off, cap, e, hb, fun j hj => (h.cell (p := ⟨b, off + j, none⟩) hb).trans (hc j hj)⟩
theorem Ints.grow {n₀ n₁ : Nat} {A : World} (hn : n₀ ≤ n₁) {sv : Value} {zs : List Int} : Ints n₀ A sv zs → Ints n₁ A sv zs
  | .inl e => .inl e
  | .inr ⟨b, off, cap, e, hb, hc⟩ => .inr ⟨b, off, cap, e, by omega, hc⟩
theorem Ints.cells {n₀ : Nat} {W : World} {a : Option Addr} {n cap : Nat} {zs : List Int} (h : Ints n₀ W (.slice a n cap) zs) {p : Nat} (hp : p < zs.length) :
    ∃ b off, a = some ⟨b, off, none⟩ ∧ b < n₀ ∧ ∀ j, j < zs.length → W.cell? ⟨b, off + j, none⟩ = some (.int .i64 (zat zs j)) := by
  rcases h with ⟨_, rfl⟩ | ⟨b, off, c, h1, hb, hc⟩
  · simp at hp
  · simp only [Value.slice.injEq] at h1
    exact ⟨b, off, h1.1, hb, hc⟩
theorem nx0 {A B : World} (h : Below A.heap.size A B) {sv : Value} {zs : List Int} (hI : Ints A.heap.size A sv zs) : Ints B.heap.size B sv zs := (hI.below h).grow h.size
theorem nx {A B C : World} (h : Below A.heap.size A B) (k : Below B.heap.size B C) : Below A.heap.size A C := h.trans (k.mono h.size)
end Go.Proofs.Ytenckibbjccebaa
