/- A script read line by line: the loop's state. No condition. -/
import Derived.Test.YtcboopkalpmglaaDoorEvScript
import Derived.Test.YtcboopkalpmglaaDoorEvOneL
import Derived.Test.YtcboopkalpmglaaDoorEvBuilds
namespace Go.Proofs.YtcboopkalpmglaaDoor
set_option linter.unusedVariables false
open Go.RowKit
def ScrAt (ended : Bool) (LS : List (List Nat)) (R : List Ev × Nat × Nat) (i : Nat) (l : List Ev) : Prop := readLines ended (LS.drop i) i l = R
theorem scrAt_zero {ended : Bool} {LS : List (List Nat)} : ScrAt ended LS (readLines ended LS 0 []) 0 [] := rfl
theorem drop_at {LS : List (List Nat)} {i : Nat} {t : List Nat} (h : LS[i]? = some t) : LS.drop i = t :: LS.drop (i + 1) := by
  obtain ⟨hi, e⟩ := List.getElem?_eq_some_iff.1 h
  rw [List.drop_eq_getElem_cons hi, e]
theorem ScrAt.next {ended : Bool} {LS : List (List Nat)} {R : List Ev × Nat × Nat} {i : Nat} {l : List Ev} {t : List Nat} {g : Ev} (h : ScrAt ended LS R i l) (ht : LS[i]? = some t) (he : i + 1 < LS.length ∨ ended = true) (h0 : (lineL t).2 = 0) (hg : g = (lineL t).1) : ScrAt ended LS R (i + 1) (l ++ [g]) := by
  subst hg
  unfold ScrAt at *
  rw [drop_at ht, read_cons, if_neg, if_neg (by omega)] at h
  · exact h
  · rintro ⟨h1, h2⟩
    rcases he with he | he
    · rw [List.drop_eq_nil_iff] at h1; omega
    · rw [he] at h2; cases h2
theorem ScrAt.cut {LS : List (List Nat)} {R : List Ev × Nat × Nat} {i : Nat} {l : List Ev} (h : ScrAt false LS R i l) (hi : i + 1 = LS.length) : R = ([], i, 11) := by
  unfold ScrAt at h
  rw [drop_at (List.getElem?_eq_getElem (by omega)), read_cons, if_pos] at h
  · exact h.symm
  · exact ⟨List.drop_eq_nil_iff.2 (by omega), rfl⟩
theorem ScrAt.bad {ended : Bool} {LS : List (List Nat)} {R : List Ev × Nat × Nat} {i b : Nat} {l : List Ev} {t : List Nat} (h : ScrAt ended LS R i l) (ht : LS[i]? = some t) (he : i + 1 < LS.length ∨ ended = true) (hb : (lineL t).2 = b) (h0 : b ≠ 0) : R = ([], i, b) := by
  unfold ScrAt at h
  rw [drop_at ht, read_cons, if_neg, if_pos (by omega), hb] at h
  · exact h.symm
  · rintro ⟨h1, h2⟩
    rcases he with he | he
    · rw [List.drop_eq_nil_iff] at h1; omega
    · rw [he] at h2; cases h2
theorem ScrAt.fin {ended : Bool} {LS : List (List Nat)} {R : List Ev × Nat × Nat} {i : Nat} {l : List Ev} (h : ScrAt ended LS R i l) (hi : LS.length ≤ i) : R = (l, 0, 0) := by
  unfold ScrAt at h
  rw [List.drop_of_length_le hi] at h
  exact h.symm
theorem scr_empty {s : List Nat} (h : s = []) : scriptL s = ([], 0, 0) := by unfold scriptL; rw [if_pos h]
theorem scr_full {s : List Nat} (h : s ≠ []) (hl : 1000 < (linesL s).length) : scriptL s = ([], 0, 3) := by unfold scriptL; rw [if_neg h, if_pos hl]
theorem scr_read {s : List Nat} {b : Bool} (h : s ≠ []) (hl : ¬ 1000 < (linesL s).length) (hb : decide (s.getLast? = some 10) = b) : scriptL s = readLines b (linesL s) 0 [] := by unfold scriptL; rw [if_neg h, if_neg hl, hb]
/-- What a script gives: a row of events of the call's own, a line, an error. -/
def ScrGives (R : List Ev × Nat × Nat) (w : World) (x : Ending) (w' : World) : Prop :=
  ∃ v : Value, x = .returned (.tuple #[v, .int .i64 (R.2.1 : Int), .int .i64 (R.2.2 : Int)]) ∧ Own encEv w' w.heap.size 34 v R.1.length R.1 ∧ Below w.heap.size w w'
theorem scrGives_of {R : List Ev × Nat × Nat} {l : List Ev} {a b n : Nat} {v : Value} {w w' : World} {x : Ending} (h : R = (l, a, b)) (hx : x = .returned (.tuple #[v, .int .i64 (a : Int), .int .i64 (b : Int)])) (hl : l.length = n) (ho : Own encEv w' w.heap.size 34 v n l) (hb : Below w.heap.size w w') : ScrGives R w x w' := by
  subst h hl; exact ⟨v, hx, ho, hb⟩
theorem scrGives_nil {R : List Ev × Nat × Nat} {a b : Nat} {w w' : World} {x : Ending} (h : R = ([], a, b)) (hx : x = .returned (.tuple #[.slice none 0 0, .int .i64 (a : Int), .int .i64 (b : Int)])) (hb : Below w.heap.size w w') : ScrGives R w x w' :=
  scrGives_of h hx rfl (Own.nil _ _ _) hb
theorem Own.base {α : Type} {E : Enc α} {W : World} {B B' T n : Nat} {v : Value} {zs : List α} (h : Own E W B T v n zs) (hb : B' ≤ B) : Own E W B' T v n zs := by
  refine ⟨h.1, ?_⟩
  rcases h.2 with h2 | ⟨g, cap, cur, e, hg, r⟩
  · exact .inl h2
  · exact .inr ⟨g, cap, cur, e, by omega, r⟩
theorem empty_bl {s : ByteArray} : s.toList.isEmpty = true ↔ bl s = [] := by
  rw [Lib.toList_data, List.isEmpty_iff]
  unfold bl
  rw [List.map_eq_nil_iff]
theorem nonempty_bl {s : ByteArray} : s.toList.isEmpty = false ↔ bl s ≠ [] := by
  rw [Ne, ← empty_bl]; simp
/-- The lines, where the last one has its end, and where it has not. -/
theorem lines_yes {s : ByteArray} {L : List ByteArray} (h : L.map bl = cutL 10 (bl s)) (he : (bl s).getLast? = some 10) : ∃ m, L.length = m + 1 ∧ (linesL (bl s)).length = m ∧ (∀ (hm : m < L.length), (L[m]'hm).toList.isEmpty = true) ∧ ∀ j (hj : j < m) (hl : j < L.length), (linesL (bl s))[j]? = some (bl (L[j]'hl)) := by
  have e := lines_ended he
  rw [← h] at e
  have h1 := congrArg List.length e
  rw [List.length_map, List.length_append] at h1
  refine ⟨(linesL (bl s)).length, h1, rfl, fun hm => ?_, fun j hj hl => ?_⟩
  · have := congrArg (fun l => l[(linesL (bl s)).length]?) e
    simp only [List.getElem?_map, List.getElem?_eq_getElem hm, List.getElem?_append_right (Nat.le_refl _), Nat.sub_self] at this
    simp at this
    exact empty_bl.2 this
  · have := congrArg (fun l => l[j]?) e
    simp only [List.getElem?_map, List.getElem?_eq_getElem hl, List.getElem?_append_left hj] at this
    exact this.symm
theorem lines_no {s : ByteArray} {L : List ByteArray} (h : L.map bl = cutL 10 (bl s)) (hn : bl s ≠ []) (he : (bl s).getLast? ≠ some 10) : ∃ m, L.length = m + 1 ∧ (linesL (bl s)).length = m + 1 ∧ (∀ (hm : m < L.length), (L[m]'hm).toList.isEmpty = false) ∧ ∀ j (hl : j < L.length), (linesL (bl s))[j]? = some (bl (L[j]'hl)) := by
  have e := lines_open he
  rw [← h] at e
  have h1 := congrArg List.length e
  rw [List.length_map] at h1
  have h0 := (parts_len h).2.1
  refine ⟨L.length - 1, by omega, by omega, fun hm => ?_, fun j hl => ?_⟩
  · rw [nonempty_bl]
    intro hb
    refine he ((last_cut 10 hn).2 ?_)
    rw [← h, List.getLast?_eq_getElem?, List.length_map, List.getElem?_map, List.getElem?_eq_getElem hm]
    exact congrArg some hb
  · rw [e, List.getElem?_map, List.getElem?_eq_getElem hl]; rfl
end Go.Proofs.YtcboopkalpmglaaDoor
