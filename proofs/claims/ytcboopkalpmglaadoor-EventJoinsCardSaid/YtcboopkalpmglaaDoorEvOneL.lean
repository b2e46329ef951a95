/- Plain words for the reading of a line: the kind found word by word, the fields one by one; a string of a row. No condition. -/
import Derived.Test.YtcboopkalpmglaaDoorEvBack
import Derived.Test.YtcboopkalpmglaaDoorEvRefField
import Derived.Test.YtcboopkalpmglaaDoorEvSame
namespace Go.Proofs.YtcboopkalpmglaaDoor
set_option linter.unusedVariables false
open Go.RowKit
/-- The kind found so far, among the first i words. -/
def KindAt (p : List Nat) (i v : Nat) : Prop := (v = 0 ∧ ∀ j, j < i → wordL ((j : Int) + 1) ≠ p) ∨ (1 ≤ v ∧ v ≤ i ∧ wordL (v : Int) = p)
theorem kindAt_zero (p : List Nat) : KindAt p 0 0 := .inl ⟨rfl, fun j h => by omega⟩
theorem KindAt.yes {p : List Nat} {i v : Nat} (h : KindAt p i v) (he : wordL ((i : Int) + 1) = p) : KindAt p (i + 1) (i + 1) := .inr ⟨by omega, Nat.le_refl _, he⟩
theorem KindAt.no {p : List Nat} {i v : Nat} (h : KindAt p i v) (he : wordL ((i : Int) + 1) ≠ p) : KindAt p (i + 1) v := by
  rcases h with ⟨h1, h2⟩ | ⟨h1, h2, h3⟩
  · refine .inl ⟨h1, fun j hj => ?_⟩
    by_cases e : j = i
    · subst e; exact he
    · exact h2 j (by omega)
  · exact .inr ⟨h1, by omega, h3⟩
theorem KindAt.le {p : List Nat} {i v : Nat} (h : KindAt p i v) : v ≤ i := by
  rcases h with ⟨h1, _⟩ | ⟨_, h2, _⟩ <;> omega
theorem KindAt.fin {p : List Nat} {v : Nat} (h : KindAt p 15 v) : kindL p = v := by
  rcases h with ⟨h1, h2⟩ | ⟨h1, h2, h3⟩
  · subst h1
    by_cases e : kindL p = 0
    · exact e
    · have hw := kindL_word e
      have hl := kindL_le p
      exact absurd (by rw [show (((kindL p - 1 : Nat) : Int) + 1) = ((kindL p : Nat) : Int) by omega]; exact hw) (h2 (kindL p - 1) (by omega))
  · rw [← h3, kind_word (by omega) (by omega)]
    omega
/-- The error does not hang on the event. -/
theorem readF_snd (cs : List Nat) (ts : List (List Nat)) (e e' : Ev) (bad : Nat) : (readF cs ts (e, bad)).2 = (readF cs ts (e', bad)).2 := by
  induction cs generalizing ts e e' bad with
  | nil => cases ts <;> rfl
  | cons c cs ih =>
    cases ts with
    | nil => rfl
    | cons t ts => exact ih ts _ _ _
/-- The fields read so far. -/
def ReadAt (F : List Nat) (P : List (List Nat)) (R : Ev × Nat) (i : Nat) (g : Ev) (bad : Nat) : Prop :=
  ∃ e : Ev, readF (F.drop i) (P.drop i) (e, bad) = R ∧ (bad = 0 → g = e)
theorem readAt_zero (F : List Nat) (P : List (List Nat)) (e : Ev) : ReadAt F P (readF F P (e, 0)) 0 e 0 := ⟨e, rfl, fun _ => rfl⟩
theorem ReadAt.next {F : List Nat} {P : List (List Nat)} {R : Ev × Nat} {i : Nat} {g g' : Ev} {bad c : Nat} {t : List Nat} (h : ReadAt F P R i g bad) (hc : F[i]? = some c) (ht : P[i]? = some t)
    (hg : ferr c t = 0 → g' = putT g c t) : ReadAt F P R (i + 1) g' (worse bad (ferr c t)) := by
  obtain ⟨e, h1, h2⟩ := h
  have hi : i < F.length := (List.getElem?_eq_some_iff.1 hc).1
  have hp : i < P.length := (List.getElem?_eq_some_iff.1 ht).1
  refine ⟨putT e c t, ?_, fun hw => ?_⟩
  · rw [← h1, List.drop_eq_getElem_cons hi, List.drop_eq_getElem_cons hp]
    rw [(List.getElem?_eq_some_iff.1 hc).2, (List.getElem?_eq_some_iff.1 ht).2]
    rfl
  · obtain ⟨hb, hf⟩ := worse_zero hw
    rw [hg hf, h2 hb]
theorem ReadAt.fin {F : List Nat} {P : List (List Nat)} {R : Ev × Nat} {i : Nat} {g : Ev} {bad : Nat} (h : ReadAt F P R i g bad) (hi : F.length ≤ i) : R.2 = bad ∧ (bad = 0 → g = R.1) := by
  obtain ⟨e, h1, h2⟩ := h
  rw [List.drop_of_length_le hi] at h1
  have : readF [] (P.drop i) (e, bad) = (e, bad) := by cases P.drop i <;> rfl
  rw [this] at h1
  subst h1
  exact ⟨rfl, fun hb => h2 hb⟩
theorem lineL_none {l : List Nat} {v : Nat} (h : kindL ((cutL 32 l).headD []) = v) (hv : v = 0) : lineL l = (ev0, 11) := by
  unfold lineL lineK
  rw [h, if_pos (.inl hv)]
theorem lineL_len {l : List Nat} {v : Nat} (h : kindL ((cutL 32 l).headD []) = v) (hv : (cutL 32 l).length ≠ (formL v).length + 1) : lineL l = (ev0, 11) := by
  unfold lineL lineK
  rw [h, if_pos (.inr hv)]
theorem lineL_read {l : List Nat} {v : Nat} (h : kindL ((cutL 32 l).headD []) = v) (h0 : v ≠ 0) (hv : (cutL 32 l).length = (formL v).length + 1) : lineL l = readF (formL v) (cutL 32 l).tail (⟨v, 0, 0, 0, 0, 0⟩, 0) := by
  unfold lineL lineK
  rw [h, if_neg (by omega)]
/-- Two texts are the same where their bytes are. -/
theorem toList_same (a b : ByteArray) : (a.toList == b.toList) = true ↔ bl a = bl b := by
  rw [beq_iff_eq, Lib.toList_data, Lib.toList_data]
  unfold bl
  constructor
  · intro h; rw [h]
  · intro h
    have := congrArg (List.map UInt8.ofNat) h
    rwa [map_back, map_back] at this
theorem bl_word (k : Int) : bl (str (wordL k)) = wordL k := bl_str fun x hx => by have := word_clean k x hx; omega
theorem word_same {k : Int} {s : ByteArray} (h : wordL k = bl s) : ((str (wordL k)).toList == s.toList) = true := (toList_same _ _).2 (by rw [bl_word, h])
theorem word_not {k : Int} {s : ByteArray} (h : wordL k ≠ bl s) : ((str (wordL k)).toList == s.toList) = false := by
  cases e : ((str (wordL k)).toList == s.toList) with
  | false => rfl
  | true => exact absurd ((bl_word k).symm.trans ((toList_same _ _).1 e)) h
/-- A string of a row. -/
theorem rd_s {n₀ : Nat} {W : World} {a : Option Addr} {n : Nat} {L : List ByteArray} (h : Rd encS n₀ W a n L) (hn : 0 < n) : ∃ b off, a = some ⟨b, off, none⟩ ∧ b < n₀ ∧ ∀ j (hj : j < L.length), W.cell? ⟨b, off + j, none⟩ = some (.string (L[j]'hj)) := by
  obtain ⟨b, off, e, hb, hc⟩ := h.cells hn
  refine ⟨b, off, e, hb, fun j hj => ?_⟩
  have := hc j _ (List.getElem?_eq_getElem hj) 0 (.string (L[j]'hj)) rfl
  simpa [encS] using this
theorem parts_len {c : Nat} {s : ByteArray} {L : List ByteArray} (h : L.map bl = cutL c (bl s)) : L.length = (cutL c (bl s)).length ∧ 0 < L.length ∧ ∀ j (hj : j < L.length), (L[j]'hj).size ≤ s.size ∧ (cutL c (bl s))[j]? = some (bl (L[j]'hj)) := by
  have h1 : L.length = (cutL c (bl s)).length := by rw [← h, List.length_map]
  refine ⟨h1, ?_, fun j hj => ?_⟩
  · rw [h1]; exact List.length_pos_iff.2 (cutL_ne _ _)
  · have e : (cutL c (bl s))[j]? = some (bl (L[j]'hj)) := by rw [← h, List.getElem?_map, List.getElem?_eq_getElem hj]; rfl
    refine ⟨?_, e⟩
    have := cutL_part_le (List.mem_of_getElem? e)
    rw [bl_length, bl_length] at this
    exact this
end Go.Proofs.YtcboopkalpmglaaDoor
