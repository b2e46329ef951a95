/- Plain laws on scripts: a text is read as it was written, two scripts one behind the other, and what the reading leaves. No condition. -/
import Derived.Test.YtcboopkalpmglaaDoorEvBack
namespace Go.Proofs.YtcboopkalpmglaaDoor
set_option linter.unusedVariables false
/-! ### Lines -/
theorem last_cut (c : Nat) {s : List Nat} (h : s ≠ []) : s.getLast? = some c ↔ (cutL c s).getLast? = some [] := by
  rcases List.eq_nil_or_concat s with rfl | ⟨b, x, rfl⟩
  · exact absurd rfl h
  · rw [List.concat_eq_append, List.getLast?_append]
    show some x = some c ↔ _
    by_cases hx : x = c
    · subst hx
      rw [cutL_sep rfl]
      simp
    · rcases List.eq_nil_or_concat (cutL c b) with g | ⟨P, q, g⟩
      · exact absurd g (cutL_ne c b)
      · rw [List.concat_eq_append] at g
        rw [cutL_snoc g hx]
        simp [hx]
theorem lines_end {s b : List Nat} (h : s = b ++ [10]) : linesL s = cutL 10 b := by
  subst h
  unfold linesL
  rw [if_pos (by simp), List.dropLast_concat]
theorem lines_ended {s : List Nat} (h : s.getLast? = some 10) : cutL 10 s = linesL s ++ [[]] := by
  rcases List.eq_nil_or_concat s with rfl | ⟨b, x, rfl⟩
  · cases h
  · rw [List.concat_eq_append] at h ⊢
    have : x = 10 := by simpa using h
    subst this
    rw [lines_end rfl, cutL_sep rfl]
theorem lines_open {s : List Nat} (h : s.getLast? ≠ some 10) : linesL s = cutL 10 s := by unfold linesL; rw [if_neg h]
theorem lines_ne (s : List Nat) : linesL s ≠ [] := by
  unfold linesL
  split
  · exact cutL_ne _ _
  · exact cutL_ne _ _
theorem lines_text (l : List Ev) (h : l ≠ []) (hok : ∀ e ∈ l, e.Ok) : (evText l).getLast? = some 10 ∧ linesL (evText l) = l.map lineT := by
  have hcut : ∀ l : List Ev, (∀ e ∈ l, e.Ok) → cutL 10 (evText l) = l.map lineT ++ [[]] := by
    intro l
    induction l with
    | nil => intro _; rfl
    | cons e l ih =>
      intro hl
      have : evText (e :: l) = lineT e ++ 10 :: evText l := by
        unfold evText
        rw [List.flatMap_cons, List.append_assoc]; rfl
      rw [this, cutL_append, cutL_clean (fun x hx => by have := line_in (hl e (by simp)) x hx; omega), ih (fun e he => hl e (by simp [he]))]
      rfl
  have hlast : (evText l).getLast? = some 10 := by
    rcases List.eq_nil_or_concat l with rfl | ⟨b, x, rfl⟩
    · exact absurd rfl h
    · unfold evText
      rw [List.concat_eq_append, List.flatMap_append]
      simp
  refine ⟨hlast, ?_⟩
  have := hcut l hok
  rw [lines_ended hlast] at this
  exact List.append_cancel_right this
/-! ### Reading -/
/-- The reading of lines that are all read. -/
theorem read_all (ended : Bool) (L : List (List Nat)) (i : Nat) (l : List Ev) (he : L ≠ [] → ended = true) (h : ∀ t ∈ L, (lineL t).2 = 0) : readLines ended L i l = (l ++ L.map fun t => (lineL t).1, 0, 0) := by
  induction L generalizing i l with
  | nil => simp [readLines]
  | cons t r ih =>
    have hen := he (by simp)
    subst hen
    unfold readLines
    rw [if_neg (by simp), if_neg (by rw [h t (by simp)]; simp), ih _ _ (fun _ => rfl) (fun x hx => h x (by simp [hx]))]
    simp
/-- What was read, whole. -/
theorem read_ok (ended : Bool) (L : List (List Nat)) (i : Nat) (l : List Ev) (h : (readLines ended L i l).2.2 = 0) : (L ≠ [] → ended = true) ∧ (∀ t ∈ L, (lineL t).2 = 0) := by
  induction L generalizing i l with
  | nil => exact ⟨fun g => absurd rfl g, fun t ht => by cases ht⟩
  | cons t r ih =>
    unfold readLines at h
    split at h
    · simp at h
    · next h1 =>
      split at h
      · next h2 => exact absurd h h2
      · next h2 =>
        obtain ⟨g1, g2⟩ := ih _ _ h
        refine ⟨fun _ => ?_, fun x hx => ?_⟩
        · by_cases hr : r = []
          · cases hq : ended
            · exact absurd ⟨hr, hq⟩ h1
            · rfl
          · exact g1 hr
        · rcases List.mem_cons.1 hx with rfl | hx
          · exact Decidable.not_not.1 h2
          · exact g2 x hx
theorem read_fail (ended : Bool) (L : List (List Nat)) (i : Nat) (l : List Ev) (h : (readLines ended L i l).2.2 ≠ 0) : (readLines ended L i l).1 = [] := by
  induction L generalizing i l with
  | nil => exact absurd rfl h
  | cons t r ih =>
    unfold readLines at h ⊢
    split
    · rfl
    · next h1 =>
      rw [if_neg h1] at h
      split
      · rfl
      · next h2 =>
        rw [if_neg h2] at h
        exact ih _ _ h
/-- Lines behind lines. -/
theorem read_cons (ended : Bool) (t : List Nat) (r : List (List Nat)) (i : Nat) (l : List Ev) : readLines ended (t :: r) i l = if r = [] ∧ ended = false then ([], i, 11) else if (lineL t).2 ≠ 0 then ([], i, (lineL t).2) else readLines ended r (i + 1) (l ++ [(lineL t).1]) := rfl
theorem read_append (ended : Bool) (A B : List (List Nat)) (hB : B ≠ []) (i : Nat) (l : List Ev) :
    readLines ended (A ++ B) i l = if (readLines true A i l).2.2 ≠ 0 then readLines true A i l else readLines ended B (i + A.length) (readLines true A i l).1 := by
  induction A generalizing i l with
  | nil => simp [readLines]
  | cons t r ih =>
    rw [List.cons_append, read_cons, read_cons]
    have hne : ¬ (r ++ B = [] ∧ ended = false) := fun h => hB (List.append_eq_nil_iff.1 h.1).2
    have hne2 : ¬ (r = [] ∧ true = false) := fun h => by cases h.2
    by_cases h2 : (lineL t).2 ≠ 0
    · rw [if_neg hne, if_pos h2, if_neg hne2, if_pos h2, if_pos h2]
    · rw [if_neg hne, if_neg h2, if_neg hne2, if_neg h2, ih, List.length_cons, show i + 1 + r.length = i + (r.length + 1) by omega]
/-- Elsewhere, with others ahead: the same error, the same events behind those. -/
theorem read_shift (ended : Bool) (L : List (List Nat)) (i : Nat) (l : List Ev) :
    (readLines ended L i l).2.2 = (readLines ended L 0 []).2.2 ∧ ((readLines ended L 0 []).2.2 = 0 → (readLines ended L i l).1 = l ++ (readLines ended L 0 []).1) := by
  by_cases h : (L ≠ [] → ended = true) ∧ ∀ t ∈ L, (lineL t).2 = 0
  · rw [read_all ended L i l h.1 h.2, read_all ended L 0 [] h.1 h.2]
    exact ⟨rfl, fun _ => by simp⟩
  · have key : ∀ (L : List (List Nat)) (i j : Nat) (l m : List Ev), (readLines ended L i l).2.2 = (readLines ended L j m).2.2 := by
      intro L
      induction L with
      | nil => intros; rfl
      | cons t r ih =>
        intro i j l m
        unfold readLines
        split
        · rfl
        · split
          · rfl
          · exact ih _ _ _ _
    refine ⟨key L i 0 l [], fun g => absurd (read_ok ended L 0 [] g) h⟩
theorem evText_ne {l : List Ev} (h : l ≠ []) : evText l ≠ [] := by
  cases l with
  | nil => exact absurd rfl h
  | cons e l => unfold evText; simp
/-- What may be is read as it was written. -/
theorem script_back (l : List Ev) (hok : ∀ e ∈ l, e.Ok) (hm : ∀ e ∈ l, mayB e = true) (hl : l.length ≤ 1000) : scriptL (evText l) = (l, 0, 0) := by
  by_cases h0 : l = []
  · subst h0; rfl
  · obtain ⟨h1, h2⟩ := lines_text l h0 hok
    unfold scriptL
    rw [if_neg (evText_ne h0), h2, if_neg (by simp; omega), h1, show decide ((some 10 : Option Nat) = some 10) = true from rfl, read_all _ _ _ _ (fun _ => rfl) (fun t ht => by
      obtain ⟨e, he, rfl⟩ := List.mem_map.1 ht
      rw [line_back (hok e he) (hm e he)])]
    have : (l.map lineT).map (fun t => (lineL t).1) = l := by
      rw [List.map_map]
      conv => rhs; rw [← List.map_id l]
      refine List.map_congr_left fun e he => ?_
      show (lineL (lineT e)).1 = e
      rw [line_back (hok e he) (hm e he)]
    rw [this]; rfl
theorem script_full (l : List Ev) (hok : ∀ e ∈ l, e.Ok) (hl : 1000 < l.length) : scriptL (evText l) = ([], 0, 3) := by
  have h0 : l ≠ [] := fun g => by rw [g] at hl; simp at hl
  obtain ⟨h1, h2⟩ := lines_text l h0 hok
  unfold scriptL
  rw [if_neg (evText_ne h0), h2, if_pos (by simp; omega)]
/-- What is read, whole: each event may be, and their text is hardly longer. -/
theorem script_read {s : List Nat} {l : List Ev} {at0 : Nat} (h : scriptL s = (l, at0, 0)) : (∀ e ∈ l, mayB e = true ∧ e.Ok) ∧ l.length ≤ 1000 ∧ (evText l).length ≤ s.length + 4 * l.length := by
  unfold scriptL at h
  split at h
  · simp only [Prod.mk.injEq] at h
    obtain ⟨rfl, _⟩ := h
    exact ⟨fun e he => (by cases he), (by simp), (by simp [evText])⟩
  · split at h
    · simp at h
    · next hne hn =>
      obtain ⟨h1, h2⟩ := read_ok _ _ 0 [] (by rw [h])
      have hend := h1 (lines_ne s)
      rw [hend, read_all true _ 0 [] (fun _ => rfl) h2] at h
      simp only [List.nil_append, Prod.mk.injEq] at h
      obtain ⟨rfl, _⟩ := h
      have hlast : s.getLast? = some 10 := by simpa using hend
      have htot := cutL_total 10 s
      rw [lines_ended hlast] at htot
      simp at htot
      have hr : ∀ t ∈ linesL s, mayB (lineL t).1 = true ∧ (lineL t).1.Ok ∧ (lineT (lineL t).1).length ≤ t.length + 4 := fun t ht =>
        line_read (e := (lineL t).1) (Prod.ext rfl (h2 t ht))
      refine ⟨fun e he => ?_, by simp; omega, ?_⟩
      · obtain ⟨t, ht, rfl⟩ := List.mem_map.1 he
        exact ⟨(hr t ht).1, (hr t ht).2.1⟩
      · have key : ∀ L : List (List Nat), (∀ t ∈ L, (lineT (lineL t).1).length ≤ t.length + 4) → (evText (L.map fun t => (lineL t).1)).length ≤ (L.map List.length).sum + L.length + 4 * L.length := by
          intro L
          induction L with
          | nil => intro _; simp [evText]
          | cons t r ih =>
            intro hL
            have h1 := hL t (by simp)
            have h2 := ih (fun x hx => hL x (by simp [hx]))
            have : evText ((t :: r).map fun t => (lineL t).1) = lineT (lineL t).1 ++ [10] ++ evText (r.map fun t => (lineL t).1) := rfl
            rw [this, List.length_append, List.length_append]
            simp at h1 h2 ⊢
            omega
        have := key (linesL s) (fun t ht => (hr t ht).2.2)
        rw [List.length_map]
        omega
/-! ### Two scripts -/
theorem lines_two (s : List Nat) {t : List Nat} (ht : t ≠ []) : linesL (s ++ 10 :: t) = cutL 10 s ++ linesL t ∧ (s ++ 10 :: t).getLast? = t.getLast? := by
  have hlast : (s ++ 10 :: t).getLast? = t.getLast? := by
    rw [show s ++ 10 :: t = (s ++ [10]) ++ t by simp, List.getLast?_append]
    cases h : t.getLast? with
    | none => exact absurd (List.getLast?_eq_none_iff.1 h) ht
    | some x => rfl
  refine ⟨?_, hlast⟩
  by_cases h : t.getLast? = some 10
  · have h1 := lines_ended (hlast.trans h)
    rw [cutL_append, lines_ended h, ← List.append_assoc] at h1
    exact (List.append_cancel_right h1).symm
  · rw [lines_open (fun g => h (hlast.symm.trans g)), lines_open h, cutL_append]
/-- What two scripts' readings are, and the reading of both. -/
structure Joined (A T J : List Ev × Nat × Nat) (none : Prop) : Prop where
  full : A.2.2 = 3 → J.2.2 = 3 ∨ none
  bad : A.2.2 ≠ 3 → J.2.2 ≠ 3 → A.2.2 ≠ 0 → J.2.2 = A.2.2 ∧ J.2.1 = A.2.1
  bad2 : A.2.2 = 0 → J.2.2 ≠ 3 → T.2.2 ≠ 0 → J.2.2 = T.2.2
  ok : A.2.2 = 0 → J.2.2 ≠ 3 → T.2.2 = 0 → J.2.2 = 0 ∧ J.1 = A.1 ++ T.1
theorem joined (s t : List Nat) : Joined (scriptL (s ++ [10])) (scriptL t) (scriptL (s ++ 10 :: t)) (t = []) := by
  by_cases ht : t = []
  · subst ht
    exact ⟨fun _ => .inr rfl, fun _ _ _ => ⟨rfl, rfl⟩, fun h _ g => absurd rfl g, fun h _ _ => ⟨h, by simp [scriptL]⟩⟩
  · obtain ⟨e1, e2⟩ := lines_two s ht
    have eA : linesL (s ++ [10]) = cutL 10 s := lines_end rfl
    have lA : (s ++ [10]).getLast? = some 10 := by simp
    have n1 : s ++ [10] ≠ [] := by simp
    have n2 : s ++ 10 :: t ≠ [] := by simp
    have SA : scriptL (s ++ [10]) = if 1000 < (cutL 10 s).length then ([], 0, 3) else readLines true (cutL 10 s) 0 [] := by
      unfold scriptL
      rw [if_neg n1, eA, lA]; rfl
    have ST : scriptL t = if 1000 < (linesL t).length then ([], 0, 3) else readLines (decide (t.getLast? = some 10)) (linesL t) 0 [] := by
      unfold scriptL
      rw [if_neg ht]
    have SJ : scriptL (s ++ 10 :: t) = if 1000 < (cutL 10 s ++ linesL t).length then ([], 0, 3) else readLines (decide (t.getLast? = some 10)) (cutL 10 s ++ linesL t) 0 [] := by
      unfold scriptL
      rw [if_neg n2, e1, e2]
    rw [List.length_append] at SJ
    generalize decide (t.getLast? = some 10) = en at *
    generalize cutL 10 s = A at *
    have hB := lines_ne t
    generalize linesL t = B at *
    by_cases hA : 1000 < A.length
    · rw [if_pos hA] at SA
      rw [if_pos (by omega)] at SJ
      rw [SA, SJ] 
      exact ⟨fun _ => .inl rfl, fun h => absurd rfl h, fun h => (by cases h), fun h => (by cases h)⟩
    · rw [if_neg hA] at SA
      have neq3 : ∀ (en : Bool) (L : List (List Nat)) (i : Nat) (l : List Ev), (readLines en L i l).2.2 ≠ 3 := by
        intro en L
        induction L with
        | nil => intro i l; simp [readLines]
        | cons x r ih =>
          intro i l
          unfold readLines
          split
          · simp
          · split
            · have := line_err x
              show (lineL x).2 ≠ 3
              omega
            · exact ih _ _
      by_cases hJ : 1000 < A.length + B.length
      · rw [if_pos hJ] at SJ
        rw [SJ, SA]
        exact ⟨fun h => absurd h (neq3 _ _ _ _), fun _ h => absurd rfl h, fun _ h => absurd rfl h, fun _ h => absurd rfl h⟩
      · rw [if_neg hJ, read_append en A B hB] at SJ
        rw [if_neg (by omega)] at ST
        rw [SJ, SA, ST]
        by_cases hb : (readLines true A 0 []).2.2 = 0
        · rw [if_neg (by rw [hb]; simp)]
          obtain ⟨q1, q2⟩ := read_shift en B (0 + A.length) (readLines true A 0 []).1
          exact ⟨fun h => absurd h (neq3 _ _ _ _), fun _ _ h => absurd hb h, fun _ _ _ => q1, fun _ _ h => ⟨q1.trans h, q2 h⟩⟩
        · rw [if_pos hb]
          exact ⟨fun h => absurd h (neq3 _ _ _ _), fun _ _ _ => ⟨rfl, rfl⟩, fun h => absurd h hb, fun h => absurd h hb⟩
end Go.Proofs.YtcboopkalpmglaaDoor
