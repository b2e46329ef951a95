/- Plain laws on events as text: what may be is written, and read as it was; what is read may be, and its text is no longer. No condition. -/
import Derived.Test.YtcboopkalpmglaaDoorEvPlain
import Derived.Test.YtcboopkalpmglaaDoorMaskPlain
namespace Go.Proofs.YtcboopkalpmglaaDoor
set_option linter.unusedVariables false
theorem form_cases (k : Int) : formL k = [97, 110] ∨ formL k = [97, 98] ∨ formL k = [97, 110, 109] ∨ formL k = [97, 110, 115] ∨ formL k = [97, 115] ∨ formL k = [97] := by
  unfold formL
  split
  · simp
  · split
    · simp
    · split
      · simp
      · split
        · simp
        · split <;> simp
/-! ### Words -/
theorem kindIn_spec (L : List (List Nat)) (i : Nat) (w : List Nat) : kindIn L i w = 0 ∨ (i ≤ kindIn L i w ∧ kindIn L i w < i + L.length ∧ L[kindIn L i w - i]? = some w) := by
  induction L generalizing i with
  | nil => exact .inl rfl
  | cons x L ih =>
    unfold kindIn
    split
    · next h => right; subst h; simp
    · rcases ih (i + 1) with h | ⟨h1, h2, h3⟩
      · exact .inl h
      · right
        refine ⟨by omega, by simp; omega, ?_⟩
        rw [show kindIn L (i + 1) w - i = (kindIn L (i + 1) w - (i + 1)) + 1 by omega]
        exact h3
theorem kindL_le (w : List Nat) : kindL w ≤ 15 := by
  rcases kindIn_spec wordsL 1 w with h | ⟨_, h, _⟩
  · unfold kindL; omega
  · have : wordsL.length = 15 := rfl
    unfold kindL; omega
theorem kindL_word {w : List Nat} (h : kindL w ≠ 0) : wordL (kindL w) = w := by
  rcases kindIn_spec wordsL 1 w with g | ⟨_, _, g⟩
  · exact absurd g h
  · unfold wordL
    rw [List.getD, Int.toNat_natCast]
    show (wordsL[kindIn wordsL 1 w - 1]?).getD [] = w
    rw [g]; rfl
theorem kind_all : ∀ k : Fin 15, kindL (wordL ((k.val + 1 : Nat) : Int)) = k.val + 1 := by decide +kernel
theorem kind_word {k : Int} (h1 : 1 ≤ k) (h2 : k ≤ 15) : kindL (wordL k) = k.toNat := by
  obtain ⟨n, rfl⟩ : ∃ n : Nat, k = ((n + 1 : Nat) : Int) := ⟨(k - 1).toNat, by omega⟩
  have := kind_all ⟨n, by omega⟩
  rw [this, Int.toNat_natCast]
theorem words_clean : ∀ w ∈ wordsL, ∀ x ∈ w, 97 ≤ x ∧ x ≤ 122 := by decide +kernel
theorem word_clean (k : Int) : ∀ x ∈ wordL k, 97 ≤ x ∧ x ≤ 122 := by
  unfold wordL
  rw [List.getD]
  cases h : wordsL[k.toNat - 1]? with
  | none => intro x hx; cases hx
  | some w => exact words_clean w (List.mem_of_getElem? h)
theorem words_len : ∀ w ∈ wordsL, w.length ≤ 6 := by decide +kernel
theorem word_len (k : Int) : (wordL k).length ≤ 6 := by
  unfold wordL
  rw [List.getD]
  cases h : wordsL[k.toNat - 1]? with
  | none => exact Nat.zero_le _
  | some w => exact words_len w (List.mem_of_getElem? h)
/-! ### What a field's text has -/
theorem joinL_in {P : Nat → Prop} (hP : P 44) {l : List (List Nat)} (h : ∀ s ∈ l, ∀ x ∈ s, P x) : ∀ x ∈ joinL l, P x := by
  match l, h with
  | [], _ => intro x hx; cases hx
  | [s], h => exact h s (by simp)
  | s :: t :: l, h =>
    intro x hx
    rcases List.mem_append.1 hx with hx | hx
    · exact h s (by simp) x hx
    · rcases List.mem_cons.1 hx with rfl | hx
      · exact hP
      · exact joinL_in hP (l := t :: l) (fun s hs => h s (by simp at hs ⊢; exact .inr hs)) x hx
theorem text_in {m : Nat} (hm : m < 18446744073709551616) : ∀ x ∈ textL m, 44 ≤ x ∧ x ≤ 57 := by
  refine joinL_in (P := fun x => 44 ≤ x ∧ x ≤ 57) (by decide) fun s hs => ?_
  obtain ⟨p, hp, rfl⟩ := List.mem_map.1 hs
  obtain ⟨h1, h2, _, _⟩ := endOf_spec hm (starts_bit p hp)
  have f1 := figL_in p (by omega)
  have f2 := figL_in (endOf m p) (by omega)
  intro x hx
  unfold seg at hx
  split at hx
  · rcases List.mem_append.1 hx with hx | hx
    · have := f1 x hx; omega
    · rcases List.mem_cons.1 hx with rfl | hx
      · decide
      · have := f2 x hx; omega
  · have := f1 x hx; omega
theorem dec_in (n : Int) : ∀ x ∈ dec n, 44 ≤ x ∧ x ≤ 57 := by
  rcases dec_shape n with ⟨_, l, hl, hd, _, _⟩ | ⟨_, hd, _, _⟩
  · rw [hl]
    intro x hx
    rcases List.mem_cons.1 hx with rfl | hx
    · decide
    · have := hd x hx; omega
  · intro x hx; have := hd x hx; omega
theorem fld_in {e : Ev} (h : e.Ok) (c : Nat) : ∀ x ∈ fldT e c, 44 ≤ x ∧ x ≤ 122 := by
  unfold fldT
  split
  · unfold maskT
    split
    · decide
    · intro x hx; have := text_in h.s x hx; omega
  · intro x hx; have := dec_in _ x hx; omega
theorem mask_len {m : Nat} (hm : m < 18446744073709551616) : (maskT m).length ≤ 192 := by
  unfold maskT
  split
  · decide
  · exact text_len hm
theorem fldI_ok {e : Ev} (h : e.Ok) (c : Nat) : -9223372036854775808 ≤ fldI e c ∧ fldI e c ≤ 9223372036854775807 := by
  unfold fldI
  split
  · exact h.a
  · split
    · exact h.b
    · split
      · exact h.n
      · exact h.m
theorem fld_len {e : Ev} (h : e.Ok) (c : Nat) : (fldT e c).length ≤ 192 := by
  unfold fldT
  split
  · exact mask_len h.s
  · have := dec_len (fldI_ok h c).1 (fldI_ok h c).2; omega
theorem line_len {e : Ev} (h : e.Ok) : (lineT e).length ≤ 600 := by
  unfold lineT
  have hw := word_len e.k
  have h1 := fld_len h 97
  have h2 := fld_len h 98
  have h3 := fld_len h 110
  have h4 := fld_len h 109
  have h5 := fld_len h 115
  rw [List.length_append]
  rcases form_cases e.k with g | g | g | g | g | g <;> rw [g] <;> simp <;> omega
theorem line_in {e : Ev} (h : e.Ok) : ∀ x ∈ lineT e, 32 ≤ x ∧ x ≤ 122 := by
  intro x hx
  unfold lineT at hx
  rcases List.mem_append.1 hx with hx | hx
  · have := word_clean e.k x hx; omega
  · obtain ⟨c, _, hx⟩ := List.mem_flatMap.1 hx
    rcases List.mem_cons.1 hx with rfl | hx
    · decide
    · have := fld_in h c x hx; omega
/-! ### A line is read as it was written -/
theorem cut_line {c : Nat} {f : Nat → List Nat} (cs : List Nat) (w : List Nat) (hw : ∀ x ∈ w, x ≠ c) (hf : ∀ k ∈ cs, ∀ x ∈ f k, x ≠ c) : cutL c (w ++ cs.flatMap fun k => c :: f k) = w :: cs.map f := by
  induction cs generalizing w with
  | nil => rw [List.flatMap_nil, List.append_nil, cutL_clean hw]; rfl
  | cons k cs ih =>
    rw [List.flatMap_cons, List.cons_append, cutL_append, cutL_clean hw, ih (f k) (hf k (by simp)) (fun j hj => hf j (by simp [hj]))]
    rfl
theorem text_none : parseL noneL = (0, 11) := by decide +kernel
theorem fld_ok {e : Ev} (h : e.Ok) {c : Nat} (hlow : (c = 97 ∨ c = 98) → 0 ≤ fldI e c) : ferr c (fldT e c) = 0 := by
  by_cases hc : c = 115
  · subst hc
    unfold ferr fldT
    rw [if_pos rfl, if_pos rfl]
    unfold maskT
    by_cases h0 : e.s = 0
    · rw [if_pos h0]; rfl
    · rw [if_neg h0, if_neg, setErr, if_neg, parse_text h.s]
      · exact fun g => h0 ((textL_nil h.s).1 g)
      · intro g
        have := parse_text h.s
        rw [g, text_none] at this
        simp at this
  · refine ferr_some hc (x := fldI e c) ?_ hlow
    unfold fldT
    rw [if_neg hc]
    exact numOf_dec (fldI_ok h c).1 (fldI_ok h c).2
theorem put_num {e : Ev} (h : e.Ok) (g : Ev) {c : Nat} (hc : c ≠ 115) : putT g c (fldT e c) = putN g c (fldI e c) := by
  unfold putT fldT
  rw [if_neg hc, if_neg hc, numOf_dec (fldI_ok h c).1 (fldI_ok h c).2]
  rfl
theorem put_set {e : Ev} (h : e.Ok) (g : Ev) (hg : g.s = 0) : putT g 115 (fldT e 115) = { g with s := e.s } := by
  unfold putT fldT
  rw [if_pos rfl, if_pos rfl]
  unfold maskT
  by_cases h0 : e.s = 0
  · rw [if_pos h0, if_pos (show [110, 111, 110, 101] = noneL from rfl), h0, ← hg]
  · rw [if_neg h0, if_neg, parse_text h.s]
    intro g
    have := parse_text h.s
    rw [g, text_none] at this
    simp at this
theorem may_iff (e : Ev) : mayB e = true ↔ ((1 ≤ e.k ∧ e.k ≤ 15) ∧ 0 ≤ e.a ∧ 0 ≤ e.b) ∧ (98 ∈ formL e.k ∨ e.b = 0) ∧ (110 ∈ formL e.k ∨ e.n = 0) ∧ (109 ∈ formL e.k ∨ e.m = 0) ∧ (115 ∈ formL e.k ∨ e.s = 0) := by
  unfold mayB
  simp only [Bool.and_eq_true, Bool.or_eq_true, decide_eq_true_eq]
  constructor
  · rintro ⟨⟨⟨⟨h1, h2⟩, h3⟩, h4⟩, ⟨⟨h5, h6⟩, h7⟩, h8⟩
    exact ⟨⟨⟨h1, h2⟩, h3, h4⟩, h5, h6, h7, h8⟩
  · rintro ⟨⟨⟨h1, h2⟩, h3, h4⟩, h5, h6, h7, h8⟩
    exact ⟨⟨⟨⟨h1, h2⟩, h3⟩, h4⟩, ⟨⟨h5, h6⟩, h7⟩, h8⟩
theorem line_back {e : Ev} (h : e.Ok) (hm : mayB e = true) : lineL (lineT e) = (e, 0) := by
  obtain ⟨⟨⟨k1, k2⟩, ha, hb⟩, m1, m2, m3, m4⟩ := (may_iff e).1 hm
  have hcut : cutL 32 (lineT e) = wordL e.k :: (formL e.k).map (fldT e) :=
    cut_line _ _ (fun x hx => by have := word_clean e.k x hx; omega) (fun c _ x hx => by have := fld_in h c x hx; omega)
  have f97 := fld_ok h (c := 97) (fun _ => ha)
  have f98 := fld_ok h (c := 98) (fun _ => hb)
  have f110 := fld_ok h (c := 110) (fun g => by omega)
  have f109 := fld_ok h (c := 109) (fun g => by omega)
  have f115 := fld_ok h (c := 115) (fun g => by omega)
  unfold lineL
  rw [hcut, List.headD_cons, kind_word k1 k2]
  obtain ⟨k, a, b, n, m, s⟩ := e
  simp only at *
  obtain ⟨k, rfl⟩ : ∃ q : Nat, k = (q : Int) := ⟨k.toNat, by omega⟩
  rw [Int.toNat_natCast]
  unfold lineK
  rw [if_neg (by
    rintro (g | g)
    · omega
    · simp at g)]
  rw [List.tail_cons]
  rcases form_cases (k : Int) with g | g | g | g | g | g
  all_goals
    rw [g] at m1 m2 m3 m4 ⊢
    simp only [List.map_cons, List.map_nil, readF]
    simp [f97, f98, f110, f109, f115, worse, put_num h, put_set h, putN, fldI] at m1 m2 m3 m4 ⊢
    simp_all
/-! ### What is read of a line -/
theorem cutL_total (c : Nat) (l : List Nat) : ((cutL c l).map List.length).sum + (cutL c l).length = l.length + 1 := by
  induction l with
  | nil => rfl
  | cons y r ih =>
    rw [cutL_cons]
    split
    · simp; omega
    · split
      · next q => exact absurd q (cutL_ne c r)
      · next p ps q => rw [q] at ih; simp at ih ⊢; omega
theorem put_len {g e : Ev} {c : Nat} {t : List Nat} (hs : g.s = 0) (h : ferr c t = 0) (hI : c ≠ 115 → fldI e c = (numOf t).getD 0) (hS : c = 115 → e.s = (putT g 115 t).s) : (fldT e c).length ≤ t.length + if c = 115 then 4 else 0 := by
  by_cases hc : c = 115
  · subst hc
    rw [if_pos rfl]
    unfold fldT
    rw [if_pos rfl, hS rfl]
    unfold putT
    rw [if_pos rfl]
    unfold ferr at h
    rw [if_pos rfl] at h
    by_cases ht : t = noneL
    · rw [if_pos ht, hs]; show 4 ≤ _; omega
    · rw [if_neg ht]
      rw [if_neg ht] at h
      unfold setErr at h
      split at h
      · omega
      · show (maskT (parseL t).1).length ≤ _
        unfold maskT
        split
        · show 4 ≤ _; omega
        · have := parse_short (l := t) (m := (parseL t).1) (by rw [← h]) (parseL_lt t)
          omega
  · rw [if_neg hc]
    unfold fldT
    rw [if_neg hc, hI hc]
    cases hn : numOf t with
    | none => rw [ferr_none hc hn] at h; omega
    | some x =>
      have := (numOf_some hn).1
      show (dec x).length ≤ _
      rw [this]; omega
theorem num_ok (t : List Nat) : -9223372036854775808 ≤ (numOf t).getD 0 ∧ (numOf t).getD 0 ≤ 9223372036854775807 := by
  cases h : numOf t with
  | none => decide
  | some x => exact (numOf_some h).2
theorem low_ok {c : Nat} {t : List Nat} (hc : c = 97 ∨ c = 98) (h : ferr c t = 0) : 0 ≤ (numOf t).getD 0 := by
  cases hn : numOf t with
  | none => decide
  | some x =>
    rcases Int.lt_or_le x 0 with g | g
    · rw [ferr_low hc hn g] at h; omega
    · exact g
theorem put_s_lt (g : Ev) (t : List Nat) (h : g.s < 18446744073709551616) : (putT g 115 t).s < 18446744073709551616 := by
  unfold putT
  rw [if_pos rfl]
  split
  · exact h
  · exact parseL_lt t
theorem put97 (g : Ev) (t : List Nat) : putT g 97 t = { g with a := (numOf t).getD 0 } := rfl
theorem put98 (g : Ev) (t : List Nat) : putT g 98 t = { g with b := (numOf t).getD 0 } := rfl
theorem put110 (g : Ev) (t : List Nat) : putT g 110 t = { g with n := (numOf t).getD 0 } := rfl
theorem put109 (g : Ev) (t : List Nat) : putT g 109 t = { g with m := (numOf t).getD 0 } := rfl
theorem put115 (g : Ev) (t : List Nat) : putT g 115 t = { g with s := if t = noneL then g.s else (parseL t).1 } := by
  unfold putT
  rw [if_pos rfl]
  split <;> rfl
theorem set_lt (t : List Nat) : (if t = noneL then 0 else (parseL t).1) < 18446744073709551616 := by
  split
  · decide
  · exact parseL_lt t
theorem zero_ok : -9223372036854775808 ≤ (0 : Int) ∧ (0 : Int) ≤ 9223372036854775807 := ⟨by decide, by decide⟩
theorem line_read {t : List Nat} {e : Ev} (h : lineL t = (e, 0)) : mayB e = true ∧ e.Ok ∧ (lineT e).length ≤ t.length + 4 := by
  have htot := cutL_total 32 t
  unfold lineL at h
  cases hp : cutL 32 t with
  | nil => exact absurd hp (cutL_ne 32 t)
  | cons w ts =>
    rw [hp] at h htot
    rw [List.headD_cons] at h
    have hk15 := kindL_le w
    have hw := fun q => kindL_word (w := w) q
    generalize kindL w = k at *
    unfold lineK at h
    split at h
    · simp at h
    · next hn =>
      have hk0 : k ≠ 0 := fun g => hn (.inl g)
      have hlen : ts.length = (formL k).length := by
        have : ¬ (w :: ts).length ≠ (formL k).length + 1 := fun g => hn (.inr g)
        simp at this; omega
      have hw := hw hk0
      clear hn
      rw [List.tail_cons] at h
      have hl1 : (lineT e).length = (wordL e.k).length + ((formL e.k).map fun c => (fldT e c).length + 1).sum := by
        unfold lineT
        rw [List.length_append, List.length_flatMap]
        rfl
      simp only [List.map_cons, List.sum_cons, List.length_cons] at htot
      rcases form_cases k with g | g | g | g | g | g
      all_goals
        rw [g] at h hlen
      · match ts, hlen with
        | [t1, t2], _ =>
          simp only [readF, put97, put110, Prod.mk.injEq] at h
          obtain ⟨rfl, h⟩ := h
          obtain ⟨h, h2⟩ := worse_zero h
          obtain ⟨_, h1⟩ := worse_zero h
          generalize hE : (⟨k, (numOf t1).getD 0, 0, (numOf t2).getD 0, 0, 0⟩ : Ev) = E at *
          have l1 := put_len (g := ev0) (e := E) (c := 97) rfl h1 (fun _ => by rw [← hE]; rfl) (fun q => by omega)
          have l2 := put_len (g := ev0) (e := E) (c := 110) rfl h2 (fun _ => by rw [← hE]; rfl) (fun q => by omega)
          have z1 := low_ok (.inl rfl) h1
          refine ⟨(may_iff _).2 (by rw [← hE]; simp [g]; omega), ⟨by rw [← hE]; show _ ≤ (k : Int) ∧ (k : Int) ≤ _; omega, by rw [← hE]; exact num_ok _, by rw [← hE]; exact zero_ok, by rw [← hE]; exact num_ok _, by rw [← hE]; exact zero_ok, by rw [← hE]; exact (by decide : (0 : Nat) < 18446744073709551616)⟩, ?_⟩
          have ek : E.k = k := by rw [← hE]
          rw [hl1, ek, g, hw]
          simp at l1 l2 htot ⊢
          omega
      · match ts, hlen with
        | [t1, t2], _ =>
          simp only [readF, put97, put98, Prod.mk.injEq] at h
          obtain ⟨rfl, h⟩ := h
          obtain ⟨h, h2⟩ := worse_zero h
          obtain ⟨_, h1⟩ := worse_zero h
          generalize hE : (⟨k, (numOf t1).getD 0, (numOf t2).getD 0, 0, 0, 0⟩ : Ev) = E at *
          have l1 := put_len (g := ev0) (e := E) (c := 97) rfl h1 (fun _ => by rw [← hE]; rfl) (fun q => by omega)
          have l2 := put_len (g := ev0) (e := E) (c := 98) rfl h2 (fun _ => by rw [← hE]; rfl) (fun q => by omega)
          have z1 := low_ok (.inl rfl) h1
          have z2 := low_ok (.inr rfl) h2
          refine ⟨(may_iff _).2 (by rw [← hE]; simp [g]; omega), ⟨by rw [← hE]; show _ ≤ (k : Int) ∧ (k : Int) ≤ _; omega, by rw [← hE]; exact num_ok _, by rw [← hE]; exact num_ok _, by rw [← hE]; exact zero_ok, by rw [← hE]; exact zero_ok, by rw [← hE]; exact (by decide : (0 : Nat) < 18446744073709551616)⟩, ?_⟩
          have ek : E.k = k := by rw [← hE]
          rw [hl1, ek, g, hw]
          simp at l1 l2 htot ⊢
          omega
      · match ts, hlen with
        | [t1, t2, t3], _ =>
          simp only [readF, put97, put110, put109, Prod.mk.injEq] at h
          obtain ⟨rfl, h⟩ := h
          obtain ⟨h, h3⟩ := worse_zero h
          obtain ⟨h, h2⟩ := worse_zero h
          obtain ⟨_, h1⟩ := worse_zero h
          generalize hE : (⟨k, (numOf t1).getD 0, 0, (numOf t2).getD 0, (numOf t3).getD 0, 0⟩ : Ev) = E at *
          have l1 := put_len (g := ev0) (e := E) (c := 97) rfl h1 (fun _ => by rw [← hE]; rfl) (fun q => by omega)
          have l2 := put_len (g := ev0) (e := E) (c := 110) rfl h2 (fun _ => by rw [← hE]; rfl) (fun q => by omega)
          have l3 := put_len (g := ev0) (e := E) (c := 109) rfl h3 (fun _ => by rw [← hE]; rfl) (fun q => by omega)
          have z1 := low_ok (.inl rfl) h1
          refine ⟨(may_iff _).2 (by rw [← hE]; simp [g]; omega), ⟨by rw [← hE]; show _ ≤ (k : Int) ∧ (k : Int) ≤ _; omega, by rw [← hE]; exact num_ok _, by rw [← hE]; exact zero_ok, by rw [← hE]; exact num_ok _, by rw [← hE]; exact num_ok _, by rw [← hE]; exact (by decide : (0 : Nat) < 18446744073709551616)⟩, ?_⟩
          have ek : E.k = k := by rw [← hE]
          rw [hl1, ek, g, hw]
          simp at l1 l2 l3 htot ⊢
          omega
      · match ts, hlen with
        | [t1, t2, t3], _ =>
          simp only [readF, put97, put110, put115, Prod.mk.injEq] at h
          obtain ⟨rfl, h⟩ := h
          obtain ⟨h, h3⟩ := worse_zero h
          obtain ⟨h, h2⟩ := worse_zero h
          obtain ⟨_, h1⟩ := worse_zero h
          generalize hE : (⟨k, (numOf t1).getD 0, 0, (numOf t2).getD 0, 0, if t3 = noneL then 0 else (parseL t3).1⟩ : Ev) = E at *
          have l1 := put_len (g := ev0) (e := E) (c := 97) rfl h1 (fun _ => by rw [← hE]; rfl) (fun q => by omega)
          have l2 := put_len (g := ev0) (e := E) (c := 110) rfl h2 (fun _ => by rw [← hE]; rfl) (fun q => by omega)
          have l3 := put_len (g := ev0) (e := E) (c := 115) rfl h3 (fun q => absurd rfl q) (fun _ => by rw [← hE, put115]; rfl)
          have z1 := low_ok (.inl rfl) h1
          refine ⟨(may_iff _).2 (by rw [← hE]; simp [g]; omega), ⟨by rw [← hE]; show _ ≤ (k : Int) ∧ (k : Int) ≤ _; omega, by rw [← hE]; exact num_ok _, by rw [← hE]; exact zero_ok, by rw [← hE]; exact num_ok _, by rw [← hE]; exact zero_ok, by rw [← hE]; exact set_lt _⟩, ?_⟩
          have ek : E.k = k := by rw [← hE]
          rw [hl1, ek, g, hw]
          simp at l1 l2 l3 htot ⊢
          omega
      · match ts, hlen with
        | [t1, t2], _ =>
          simp only [readF, put97, put115, Prod.mk.injEq] at h
          obtain ⟨rfl, h⟩ := h
          obtain ⟨h, h2⟩ := worse_zero h
          obtain ⟨_, h1⟩ := worse_zero h
          generalize hE : (⟨k, (numOf t1).getD 0, 0, 0, 0, if t2 = noneL then 0 else (parseL t2).1⟩ : Ev) = E at *
          have l1 := put_len (g := ev0) (e := E) (c := 97) rfl h1 (fun _ => by rw [← hE]; rfl) (fun q => by omega)
          have l2 := put_len (g := ev0) (e := E) (c := 115) rfl h2 (fun q => absurd rfl q) (fun _ => by rw [← hE, put115]; rfl)
          have z1 := low_ok (.inl rfl) h1
          refine ⟨(may_iff _).2 (by rw [← hE]; simp [g]; omega), ⟨by rw [← hE]; show _ ≤ (k : Int) ∧ (k : Int) ≤ _; omega, by rw [← hE]; exact num_ok _, by rw [← hE]; exact zero_ok, by rw [← hE]; exact zero_ok, by rw [← hE]; exact zero_ok, by rw [← hE]; exact set_lt _⟩, ?_⟩
          have ek : E.k = k := by rw [← hE]
          rw [hl1, ek, g, hw]
          simp at l1 l2 htot ⊢
          omega
      · match ts, hlen with
        | [t1], _ =>
          simp only [readF, put97, Prod.mk.injEq] at h
          obtain ⟨rfl, h⟩ := h
          obtain ⟨_, h1⟩ := worse_zero h
          generalize hE : (⟨k, (numOf t1).getD 0, 0, 0, 0, 0⟩ : Ev) = E at *
          have l1 := put_len (g := ev0) (e := E) (c := 97) rfl h1 (fun _ => by rw [← hE]; rfl) (fun q => by omega)
          have z1 := low_ok (.inl rfl) h1
          refine ⟨(may_iff _).2 (by rw [← hE]; simp [g]; omega), ⟨by rw [← hE]; show _ ≤ (k : Int) ∧ (k : Int) ≤ _; omega, by rw [← hE]; exact num_ok _, by rw [← hE]; exact zero_ok, by rw [← hE]; exact zero_ok, by rw [← hE]; exact zero_ok, by rw [← hE]; exact (by decide : (0 : Nat) < 18446744073709551616)⟩, ?_⟩
          have ek : E.k = k := by rw [← hE]
          rw [hl1, ek, g, hw]
          simp at l1 htot ⊢
          omega
theorem readF_err (cs : List Nat) (ts : List (List Nat)) (e : Ev) (bad : Nat) (h : bad = 0 ∨ bad = 1 ∨ bad = 11) : (readF cs ts (e, bad)).2 = 0 ∨ (readF cs ts (e, bad)).2 = 1 ∨ (readF cs ts (e, bad)).2 = 11 := by
  induction cs generalizing ts e bad with
  | nil => exact h
  | cons c cs ih =>
    cases ts with
    | nil => exact h
    | cons t ts => exact ih ts _ _ (worse_cases h (ferr_cases c t))
theorem line_err (t : List Nat) : (lineL t).2 = 0 ∨ (lineL t).2 = 1 ∨ (lineL t).2 = 11 := by
  unfold lineL lineK
  split
  · exact .inr (.inr rfl)
  · exact readF_err _ _ _ _ (.inl rfl)
end Go.Proofs.YtcboopkalpmglaaDoor
