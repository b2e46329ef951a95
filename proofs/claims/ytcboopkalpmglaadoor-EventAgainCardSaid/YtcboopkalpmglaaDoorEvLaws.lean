/- Plain laws for the statements on events: how long what is read is, and what is left where nothing is. Conditions: as each says. -/
import Derived.Test.YtcboopkalpmglaaDoorEvScript
import Derived.Test.YtcboopkalpmglaaDoorEvRefText
namespace Go.Proofs.YtcboopkalpmglaaDoor
set_option linter.unusedVariables false
theorem script_fail {s : List Nat} (h : (scriptL s).2.2 ≠ 0) : (scriptL s).1 = [] := by
  unfold scriptL at h ⊢
  split
  · rfl
  · next h1 =>
    rw [if_neg h1] at h
    split
    · rfl
    · next h2 =>
      rw [if_neg h2] at h
      exact read_fail _ _ _ _ h
theorem script_len (s : List Nat) : (scriptL s).1.length ≤ 1000 := by
  by_cases h : (scriptL s).2.2 = 0
  · exact (script_read (s := s) (l := (scriptL s).1) (at0 := (scriptL s).2.1) (Prod.ext rfl (Prod.ext rfl h))).2.1
  · rw [script_fail h]; exact Nat.zero_le _
theorem text_bytes19 {l : List Ev} (hok : ∀ e ∈ l, e.Ok) : ∀ x ∈ evText l, x < 256 := by
  intro x hx
  unfold evText at hx
  obtain ⟨e, he, hx⟩ := List.mem_flatMap.1 hx
  rcases List.mem_append.1 hx with hx | hx
  · have := line_in (hok e he) x hx; omega
  · simp at hx; omega
theorem text_len19 {l : List Ev} (hok : ∀ e ∈ l, e.Ok) : (evText l).length ≤ 601 * l.length := by
  induction l with
  | nil => simp [evText]
  | cons e l ih =>
    have h1 := line_len (hok e (by simp))
    have h2 := ih (fun x hx => hok x (by simp [hx]))
    have : evText (e :: l) = lineT e ++ [10] ++ evText l := by unfold evText; rw [List.flatMap_cons]
    rw [this, List.length_append, List.length_append, List.length_cons]
    simp
    omega
theorem bl_text {l : List Ev} (hok : ∀ e ∈ l, e.Ok) : bl (str (evText l)) = evText l := bl_str (text_bytes19 hok)
/-- What is read again of what was written. -/
theorem back_of {l : List Ev} (hok : ∀ e ∈ l, e.Ok) (hm : ∀ e ∈ l, mayB e = true) (hl : l.length ≤ 1000) : scriptL (bl (str (evText l))) = (l, 0, 0) := by
  rw [bl_text hok]; exact script_back l hok hm hl
theorem all_take {l : List Ev} {i : Nat} (h : i < l.length) : (l.take (i + 1)).all mayB = ((l.take i).all mayB && mayB (eat l i)) := by
  rw [List.take_add_one, eat_some h, List.all_append]; simp
theorem res_no {l : List Ev} (h : l.all mayB = false) : textRes l = ([], 1) := by unfold textRes; rw [if_pos h]
theorem res_yes {l : List Ev} (h : l.all mayB = true) (hl : l.length ≤ 1000) : textRes l = (evText l, 0) := res_ok (List.all_eq_true.1 h) (by omega)
theorem text_size {l : List Ev} (hok : ∀ e ∈ l, e.Ok) (hl : l.length ≤ 1100) : (str (evText l)).size ≤ 661100 := by
  rw [str_size]; have := text_len19 hok; omega
theorem empty_str : str [] = ⟨#[]⟩ := rfl
theorem many_may {k a : Int} (h1 : 7 ≤ k) (h2 : k ≤ 10) (ha : 0 ≤ a) : mayB ⟨k, a, 0, 0, 0, 0⟩ = true :=
  (may_iff _).2 ⟨⟨⟨by simp only; omega, by simp only; omega⟩, ha, Int.le_refl 0⟩, .inr rfl, .inr rfl, .inr rfl, .inr rfl⟩
theorem many_ok {k a : Int} (h1 : 7 ≤ k) (h2 : k ≤ 10) (ha : 0 ≤ a) (hb : a ≤ 255) : Ev.Ok ⟨k, a, 0, 0, 0, 0⟩ :=
  ⟨by simp only; omega, by simp only; omega, zero_ok, zero_ok, zero_ok, (by decide : (0 : Nat) < 18446744073709551616)⟩
theorem text_app (a b : List Ev) : evText (a ++ b) = evText a ++ evText b := by unfold evText; rw [List.flatMap_append]
theorem res_full1 {l : List Ev} (h : ∀ e ∈ l, mayB e = true) (hl : 1000 < l.length) : textRes l = ([], 3) := res_full h hl
/-- A row of so many of one event. -/
structure Many (x : Ev) (n : Nat) (L : List Ev) : Prop where
  len : L.length = n
  may : ∀ e ∈ L, mayB e = true
  ok : ∀ e ∈ L, e.Ok
theorem many_rep {x : Ev} (n : Nat) (h : mayB x = true) (hk : x.Ok) : Many x n (List.replicate n x) :=
  ⟨List.length_replicate, fun e he => by rw [List.eq_of_mem_replicate he]; exact h, fun e he => by rw [List.eq_of_mem_replicate he]; exact hk⟩
theorem Many.more {x : Ev} {n : Nat} {L : List Ev} (h : Many x n L) (hm : mayB x = true) (hk : x.Ok) : Many x (n + 1) (L ++ [x]) :=
  ⟨by rw [List.length_append, h.len]; rfl, fun e he => by
    rcases List.mem_append.1 he with he | he
    · exact h.may e he
    · rw [List.mem_singleton.1 he]; exact hm, fun e he => by
    rcases List.mem_append.1 he with he | he
    · exact h.ok e he
    · rw [List.mem_singleton.1 he]; exact hk⟩
theorem many_full {x : Ev} {L : List Ev} (h : Many x 1000 L) (hm : mayB x = true) (hk : x.Ok) : scriptL (bl (str (evText L) ++ str (evText [x]))) = ([], 0, 3) := by
  have g := h.more hm hk
  rw [bl_append, bl_text h.ok, bl_text (fun e he => by rw [List.mem_singleton.1 he]; exact hk), ← text_app]
  exact script_full _ g.ok (by rw [g.len]; decide)
theorem take_one (x : Ev) : (List.replicate 1000 x).take 1 = [x] := by rw [List.take_replicate]; rfl
end Go.Proofs.YtcboopkalpmglaaDoor
