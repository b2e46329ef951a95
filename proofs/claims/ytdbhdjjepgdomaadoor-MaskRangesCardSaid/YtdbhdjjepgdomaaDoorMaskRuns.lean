/- Plain words on a set's text: its runs, that the text is read as the set, and that no text of the set is shorter. No condition. -/
import Derived.Test.YtdbhdjjepgdomaaDoorMaskWords
namespace Go.Proofs.YtdbhdjjepgdomaaDoor
set_option linter.unusedVariables false
def figL (n : Nat) : List Nat := if n < 10 then [48 + n] else [48 + n / 10, 48 + n % 10]
theorem number_figL {n : Nat} (h : n < 100) : numberL (figL n) = some n := by
  have := (by decide +kernel : ∀ n : Fin 100, numberL (figL n.val) = some n.val) ⟨n, h⟩
  exact this
theorem figL_of_number {a : List Nat} {v : Nat} (h : numberL a = some v) : a = figL v := by
  match a, h with
  | [x], h =>
    simp only [numberL] at h
    by_cases hx : 48 ≤ x ∧ x ≤ 57
    · rw [if_pos hx] at h; injection h with h; subst h
      unfold figL; rw [if_pos (by omega)]; congr 1; omega
    · rw [if_neg hx] at h; cases h
  | [x, y], h =>
    simp only [numberL] at h
    by_cases hx : x ≠ 48 ∧ (48 ≤ x ∧ x ≤ 57) ∧ (48 ≤ y ∧ y ≤ 57)
    · rw [if_pos hx] at h; injection h with h; subst h
      unfold figL; rw [if_neg (by omega)]
      have h1 : 48 + (10 * (x - 48) + (y - 48)) / 10 = x := by omega
      have h2 : 48 + (10 * (x - 48) + (y - 48)) % 10 = y := by omega
      rw [h1, h2]
    · rw [if_neg hx] at h; cases h
theorem figL_in (n : Nat) (hn : n < 100) : ∀ x ∈ figL n, 48 ≤ x ∧ x ≤ 57 := numberL_in (number_figL hn)
/-- Ends of a run. -/
def startB (m p : Nat) : Bool := m.testBit p && (p == 0 || !m.testBit (p - 1))
def endB (m p : Nat) : Bool := m.testBit p && !m.testBit (p + 1)
/-- How far a run goes. -/
def endFrom (m : Nat) : Nat → Nat → Nat
  | 0, t => t
  | f + 1, t => if m.testBit (t + 1) = true then endFrom m f (t + 1) else t
def endOf (m p : Nat) : Nat := endFrom m 64 p
theorem endFrom_spec (m f t : Nat) (hf : m.testBit (t + f + 1) = false) : t ≤ endFrom m f t ∧ endFrom m f t ≤ t + f ∧ (∀ q, t < q → q ≤ endFrom m f t → m.testBit q = true) ∧ m.testBit (endFrom m f t + 1) = false := by
  induction f generalizing t with
  | zero => exact ⟨Nat.le_refl _, Nat.le_refl _, fun q h1 h2 => by simp [endFrom] at h2; omega, by simpa [endFrom] using hf⟩
  | succ f ih =>
    unfold endFrom
    by_cases h : m.testBit (t + 1) = true
    · rw [if_pos h]
      obtain ⟨h1, h2, h3, h4⟩ := ih (t + 1) (by rw [← hf]; congr 1; omega)
      refine ⟨by omega, by omega, fun q g1 g2 => ?_, h4⟩
      by_cases e : q = t + 1
      · rw [e]; exact h
      · exact h3 q (by omega) g2
    · rw [if_neg h]
      exact ⟨Nat.le_refl _, by omega, fun q g1 g2 => by omega, by simpa using h⟩
theorem endOf_spec {m p : Nat} (hm : m < 18446744073709551616) (hp : m.testBit p = true) : p ≤ endOf m p ∧ endOf m p < 64 ∧ (∀ q, p ≤ q → q ≤ endOf m p → m.testBit q = true) ∧ m.testBit (endOf m p + 1) = false := by
  have hp64 : p < 64 := by
    rcases Nat.lt_or_ge p 64 with h | h
    · exact h
    · rw [high_bit hm h] at hp; cases hp
  obtain ⟨h1, h2, h3, h4⟩ := endFrom_spec m 64 p (high_bit hm (by omega))
  have hin : ∀ q, p ≤ q → q ≤ endOf m p → m.testBit q = true := fun q g1 g2 => by
    by_cases e : q = p
    · rw [e]; exact hp
    · exact h3 q (by omega) g2
  refine ⟨h1, ?_, hin, h4⟩
  rcases Nat.lt_or_ge (endOf m p) 64 with h | h
  · exact h
  · have := hin (endOf m p) h1 (Nat.le_refl _); rw [high_bit hm h] at this; cases this
/-- The end is the only one. -/
theorem endOf_eq {m p e : Nat} (hm : m < 18446744073709551616) (hpe : p ≤ e) (h : ∀ q, p ≤ q → q ≤ e → m.testBit q = true) (he : m.testBit (e + 1) = false) : endOf m p = e := by
  obtain ⟨h1, h2, h3, h4⟩ := endOf_spec hm (h p (Nat.le_refl _) hpe)
  rcases Nat.lt_trichotomy (endOf m p) e with g | g | g
  · rw [h (endOf m p + 1) (by omega) (by omega)] at h4; cases h4
  · exact g
  · rw [h3 (e + 1) (by omega) (by omega)] at he; cases he
def starts (m : Nat) : List Nat := (List.range 64).filter (startB m)
def seg (m p : Nat) : List Nat := if p < endOf m p then figL p ++ 45 :: figL (endOf m p) else figL p
def joinL : List (List Nat) → List Nat
  | [] => []
  | [s] => s
  | s :: t :: l => s ++ 44 :: joinL (t :: l)
def textL (m : Nat) : List Nat := joinL ((starts m).map (seg m))
theorem joinL_snoc (l : List (List Nat)) (s : List Nat) : joinL (l ++ [s]) = if l = [] then s else joinL l ++ 44 :: s := by
  induction l with
  | nil => rfl
  | cons x l ih =>
    cases l with
    | nil => rfl
    | cons y l =>
      show x ++ 44 :: joinL (y :: l ++ [s]) = (x ++ 44 :: joinL (y :: l)) ++ 44 :: s
      rw [ih, if_neg (by simp)]
      simp
theorem seg_not {m p : Nat} (hm : m < 18446744073709551616) (hp : m.testBit p = true) : ∀ x ∈ seg m p, x ≠ 44 := by
  obtain ⟨h1, h2, _, _⟩ := endOf_spec hm hp
  have f1 := figL_in p (by omega)
  have f2 := figL_in (endOf m p) (by omega)
  intro x hx
  unfold seg at hx
  by_cases h : p < endOf m p
  · rw [if_pos h] at hx
    rcases List.mem_append.1 hx with hx | hx
    · have := f1 x hx; omega
    · rcases List.mem_cons.1 hx with rfl | hx
      · omega
      · have := f2 x hx; omega
  · rw [if_neg h] at hx
    have := f1 x hx; omega
theorem partL_seg {m p : Nat} (hm : m < 18446744073709551616) (hp : m.testBit p = true) : partL (seg m p) = some (p, endOf m p) := by
  obtain ⟨h1, h2, _, _⟩ := endOf_spec hm hp
  have f1 := figL_in p (by omega)
  unfold seg
  by_cases h : p < endOf m p
  · rw [if_pos h]
    unfold partL
    rw [splitL_of (c := 45) fun x hx => by have := f1 x hx; omega]
    show ((numberL (figL p)).bind fun n => (numberL (figL (endOf m p))).map fun m => (n, m)) = _
    rw [number_figL (by omega), number_figL (by omega)]
    rfl
  · rw [if_neg h]
    unfold partL
    rw [splitL_of_not (c := 45) fun x hx => by have := f1 x hx; omega]
    show (numberL (figL p)).map (fun n => (n, n)) = _
    rw [number_figL (by omega)]
    have : endOf m p = p := by omega
    rw [this]
    rfl
/-- A row of runs is read as all of them. -/
theorem parse_runs {m : Nat} (hm : m < 18446744073709551616) (l : List Nat) (hl : ∀ p ∈ l, m.testBit p = true) (h0 : l ≠ []) (all : Nat) :
    parseFrom all false (joinL (l.map (seg m))) = (l.foldl (fun s p => s ||| span p (endOf m p)) all, 0) := by
  induction l generalizing all with
  | nil => exact absurd rfl h0
  | cons p l ih =>
    have hp := hl p (by simp)
    obtain ⟨h1, h2, _, _⟩ := endOf_spec hm hp
    have hb : beyond p (endOf m p) = false := by unfold beyond; simp; omega
    have hseg := partL_seg hm hp
    have hnot := seg_not hm hp
    cases l with
    | nil =>
      show parseFrom all false (seg m p) = _
      have hs : splitL 44 (seg m p) = (seg m p, none) := splitL_of_not hnot
      rcases parse_last all false (l := seg m p) (by rw [hs]) with ⟨g1, g2⟩ | ⟨n, k, g1, g2, g3, g4⟩
      · rw [hs] at g1; rw [hseg] at g1; cases g1
      · rw [hs] at g1
        simp only [hseg, Option.some.injEq, Prod.mk.injEq] at g1
        obtain ⟨rfl, rfl⟩ := g1
        rw [g4, hb]
        rfl
    | cons q l =>
      show parseFrom all false (seg m p ++ 44 :: joinL ((q :: l).map (seg m))) = _
      have hs : splitL 44 (seg m p ++ 44 :: joinL ((q :: l).map (seg m))) = (seg m p, some (joinL ((q :: l).map (seg m)))) := splitL_of hnot
      rcases parse_more all false (l := seg m p ++ 44 :: joinL ((q :: l).map (seg m))) (by rw [hs]) with ⟨g1, g2⟩ | ⟨n, k, g1, g2, g3, g4⟩
      · rw [hs] at g1; rw [hseg] at g1; cases g1
      · rw [hs] at g1
        simp only [hseg, Option.some.injEq, Prod.mk.injEq] at g1
        obtain ⟨rfl, rfl⟩ := g1
        rw [g4, hb]
        exact ih (fun x hx => hl x (by simp [hx])) (by simp) _
theorem fold_bit (m : Nat) (l : List Nat) (all q : Nat) : (l.foldl (fun s p => s ||| span p (endOf m p)) all).testBit q = (all.testBit q || l.any fun p => (span p (endOf m p)).testBit q) := by
  induction l generalizing all with
  | nil => simp
  | cons p l ih => rw [List.foldl_cons, ih, Nat.testBit_or, List.any_cons, Bool.or_assoc]
theorem mem_starts {m p : Nat} : p ∈ starts m ↔ p < 64 ∧ startB m p = true := by simp [starts]
/-- Each number of a set lies in a run. -/
theorem start_below {m : Nat} (q : Nat) (hq : m.testBit q = true) : ∃ p, p ≤ q ∧ startB m p = true ∧ ∀ x, p ≤ x → x ≤ q → m.testBit x = true := by
  induction q with
  | zero => exact ⟨0, Nat.le_refl _, by unfold startB; rw [hq]; rfl, fun x h1 h2 => (show x = 0 by omega) ▸ hq⟩
  | succ q ih =>
    by_cases h : m.testBit q = true
    · obtain ⟨p, h1, h2, h3⟩ := ih h
      refine ⟨p, by omega, h2, fun x g1 g2 => ?_⟩
      by_cases e : x = q + 1
      · rw [e]; exact hq
      · exact h3 x g1 (by omega)
    · refine ⟨q + 1, Nat.le_refl _, ?_, fun x g1 g2 => (show x = q + 1 by omega) ▸ hq⟩
      unfold startB
      rw [hq]
      simp at h
      simp [h]
theorem runs_all {m : Nat} (hm : m < 18446744073709551616) : (starts m).foldl (fun s p => s ||| span p (endOf m p)) 0 = m := by
  refine Nat.eq_of_testBit_eq fun q => ?_
  rw [fold_bit, Nat.zero_testBit, Bool.false_or, Bool.eq_iff_iff, List.any_eq_true]
  constructor
  · rintro ⟨p, hp, hb⟩
    obtain ⟨h1, h2⟩ := mem_starts.1 hp
    rw [span_bit] at hb
    simp at hb
    have hpb : m.testBit p = true := by unfold startB at h2; simp at h2; exact h2.1
    exact (endOf_spec hm hpb).2.2.1 q hb.2.1 hb.2.2
  · intro hq
    obtain ⟨p, h1, h2, h3⟩ := start_below q hq
    have hpb : m.testBit p = true := h3 p (Nat.le_refl _) h1
    obtain ⟨g1, g2, g3, g4⟩ := endOf_spec hm hpb
    have hq64 : q < 64 := by
      rcases Nat.lt_or_ge q 64 with h | h
      · exact h
      · rw [high_bit hm h] at hq; cases hq
    refine ⟨p, mem_starts.2 ⟨by omega, h2⟩, ?_⟩
    rw [span_bit]
    have : q ≤ endOf m p := by
      rcases Nat.lt_or_ge (endOf m p) q with h | h
      · rw [h3 (endOf m p + 1) (by omega) (by omega)] at g4; cases g4
      · exact h
    simp
    omega
theorem starts_bit {m : Nat} : ∀ p ∈ starts m, m.testBit p = true := fun p hp => by
  have h2 := (mem_starts.1 hp).2
  unfold startB at h2
  simp at h2
  exact h2.1
theorem starts_nil {m : Nat} (hm : m < 18446744073709551616) : starts m = [] ↔ m = 0 := by
  constructor
  · intro h
    have := runs_all hm
    rw [h] at this
    exact this.symm
  · rintro rfl
    refine List.eq_nil_iff_forall_not_mem.2 fun p hp => ?_
    have := starts_bit p hp
    simp at this
theorem seg_ne (m p : Nat) : seg m p ≠ [] := by
  unfold seg figL
  split <;> split <;> simp
theorem joinL_nil {l : List (List Nat)} (h : ∀ s ∈ l, s ≠ []) : joinL l = [] ↔ l = [] := by
  match l, h with
  | [], _ => simp [joinL]
  | [s], h => simp [joinL, h s (by simp)]
  | s :: t :: l, h => simp [joinL]
theorem textL_nil {m : Nat} (hm : m < 18446744073709551616) : textL m = [] ↔ m = 0 := by
  unfold textL
  rw [joinL_nil (fun s hs => by obtain ⟨p, _, rfl⟩ := List.mem_map.1 hs; exact seg_ne m p), List.map_eq_nil_iff, starts_nil hm]
/-- A set's text is read as it. -/
theorem parse_text {m : Nat} (hm : m < 18446744073709551616) : parseL (textL m) = (m, 0) := by
  by_cases h0 : m = 0
  · rw [(textL_nil hm).2 h0, h0]; rfl
  · rw [parseL_from (fun e => h0 ((textL_nil hm).1 e))]
    unfold textL
    rw [parse_runs hm (starts m) starts_bit (fun e => h0 ((starts_nil hm).1 e)) 0, runs_all hm]
/-! ### No text is shorter -/
def wt (v : Nat) : Nat := (figL v).length + 1
def edgeB (m v : Nat) : Bool := startB m v || endB m v
def costTo (m : Nat) : Nat → Nat
  | 0 => 0
  | v + 1 => costTo m v + if edgeB m v = true then wt v else 0
def cost (m : Nat) : Nat := costTo m 64
theorem edge_or {a b v : Nat} (h : edgeB (a ||| b) v = true) : edgeB a v = true ∨ edgeB b v = true := by
  unfold edgeB startB endB at *
  simp only [Nat.testBit_or, Bool.or_eq_true, Bool.and_eq_true, Bool.not_eq_true', Bool.or_eq_false_iff, beq_iff_eq] at *
  rcases h with ⟨h1 | h1, h2⟩ | ⟨h1 | h1, h2⟩
  · exact .inl (.inl ⟨h1, h2.imp id fun h => h.1⟩)
  · exact .inr (.inl ⟨h1, h2.imp id fun h => h.2⟩)
  · exact .inl (.inr ⟨h1, h2.1⟩)
  · exact .inr (.inr ⟨h1, h2.2⟩)
theorem edge_span {n m v : Nat} (hm : m ≤ 63) (h : edgeB (span n m) v = true) : v = n ∨ v = m := by
  unfold edgeB startB endB at h
  simp only [span_bit, Bool.or_eq_true, Bool.and_eq_true, Bool.not_eq_true', decide_eq_true_eq, beq_iff_eq, Bool.and_eq_false_iff, decide_eq_false_iff_not] at h
  omega
theorem costTo_or (a n m k : Nat) (hnm : n ≤ m) (hm : m ≤ 63) : costTo (a ||| span n m) k ≤ costTo a k + ((if n < k then wt n else 0) + if n < m ∧ m < k then wt m else 0) := by
  induction k with
  | zero => simp [costTo]
  | succ k ih =>
    unfold costTo
    by_cases h : edgeB (a ||| span n m) k = true
    · rw [if_pos h]
      by_cases ha : edgeB a k = true
      · rw [if_pos ha]
        have h1 : (if n < k then wt n else 0) ≤ (if n < k + 1 then wt n else 0) := by split <;> split <;> omega
        have h2 : (if n < m ∧ m < k then wt m else 0) ≤ (if n < m ∧ m < k + 1 then wt m else 0) := by split <;> split <;> omega
        omega
      · rw [if_neg ha]
        rcases edge_or h with g | g
        · exact absurd g ha
        · rcases edge_span hm g with rfl | rfl
          · rw [if_neg (Nat.lt_irrefl _)] at ih
            rw [if_pos (Nat.lt_succ_self _)]
            have h2 : (if k < m ∧ m < k then wt m else 0) ≤ (if k < m ∧ m < k + 1 then wt m else 0) := by split <;> split <;> omega
            omega
          · by_cases e : n = k
            · subst e
              rw [if_neg (Nat.lt_irrefl _)] at ih
              rw [if_pos (Nat.lt_succ_self _)]
              have h2 : (if n < n ∧ n < n then wt n else 0) = 0 := if_neg (by omega)
              omega
            · have h1 : (if n < k then wt n else 0) ≤ (if n < k + 1 then wt n else 0) := by split <;> split <;> omega
              have h2 : (if n < k ∧ k < k then wt k else 0) = 0 := if_neg (by omega)
              have h3 : (if n < k ∧ k < k + 1 then wt k else 0) = wt k := if_pos (by omega)
              omega
    · rw [if_neg h]
      have h1 : (if n < k then wt n else 0) ≤ (if n < k + 1 then wt n else 0) := by split <;> split <;> omega
      have h2 : (if n < m ∧ m < k then wt m else 0) ≤ (if n < m ∧ m < k + 1 then wt m else 0) := by split <;> split <;> omega
      omega
theorem part_len {s : List Nat} {n m : Nat} (h : partL s = some (n, m)) : wt n + (if n < m then wt m else 0) ≤ s.length + 1 := by
  unfold partL at h
  have hj := splitL_join 45 s
  cases hs : (splitL 45 s).2 with
  | none =>
    rw [hs] at h hj
    simp only [Option.map_eq_some_iff, Prod.mk.injEq] at h
    obtain ⟨v, h1, rfl, rfl⟩ := h
    rw [if_neg (Nat.lt_irrefl _), hj, figL_of_number h1]
    simp [wt]
  | some b =>
    rw [hs] at h hj
    simp only [Option.bind_eq_some_iff, Option.map_eq_some_iff, Prod.mk.injEq] at h
    obtain ⟨v, h1, k, h2, rfl, rfl⟩ := h
    rw [hj, figL_of_number h1, figL_of_number h2]
    simp only [List.length_append, List.length_cons, wt]
    split <;> omega
theorem parse_cost (l : List Nat) (all m : Nat) (h : parseFrom all false l = (m, 0)) : cost m ≤ cost all + (l.length + 1) := by
  induction hk : l.length using Nat.strongRecOn generalizing l all with
  | _ k ih =>
    subst hk
    have hj := splitL_join 44 l
    have key : ∀ n k, partL (splitL 44 l).1 = some (n, k) → beyond n k = false → cost (all ||| span n k) ≤ cost all + ((splitL 44 l).1.length + 1) := fun n k h1 hb => by
      have h2 := part_len h1
      unfold beyond at hb
      simp at hb
      have h3 := costTo_or all n k 64 (by omega) (by omega)
      rw [if_pos (by omega)] at h3
      unfold cost
      by_cases g : n < k
      · rw [if_pos ⟨g, by omega⟩] at h3
        rw [if_pos g] at h2
        omega
      · rw [if_neg (by omega)] at h3
        rw [if_neg g] at h2
        omega
    cases hs : (splitL 44 l).2 with
    | none =>
      rw [hs] at hj
      rcases parse_last all false hs with ⟨_, g2⟩ | ⟨n, k, g1, _, _, g4⟩
      · rw [g2] at h; cases h
      · rw [g4] at h
        cases hb : beyond n k
        · rw [hb] at h
          simp only [Bool.or_self, Bool.false_eq_true, if_false, Prod.mk.injEq, and_true] at h
          subst h
          have := key n k g1 hb
          rw [splitL_none hs] at this
          exact this
        · rw [hb] at h
          simp at h
    | some b =>
      rw [hs] at hj
      have hl : l.length = (splitL 44 l).1.length + (b.length + 1) := by
        have := congrArg List.length hj
        simpa using this
      rcases parse_more all false hs with ⟨_, g2⟩ | ⟨n, k, g1, _, _, g4⟩
      · rw [g2] at h; cases h
      · rw [g4] at h
        cases hb : beyond n k
        · rw [hb] at h
          have h1 := ih b.length (by omega) b _ h rfl
          have h2 := key n k g1 hb
          omega
        · rw [hb] at h
          exfalso
          have over_stays : ∀ (q : Rdg) (l : List Nat), q.over = true → (fin ((runL q l).bind part)).2 ≠ 0 := fun q l hq => by
            have hs : Sim true q.set q { q with over := false } := ⟨rfl, rfl, rfl, fun _ => rfl, by rw [hq]; rfl, fun h => by rw [hq] at h; cases h⟩
            rcases sim_end hs l with ⟨e1, _⟩ | ⟨p, p0, e1, _, _, _, _, _, e5, _⟩
            · rw [e1]; decide
            · have hov : p.over = true := by rw [e5]; rfl
              rw [e1, fin_over hov]
              decide
          have := over_stays ⟨all ||| span n k, 0, 0, 0, false, (false || true)⟩ b rfl
          unfold parseFrom at h
          rw [h] at this
          exact this rfl
/-- What a text of runs costs. -/
theorem runs_cost (m : Nat) (l : List Nat) : (joinL (l.map (seg m))).length + 1 ≤ (l.map fun p => wt p + if p < endOf m p then wt (endOf m p) else 0).sum + 1 ∧ (l ≠ [] → (joinL (l.map (seg m))).length + 1 ≤ (l.map fun p => wt p + if p < endOf m p then wt (endOf m p) else 0).sum) := by
  have hseg : ∀ p, (seg m p).length + 1 = wt p + if p < endOf m p then wt (endOf m p) else 0 := fun p => by
    unfold seg wt
    split <;> simp <;> omega
  induction l with
  | nil => exact ⟨by simp [joinL], fun h => absurd rfl h⟩
  | cons p l ih =>
    have : (joinL ((p :: l).map (seg m))).length + 1 ≤ ((p :: l).map fun p => wt p + if p < endOf m p then wt (endOf m p) else 0).sum := by
      cases l with
      | nil => simp [joinL, hseg p]
      | cons q l =>
        show (seg m p ++ 44 :: joinL ((q :: l).map (seg m))).length + 1 ≤ (wt p + if p < endOf m p then wt (endOf m p) else 0) + ((q :: l).map fun p => wt p + if p < endOf m p then wt (endOf m p) else 0).sum
        have := ih.2 (by simp)
        have hp := hseg p
        rw [List.length_append, List.length_cons]
        omega
    exact ⟨by omega, fun _ => this⟩
def sumTo (Q : Nat → Bool) : Nat → Nat
  | 0 => 0
  | v + 1 => sumTo Q v + if Q v = true then wt v else 0
theorem sum_desc (Q : Nat → Bool) (k : Nat) (L : List Nat) (h : L.Pairwise (· > ·)) (hl : ∀ x ∈ L, x < k ∧ Q x = true) : (L.map wt).sum ≤ sumTo Q k := by
  induction k generalizing L with
  | zero =>
    cases L with
    | nil => simp
    | cons x L => have := (hl x (by simp)).1; omega
  | succ k ih =>
    unfold sumTo
    cases L with
    | nil => simp
    | cons x L =>
      rw [List.pairwise_cons] at h
      by_cases e : x = k
      · subst e
        rw [if_pos (hl x (by simp)).2]
        have := ih L h.2 fun y hy => ⟨h.1 y hy, (hl y (by simp [hy])).2⟩
        rw [List.map_cons, List.sum_cons]
        omega
      · have := ih (x :: L) (List.pairwise_cons.2 h) fun y hy => ⟨by
          have hx := (hl x (by simp)).1
          rcases List.mem_cons.1 hy with rfl | hy
          · omega
          · have := h.1 y hy; omega, (hl y hy).2⟩
        omega
theorem cost_parts (m k : Nat) : costTo m k = sumTo (startB m) k + sumTo (fun v => endB m v && !startB m v) k := by
  induction k with
  | zero => rfl
  | succ k ih =>
    unfold costTo sumTo edgeB
    rw [ih]
    cases startB m k <;> cases endB m k <;> simp <;> omega
theorem sum_two (m : Nat) (l : List Nat) : (l.map fun p => wt p + if p < endOf m p then wt (endOf m p) else 0).sum = (l.map wt).sum + (((l.filter fun p => decide (p < endOf m p)).map (endOf m)).map wt).sum := by
  induction l with
  | nil => rfl
  | cons p l ih =>
    rw [List.map_cons, List.sum_cons, ih, List.map_cons, List.sum_cons]
    by_cases h : p < endOf m p
    · rw [if_pos h, List.filter_cons, if_pos (by simpa using h), List.map_cons, List.map_cons, List.sum_cons]; omega
    · rw [if_neg h, List.filter_cons, if_neg (by simpa using h)]; omega
theorem end_before {m : Nat} (hm : m < 18446744073709551616) {p q : Nat} (hp : startB m p = true) (hq : startB m q = true) (h : p < q) : endOf m p < q := by
  have hpb : m.testBit p = true := by unfold startB at hp; simp at hp; exact hp.1
  obtain ⟨_, _, h3, _⟩ := endOf_spec hm hpb
  unfold startB at hq
  simp at hq
  rcases Nat.lt_or_ge (endOf m p) q with g | g
  · exact g
  · have := h3 (q - 1) (by omega) (by omega)
    rcases hq.2 with e | e
    · omega
    · rw [this] at e; cases e
theorem sum_rev (l : List Nat) : (l.reverse.map wt).sum = (l.map wt).sum := by rw [List.map_reverse, List.sum_reverse]
theorem text_cost {m : Nat} (hm : m < 18446744073709551616) (h0 : m ≠ 0) : (textL m).length + 1 ≤ cost m := by
  have h1 := (runs_cost m (starts m)).2 fun e => h0 ((starts_nil hm).1 e)
  have hs : (starts m).Pairwise (· < ·) := List.Pairwise.filter _ List.pairwise_lt_range
  have hst : ∀ p ∈ starts m, startB m p = true := fun p hp => (mem_starts.1 hp).2
  have h2 : ((starts m).map wt).sum ≤ sumTo (startB m) 64 := by
    rw [← sum_rev]
    refine sum_desc _ 64 _ (List.pairwise_reverse.2 hs) fun x hx => ?_
    exact mem_starts.1 (List.mem_reverse.1 hx)
  have h3 : ((((starts m).filter fun p => decide (p < endOf m p)).map (endOf m)).map wt).sum ≤ sumTo (fun v => endB m v && !startB m v) 64 := by
    rw [← sum_rev]
    refine sum_desc _ 64 _ (List.pairwise_reverse.2 ?_) fun x hx => ?_
    · refine List.pairwise_map.2 ((List.Pairwise.filter _ hs).imp_of_mem fun {p q} hp hq hpq => ?_)
      have hp1 := hst p (List.mem_filter.1 hp).1
      have hq1 := hst q (List.mem_filter.1 hq).1
      have := end_before hm hp1 hq1 hpq
      have := (endOf_spec hm (starts_bit q (List.mem_filter.1 hq).1)).1
      show endOf m p < endOf m q
      omega
    · obtain ⟨p, hp, rfl⟩ := List.mem_map.1 (List.mem_reverse.1 hx)
      obtain ⟨hp1, hp2⟩ := List.mem_filter.1 hp
      obtain ⟨g1, g2, g3, g4⟩ := endOf_spec hm (starts_bit p hp1)
      simp only [decide_eq_true_eq] at hp2
      refine ⟨g2, ?_⟩
      have e1 := g3 (endOf m p) g1 (Nat.le_refl _)
      have e2 := g3 (endOf m p - 1) (by omega) (by omega)
      unfold endB startB
      rw [e1, e2, g4]
      simp
      omega
  unfold cost
  rw [cost_parts]
  rw [sum_two] at h1
  unfold textL
  omega
/-- The text of what was read is no longer. -/
theorem parse_short {l : List Nat} {m : Nat} (h : parseL l = (m, 0)) (hm : m < 18446744073709551616) : (textL m).length ≤ l.length := by
  by_cases h0 : m = 0
  · rw [(textL_nil hm).2 h0]; exact Nat.zero_le _
  · have hl : l ≠ [] := fun e => by rw [e] at h; unfold parseL at h; rw [if_pos rfl] at h; injection h with h; exact h0 h.symm
    rw [parseL_from hl] at h
    have h1 := parse_cost l 0 m h
    have h2 := text_cost hm h0
    have h3 : cost 0 = 0 := by decide +kernel
    omega
end Go.Proofs.YtdbhdjjepgdomaaDoor
