/- Plain words on sets of numbers below 64, and on the reading of a text, byte by byte and part by part. No condition. Plain words on a set's text: its runs, that the text is read as the set, and that no text of the set is shorter. No condition. Plain words on a set's runs, one by one: the lowest number, how far its run goes, and what is left. No condition. -/
import Derived.WalkKit
import Derived.Lib.TrailingZeros
import Derived.Lib.ItoaNum
import Derived.Laws.BitsAllLaws
namespace Go.Proofs.YtcboopkalpmglaaDoor
set_option linter.unusedVariables false
/-! ### Sets -/
/-- All from a to b that are below k. -/
def spanTo (a b : Nat) : Nat → Nat
  | 0 => 0
  | p + 1 => spanTo a b p + if a ≤ p ∧ p ≤ b then 2 ^ p else 0
def span (a b : Nat) : Nat := spanTo a b 64
theorem spanTo_lt (a b k : Nat) : spanTo a b k < 2 ^ k := by
  induction k with
  | zero => simp [spanTo]
  | succ p ih => unfold spanTo; have : 2 ^ (p + 1) = 2 ^ p + 2 ^ p := by rw [Nat.pow_succ]; omega
                 split <;> omega
theorem or_pow {x p : Nat} (h : x < 2 ^ p) : x + 2 ^ p = x ||| 2 ^ p := by
  rw [Nat.add_comm, Nat.or_comm]
  have := Nat.two_pow_add_eq_or_of_lt h 1
  simpa using this
theorem spanTo_bit (a b k p : Nat) : (spanTo a b k).testBit p = (decide (p < k) && (decide (a ≤ p) && decide (p ≤ b))) := by
  induction k with
  | zero => simp [spanTo]
  | succ k ih =>
    unfold spanTo
    by_cases h : a ≤ k ∧ k ≤ b
    · rw [if_pos h, or_pow (spanTo_lt a b k), Nat.testBit_or, ih, Nat.testBit_two_pow]
      rw [Bool.eq_iff_iff]
      simp only [Bool.or_eq_true, Bool.and_eq_true, decide_eq_true_eq]
      omega
    · rw [if_neg h, Nat.add_zero, ih, Bool.eq_iff_iff]
      simp only [Bool.and_eq_true, decide_eq_true_eq]
      omega
theorem span_bit (a b p : Nat) : (span a b).testBit p = (decide (p < 64) && (decide (a ≤ p) && decide (p ≤ b))) := spanTo_bit a b 64 p
theorem span_lt (a b : Nat) : span a b < 18446744073709551616 := spanTo_lt a b 64
theorem or_lt {x y : Nat} (hx : x < 18446744073709551616) (hy : y < 18446744073709551616) : x ||| y < 18446744073709551616 := Nat.or_lt_two_pow (n := 64) hx hy
theorem high_bit {m p : Nat} (hm : m < 18446744073709551616) (hp : 64 ≤ p) : m.testBit p = false := Nat.testBit_lt_two_pow (Nat.lt_of_lt_of_le (show m < 2 ^ 64 from hm) (Nat.pow_le_pow_right (by omega) hp))
/-! ### A text, byte by byte -/
/-- What was read of a text. -/
structure Rdg where
  set : Nat
  fr : Nat
  n : Nat
  figs : Nat
  dashed : Bool
  over : Bool
def figure (r : Rdg) (c : Nat) : Option Rdg := if r.figs = 2 ∨ (r.figs = 1 ∧ r.n = 0) then none else some { r with n := 10 * r.n + (c - 48), figs := r.figs + 1 }
def numd (r : Rdg) : Rdg := { r with over := r.over || decide (64 ≤ r.n), figs := 0 }
def partSet (r : Rdg) (f : Nat) (o : Bool) : Rdg := { set := if o = true then r.set else r.set ||| span f r.n, fr := f, n := 0, figs := 0, dashed := false, over := o }
def part (r : Rdg) : Option Rdg :=
  if r.figs = 0 then none else
    some (partSet r (if r.dashed = true then r.fr else r.n) ((r.over || decide (64 ≤ r.n)) || decide (r.n < if r.dashed = true then r.fr else r.n)))
def take1 (r : Rdg) (c : Nat) : Option Rdg :=
  if 48 ≤ c ∧ c ≤ 57 then figure r c
  else if c = 44 then part r
  else if c = 45 ∧ r.dashed = false ∧ r.figs ≠ 0 then some { numd r with fr := r.n, n := 0, dashed := true }
  else none
def runL : Rdg → List Nat → Option Rdg
  | r, [] => some r
  | r, c :: l => (take1 r c).bind fun q => runL q l
def rd0 : Rdg := ⟨0, 0, 0, 0, false, false⟩
def fin : Option Rdg → Nat × Nat
  | none => (0, 11)
  | some r => if r.over = true then (0, 1) else (r.set, 0)
theorem fin_over {q : Rdg} (h : q.over = true) : fin (some q) = (0, 1) := if_pos h
theorem fin_ok {q : Rdg} (h : q.over = false) : fin (some q) = (q.set, 0) := if_neg (by rw [h]; decide)
theorem fin_none : fin none = (0, 11) := rfl
def parseL (l : List Nat) : Nat × Nat := if l = [] then (0, 0) else fin ((runL rd0 l).bind part)
theorem runL_append (r : Rdg) (x y : List Nat) : runL r (x ++ y) = (runL r x).bind fun q => runL q y := by
  induction x generalizing r with
  | nil => rfl
  | cons c x ih =>
    show ((take1 r c).bind fun q => runL q (x ++ y)) = _
    rw [runL, Option.bind_assoc]
    congr 1
    funext q
    exact ih q
/-- Two readings that go alike: the first one had S and o besides. -/
def Sim (o : Bool) (S : Nat) (r r0 : Rdg) : Prop := r.n = r0.n ∧ r.figs = r0.figs ∧ r.dashed = r0.dashed ∧ (r0.dashed = true → r.fr = r0.fr) ∧ r.over = (o || r0.over) ∧ (r.over = false → r.set = S ||| r0.set)
def SimO (o : Bool) (S : Nat) (a b : Option Rdg) : Prop := (a = none ∧ b = none) ∨ ∃ q q0, a = some q ∧ b = some q0 ∧ Sim o S q q0
theorem sim_part {o : Bool} {S : Nat} {r r0 : Rdg} (h : Sim o S r r0) : SimO o S (part r) (part r0) := by
  obtain ⟨h1, h2, h3, h4, h5, h6⟩ := h
  unfold part
  rw [h2]
  by_cases h0 : r0.figs = 0
  · rw [if_pos h0, if_pos h0]; exact .inl ⟨rfl, rfl⟩
  · rw [if_neg h0, if_neg h0]
    have hf : (if r.dashed = true then r.fr else r.n) = (if r0.dashed = true then r0.fr else r0.n) := by
      rw [h3, h1]
      by_cases hd : r0.dashed = true
      · rw [if_pos hd, if_pos hd]; exact h4 hd
      · rw [if_neg hd, if_neg hd]
    rw [hf, h1, h5]
    generalize (if r0.dashed = true then r0.fr else r0.n) = f
    refine .inr ⟨_, _, rfl, rfl, ?_⟩
    unfold partSet
    refine ⟨rfl, rfl, rfl, (fun h => by cases h), by simp [Bool.or_assoc], fun ho => ?_⟩
    have hov : ((o || r0.over || decide (64 ≤ r0.n)) || decide (r0.n < f)) = false := ho
    have ho' : ((r0.over || decide (64 ≤ r0.n)) || decide (r0.n < f)) = false := by
      cases o <;> simp_all
    have hr : r.over = false := by
      rw [h5]
      cases o <;> simp_all
    show (if _ = true then r.set else r.set ||| span f r.n) = S ||| (if _ = true then r0.set else r0.set ||| span f r0.n)
    rw [hov, ho', h6 hr, h1]
    simp [Nat.or_assoc]
theorem sim_take {o : Bool} {S : Nat} {r r0 : Rdg} (h : Sim o S r r0) (c : Nat) : SimO o S (take1 r c) (take1 r0 c) := by
  unfold take1
  by_cases c1 : 48 ≤ c ∧ c ≤ 57
  · rw [if_pos c1, if_pos c1]
    obtain ⟨h1, h2, h3, h4, h5, h6⟩ := h
    unfold figure
    rw [h1, h2]
    by_cases g : r0.figs = 2 ∨ (r0.figs = 1 ∧ r0.n = 0)
    · rw [if_pos g, if_pos g]; exact .inl ⟨rfl, rfl⟩
    · rw [if_neg g, if_neg g]; exact .inr ⟨_, _, rfl, rfl, rfl, rfl, h3, h4, h5, h6⟩
  · rw [if_neg c1, if_neg c1]
    by_cases c2 : c = 44
    · rw [if_pos c2, if_pos c2]; exact sim_part h
    · rw [if_neg c2, if_neg c2]
      obtain ⟨h1, h2, h3, h4, h5, h6⟩ := h
      rw [h3, h2]
      by_cases g : c = 45 ∧ r0.dashed = false ∧ r0.figs ≠ 0
      · rw [if_pos g, if_pos g]
        refine .inr ⟨_, _, rfl, rfl, rfl, rfl, rfl, fun _ => h1, ?_, fun ho => ?_⟩
        · show (r.over || decide (64 ≤ r.n)) = (o || (r0.over || decide (64 ≤ r0.n)))
          rw [h5, h1, Bool.or_assoc]
        · have hov : (r.over || decide (64 ≤ r.n)) = false := ho
          have : r.over = false := by cases h : r.over <;> simp_all
          exact h6 this
      · rw [if_neg g, if_neg g]; exact .inl ⟨rfl, rfl⟩
theorem sim_run {o : Bool} {S : Nat} {r r0 : Rdg} (h : Sim o S r r0) (l : List Nat) : SimO o S (runL r l) (runL r0 l) := by
  induction l generalizing r r0 with
  | nil => exact .inr ⟨_, _, rfl, rfl, h⟩
  | cons c l ih =>
    unfold runL
    rcases sim_take h c with ⟨e1, e2⟩ | ⟨q, q0, e1, e2, hq⟩
    · rw [e1, e2]; exact .inl ⟨rfl, rfl⟩
    · rw [e1, e2]; exact ih hq
theorem sim_end {o : Bool} {S : Nat} {r r0 : Rdg} (h : Sim o S r r0) (l : List Nat) : SimO o S ((runL r l).bind part) ((runL r0 l).bind part) := by
  rcases sim_run h l with ⟨e1, e2⟩ | ⟨q, q0, e1, e2, hq⟩
  · rw [e1, e2]; exact .inl ⟨rfl, rfl⟩
  · rw [e1, e2]; exact sim_part hq
/-! ### Part by part -/
def numberL : List Nat → Option Nat
  | [a] => if 48 ≤ a ∧ a ≤ 57 then some (a - 48) else none
  | [a, b] => if a ≠ 48 ∧ (48 ≤ a ∧ a ≤ 57) ∧ (48 ≤ b ∧ b ≤ 57) then some (10 * (a - 48) + (b - 48)) else none
  | _ => none
/-- A text at the first one of a byte. -/
def splitL (c : Nat) : List Nat → List Nat × Option (List Nat)
  | [] => ([], none)
  | x :: l => if x = c then ([], some l) else (x :: (splitL c l).1, (splitL c l).2)
theorem splitL_not (c : Nat) (l : List Nat) : ∀ x ∈ (splitL c l).1, x ≠ c := by
  induction l with
  | nil => intro x hx; cases hx
  | cons y l ih =>
    unfold splitL
    by_cases h : y = c
    · rw [if_pos h]; intro x hx; cases hx
    · rw [if_neg h]
      intro x hx
      rcases List.mem_cons.1 hx with rfl | hx
      · exact h
      · exact ih x hx
theorem splitL_join (c : Nat) (l : List Nat) : l = (splitL c l).1 ++ (match (splitL c l).2 with | none => [] | some r => c :: r) := by
  induction l with
  | nil => rfl
  | cons y l ih =>
    unfold splitL
    by_cases h : y = c
    · rw [if_pos h, h]; rfl
    · rw [if_neg h]
      show y :: l = y :: ((splitL c l).1 ++ _)
      rw [← ih]
theorem splitL_none {c : Nat} {l : List Nat} (h : (splitL c l).2 = none) : (splitL c l).1 = l := by
  have := splitL_join c l
  rw [h] at this
  simpa using this.symm
theorem splitL_some {c : Nat} {l b : List Nat} (h : (splitL c l).2 = some b) : l = (splitL c l).1 ++ c :: b := by
  have := splitL_join c l
  rw [h] at this
  exact this
theorem splitL_of_not {c : Nat} {l : List Nat} (h : ∀ x ∈ l, x ≠ c) : splitL c l = (l, none) := by
  induction l with
  | nil => rfl
  | cons y l ih =>
    unfold splitL
    rw [if_neg (h y (by simp)), ih fun x hx => h x (by simp [hx])]
theorem splitL_of {c : Nat} {a b : List Nat} (h : ∀ x ∈ a, x ≠ c) : splitL c (a ++ c :: b) = (a, some b) := by
  induction a with
  | nil => simp [splitL]
  | cons y l ih =>
    show splitL c (y :: (l ++ c :: b)) = _
    unfold splitL
    rw [if_neg (h y (by simp)), ih fun x hx => h x (by simp [hx])]
def partL (s : List Nat) : Option (Nat × Nat) :=
  match (splitL 45 s).2 with
  | none => (numberL (splitL 45 s).1).map fun n => (n, n)
  | some b => (numberL (splitL 45 s).1).bind fun n => (numberL b).map fun m => (n, m)
def beyond (n m : Nat) : Bool := decide (63 < n) || (decide (63 < m) || decide (m < n))
theorem run_num {r : Rdg} (hf : r.figs = 0) (hn : r.n = 0) {a : List Nat} (h : ∀ c ∈ a, c ≠ 44 ∧ c ≠ 45) :
    (∃ v, numberL a = some v ∧ v < 100 ∧ runL r a = some { r with n := v, figs := a.length } ∧ a.length ≠ 0) ∨ (numberL a = none ∧ (a = [] ∨ runL r a = none)) := by
  have bad : ∀ (q : Rdg) (c : Nat), c ≠ 44 ∧ c ≠ 45 → ¬ (48 ≤ c ∧ c ≤ 57) → take1 q c = none := fun q c hc h1 => by
    unfold take1; rw [if_neg h1, if_neg hc.1, if_neg fun h => hc.2 h.1]
  match a, h with
  | [], _ => exact .inr ⟨rfl, .inl rfl⟩
  | [x], h =>
    by_cases hx : 48 ≤ x ∧ x ≤ 57
    · refine .inl ⟨x - 48, by simp [numberL, hx], by omega, ?_, by simp⟩
      simp [runL, take1, hx, figure, hf, hn]
    · refine .inr ⟨by simp only [numberL, if_neg hx], .inr ?_⟩
      unfold runL; rw [bad r x (h x (by simp)) hx]; rfl
  | x :: y :: l, h =>
    by_cases hx : 48 ≤ x ∧ x ≤ 57
    · have e1 : runL r (x :: y :: l) = runL { r with n := x - 48, figs := 1 } (y :: l) := by
        rw [runL]; simp [take1, hx, figure, hf, hn]
      by_cases hy : 48 ≤ y ∧ y ≤ 57
      · by_cases h0 : x = 48
        · refine .inr ⟨?_, .inr ?_⟩
          · cases l with
            | nil => simp [numberL, h0]
            | cons z l => rfl
          · rw [e1, runL]; simp [take1, hy, figure, h0]
        · have e2 : runL r (x :: y :: l) = runL { r with n := 10 * (x - 48) + (y - 48), figs := 2 } l := by
            rw [e1, runL]; simp [take1, hy, figure]
            rw [if_neg (by omega)]; rfl
          cases l with
          | nil => exact .inl ⟨10 * (x - 48) + (y - 48), by simp [numberL, hx, hy, h0], by omega, by rw [e2]; rfl, by simp⟩
          | cons z l =>
            refine .inr ⟨rfl, .inr ?_⟩
            rw [e2, runL]
            by_cases hz : 48 ≤ z ∧ z ≤ 57
            · simp [take1, hz, figure]
            · rw [bad _ z (h z (by simp)) hz]; rfl
      · refine .inr ⟨?_, .inr ?_⟩
        · cases l with
          | nil => simp [numberL, hy]
          | cons z l => rfl
        · rw [e1, runL, bad _ y (h y (by simp)) hy]; rfl
    · refine .inr ⟨?_, .inr ?_⟩
      · cases l with
        | nil => simp [numberL, hx]
        | cons z l => rfl
      · rw [runL, bad _ x (h x (by simp)) hx]; rfl
theorem numberL_in {a : List Nat} {v : Nat} (h : numberL a = some v) : ∀ x ∈ a, 48 ≤ x ∧ x ≤ 57 := by
  match a, h with
  | [x], h =>
    simp only [numberL] at h
    by_cases hx : 48 ≤ x ∧ x ≤ 57
    · intro y hy; simp at hy; subst hy; exact hx
    · rw [if_neg hx] at h; cases h
  | [x, y], h =>
    simp only [numberL] at h
    by_cases hx : x ≠ 48 ∧ (48 ≤ x ∧ x ≤ 57) ∧ (48 ≤ y ∧ y ≤ 57)
    · intro z hz; simp at hz; rcases hz with rfl | rfl
      · exact hx.2.1
      · exact hx.2.2
    · rw [if_neg hx] at h; cases h
def Clean (r : Rdg) : Prop := r.figs = 0 ∧ r.n = 0 ∧ r.dashed = false
theorem run_part {r : Rdg} (hc : Clean r) {seg : List Nat} (h : ∀ c ∈ seg, c ≠ 44) :
    (partL seg = none ∧ (runL r seg).bind part = none) ∨ ∃ n m q, partL seg = some (n, m) ∧ n < 100 ∧ m < 100 ∧ (runL r seg).bind part = some q ∧ Clean q ∧ q.over = (r.over || beyond n m) ∧ (q.over = false → q.set = r.set ||| span n m) := by
  obtain ⟨hf, hn, hd⟩ := hc
  have hnot := splitL_not 45 seg
  have hmem : ∀ x ∈ (splitL 45 seg).1, x ≠ 44 ∧ x ≠ 45 := fun x hx => ⟨h x (by rw [splitL_join 45 seg]; simp [hx]), hnot x hx⟩
  have partE : ∀ (q : Rdg), q.figs = 0 → part q = none := fun q e => by unfold part; rw [if_pos e]
  cases hs : (splitL 45 seg).2 with
  | none =>
    have e := splitL_none hs
    rw [e] at hmem
    unfold partL
    rw [hs]
    simp only [e]
    rcases run_num hf hn hmem with ⟨v, h1, h2, h3, h4⟩ | ⟨h1, h2 | h2⟩
    · refine .inr ⟨v, v, _, by rw [h1]; rfl, h2, h2, by rw [h3]; show part _ = _; unfold part; rw [if_neg h4], ⟨rfl, rfl, rfl⟩, ?_, ?_⟩
      · simp only [partSet, hd]
        unfold beyond
        rw [Bool.eq_iff_iff]
        cases r.over <;> simp
        omega
      · intro ho
        simp only [partSet, hd] at ho ⊢
        rw [ho]
        simp
    · exact .inl ⟨by rw [h1]; rfl, by rw [h2]; exact partE r hf⟩
    · exact .inl ⟨by rw [h1]; rfl, by rw [h2]; rfl⟩
  | some b =>
    have e := splitL_some hs
    generalize (splitL 45 seg).1 = a at *
    have hp : partL seg = (numberL a).bind fun n => (numberL b).map fun m => (n, m) := by
      unfold partL
      have e2 : splitL 45 seg = (a, some b) := by rw [e]; exact splitL_of hnot
      rw [e2]
    rw [hp, e, runL_append]
    rcases run_num hf hn hmem with ⟨v, h1, h2, h3, h4⟩ | ⟨h1, h2 | h2⟩
    · rw [h1, h3]
      have e3 : runL { r with n := v, figs := a.length } (45 :: b) = runL { r with n := 0, figs := 0, fr := v, dashed := true, over := r.over || decide (64 ≤ v) } b := by
        rw [runL]
        unfold take1
        rw [if_neg (by omega), if_neg (by omega), if_pos ⟨rfl, hd, h4⟩]
        rfl
      show ((numberL b).map fun m => (v, m)) = none ∧ (runL _ (45 :: b)).bind part = none ∨ ∃ n m q, ((numberL b).map fun m => (v, m)) = some (n, m) ∧ _ ∧ _ ∧ (runL _ (45 :: b)).bind part = some q ∧ _
      rw [e3]
      have h44 : ∀ x ∈ b, x ≠ 44 := fun x hx => h x (by rw [e]; simp [hx])
      by_cases h45 : ∀ x ∈ b, x ≠ 45
      · have hm2 : ∀ x ∈ b, x ≠ 44 ∧ x ≠ 45 := fun x hx => ⟨h44 x hx, h45 x hx⟩
        rcases run_num (r := { r with n := 0, figs := 0, fr := v, dashed := true, over := r.over || decide (64 ≤ v) }) rfl rfl hm2 with ⟨k, g1, g2, g3, g4⟩ | ⟨g1, g2 | g2⟩
        · refine .inr ⟨v, k, _, by rw [g1]; rfl, h2, g2, by rw [g3]; show part _ = _; unfold part; rw [if_neg g4], ⟨rfl, rfl, rfl⟩, ?_, ?_⟩
          · simp only [partSet]
            unfold beyond
            rw [Bool.eq_iff_iff]
            cases r.over <;> simp
            omega
          · intro ho
            simp only [partSet] at ho ⊢
            rw [ho]
            simp
        · exact .inl ⟨by rw [g1]; rfl, by rw [g2]; exact partE _ rfl⟩
        · exact .inl ⟨by rw [g1]; rfl, by rw [g2]; rfl⟩
      · refine .inl ⟨?_, ?_⟩
        · cases hb : numberL b with
          | none => rfl
          | some k =>
            exact absurd (fun x hx => by have := numberL_in hb x hx; omega) h45
        · have hs2 : (splitL 45 b).2 ≠ none := fun hs2 => h45 fun x hx => by
            have := splitL_not 45 b; rw [splitL_none hs2] at this; exact this x hx
          obtain ⟨b2, hb2⟩ := Option.ne_none_iff_exists'.1 hs2
          have e4 := splitL_some hb2
          have hm3 : ∀ x ∈ (splitL 45 b).1, x ≠ 44 ∧ x ≠ 45 := fun x hx => ⟨h44 x (by rw [splitL_join 45 b]; simp [hx]), splitL_not 45 b x hx⟩
          generalize (splitL 45 b).1 = b1 at e4 hm3
          rw [e4, runL_append]
          have stop : ∀ (q : Rdg), q.dashed = true → runL q (45 :: b2) = none := fun q hq => by
            rw [runL]
            unfold take1
            rw [if_neg (by omega), if_neg (by omega), if_neg (by rw [hq]; simp)]
            rfl
          rcases run_num (r := { r with n := 0, figs := 0, fr := v, dashed := true, over := r.over || decide (64 ≤ v) }) rfl rfl hm3 with ⟨k, g1, g2, g3, g4⟩ | ⟨g1, g2 | g2⟩
          · rw [g3, Option.bind_some, stop _ rfl]; rfl
          · rw [g2, runL, Option.bind_some, stop _ rfl]; rfl
          · rw [g2]; rfl
    · refine .inl ⟨by rw [h1]; rfl, ?_⟩
      rw [h2]
      show (runL r (45 :: b)).bind part = none
      rw [runL]
      unfold take1
      rw [if_neg (by omega), if_neg (by omega), if_neg (by simp [hf])]
      rfl
    · exact .inl ⟨by rw [h1]; rfl, by rw [h2]; rfl⟩
/-- What a text gives behind parts that gave 'all'. -/
def parseFrom (all : Nat) (over : Bool) (l : List Nat) : Nat × Nat := fin ((runL ⟨all, 0, 0, 0, false, over⟩ l).bind part)
theorem fin_sim {a b : Option Rdg} (h : SimO false 0 a b) : fin a = fin b := by
  rcases h with ⟨rfl, rfl⟩ | ⟨q, q0, rfl, rfl, h1, h2, h3, h4, h5, h6⟩
  · rfl
  · rw [Bool.false_or] at h5
    cases ho : q0.over
    · rw [fin_ok ho, fin_ok (h5.trans ho), h6 (h5.trans ho), Nat.zero_or]
    · rw [fin_over ho, fin_over (h5.trans ho)]
theorem parse_rest {q : Rdg} (hc : Clean q) {S : Nat} (hS : q.over = false → q.set = S) (l : List Nat) : fin ((runL q l).bind part) = parseFrom S q.over l := by
  obtain ⟨h1, h2, h3⟩ := hc
  exact fin_sim (sim_end ⟨h2, h1, h3, (fun h => by cases h), (by simp), fun ho => by rw [Nat.zero_or]; exact hS ho⟩ l)
theorem parse_more (all : Nat) (over : Bool) {l b : List Nat} (h : (splitL 44 l).2 = some b) :
    (partL (splitL 44 l).1 = none ∧ parseFrom all over l = (0, 11)) ∨ ∃ n m, partL (splitL 44 l).1 = some (n, m) ∧ n < 100 ∧ m < 100 ∧ parseFrom all over l = parseFrom (all ||| span n m) (over || beyond n m) b := by
  have e := splitL_some h
  have hn := splitL_not 44 l
  generalize (splitL 44 l).1 = a at e hn
  subst e
  have t44 : ∀ q : Rdg, take1 q 44 = part q := fun q => by unfold take1; rw [if_neg (by omega), if_pos rfl]
  have e2 : ∀ r : Rdg, runL r (a ++ 44 :: b) = ((runL r a).bind part).bind fun q => runL q b := fun r => by
    rw [runL_append, Option.bind_assoc]
    congr 1
  unfold parseFrom
  rw [e2]
  rcases run_part (r := ⟨all, 0, 0, 0, false, over⟩) ⟨rfl, rfl, rfl⟩ hn with ⟨h1, h2⟩ | ⟨n, m, q, h1, h2, h3, h4, h5, h6, h7⟩
  · exact .inl ⟨h1, by rw [h2]; rfl⟩
  · refine .inr ⟨n, m, h1, h2, h3, ?_⟩
    rw [h4]
    show fin ((runL q b).bind part) = _
    rw [parse_rest h5 h7, h6]
    rfl
theorem parse_last (all : Nat) (over : Bool) {l : List Nat} (h : (splitL 44 l).2 = none) :
    (partL (splitL 44 l).1 = none ∧ parseFrom all over l = (0, 11)) ∨ ∃ n m, partL (splitL 44 l).1 = some (n, m) ∧ n < 100 ∧ m < 100 ∧ parseFrom all over l = if (over || beyond n m) = true then (0, 1) else (all ||| span n m, 0) := by
  have e := splitL_none h
  have hn := splitL_not 44 l
  rw [e] at hn ⊢
  unfold parseFrom
  rcases run_part (r := ⟨all, 0, 0, 0, false, over⟩) ⟨rfl, rfl, rfl⟩ hn with ⟨h1, h2⟩ | ⟨n, m, q, h1, h2, h3, h4, h5, h6, h7⟩
  · exact .inl ⟨h1, by rw [h2]; rfl⟩
  · refine .inr ⟨n, m, h1, h2, h3, ?_⟩
    rw [h4]
    have h6' : q.over = (over || beyond n m) := h6
    rw [← h6']
    cases ho : q.over
    · rw [fin_ok ho, if_neg (by decide), h7 ho]
    · rw [fin_over ho, if_pos rfl]
theorem parseL_from {l : List Nat} (h : l ≠ []) : parseL l = parseFrom 0 false l := by unfold parseL; rw [if_neg h]; rfl
/-! ### What a reading is -/
theorem parseL_cases (l : List Nat) : parseL l = (0, 11) ∨ parseL l = (0, 1) ∨ ∃ m, parseL l = (m, 0) := by
  unfold parseL
  by_cases h : l = []
  · rw [if_pos h]; exact .inr (.inr ⟨_, rfl⟩)
  · rw [if_neg h]
    cases (runL rd0 l).bind part with
    | none => exact .inl rfl
    | some q =>
      by_cases ho : q.over = true
      · exact .inr (.inl (by simp [fin, ho]))
      · exact .inr (.inr ⟨q.set, by simp [fin, ho]⟩)
theorem part_clean {r q : Rdg} (h : part r = some q) : Clean q := by
  unfold part at h
  by_cases h0 : r.figs = 0
  · rw [if_pos h0] at h; cases h
  · rw [if_neg h0] at h
    injection h with h
    subst h
    exact ⟨rfl, rfl, rfl⟩
/-- Two texts with a comma between. -/
theorem parse_join (a b : List Nat) : if (parseL a).2 = 0 ∧ (parseL b).2 = 0 ∧ a ≠ [] ∧ b ≠ [] then parseL (a ++ 44 :: b) = ((parseL a).1 ||| (parseL b).1, 0) else (parseL (a ++ 44 :: b)).2 ≠ 0 := by
  have t44 : ∀ q : Rdg, take1 q 44 = part q := fun q => by unfold take1; rw [if_neg (by omega), if_pos rfl]
  have e2 : runL rd0 (a ++ 44 :: b) = ((runL rd0 a).bind part).bind fun q => runL q b := by
    rw [runL_append, Option.bind_assoc]
    congr 1
  have e3 : parseL (a ++ 44 :: b) = fin ((((runL rd0 a).bind part).bind fun q => runL q b).bind part) := by
    unfold parseL; rw [if_neg (by simp), e2]
  have ea : a ≠ [] → parseL a = fin ((runL rd0 a).bind part) := fun h => by unfold parseL; rw [if_neg h]
  have eb : b ≠ [] → parseL b = fin ((runL rd0 b).bind part) := fun h => by unfold parseL; rw [if_neg h]
  have none' : ∀ o, o = none → (fin o).2 ≠ 0 := fun o h => by subst h; decide
  rw [e3]
  by_cases ha : a = []
  · subst ha
    rw [if_neg (by simp)]
    exact none' _ rfl
  · rw [ea ha]
    cases hA : (runL rd0 a).bind part with
    | none => rw [if_neg (by simp [fin])]; exact none' _ rfl
    | some q =>
      show if _ then fin ((runL q b).bind part) = _ else (fin ((runL q b).bind part)).2 ≠ 0
      have hq : Clean q := by
        cases hr : runL rd0 a with
        | none => rw [hr] at hA; cases hA
        | some r => rw [hr] at hA; exact part_clean hA
      have sim : Sim q.over q.set q rd0 := ⟨hq.2.1, hq.1, hq.2.2, (fun h => by cases h), by simp [rd0], fun _ => by simp [rd0]⟩
      by_cases hb : b = []
      · subst hb
        rw [if_neg (by simp)]
        exact none' _ (by show part q = none; unfold part; rw [if_pos hq.1])
      · rw [eb hb]
        rcases sim_end sim b with ⟨e4, e5⟩ | ⟨p, p0, e4, e5, h1, h2, h3, h4, h5, h6⟩
        · rw [e4, e5, if_neg (by simp [fin])]; exact none' _ rfl
        · rw [e4, e5]
          cases hqo : q.over
          · cases hpo : p0.over
            · have hov : p.over = false := by rw [h5, hqo, hpo]; rfl
              rw [fin_ok hqo, fin_ok hpo, fin_ok hov, if_pos ⟨rfl, rfl, ha, hb⟩, h6 hov]
            · have hov : p.over = true := by rw [h5, hpo, hqo]; rfl
              rw [fin_over hpo, fin_over hov, if_neg (by simp)]
              decide
          · have hov : p.over = true := by rw [h5, hqo]; rfl
            rw [fin_over hqo, fin_over hov, if_neg (by simp)]
            decide
end Go.Proofs.YtcboopkalpmglaaDoor
namespace Go.Proofs.YtcboopkalpmglaaDoor
set_option linter.unusedVariables false
def figL (n : Nat) : List Nat := if n < 10 then [48 + n] else [48 + n / 10, 48 + n % 10]
theorem number_figL {n : Nat} (h : n < 100) : numberL (figL n) = some n := by
  have := (by decide +kernel : ∀ n : Fin 100, numberL (figL n.val) = some n.val) ⟨n, h⟩
  exact this
theorem figL_of_number {a : List Nat} {v : Nat} (h : numberL a = some v) : a = figL v := by
  match a, h with
  | [x], h =>
    simp only [numberL] at h
    by_cases hx : 48 ≤ x ∧ x ≤ 57
    · rw [if_pos hx] at h; injection h with h; subst h
      unfold figL; rw [if_pos (by omega)]; congr 1; omega
    · rw [if_neg hx] at h; cases h
  | [x, y], h =>
    simp only [numberL] at h
    by_cases hx : x ≠ 48 ∧ (48 ≤ x ∧ x ≤ 57) ∧ (48 ≤ y ∧ y ≤ 57)
    · rw [if_pos hx] at h; injection h with h; subst h
      unfold figL; rw [if_neg (by omega)]
      have h1 : 48 + (10 * (x - 48) + (y - 48)) / 10 = x := by omega
      have h2 : 48 + (10 * (x - 48) + (y - 48)) % 10 = y := by omega
      rw [h1, h2]
    · rw [if_neg hx] at h; cases h
theorem figL_in (n : Nat) (hn : n < 100) : ∀ x ∈ figL n, 48 ≤ x ∧ x ≤ 57 := numberL_in (number_figL hn)
/-- Ends of a run. -/
def startB (m p : Nat) : Bool := m.testBit p && (p == 0 || !m.testBit (p - 1))
def endB (m p : Nat) : Bool := m.testBit p && !m.testBit (p + 1)
/-- How far a run goes. -/
def endFrom (m : Nat) : Nat → Nat → Nat
  | 0, t => t
  | f + 1, t => if m.testBit (t + 1) = true then endFrom m f (t + 1) else t
def endOf (m p : Nat) : Nat := endFrom m 64 p
theorem endFrom_spec (m f t : Nat) (hf : m.testBit (t + f + 1) = false) : t ≤ endFrom m f t ∧ endFrom m f t ≤ t + f ∧ (∀ q, t < q → q ≤ endFrom m f t → m.testBit q = true) ∧ m.testBit (endFrom m f t + 1) = false := by
  induction f generalizing t with
  | zero => exact ⟨Nat.le_refl _, Nat.le_refl _, fun q h1 h2 => by simp [endFrom] at h2; omega, by simpa [endFrom] using hf⟩
  | succ f ih =>
    unfold endFrom
    by_cases h : m.testBit (t + 1) = true
    · rw [if_pos h]
      obtain ⟨h1, h2, h3, h4⟩ := ih (t + 1) (by rw [← hf]; congr 1; omega)
      refine ⟨by omega, by omega, fun q g1 g2 => ?_, h4⟩
      by_cases e : q = t + 1
      · rw [e]; exact h
      · exact h3 q (by omega) g2
    · rw [if_neg h]
      exact ⟨Nat.le_refl _, by omega, fun q g1 g2 => by omega, by simpa using h⟩
theorem endOf_spec {m p : Nat} (hm : m < 18446744073709551616) (hp : m.testBit p = true) : p ≤ endOf m p ∧ endOf m p < 64 ∧ (∀ q, p ≤ q → q ≤ endOf m p → m.testBit q = true) ∧ m.testBit (endOf m p + 1) = false := by
  have hp64 : p < 64 := by
    rcases Nat.lt_or_ge p 64 with h | h
    · exact h
    · rw [high_bit hm h] at hp; cases hp
  obtain ⟨h1, h2, h3, h4⟩ := endFrom_spec m 64 p (high_bit hm (by omega))
  have hin : ∀ q, p ≤ q → q ≤ endOf m p → m.testBit q = true := fun q g1 g2 => by
    by_cases e : q = p
    · rw [e]; exact hp
    · exact h3 q (by omega) g2
  refine ⟨h1, ?_, hin, h4⟩
  rcases Nat.lt_or_ge (endOf m p) 64 with h | h
  · exact h
  · have := hin (endOf m p) h1 (Nat.le_refl _); rw [high_bit hm h] at this; cases this
/-- The end is the only one. -/
theorem endOf_eq {m p e : Nat} (hm : m < 18446744073709551616) (hpe : p ≤ e) (h : ∀ q, p ≤ q → q ≤ e → m.testBit q = true) (he : m.testBit (e + 1) = false) : endOf m p = e := by
  obtain ⟨h1, h2, h3, h4⟩ := endOf_spec hm (h p (Nat.le_refl _) hpe)
  rcases Nat.lt_trichotomy (endOf m p) e with g | g | g
  · rw [h (endOf m p + 1) (by omega) (by omega)] at h4; cases h4
  · exact g
  · rw [h3 (e + 1) (by omega) (by omega)] at he; cases he
def starts (m : Nat) : List Nat := (List.range 64).filter (startB m)
def seg (m p : Nat) : List Nat := if p < endOf m p then figL p ++ 45 :: figL (endOf m p) else figL p
def joinL : List (List Nat) → List Nat
  | [] => []
  | [s] => s
  | s :: t :: l => s ++ 44 :: joinL (t :: l)
def textL (m : Nat) : List Nat := joinL ((starts m).map (seg m))
theorem joinL_snoc (l : List (List Nat)) (s : List Nat) : joinL (l ++ [s]) = if l = [] then s else joinL l ++ 44 :: s := by
  induction l with
  | nil => rfl
  | cons x l ih =>
    cases l with
    | nil => rfl
    | cons y l =>
      show x ++ 44 :: joinL (y :: l ++ [s]) = (x ++ 44 :: joinL (y :: l)) ++ 44 :: s
      rw [ih, if_neg (by simp)]
      simp
theorem seg_not {m p : Nat} (hm : m < 18446744073709551616) (hp : m.testBit p = true) : ∀ x ∈ seg m p, x ≠ 44 := by
  obtain ⟨h1, h2, _, _⟩ := endOf_spec hm hp
  have f1 := figL_in p (by omega)
  have f2 := figL_in (endOf m p) (by omega)
  intro x hx
  unfold seg at hx
  by_cases h : p < endOf m p
  · rw [if_pos h] at hx
    rcases List.mem_append.1 hx with hx | hx
    · have := f1 x hx; omega
    · rcases List.mem_cons.1 hx with rfl | hx
      · omega
      · have := f2 x hx; omega
  · rw [if_neg h] at hx
    have := f1 x hx; omega
theorem partL_seg {m p : Nat} (hm : m < 18446744073709551616) (hp : m.testBit p = true) : partL (seg m p) = some (p, endOf m p) := by
  obtain ⟨h1, h2, _, _⟩ := endOf_spec hm hp
  have f1 := figL_in p (by omega)
  unfold seg
  by_cases h : p < endOf m p
  · rw [if_pos h]
    unfold partL
    rw [splitL_of (c := 45) fun x hx => by have := f1 x hx; omega]
    show ((numberL (figL p)).bind fun n => (numberL (figL (endOf m p))).map fun m => (n, m)) = _
    rw [number_figL (by omega), number_figL (by omega)]
    rfl
  · rw [if_neg h]
    unfold partL
    rw [splitL_of_not (c := 45) fun x hx => by have := f1 x hx; omega]
    show (numberL (figL p)).map (fun n => (n, n)) = _
    rw [number_figL (by omega)]
    have : endOf m p = p := by omega
    rw [this]
    rfl
/-- A row of runs is read as all of them. -/
theorem parse_runs {m : Nat} (hm : m < 18446744073709551616) (l : List Nat) (hl : ∀ p ∈ l, m.testBit p = true) (h0 : l ≠ []) (all : Nat) :
    parseFrom all false (joinL (l.map (seg m))) = (l.foldl (fun s p => s ||| span p (endOf m p)) all, 0) := by
  induction l generalizing all with
  | nil => exact absurd rfl h0
  | cons p l ih =>
    have hp := hl p (by simp)
    obtain ⟨h1, h2, _, _⟩ := endOf_spec hm hp
    have hb : beyond p (endOf m p) = false := by unfold beyond; simp; omega
    have hseg := partL_seg hm hp
    have hnot := seg_not hm hp
    cases l with
    | nil =>
      show parseFrom all false (seg m p) = _
      have hs : splitL 44 (seg m p) = (seg m p, none) := splitL_of_not hnot
      rcases parse_last all false (l := seg m p) (by rw [hs]) with ⟨g1, g2⟩ | ⟨n, k, g1, g2, g3, g4⟩
      · rw [hs] at g1; rw [hseg] at g1; cases g1
      · rw [hs] at g1
        simp only [hseg, Option.some.injEq, Prod.mk.injEq] at g1
        obtain ⟨rfl, rfl⟩ := g1
        rw [g4, hb]
        rfl
    | cons q l =>
      show parseFrom all false (seg m p ++ 44 :: joinL ((q :: l).map (seg m))) = _
      have hs : splitL 44 (seg m p ++ 44 :: joinL ((q :: l).map (seg m))) = (seg m p, some (joinL ((q :: l).map (seg m)))) := splitL_of hnot
      rcases parse_more all false (l := seg m p ++ 44 :: joinL ((q :: l).map (seg m))) (by rw [hs]) with ⟨g1, g2⟩ | ⟨n, k, g1, g2, g3, g4⟩
      · rw [hs] at g1; rw [hseg] at g1; cases g1
      · rw [hs] at g1
        simp only [hseg, Option.some.injEq, Prod.mk.injEq] at g1
        obtain ⟨rfl, rfl⟩ := g1
        rw [g4, hb]
        exact ih (fun x hx => hl x (by simp [hx])) (by simp) _
theorem fold_bit (m : Nat) (l : List Nat) (all q : Nat) : (l.foldl (fun s p => s ||| span p (endOf m p)) all).testBit q = (all.testBit q || l.any fun p => (span p (endOf m p)).testBit q) := by
  induction l generalizing all with
  | nil => simp
  | cons p l ih => rw [List.foldl_cons, ih, Nat.testBit_or, List.any_cons, Bool.or_assoc]
theorem mem_starts {m p : Nat} : p ∈ starts m ↔ p < 64 ∧ startB m p = true := by simp [starts]
/-- Each number of a set lies in a run. -/
theorem start_below {m : Nat} (q : Nat) (hq : m.testBit q = true) : ∃ p, p ≤ q ∧ startB m p = true ∧ ∀ x, p ≤ x → x ≤ q → m.testBit x = true := by
  induction q with
  | zero => exact ⟨0, Nat.le_refl _, by unfold startB; rw [hq]; rfl, fun x h1 h2 => (show x = 0 by omega) ▸ hq⟩
  | succ q ih =>
    by_cases h : m.testBit q = true
    · obtain ⟨p, h1, h2, h3⟩ := ih h
      refine ⟨p, by omega, h2, fun x g1 g2 => ?_⟩
      by_cases e : x = q + 1
      · rw [e]; exact hq
      · exact h3 x g1 (by omega)
    · refine ⟨q + 1, Nat.le_refl _, ?_, fun x g1 g2 => (show x = q + 1 by omega) ▸ hq⟩
      unfold startB
      rw [hq]
      simp at h
      simp [h]
theorem runs_all {m : Nat} (hm : m < 18446744073709551616) : (starts m).foldl (fun s p => s ||| span p (endOf m p)) 0 = m := by
  refine Nat.eq_of_testBit_eq fun q => ?_
  rw [fold_bit, Nat.zero_testBit, Bool.false_or, Bool.eq_iff_iff, List.any_eq_true]
  constructor
  · rintro ⟨p, hp, hb⟩
    obtain ⟨h1, h2⟩ := mem_starts.1 hp
    rw [span_bit] at hb
    simp at hb
    have hpb : m.testBit p = true := by unfold startB at h2; simp at h2; exact h2.1
    exact (endOf_spec hm hpb).2.2.1 q hb.2.1 hb.2.2
  · intro hq
    obtain ⟨p, h1, h2, h3⟩ := start_below q hq
    have hpb : m.testBit p = true := h3 p (Nat.le_refl _) h1
    obtain ⟨g1, g2, g3, g4⟩ := endOf_spec hm hpb
    have hq64 : q < 64 := by
      rcases Nat.lt_or_ge q 64 with h | h
      · exact h
      · rw [high_bit hm h] at hq; cases hq
    refine ⟨p, mem_starts.2 ⟨by omega, h2⟩, ?_⟩
    rw [span_bit]
    have : q ≤ endOf m p := by
      rcases Nat.lt_or_ge (endOf m p) q with h | h
      · rw [h3 (endOf m p + 1) (by omega) (by omega)] at g4; cases g4
      · exact h
    simp
    omega
theorem starts_bit {m : Nat} : ∀ p ∈ starts m, m.testBit p = true := fun p hp => by
  have h2 := (mem_starts.1 hp).2
  unfold startB at h2
  simp at h2
  exact h2.1
theorem starts_nil {m : Nat} (hm : m < 18446744073709551616) : starts m = [] ↔ m = 0 := by
  constructor
  · intro h
    have := runs_all hm
    rw [h] at this
    exact this.symm
  · rintro rfl
    refine List.eq_nil_iff_forall_not_mem.2 fun p hp => ?_
    have := starts_bit p hp
    simp at this
theorem seg_ne (m p : Nat) : seg m p ≠ [] := by
  unfold seg figL
  split <;> split <;> simp
theorem joinL_nil {l : List (List Nat)} (h : ∀ s ∈ l, s ≠ []) : joinL l = [] ↔ l = [] := by
  match l, h with
  | [], _ => simp [joinL]
  | [s], h => simp [joinL, h s (by simp)]
  | s :: t :: l, h => simp [joinL]
theorem textL_nil {m : Nat} (hm : m < 18446744073709551616) : textL m = [] ↔ m = 0 := by
  unfold textL
  rw [joinL_nil (fun s hs => by obtain ⟨p, _, rfl⟩ := List.mem_map.1 hs; exact seg_ne m p), List.map_eq_nil_iff, starts_nil hm]
/-- A set's text is read as it. -/
theorem parse_text {m : Nat} (hm : m < 18446744073709551616) : parseL (textL m) = (m, 0) := by
  by_cases h0 : m = 0
  · rw [(textL_nil hm).2 h0, h0]; rfl
  · rw [parseL_from (fun e => h0 ((textL_nil hm).1 e))]
    unfold textL
    rw [parse_runs hm (starts m) starts_bit (fun e => h0 ((starts_nil hm).1 e)) 0, runs_all hm]
/-! ### No text is shorter -/
def wt (v : Nat) : Nat := (figL v).length + 1
def edgeB (m v : Nat) : Bool := startB m v || endB m v
def costTo (m : Nat) : Nat → Nat
  | 0 => 0
  | v + 1 => costTo m v + if edgeB m v = true then wt v else 0
def cost (m : Nat) : Nat := costTo m 64
theorem edge_or {a b v : Nat} (h : edgeB (a ||| b) v = true) : edgeB a v = true ∨ edgeB b v = true := by
  unfold edgeB startB endB at *
  simp only [Nat.testBit_or, Bool.or_eq_true, Bool.and_eq_true, Bool.not_eq_true', Bool.or_eq_false_iff, beq_iff_eq] at *
  rcases h with ⟨h1 | h1, h2⟩ | ⟨h1 | h1, h2⟩
  · exact .inl (.inl ⟨h1, h2.imp id fun h => h.1⟩)
  · exact .inr (.inl ⟨h1, h2.imp id fun h => h.2⟩)
  · exact .inl (.inr ⟨h1, h2.1⟩)
  · exact .inr (.inr ⟨h1, h2.2⟩)
theorem edge_span {n m v : Nat} (hm : m ≤ 63) (h : edgeB (span n m) v = true) : v = n ∨ v = m := by
  unfold edgeB startB endB at h
  simp only [span_bit, Bool.or_eq_true, Bool.and_eq_true, Bool.not_eq_true', decide_eq_true_eq, beq_iff_eq, Bool.and_eq_false_iff, decide_eq_false_iff_not] at h
  omega
theorem costTo_or (a n m k : Nat) (hnm : n ≤ m) (hm : m ≤ 63) : costTo (a ||| span n m) k ≤ costTo a k + ((if n < k then wt n else 0) + if n < m ∧ m < k then wt m else 0) := by
  induction k with
  | zero => simp [costTo]
  | succ k ih =>
    unfold costTo
    by_cases h : edgeB (a ||| span n m) k = true
    · rw [if_pos h]
      by_cases ha : edgeB a k = true
      · rw [if_pos ha]
        have h1 : (if n < k then wt n else 0) ≤ (if n < k + 1 then wt n else 0) := by split <;> split <;> omega
        have h2 : (if n < m ∧ m < k then wt m else 0) ≤ (if n < m ∧ m < k + 1 then wt m else 0) := by split <;> split <;> omega
        omega
      · rw [if_neg ha]
        rcases edge_or h with g | g
        · exact absurd g ha
        · rcases edge_span hm g with rfl | rfl
          · rw [if_neg (Nat.lt_irrefl _)] at ih
            rw [if_pos (Nat.lt_succ_self _)]
            have h2 : (if k < m ∧ m < k then wt m else 0) ≤ (if k < m ∧ m < k + 1 then wt m else 0) := by split <;> split <;> omega
            omega
          · by_cases e : n = k
            · subst e
              rw [if_neg (Nat.lt_irrefl _)] at ih
              rw [if_pos (Nat.lt_succ_self _)]
              have h2 : (if n < n ∧ n < n then wt n else 0) = 0 := if_neg (by omega)
              omega
            · have h1 : (if n < k then wt n else 0) ≤ (if n < k + 1 then wt n else 0) := by split <;> split <;> omega
              have h2 : (if n < k ∧ k < k then wt k else 0) = 0 := if_neg (by omega)
              have h3 : (if n < k ∧ k < k + 1 then wt k else 0) = wt k := if_pos (by omega)
              omega
    · rw [if_neg h]
      have h1 : (if n < k then wt n else 0) ≤ (if n < k + 1 then wt n else 0) := by split <;> split <;> omega
      have h2 : (if n < m ∧ m < k then wt m else 0) ≤ (if n < m ∧ m < k + 1 then wt m else 0) := by split <;> split <;> omega
      omega
theorem part_len {s : List Nat} {n m : Nat} (h : partL s = some (n, m)) : wt n + (if n < m then wt m else 0) ≤ s.length + 1 := by
  unfold partL at h
  have hj := splitL_join 45 s
  cases hs : (splitL 45 s).2 with
  | none =>
    rw [hs] at h hj
    simp only [Option.map_eq_some_iff, Prod.mk.injEq] at h
    obtain ⟨v, h1, rfl, rfl⟩ := h
    rw [if_neg (Nat.lt_irrefl _), hj, figL_of_number h1]
    simp [wt]
  | some b =>
    rw [hs] at h hj
    simp only [Option.bind_eq_some_iff, Option.map_eq_some_iff, Prod.mk.injEq] at h
    obtain ⟨v, h1, k, h2, rfl, rfl⟩ := h
    rw [hj, figL_of_number h1, figL_of_number h2]
    simp only [List.length_append, List.length_cons, wt]
    split <;> omega
theorem parse_cost (l : List Nat) (all m : Nat) (h : parseFrom all false l = (m, 0)) : cost m ≤ cost all + (l.length + 1) := by
  induction hk : l.length using Nat.strongRecOn generalizing l all with
  | _ k ih =>
    subst hk
    have hj := splitL_join 44 l
    have key : ∀ n k, partL (splitL 44 l).1 = some (n, k) → beyond n k = false → cost (all ||| span n k) ≤ cost all + ((splitL 44 l).1.length + 1) := fun n k h1 hb => by
      have h2 := part_len h1
      unfold beyond at hb
      simp at hb
      have h3 := costTo_or all n k 64 (by omega) (by omega)
      rw [if_pos (by omega)] at h3
      unfold cost
      by_cases g : n < k
      · rw [if_pos ⟨g, by omega⟩] at h3
        rw [if_pos g] at h2
        omega
      · rw [if_neg (by omega)] at h3
        rw [if_neg g] at h2
        omega
    cases hs : (splitL 44 l).2 with
    | none =>
      rw [hs] at hj
      rcases parse_last all false hs with ⟨_, g2⟩ | ⟨n, k, g1, _, _, g4⟩
      · rw [g2] at h; cases h
      · rw [g4] at h
        cases hb : beyond n k
        · rw [hb] at h
          simp only [Bool.or_self, Bool.false_eq_true, if_false, Prod.mk.injEq, and_true] at h
          subst h
          have := key n k g1 hb
          rw [splitL_none hs] at this
          exact this
        · rw [hb] at h
          simp at h
    | some b =>
      rw [hs] at hj
      have hl : l.length = (splitL 44 l).1.length + (b.length + 1) := by
        have := congrArg List.length hj
        simpa using this
      rcases parse_more all false hs with ⟨_, g2⟩ | ⟨n, k, g1, _, _, g4⟩
      · rw [g2] at h; cases h
      · rw [g4] at h
        cases hb : beyond n k
        · rw [hb] at h
          have h1 := ih b.length (by omega) b _ h rfl
          have h2 := key n k g1 hb
          omega
        · rw [hb] at h
          exfalso
          have over_stays : ∀ (q : Rdg) (l : List Nat), q.over = true → (fin ((runL q l).bind part)).2 ≠ 0 := fun q l hq => by
            have hs : Sim true q.set q { q with over := false } := ⟨rfl, rfl, rfl, fun _ => rfl, by rw [hq]; rfl, fun h => by rw [hq] at h; cases h⟩
            rcases sim_end hs l with ⟨e1, _⟩ | ⟨p, p0, e1, _, _, _, _, _, e5, _⟩
            · rw [e1]; decide
            · have hov : p.over = true := by rw [e5]; rfl
              rw [e1, fin_over hov]
              decide
          have := over_stays ⟨all ||| span n k, 0, 0, 0, false, (false || true)⟩ b rfl
          unfold parseFrom at h
          rw [h] at this
          exact this rfl
/-- What a text of runs costs. -/
theorem runs_cost (m : Nat) (l : List Nat) : (joinL (l.map (seg m))).length + 1 ≤ (l.map fun p => wt p + if p < endOf m p then wt (endOf m p) else 0).sum + 1 ∧ (l ≠ [] → (joinL (l.map (seg m))).length + 1 ≤ (l.map fun p => wt p + if p < endOf m p then wt (endOf m p) else 0).sum) := by
  have hseg : ∀ p, (seg m p).length + 1 = wt p + if p < endOf m p then wt (endOf m p) else 0 := fun p => by
    unfold seg wt
    split <;> simp <;> omega
  induction l with
  | nil => exact ⟨by simp [joinL], fun h => absurd rfl h⟩
  | cons p l ih =>
    have : (joinL ((p :: l).map (seg m))).length + 1 ≤ ((p :: l).map fun p => wt p + if p < endOf m p then wt (endOf m p) else 0).sum := by
      cases l with
      | nil => simp [joinL, hseg p]
      | cons q l =>
        show (seg m p ++ 44 :: joinL ((q :: l).map (seg m))).length + 1 ≤ (wt p + if p < endOf m p then wt (endOf m p) else 0) + ((q :: l).map fun p => wt p + if p < endOf m p then wt (endOf m p) else 0).sum
        have := ih.2 (by simp)
        have hp := hseg p
        rw [List.length_append, List.length_cons]
        omega
    exact ⟨by omega, fun _ => this⟩
def sumTo (Q : Nat → Bool) : Nat → Nat
  | 0 => 0
  | v + 1 => sumTo Q v + if Q v = true then wt v else 0
theorem sum_desc (Q : Nat → Bool) (k : Nat) (L : List Nat) (h : L.Pairwise (· > ·)) (hl : ∀ x ∈ L, x < k ∧ Q x = true) : (L.map wt).sum ≤ sumTo Q k := by
  induction k generalizing L with
  | zero =>
    cases L with
    | nil => simp
    | cons x L => have := (hl x (by simp)).1; omega
  | succ k ih =>
    unfold sumTo
    cases L with
    | nil => simp
    | cons x L =>
      rw [List.pairwise_cons] at h
      by_cases e : x = k
      · subst e
        rw [if_pos (hl x (by simp)).2]
        have := ih L h.2 fun y hy => ⟨h.1 y hy, (hl y (by simp [hy])).2⟩
        rw [List.map_cons, List.sum_cons]
        omega
      · have := ih (x :: L) (List.pairwise_cons.2 h) fun y hy => ⟨by
          have hx := (hl x (by simp)).1
          rcases List.mem_cons.1 hy with rfl | hy
          · omega
          · have := h.1 y hy; omega, (hl y hy).2⟩
        omega
theorem cost_parts (m k : Nat) : costTo m k = sumTo (startB m) k + sumTo (fun v => endB m v && !startB m v) k := by
  induction k with
  | zero => rfl
  | succ k ih =>
    unfold costTo sumTo edgeB
    rw [ih]
    cases startB m k <;> cases endB m k <;> simp <;> omega
theorem sum_two (m : Nat) (l : List Nat) : (l.map fun p => wt p + if p < endOf m p then wt (endOf m p) else 0).sum = (l.map wt).sum + (((l.filter fun p => decide (p < endOf m p)).map (endOf m)).map wt).sum := by
  induction l with
  | nil => rfl
  | cons p l ih =>
    rw [List.map_cons, List.sum_cons, ih, List.map_cons, List.sum_cons]
    by_cases h : p < endOf m p
    · rw [if_pos h, List.filter_cons, if_pos (by simpa using h), List.map_cons, List.map_cons, List.sum_cons]; omega
    · rw [if_neg h, List.filter_cons, if_neg (by simpa using h)]; omega
theorem end_before {m : Nat} (hm : m < 18446744073709551616) {p q : Nat} (hp : startB m p = true) (hq : startB m q = true) (h : p < q) : endOf m p < q := by
  have hpb : m.testBit p = true := by unfold startB at hp; simp at hp; exact hp.1
  obtain ⟨_, _, h3, _⟩ := endOf_spec hm hpb
  unfold startB at hq
  simp at hq
  rcases Nat.lt_or_ge (endOf m p) q with g | g
  · exact g
  · have := h3 (q - 1) (by omega) (by omega)
    rcases hq.2 with e | e
    · omega
    · rw [this] at e; cases e
theorem sum_rev (l : List Nat) : (l.reverse.map wt).sum = (l.map wt).sum := by rw [List.map_reverse, List.sum_reverse]
theorem text_cost {m : Nat} (hm : m < 18446744073709551616) (h0 : m ≠ 0) : (textL m).length + 1 ≤ cost m := by
  have h1 := (runs_cost m (starts m)).2 fun e => h0 ((starts_nil hm).1 e)
  have hs : (starts m).Pairwise (· < ·) := List.Pairwise.filter _ List.pairwise_lt_range
  have hst : ∀ p ∈ starts m, startB m p = true := fun p hp => (mem_starts.1 hp).2
  have h2 : ((starts m).map wt).sum ≤ sumTo (startB m) 64 := by
    rw [← sum_rev]
    refine sum_desc _ 64 _ (List.pairwise_reverse.2 hs) fun x hx => ?_
    exact mem_starts.1 (List.mem_reverse.1 hx)
  have h3 : ((((starts m).filter fun p => decide (p < endOf m p)).map (endOf m)).map wt).sum ≤ sumTo (fun v => endB m v && !startB m v) 64 := by
    rw [← sum_rev]
    refine sum_desc _ 64 _ (List.pairwise_reverse.2 ?_) fun x hx => ?_
    · refine List.pairwise_map.2 ((List.Pairwise.filter _ hs).imp_of_mem fun {p q} hp hq hpq => ?_)
      have hp1 := hst p (List.mem_filter.1 hp).1
      have hq1 := hst q (List.mem_filter.1 hq).1
      have := end_before hm hp1 hq1 hpq
      have := (endOf_spec hm (starts_bit q (List.mem_filter.1 hq).1)).1
      show endOf m p < endOf m q
      omega
    · obtain ⟨p, hp, rfl⟩ := List.mem_map.1 (List.mem_reverse.1 hx)
      obtain ⟨hp1, hp2⟩ := List.mem_filter.1 hp
      obtain ⟨g1, g2, g3, g4⟩ := endOf_spec hm (starts_bit p hp1)
      simp only [decide_eq_true_eq] at hp2
      refine ⟨g2, ?_⟩
      have e1 := g3 (endOf m p) g1 (Nat.le_refl _)
      have e2 := g3 (endOf m p - 1) (by omega) (by omega)
      unfold endB startB
      rw [e1, e2, g4]
      simp
      omega
  unfold cost
  rw [cost_parts]
  rw [sum_two] at h1
  unfold textL
  omega
/-- The text of what was read is no longer. -/
theorem parse_short {l : List Nat} {m : Nat} (h : parseL l = (m, 0)) (hm : m < 18446744073709551616) : (textL m).length ≤ l.length := by
  by_cases h0 : m = 0
  · rw [(textL_nil hm).2 h0]; exact Nat.zero_le _
  · have hl : l ≠ [] := fun e => by rw [e] at h; unfold parseL at h; rw [if_pos rfl] at h; injection h with h; exact h0 h.symm
    rw [parseL_from hl] at h
    have h1 := parse_cost l 0 m h
    have h2 := text_cost hm h0
    have h3 : cost 0 = 0 := by decide +kernel
    omega
end Go.Proofs.YtcboopkalpmglaaDoor
namespace Go.Proofs.YtcboopkalpmglaaDoor
set_option linter.unusedVariables false
theorem ctz_bits {n x : Nat} (h0 : x ≠ 0) (h : x < 2 ^ n) : Lib.ctz n x < n ∧ x.testBit (Lib.ctz n x) = true ∧ ∀ i, i < Lib.ctz n x → x.testBit i = false := by
  unfold Lib.ctz
  rw [if_neg h0]
  obtain ⟨m, hm, hk⟩ := Lib.ctzFrom_spec n x (by omega) h
  generalize Lib.ctzFrom n x = k at hm hk
  refine ⟨hk, ?_, fun i hi => ?_⟩
  · rw [hm, Nat.mul_comm, Nat.testBit_mul_two_pow]
    simp
  · rw [hm, Nat.mul_comm, Nat.testBit_mul_two_pow]
    simp
    omega
/-- What a run takes away. -/
def gone (n f : Nat) : Nat := (2 ^ n - 1) * 2 ^ f
theorem gone_bit (n f i : Nat) : (gone n f).testBit i = (decide (f ≤ i) && decide (i < f + n)) := by
  unfold gone
  rw [Nat.testBit_mul_two_pow, Nat.testBit_two_pow_sub_one, Bool.eq_iff_iff]
  simp
  omega
theorem gone_lt {n f : Nat} (h : f + n ≤ 64) : gone n f < 18446744073709551616 := by
  refine Nat.lt_of_lt_of_le (?_ : gone n f < 2 ^ (f + n)) (Nat.pow_le_pow_right (by omega) h)
  unfold gone
  have h1 : 0 < 2 ^ n := Nat.two_pow_pos n
  have h2 : 0 < 2 ^ f := Nat.two_pow_pos f
  rw [Nat.pow_add, Nat.mul_comm (2 ^ f)]
  exact Nat.mul_lt_mul_of_pos_right (by omega) h2
theorem filter_first {P Q : Nat → Bool} {f : Nat} (hf : P f = true) (hlo : ∀ p, p < f → P p = false) (hQ : ∀ p, Q p = (decide (f < p) && P p)) : ∀ n, f < n → (List.range n).filter P = f :: (List.range n).filter Q := by
  intro n
  induction n with
  | zero => intro h; omega
  | succ n ih =>
    intro h
    rw [List.range_succ, List.filter_append, List.filter_append]
    by_cases e : f = n
    · subst e
      have h1 : (List.range f).filter P = [] := List.filter_eq_nil_iff.2 fun p hp => by rw [hlo p (List.mem_range.1 hp)]; decide
      have h2 : (List.range f).filter Q = [] := List.filter_eq_nil_iff.2 fun p hp => by rw [hQ, hlo p (List.mem_range.1 hp)]; simp
      rw [h1, h2]
      simp [hf, hQ]
    · rw [ih (by omega)]
      have : Q n = P n := by rw [hQ]; simp; omega
      simp [List.filter_cons, this]
/-- The first run of a set, and the rest. -/
structure Step (m f n m' : Nat) : Prop where
  f64 : f < 64
  n0 : 0 < n
  fn : f + n ≤ 64
  ende : endOf m f = f + n - 1
  runs : starts m = f :: starts m'
  segs : (starts m).map (seg m) = seg m f :: (starts m').map (seg m')
  lt : m' < m
theorem step_of {m f n m' : Nat} (hm : m < 18446744073709551616) (hf : f < 64) (hn : 0 < n) (hfn : f + n ≤ 64) (h1 : ∀ i, f ≤ i → i < f + n → m.testBit i = true) (h2 : m.testBit (f + n) = false) (h3 : ∀ i, i < f → m.testBit i = false) (h4 : ∀ i, m'.testBit i = (m.testBit i && !(gone n f).testBit i)) : Step m f n m' := by
  have hb : m.testBit f = true := h1 f (Nat.le_refl _) (by omega)
  have he : endOf m f = f + n - 1 := endOf_eq hm (by omega) (fun q g1 g2 => h1 q g1 (by omega)) (by rw [show f + n - 1 + 1 = f + n by omega]; exact h2)
  have h5 : ∀ i, m'.testBit i = (decide (f + n ≤ i) && m.testBit i) := fun i => by
    rw [h4, gone_bit]
    by_cases g : i < f
    · rw [h3 i g]; simp
    · by_cases g2 : i < f + n
      · rw [h1 i (by omega) g2]
        have e1 : decide (f ≤ i) = true := by simp; omega
        have e2 : decide (i < f + n) = true := by simp; omega
        have e3 : decide (f + n ≤ i) = false := by simp; omega
        rw [e1, e2, e3]; rfl
      · have e2 : decide (i < f + n) = false := by simp; omega
        have e3 : decide (f + n ≤ i) = true := by simp; omega
        rw [e2, e3]; simp
  have hle : m' < 18446744073709551616 := by
    refine Nat.lt_pow_two_of_testBit (n := 64) _ fun i hi => ?_
    rw [h5, high_bit hm hi, Bool.and_false]
  have hst : ∀ p, startB m' p = (decide (f < p) && startB m p) := fun p => by
    unfold startB
    rw [h5, h5]
    by_cases g : p ≤ f
    · have g1 : decide (f + n ≤ p) = false := by simp; omega
      have g2 : decide (f < p) = false := by simp; omega
      rw [g1, g2]; rfl
    · by_cases g2 : p < f + n
      · have g1 : decide (f + n ≤ p) = false := by simp; omega
        rw [g1, h1 (p - 1) (by omega) (by omega)]
        have : (p == 0) = false := by simp; omega
        rw [this]; simp
      · by_cases g3 : p = f + n
        · rw [g3, h2]; simp
        · have g1 : decide (f + n ≤ p) = true := by simp; omega
          have g4 : decide (f + n ≤ p - 1) = true := by simp; omega
          have g5 : decide (f < p) = true := by simp; omega
          rw [g1, g4, g5]; simp
  have hsf : startB m f = true := by
    unfold startB
    rw [hb]
    by_cases e : f = 0
    · simp [e]
    · rw [h3 (f - 1) (by omega)]; simp
  have hss : starts m = f :: starts m' := filter_first hsf (fun p hp => by unfold startB; rw [h3 p hp]; rfl) hst 64 hf
  refine ⟨hf, hn, hfn, he, hss, ?_, ?_⟩
  · rw [hss, List.map_cons]
    congr 1
    refine List.map_congr_left fun p hp => ?_
    have hp2 := (mem_starts.1 hp).2
    rw [hst] at hp2
    simp at hp2
    have hpb := starts_bit p hp
    rw [h5] at hpb
    simp at hpb
    obtain ⟨g1, g2, g3, g4⟩ := endOf_spec hm hpb.2
    have : endOf m' p = endOf m p := endOf_eq hle g1 (fun q q1 q2 => by rw [h5, g3 q q1 q2]; simp; omega) (by rw [h5, g4, Bool.and_false])
    unfold seg
    rw [this]
  · have hne : m' ≠ m := fun e => by have := h5 f; rw [e, hb] at this; simp at this; omega
    have hle2 : m' ≤ m := by
      have : m' = m' &&& m := Nat.eq_of_testBit_eq fun i => by rw [Nat.testBit_and, h5]; cases m.testBit i <;> simp
      rw [this]; exact Nat.and_le_right
    omega
/-- How the program finds it. -/
theorem step_ctz {m : Nat} (hm : m < 18446744073709551616) (h0 : m ≠ 0) : Step m (Lib.ctz 64 m) (Lib.ctz 64 (18446744073709551615 - m / 2 ^ Lib.ctz 64 m)) (m &&& (18446744073709551615 - gone (Lib.ctz 64 (18446744073709551615 - m / 2 ^ Lib.ctz 64 m)) (Lib.ctz 64 m))) := by
  obtain ⟨hf, hb, hlo⟩ := ctz_bits h0 (show m < 2 ^ 64 from hm)
  generalize Lib.ctz 64 m = f at hf hb hlo
  have hy : m / 2 ^ f < 2 ^ 64 := Nat.lt_of_le_of_lt (Nat.div_le_self _ _) hm
  have hyb : ∀ i, (m / 2 ^ f).testBit i = m.testBit (f + i) := fun i => by rw [Nat.testBit_div_two_pow, Nat.add_comm]
  have hxb : ∀ i, (18446744073709551615 - m / 2 ^ f).testBit i = (decide (i < 64) && !m.testBit (f + i)) := fun i => by
    have e : 18446744073709551615 - m / 2 ^ f = 2 ^ 64 - (m / 2 ^ f + 1) := by have : (2 : Nat) ^ 64 = 18446744073709551616 := rfl; omega
    rw [e, Nat.testBit_two_pow_sub_succ hy, hyb]
  have key : 0 < Lib.ctz 64 (18446744073709551615 - m / 2 ^ f) ∧ f + Lib.ctz 64 (18446744073709551615 - m / 2 ^ f) ≤ 64 ∧ (∀ i, i < Lib.ctz 64 (18446744073709551615 - m / 2 ^ f) → m.testBit (f + i) = true) ∧ m.testBit (f + Lib.ctz 64 (18446744073709551615 - m / 2 ^ f)) = false := by
    by_cases hz : 18446744073709551615 - m / 2 ^ f = 0
    · rw [hz]
      have hall : ∀ i, i < 64 → m.testBit (f + i) = true := fun i hi => by have := hxb i; rw [hz] at this; simp at this; exact this hi
      have hf0 : f = 0 := by
        rcases Nat.eq_zero_or_pos f with h | h
        · exact h
        · have := hall 63 (by omega); rw [high_bit hm (by omega)] at this; cases this
      subst hf0
      refine ⟨by decide, by decide, fun i hi => hall i hi, ?_⟩
      exact high_bit hm (by decide)
    · obtain ⟨g1, g2, g3⟩ := ctz_bits hz (show 18446744073709551615 - m / 2 ^ f < 2 ^ 64 from Nat.lt_of_le_of_lt (Nat.sub_le _ _) (by decide))
      generalize Lib.ctz 64 (18446744073709551615 - m / 2 ^ f) = n at g1 g2 g3
      have h1 : ∀ i, i < n → m.testBit (f + i) = true := fun i hi => by have := g3 i hi; rw [hxb] at this; simp at this; exact this (by omega)
      rw [hxb] at g2
      simp at g2
      refine ⟨?_, ?_, h1, g2.2⟩
      · rcases Nat.eq_zero_or_pos n with h | h
        · subst h; rw [Nat.add_zero, hb] at g2; simp at g2
        · exact h
      · rcases Nat.lt_or_ge 64 (f + n) with h | h
        · have := h1 (n - 1) (by omega); rw [high_bit hm (by omega)] at this; cases this
        · exact h
  generalize Lib.ctz 64 (18446744073709551615 - m / 2 ^ f) = n at key
  obtain ⟨k1, k2, k3, k4⟩ := key
  refine step_of hm hf k1 k2 (fun i g1 g2 => by have := k3 (i - f) (by omega); rw [show f + (i - f) = i by omega] at this; exact this) k4 hlo fun i => ?_
  rw [Nat.testBit_and]
  have e : 18446744073709551615 - gone n f = 2 ^ 64 - (gone n f + 1) := by have : (2 : Nat) ^ 64 = 18446744073709551616 := rfl; omega
  rw [e, Nat.testBit_two_pow_sub_succ (gone_lt k2)]
  by_cases h : i < 64
  · simp [h]
  · rw [high_bit hm (by omega)]; rfl
theorem dec_figL {n : Nat} (h : n < 100) : (Lib.decDigits n).map UInt8.toNat = figL n := by
  have := (by decide +kernel : ∀ n : Fin 100, (Lib.decDigits n.val).map UInt8.toNat = figL n.val) ⟨n, h⟩
  exact this
end Go.Proofs.YtcboopkalpmglaaDoor
