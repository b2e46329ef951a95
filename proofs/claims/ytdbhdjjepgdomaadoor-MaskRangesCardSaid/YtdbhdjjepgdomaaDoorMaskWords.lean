/- Plain words on sets of numbers below 64, and on the reading of a text, byte by byte and part by part. No condition. -/
import Derived.WalkKit
namespace Go.Proofs.YtdbhdjjepgdomaaDoor
set_option linter.unusedVariables false
/-! ### Sets -/
/-- All from a to b that are below k. -/
def spanTo (a b : Nat) : Nat → Nat
  | 0 => 0
  | p + 1 => spanTo a b p + if a ≤ p ∧ p ≤ b then 2 ^ p else 0
def span (a b : Nat) : Nat := spanTo a b 64
theorem spanTo_lt (a b k : Nat) : spanTo a b k < 2 ^ k := by
  induction k with
  | zero => simp [spanTo]
  | succ p ih => unfold spanTo; have : 2 ^ (p + 1) = 2 ^ p + 2 ^ p := by rw [Nat.pow_succ]; omega
                 split <;> omega
theorem or_pow {x p : Nat} (h : x < 2 ^ p) : x + 2 ^ p = x ||| 2 ^ p := by
  rw [Nat.add_comm, Nat.or_comm]
  have := Nat.two_pow_add_eq_or_of_lt h 1
  simpa using this
theorem spanTo_bit (a b k p : Nat) : (spanTo a b k).testBit p = (decide (p < k) && (decide (a ≤ p) && decide (p ≤ b))) := by
  induction k with
  | zero => simp [spanTo]
  | succ k ih =>
    unfold spanTo
    by_cases h : a ≤ k ∧ k ≤ b
    · rw [if_pos h, or_pow (spanTo_lt a b k), Nat.testBit_or, ih, Nat.testBit_two_pow]
      rw [Bool.eq_iff_iff]
      simp only [Bool.or_eq_true, Bool.and_eq_true, decide_eq_true_eq]
      omega
    · rw [if_neg h, Nat.add_zero, ih, Bool.eq_iff_iff]
      simp only [Bool.and_eq_true, decide_eq_true_eq]
      omega
theorem span_bit (a b p : Nat) : (span a b).testBit p = (decide (p < 64) && (decide (a ≤ p) && decide (p ≤ b))) := spanTo_bit a b 64 p
theorem span_lt (a b : Nat) : span a b < 18446744073709551616 := spanTo_lt a b 64
theorem or_lt {x y : Nat} (hx : x < 18446744073709551616) (hy : y < 18446744073709551616) : x ||| y < 18446744073709551616 := Nat.or_lt_two_pow (n := 64) hx hy
theorem high_bit {m p : Nat} (hm : m < 18446744073709551616) (hp : 64 ≤ p) : m.testBit p = false := Nat.testBit_lt_two_pow (Nat.lt_of_lt_of_le (show m < 2 ^ 64 from hm) (Nat.pow_le_pow_right (by omega) hp))
/-! ### A text, byte by byte -/
/-- What was read of a text. -/
structure Rdg where
  set : Nat
  fr : Nat
  n : Nat
  figs : Nat
  dashed : Bool
  over : Bool
def figure (r : Rdg) (c : Nat) : Option Rdg := if r.figs = 2 ∨ (r.figs = 1 ∧ r.n = 0) then none else some { r with n := 10 * r.n + (c - 48), figs := r.figs + 1 }
def numd (r : Rdg) : Rdg := { r with over := r.over || decide (64 ≤ r.n), figs := 0 }
def partSet (r : Rdg) (f : Nat) (o : Bool) : Rdg := { set := if o = true then r.set else r.set ||| span f r.n, fr := f, n := 0, figs := 0, dashed := false, over := o }
def part (r : Rdg) : Option Rdg :=
  if r.figs = 0 then none else
    some (partSet r (if r.dashed = true then r.fr else r.n) ((r.over || decide (64 ≤ r.n)) || decide (r.n < if r.dashed = true then r.fr else r.n)))
def take1 (r : Rdg) (c : Nat) : Option Rdg :=
  if 48 ≤ c ∧ c ≤ 57 then figure r c
  else if c = 44 then part r
  else if c = 45 ∧ r.dashed = false ∧ r.figs ≠ 0 then some { numd r with fr := r.n, n := 0, dashed := true }
  else none
def runL : Rdg → List Nat → Option Rdg
  | r, [] => some r
  | r, c :: l => (take1 r c).bind fun q => runL q l
def rd0 : Rdg := ⟨0, 0, 0, 0, false, false⟩
def fin : Option Rdg → Nat × Nat
  | none => (0, 11)
  | some r => if r.over = true then (0, 1) else (r.set, 0)
theorem fin_over {q : Rdg} (h : q.over = true) : fin (some q) = (0, 1) := if_pos h
theorem fin_ok {q : Rdg} (h : q.over = false) : fin (some q) = (q.set, 0) := if_neg (by rw [h]; decide)
theorem fin_none : fin none = (0, 11) := rfl
def parseL (l : List Nat) : Nat × Nat := if l = [] then (0, 0) else fin ((runL rd0 l).bind part)
theorem runL_append (r : Rdg) (x y : List Nat) : runL r (x ++ y) = (runL r x).bind fun q => runL q y := by
  induction x generalizing r with
  | nil => rfl
  | cons c x ih =>
    show ((take1 r c).bind fun q => runL q (x ++ y)) = _
    rw [runL, Option.bind_assoc]
    congr 1
    funext q
    exact ih q
/-- Two readings that go alike: the first one had S and o besides. -/
def Sim (o : Bool) (S : Nat) (r r0 : Rdg) : Prop := r.n = r0.n ∧ r.figs = r0.figs ∧ r.dashed = r0.dashed ∧ (r0.dashed = true → r.fr = r0.fr) ∧ r.over = (o || r0.over) ∧ (r.over = false → r.set = S ||| r0.set)
def SimO (o : Bool) (S : Nat) (a b : Option Rdg) : Prop := (a = none ∧ b = none) ∨ ∃ q q0, a = some q ∧ b = some q0 ∧ Sim o S q q0
theorem sim_part {o : Bool} {S : Nat} {r r0 : Rdg} (h : Sim o S r r0) : SimO o S (part r) (part r0) := by
  obtain ⟨h1, h2, h3, h4, h5, h6⟩ := h
  unfold part
  rw [h2]
  by_cases h0 : r0.figs = 0
  · rw [if_pos h0, if_pos h0]; exact .inl ⟨rfl, rfl⟩
  · rw [if_neg h0, if_neg h0]
    have hf : (if r.dashed = true then r.fr else r.n) = (if r0.dashed = true then r0.fr else r0.n) := by
      rw [h3, h1]
      by_cases hd : r0.dashed = true
      · rw [if_pos hd, if_pos hd]; exact h4 hd
      · rw [if_neg hd, if_neg hd]
    rw [hf, h1, h5]
    generalize (if r0.dashed = true then r0.fr else r0.n) = f
    refine .inr ⟨_, _, rfl, rfl, ?_⟩
    unfold partSet
    refine ⟨rfl, rfl, rfl, (fun h => by cases h), by simp [Bool.or_assoc], fun ho => ?_⟩
    have hov : ((o || r0.over || decide (64 ≤ r0.n)) || decide (r0.n < f)) = false := ho
    have ho' : ((r0.over || decide (64 ≤ r0.n)) || decide (r0.n < f)) = false := by
      cases o <;> simp_all
    have hr : r.over = false := by
      rw [h5]
      cases o <;> simp_all
    show (if _ = true then r.set else r.set ||| span f r.n) = S ||| (if _ = true then r0.set else r0.set ||| span f r0.n)
    rw [hov, ho', h6 hr, h1]
    simp [Nat.or_assoc]
theorem sim_take {o : Bool} {S : Nat} {r r0 : Rdg} (h : Sim o S r r0) (c : Nat) : SimO o S (take1 r c) (take1 r0 c) := by
  unfold take1
  by_cases c1 : 48 ≤ c ∧ c ≤ 57
  · rw [if_pos c1, if_pos c1]
    obtain ⟨h1, h2, h3, h4, h5, h6⟩ := h
    unfold figure
    rw [h1, h2]
    by_cases g : r0.figs = 2 ∨ (r0.figs = 1 ∧ r0.n = 0)
    · rw [if_pos g, if_pos g]; exact .inl ⟨rfl, rfl⟩
    · rw [if_neg g, if_neg g]; exact .inr ⟨_, _, rfl, rfl, rfl, rfl, h3, h4, h5, h6⟩
  · rw [if_neg c1, if_neg c1]
    by_cases c2 : c = 44
    · rw [if_pos c2, if_pos c2]; exact sim_part h
    · rw [if_neg c2, if_neg c2]
      obtain ⟨h1, h2, h3, h4, h5, h6⟩ := h
      rw [h3, h2]
      by_cases g : c = 45 ∧ r0.dashed = false ∧ r0.figs ≠ 0
      · rw [if_pos g, if_pos g]
        refine .inr ⟨_, _, rfl, rfl, rfl, rfl, rfl, fun _ => h1, ?_, fun ho => ?_⟩
        · show (r.over || decide (64 ≤ r.n)) = (o || (r0.over || decide (64 ≤ r0.n)))
          rw [h5, h1, Bool.or_assoc]
        · have hov : (r.over || decide (64 ≤ r.n)) = false := ho
          have : r.over = false := by cases h : r.over <;> simp_all
          exact h6 this
      · rw [if_neg g, if_neg g]; exact .inl ⟨rfl, rfl⟩
theorem sim_run {o : Bool} {S : Nat} {r r0 : Rdg} (h : Sim o S r r0) (l : List Nat) : SimO o S (runL r l) (runL r0 l) := by
  induction l generalizing r r0 with
  | nil => exact .inr ⟨_, _, rfl, rfl, h⟩
  | cons c l ih =>
    unfold runL
    rcases sim_take h c with ⟨e1, e2⟩ | ⟨q, q0, e1, e2, hq⟩
    · rw [e1, e2]; exact .inl ⟨rfl, rfl⟩
    · rw [e1, e2]; exact ih hq
theorem sim_end {o : Bool} {S : Nat} {r r0 : Rdg} (h : Sim o S r r0) (l : List Nat) : SimO o S ((runL r l).bind part) ((runL r0 l).bind part) := by
  rcases sim_run h l with ⟨e1, e2⟩ | ⟨q, q0, e1, e2, hq⟩
  · rw [e1, e2]; exact .inl ⟨rfl, rfl⟩
  · rw [e1, e2]; exact sim_part hq
/-! ### Part by part -/
def numberL : List Nat → Option Nat
  | [a] => if 48 ≤ a ∧ a ≤ 57 then some (a - 48) else none
  | [a, b] => if a ≠ 48 ∧ (48 ≤ a ∧ a ≤ 57) ∧ (48 ≤ b ∧ b ≤ 57) then some (10 * (a - 48) + (b - 48)) else none
  | _ => none
/-- A text at the first one of a byte. -/
def splitL (c : Nat) : List Nat → List Nat × Option (List Nat)
  | [] => ([], none)
  | x :: l => if x = c then ([], some l) else (x :: (splitL c l).1, (splitL c l).2)
theorem splitL_not (c : Nat) (l : List Nat) : ∀ x ∈ (splitL c l).1, x ≠ c := by
  induction l with
  | nil => intro x hx; cases hx
  | cons y l ih =>
    unfold splitL
    by_cases h : y = c
    · rw [if_pos h]; intro x hx; cases hx
    · rw [if_neg h]
      intro x hx
      rcases List.mem_cons.1 hx with rfl | hx
      · exact h
      · exact ih x hx
theorem splitL_join (c : Nat) (l : List Nat) : l = (splitL c l).1 ++ (match (splitL c l).2 with | none => [] | some r => c :: r) := by
  induction l with
  | nil => rfl
  | cons y l ih =>
    unfold splitL
    by_cases h : y = c
    · rw [if_pos h, h]; rfl
    · rw [if_neg h]
      show y :: l = y :: ((splitL c l).1 ++ _)
      rw [← ih]
theorem splitL_none {c : Nat} {l : List Nat} (h : (splitL c l).2 = none) : (splitL c l).1 = l := by
  have := splitL_join c l
  rw [h] at this
  simpa using this.symm
theorem splitL_some {c : Nat} {l b : List Nat} (h : (splitL c l).2 = some b) : l = (splitL c l).1 ++ c :: b := by
  have := splitL_join c l
  rw [h] at this
  exact this
theorem splitL_of_not {c : Nat} {l : List Nat} (h : ∀ x ∈ l, x ≠ c) : splitL c l = (l, none) := by
  induction l with
  | nil => rfl
  | cons y l ih =>
    unfold splitL
    rw [if_neg (h y (by simp)), ih fun x hx => h x (by simp [hx])]
theorem splitL_of {c : Nat} {a b : List Nat} (h : ∀ x ∈ a, x ≠ c) : splitL c (a ++ c :: b) = (a, some b) := by
  induction a with
  | nil => simp [splitL]
  | cons y l ih =>
    show splitL c (y :: (l ++ c :: b)) = _
    unfold splitL
    rw [if_neg (h y (by simp)), ih fun x hx => h x (by simp [hx])]
def partL (s : List Nat) : Option (Nat × Nat) :=
  match (splitL 45 s).2 with
  | none => (numberL (splitL 45 s).1).map fun n => (n, n)
  | some b => (numberL (splitL 45 s).1).bind fun n => (numberL b).map fun m => (n, m)
def beyond (n m : Nat) : Bool := decide (63 < n) || (decide (63 < m) || decide (m < n))
theorem run_num {r : Rdg} (hf : r.figs = 0) (hn : r.n = 0) {a : List Nat} (h : ∀ c ∈ a, c ≠ 44 ∧ c ≠ 45) :
    (∃ v, numberL a = some v ∧ v < 100 ∧ runL r a = some { r with n := v, figs := a.length } ∧ a.length ≠ 0) ∨ (numberL a = none ∧ (a = [] ∨ runL r a = none)) := by
  have bad : ∀ (q : Rdg) (c : Nat), c ≠ 44 ∧ c ≠ 45 → ¬ (48 ≤ c ∧ c ≤ 57) → take1 q c = none := fun q c hc h1 => by
    unfold take1; rw [if_neg h1, if_neg hc.1, if_neg fun h => hc.2 h.1]
  match a, h with
  | [], _ => exact .inr ⟨rfl, .inl rfl⟩
  | [x], h =>
    by_cases hx : 48 ≤ x ∧ x ≤ 57
    · refine .inl ⟨x - 48, by simp [numberL, hx], by omega, ?_, by simp⟩
      simp [runL, take1, hx, figure, hf, hn]
    · refine .inr ⟨by simp only [numberL, if_neg hx], .inr ?_⟩
      unfold runL; rw [bad r x (h x (by simp)) hx]; rfl
  | x :: y :: l, h =>
    by_cases hx : 48 ≤ x ∧ x ≤ 57
    · have e1 : runL r (x :: y :: l) = runL { r with n := x - 48, figs := 1 } (y :: l) := by
        rw [runL]; simp [take1, hx, figure, hf, hn]
      by_cases hy : 48 ≤ y ∧ y ≤ 57
      · by_cases h0 : x = 48
        · refine .inr ⟨?_, .inr ?_⟩
          · cases l with
            | nil => simp [numberL, h0]
            | cons z l => rfl
          · rw [e1, runL]; simp [take1, hy, figure, h0]
        · have e2 : runL r (x :: y :: l) = runL { r with n := 10 * (x - 48) + (y - 48), figs := 2 } l := by
            rw [e1, runL]; simp [take1, hy, figure]
            rw [if_neg (by omega)]; rfl
          cases l with
          | nil => exact .inl ⟨10 * (x - 48) + (y - 48), by simp [numberL, hx, hy, h0], by omega, by rw [e2]; rfl, by simp⟩
          | cons z l =>
            refine .inr ⟨rfl, .inr ?_⟩
            rw [e2, runL]
            by_cases hz : 48 ≤ z ∧ z ≤ 57
            · simp [take1, hz, figure]
            · rw [bad _ z (h z (by simp)) hz]; rfl
      · refine .inr ⟨?_, .inr ?_⟩
        · cases l with
          | nil => simp [numberL, hy]
          | cons z l => rfl
        · rw [e1, runL, bad _ y (h y (by simp)) hy]; rfl
    · refine .inr ⟨?_, .inr ?_⟩
      · cases l with
        | nil => simp [numberL, hx]
        | cons z l => rfl
      · rw [runL, bad _ x (h x (by simp)) hx]; rfl
theorem numberL_in {a : List Nat} {v : Nat} (h : numberL a = some v) : ∀ x ∈ a, 48 ≤ x ∧ x ≤ 57 := by
  match a, h with
  | [x], h =>
    simp only [numberL] at h
    by_cases hx : 48 ≤ x ∧ x ≤ 57
    · intro y hy; simp at hy; subst hy; exact hx
    · rw [if_neg hx] at h; cases h
  | [x, y], h =>
    simp only [numberL] at h
    by_cases hx : x ≠ 48 ∧ (48 ≤ x ∧ x ≤ 57) ∧ (48 ≤ y ∧ y ≤ 57)
    · intro z hz; simp at hz; rcases hz with rfl | rfl
      · exact hx.2.1
      · exact hx.2.2
    · rw [if_neg hx] at h; cases h
def Clean (r : Rdg) : Prop := r.figs = 0 ∧ r.n = 0 ∧ r.dashed = false
theorem run_part {r : Rdg} (hc : Clean r) {seg : List Nat} (h : ∀ c ∈ seg, c ≠ 44) :
    (partL seg = none ∧ (runL r seg).bind part = none) ∨ ∃ n m q, partL seg = some (n, m) ∧ n < 100 ∧ m < 100 ∧ (runL r seg).bind part = some q ∧ Clean q ∧ q.over = (r.over || beyond n m) ∧ (q.over = false → q.set = r.set ||| span n m) := by
  obtain ⟨hf, hn, hd⟩ := hc
  have hnot := splitL_not 45 seg
  have hmem : ∀ x ∈ (splitL 45 seg).1, x ≠ 44 ∧ x ≠ 45 := fun x hx => ⟨h x (by rw [splitL_join 45 seg]; simp [hx]), hnot x hx⟩
  have partE : ∀ (q : Rdg), q.figs = 0 → part q = none := fun q e => by unfold part; rw [if_pos e]
  cases hs : (splitL 45 seg).2 with
  | none =>
    have e := splitL_none hs
    rw [e] at hmem
    unfold partL
    rw [hs]
    simp only [e]
    rcases run_num hf hn hmem with ⟨v, h1, h2, h3, h4⟩ | ⟨h1, h2 | h2⟩
    · refine .inr ⟨v, v, _, by rw [h1]; rfl, h2, h2, by rw [h3]; show part _ = _; unfold part; rw [if_neg h4], ⟨rfl, rfl, rfl⟩, ?_, ?_⟩
      · simp only [partSet, hd]
        unfold beyond
        rw [Bool.eq_iff_iff]
        cases r.over <;> simp
        omega
      · intro ho
        simp only [partSet, hd] at ho ⊢
        rw [ho]
        simp
    · exact .inl ⟨by rw [h1]; rfl, by rw [h2]; exact partE r hf⟩
    · exact .inl ⟨by rw [h1]; rfl, by rw [h2]; rfl⟩
  | some b =>
    have e := splitL_some hs
    generalize (splitL 45 seg).1 = a at *
    have hp : partL seg = (numberL a).bind fun n => (numberL b).map fun m => (n, m) := by
      unfold partL
      have e2 : splitL 45 seg = (a, some b) := by rw [e]; exact splitL_of hnot
      rw [e2]
    rw [hp, e, runL_append]
    rcases run_num hf hn hmem with ⟨v, h1, h2, h3, h4⟩ | ⟨h1, h2 | h2⟩
    · rw [h1, h3]
      have e3 : runL { r with n := v, figs := a.length } (45 :: b) = runL { r with n := 0, figs := 0, fr := v, dashed := true, over := r.over || decide (64 ≤ v) } b := by
        rw [runL]
        unfold take1
        rw [if_neg (by omega), if_neg (by omega), if_pos ⟨rfl, hd, h4⟩]
        rfl
      show ((numberL b).map fun m => (v, m)) = none ∧ (runL _ (45 :: b)).bind part = none ∨ ∃ n m q, ((numberL b).map fun m => (v, m)) = some (n, m) ∧ _ ∧ _ ∧ (runL _ (45 :: b)).bind part = some q ∧ _
      rw [e3]
      have h44 : ∀ x ∈ b, x ≠ 44 := fun x hx => h x (by rw [e]; simp [hx])
      by_cases h45 : ∀ x ∈ b, x ≠ 45
      · have hm2 : ∀ x ∈ b, x ≠ 44 ∧ x ≠ 45 := fun x hx => ⟨h44 x hx, h45 x hx⟩
        rcases run_num (r := { r with n := 0, figs := 0, fr := v, dashed := true, over := r.over || decide (64 ≤ v) }) rfl rfl hm2 with ⟨k, g1, g2, g3, g4⟩ | ⟨g1, g2 | g2⟩
        · refine .inr ⟨v, k, _, by rw [g1]; rfl, h2, g2, by rw [g3]; show part _ = _; unfold part; rw [if_neg g4], ⟨rfl, rfl, rfl⟩, ?_, ?_⟩
          · simp only [partSet]
            unfold beyond
            rw [Bool.eq_iff_iff]
            cases r.over <;> simp
            omega
          · intro ho
            simp only [partSet] at ho ⊢
            rw [ho]
            simp
        · exact .inl ⟨by rw [g1]; rfl, by rw [g2]; exact partE _ rfl⟩
        · exact .inl ⟨by rw [g1]; rfl, by rw [g2]; rfl⟩
      · refine .inl ⟨?_, ?_⟩
        · cases hb : numberL b with
          | none => rfl
          | some k =>
            exact absurd (fun x hx => by have := numberL_in hb x hx; omega) h45
        · have hs2 : (splitL 45 b).2 ≠ none := fun hs2 => h45 fun x hx => by
            have := splitL_not 45 b; rw [splitL_none hs2] at this; exact this x hx
          obtain ⟨b2, hb2⟩ := Option.ne_none_iff_exists'.1 hs2
          have e4 := splitL_some hb2
          have hm3 : ∀ x ∈ (splitL 45 b).1, x ≠ 44 ∧ x ≠ 45 := fun x hx => ⟨h44 x (by rw [splitL_join 45 b]; simp [hx]), splitL_not 45 b x hx⟩
          generalize (splitL 45 b).1 = b1 at e4 hm3
          rw [e4, runL_append]
          have stop : ∀ (q : Rdg), q.dashed = true → runL q (45 :: b2) = none := fun q hq => by
            rw [runL]
            unfold take1
            rw [if_neg (by omega), if_neg (by omega), if_neg (by rw [hq]; simp)]
            rfl
          rcases run_num (r := { r with n := 0, figs := 0, fr := v, dashed := true, over := r.over || decide (64 ≤ v) }) rfl rfl hm3 with ⟨k, g1, g2, g3, g4⟩ | ⟨g1, g2 | g2⟩
          · rw [g3, Option.bind_some, stop _ rfl]; rfl
          · rw [g2, runL, Option.bind_some, stop _ rfl]; rfl
          · rw [g2]; rfl
    · refine .inl ⟨by rw [h1]; rfl, ?_⟩
      rw [h2]
      show (runL r (45 :: b)).bind part = none
      rw [runL]
      unfold take1
      rw [if_neg (by omega), if_neg (by omega), if_neg (by simp [hf])]
      rfl
    · exact .inl ⟨by rw [h1]; rfl, by rw [h2]; rfl⟩
/-- What a text gives behind parts that gave 'all'. -/
def parseFrom (all : Nat) (over : Bool) (l : List Nat) : Nat × Nat := fin ((runL ⟨all, 0, 0, 0, false, over⟩ l).bind part)
theorem fin_sim {a b : Option Rdg} (h : SimO false 0 a b) : fin a = fin b := by
  rcases h with ⟨rfl, rfl⟩ | ⟨q, q0, rfl, rfl, h1, h2, h3, h4, h5, h6⟩
  · rfl
  · rw [Bool.false_or] at h5
    cases ho : q0.over
    · rw [fin_ok ho, fin_ok (h5.trans ho), h6 (h5.trans ho), Nat.zero_or]
    · rw [fin_over ho, fin_over (h5.trans ho)]
theorem parse_rest {q : Rdg} (hc : Clean q) {S : Nat} (hS : q.over = false → q.set = S) (l : List Nat) : fin ((runL q l).bind part) = parseFrom S q.over l := by
  obtain ⟨h1, h2, h3⟩ := hc
  exact fin_sim (sim_end ⟨h2, h1, h3, (fun h => by cases h), (by simp), fun ho => by rw [Nat.zero_or]; exact hS ho⟩ l)
theorem parse_more (all : Nat) (over : Bool) {l b : List Nat} (h : (splitL 44 l).2 = some b) :
    (partL (splitL 44 l).1 = none ∧ parseFrom all over l = (0, 11)) ∨ ∃ n m, partL (splitL 44 l).1 = some (n, m) ∧ n < 100 ∧ m < 100 ∧ parseFrom all over l = parseFrom (all ||| span n m) (over || beyond n m) b := by
  have e := splitL_some h
  have hn := splitL_not 44 l
  generalize (splitL 44 l).1 = a at e hn
  subst e
  have t44 : ∀ q : Rdg, take1 q 44 = part q := fun q => by unfold take1; rw [if_neg (by omega), if_pos rfl]
  have e2 : ∀ r : Rdg, runL r (a ++ 44 :: b) = ((runL r a).bind part).bind fun q => runL q b := fun r => by
    rw [runL_append, Option.bind_assoc]
    congr 1
  unfold parseFrom
  rw [e2]
  rcases run_part (r := ⟨all, 0, 0, 0, false, over⟩) ⟨rfl, rfl, rfl⟩ hn with ⟨h1, h2⟩ | ⟨n, m, q, h1, h2, h3, h4, h5, h6, h7⟩
  · exact .inl ⟨h1, by rw [h2]; rfl⟩
  · refine .inr ⟨n, m, h1, h2, h3, ?_⟩
    rw [h4]
    show fin ((runL q b).bind part) = _
    rw [parse_rest h5 h7, h6]
    rfl
theorem parse_last (all : Nat) (over : Bool) {l : List Nat} (h : (splitL 44 l).2 = none) :
    (partL (splitL 44 l).1 = none ∧ parseFrom all over l = (0, 11)) ∨ ∃ n m, partL (splitL 44 l).1 = some (n, m) ∧ n < 100 ∧ m < 100 ∧ parseFrom all over l = if (over || beyond n m) = true then (0, 1) else (all ||| span n m, 0) := by
  have e := splitL_none h
  have hn := splitL_not 44 l
  rw [e] at hn ⊢
  unfold parseFrom
  rcases run_part (r := ⟨all, 0, 0, 0, false, over⟩) ⟨rfl, rfl, rfl⟩ hn with ⟨h1, h2⟩ | ⟨n, m, q, h1, h2, h3, h4, h5, h6, h7⟩
  · exact .inl ⟨h1, by rw [h2]; rfl⟩
  · refine .inr ⟨n, m, h1, h2, h3, ?_⟩
    rw [h4]
    have h6' : q.over = (over || beyond n m) := h6
    rw [← h6']
    cases ho : q.over
    · rw [fin_ok ho, if_neg (by decide), h7 ho]
    · rw [fin_over ho, if_pos rfl]
theorem parseL_from {l : List Nat} (h : l ≠ []) : parseL l = parseFrom 0 false l := by unfold parseL; rw [if_neg h]; rfl
/-! ### What a reading is -/
theorem parseL_cases (l : List Nat) : parseL l = (0, 11) ∨ parseL l = (0, 1) ∨ ∃ m, parseL l = (m, 0) := by
  unfold parseL
  by_cases h : l = []
  · rw [if_pos h]; exact .inr (.inr ⟨_, rfl⟩)
  · rw [if_neg h]
    cases (runL rd0 l).bind part with
    | none => exact .inl rfl
    | some q =>
      by_cases ho : q.over = true
      · exact .inr (.inl (by simp [fin, ho]))
      · exact .inr (.inr ⟨q.set, by simp [fin, ho]⟩)
theorem part_clean {r q : Rdg} (h : part r = some q) : Clean q := by
  unfold part at h
  by_cases h0 : r.figs = 0
  · rw [if_pos h0] at h; cases h
  · rw [if_neg h0] at h
    injection h with h
    subst h
    exact ⟨rfl, rfl, rfl⟩
/-- Two texts with a comma between. -/
theorem parse_join (a b : List Nat) : if (parseL a).2 = 0 ∧ (parseL b).2 = 0 ∧ a ≠ [] ∧ b ≠ [] then parseL (a ++ 44 :: b) = ((parseL a).1 ||| (parseL b).1, 0) else (parseL (a ++ 44 :: b)).2 ≠ 0 := by
  have t44 : ∀ q : Rdg, take1 q 44 = part q := fun q => by unfold take1; rw [if_neg (by omega), if_pos rfl]
  have e2 : runL rd0 (a ++ 44 :: b) = ((runL rd0 a).bind part).bind fun q => runL q b := by
    rw [runL_append, Option.bind_assoc]
    congr 1
  have e3 : parseL (a ++ 44 :: b) = fin ((((runL rd0 a).bind part).bind fun q => runL q b).bind part) := by
    unfold parseL; rw [if_neg (by simp), e2]
  have ea : a ≠ [] → parseL a = fin ((runL rd0 a).bind part) := fun h => by unfold parseL; rw [if_neg h]
  have eb : b ≠ [] → parseL b = fin ((runL rd0 b).bind part) := fun h => by unfold parseL; rw [if_neg h]
  have none' : ∀ o, o = none → (fin o).2 ≠ 0 := fun o h => by subst h; decide
  rw [e3]
  by_cases ha : a = []
  · subst ha
    rw [if_neg (by simp)]
    exact none' _ rfl
  · rw [ea ha]
    cases hA : (runL rd0 a).bind part with
    | none => rw [if_neg (by simp [fin])]; exact none' _ rfl
    | some q =>
      show if _ then fin ((runL q b).bind part) = _ else (fin ((runL q b).bind part)).2 ≠ 0
      have hq : Clean q := by
        cases hr : runL rd0 a with
        | none => rw [hr] at hA; cases hA
        | some r => rw [hr] at hA; exact part_clean hA
      have sim : Sim q.over q.set q rd0 := ⟨hq.2.1, hq.1, hq.2.2, (fun h => by cases h), by simp [rd0], fun _ => by simp [rd0]⟩
      by_cases hb : b = []
      · subst hb
        rw [if_neg (by simp)]
        exact none' _ (by show part q = none; unfold part; rw [if_pos hq.1])
      · rw [eb hb]
        rcases sim_end sim b with ⟨e4, e5⟩ | ⟨p, p0, e4, e5, h1, h2, h3, h4, h5, h6⟩
        · rw [e4, e5, if_neg (by simp [fin])]; exact none' _ rfl
        · rw [e4, e5]
          cases hqo : q.over
          · cases hpo : p0.over
            · have hov : p.over = false := by rw [h5, hqo, hpo]; rfl
              rw [fin_ok hqo, fin_ok hpo, fin_ok hov, if_pos ⟨rfl, rfl, ha, hb⟩, h6 hov]
            · have hov : p.over = true := by rw [h5, hpo, hqo]; rfl
              rw [fin_over hpo, fin_over hov, if_neg (by simp)]
              decide
          · have hov : p.over = true := by rw [h5, hqo]; rfl
            rw [fin_over hqo, fin_over hov, if_neg (by simp)]
            decide
end Go.Proofs.YtdbhdjjepgdomaaDoor
