/- Plain words on events: a field, a line, a script, their texts, and what is read of them. No condition. -/
import Derived.Test.YtcboopkalpmglaaDoorEvRead
import Derived.Test.YtcboopkalpmglaaDoorEvForm
import Derived.Test.YtcboopkalpmglaaDoorEvCutL
namespace Go.Proofs.YtcboopkalpmglaaDoor
set_option linter.unusedVariables false
/-- An event. -/
structure Ev where
  k : Int
  a : Int
  b : Int
  n : Int
  m : Int
  s : Nat
def ev0 : Ev := ⟨0, 0, 0, 0, 0, 0⟩
/-- An event whose numbers are the machine's. -/
structure Ev.Ok (e : Ev) : Prop where
  k : -9223372036854775808 ≤ e.k ∧ e.k ≤ 9223372036854775807
  a : -9223372036854775808 ≤ e.a ∧ e.a ≤ 9223372036854775807
  b : -9223372036854775808 ≤ e.b ∧ e.b ≤ 9223372036854775807
  n : -9223372036854775808 ≤ e.n ∧ e.n ≤ 9223372036854775807
  m : -9223372036854775808 ≤ e.m ∧ e.m ≤ 9223372036854775807
  s : e.s < 18446744073709551616
def noneL : List Nat := [110, 111, 110, 101]
/-- A field's error: none, the argument's, the form's. -/
def ferr (c : Nat) (t : List Nat) : Nat :=
  if c = 115 then (if t = noneL then 0 else setErr t) else
  match numOf t with
  | some x => if (c = 97 ∨ c = 98) ∧ x < 0 then 11 else 0
  | none => 11
def putN (e : Ev) (c : Nat) (x : Int) : Ev :=
  if c = 97 then { e with a := x } else if c = 98 then { e with b := x } else if c = 110 then { e with n := x } else { e with m := x }
def putT (e : Ev) (c : Nat) (t : List Nat) : Ev :=
  if c = 115 then (if t = noneL then e else { e with s := (parseL t).1 }) else putN e c ((numOf t).getD 0)
/-- The worst of two errors. -/
def worse (bad f : Nat) : Nat := if f = 11 then 11 else if f = 0 then bad else if bad = 0 then 1 else bad
theorem ferr_none {c : Nat} {t : List Nat} (hc : c ≠ 115) (h : numOf t = none) : ferr c t = 11 := by
  unfold ferr; rw [if_neg hc, h]
theorem ferr_some {c : Nat} {t : List Nat} {x : Int} (hc : c ≠ 115) (h : numOf t = some x) (hx : (c = 97 ∨ c = 98) → 0 ≤ x) : ferr c t = 0 := by
  unfold ferr; rw [if_neg hc, h]
  show (if (c = 97 ∨ c = 98) ∧ x < 0 then 11 else 0) = 0
  rw [if_neg]
  rintro ⟨h1, h2⟩
  have := hx h1
  omega
theorem ferr_low {c : Nat} {t : List Nat} {x : Int} (hc : c = 97 ∨ c = 98) (h : numOf t = some x) (hx : x < 0) : ferr c t = 11 := by
  unfold ferr; rw [if_neg (by omega), h]
  show (if (c = 97 ∨ c = 98) ∧ x < 0 then 11 else 0) = 11
  rw [if_pos ⟨hc, hx⟩]
theorem parse_err (t : List Nat) : (parseL t).2 = 0 ∨ (parseL t).2 = 1 ∨ (parseL t).2 = 11 := by
  rcases parseL_cases t with h | h | ⟨m, h⟩ <;> rw [h] <;> simp
theorem setErr_cases (t : List Nat) : setErr t = 0 ∨ setErr t = 1 ∨ setErr t = 11 := by
  unfold setErr; split
  · simp
  · exact parse_err t
theorem ferr_cases (c : Nat) (t : List Nat) : ferr c t = 0 ∨ ferr c t = 1 ∨ ferr c t = 11 := by
  unfold ferr; split
  · split
    · simp
    · exact setErr_cases t
  · split
    · split <;> simp
    · simp
theorem worse_cases {bad : Nat} (h : bad = 0 ∨ bad = 1 ∨ bad = 11) {f : Nat} (hf : f = 0 ∨ f = 1 ∨ f = 11) : worse bad f = 0 ∨ worse bad f = 1 ∨ worse bad f = 11 := by
  unfold worse
  rcases h with rfl | rfl | rfl <;> rcases hf with rfl | rfl | rfl <;> decide
theorem worse_zero {bad f : Nat} (h : worse bad f = 0) : bad = 0 ∧ f = 0 := by
  unfold worse at h
  split at h
  · omega
  · split at h
    · omega
    · split at h <;> omega
/-! ### A line -/
/-- The kinds' words. -/
def wordsL : List (List Nat) := [[103, 114, 111, 117, 112], [100, 114, 111, 112], [109, 111, 118, 101], [115, 104, 97, 114, 101, 115], [113, 117, 111, 116, 97], [115, 112, 97, 119, 110], [119, 97, 107, 101], [98, 108, 111, 99, 107], [121, 105, 101, 108, 100], [101, 120, 105, 116], [116, 105, 99, 107], [114, 101, 102, 105, 108, 108], [112, 117, 108, 108], [110, 105, 99, 101], [109, 97, 115, 107]]
def kindIn : List (List Nat) → Nat → List Nat → Nat
  | [], _, _ => 0
  | x :: r, i, w => if x = w then i else kindIn r (i + 1) w
/-- A word's kind, from 1 on; 0: none. -/
def kindL (w : List Nat) : Nat := kindIn wordsL 1 w
def wordL (k : Int) : List Nat := wordsL.getD (k.toNat - 1) []
def readF : List Nat → List (List Nat) → Ev × Nat → Ev × Nat
  | c :: cs, t :: ts, (e, bad) => readF cs ts (putT e c t, worse bad (ferr c t))
  | _, _, x => x
def lineK (k : Nat) (p : List (List Nat)) : Ev × Nat :=
  if k = 0 ∨ p.length ≠ (formL k).length + 1 then (ev0, 11) else readF (formL k) p.tail (⟨k, 0, 0, 0, 0, 0⟩, 0)
/-- What a line is read as: an event, or an error. -/
def lineL (l : List Nat) : Ev × Nat := lineK (kindL ((cutL 32 l).headD [])) (cutL 32 l)
/-! ### A script -/
/-- A script's lines, and whether the last one has its end. -/
def linesL (s : List Nat) : List (List Nat) := if s.getLast? = some 10 then cutL 10 s.dropLast else cutL 10 s
def readLines (ended : Bool) : List (List Nat) → Nat → List Ev → List Ev × Nat × Nat
  | [], _, l => (l, 0, 0)
  | t :: r, i, l =>
    if r = [] ∧ ended = false then ([], i, 11)
    else if (lineL t).2 ≠ 0 then ([], i, (lineL t).2)
    else readLines ended r (i + 1) (l ++ [(lineL t).1])
def scriptL (s : List Nat) : List Ev × Nat × Nat :=
  if s = [] then ([], 0, 0)
  else if 1000 < (linesL s).length then ([], 0, 3)
  else readLines (decide (s.getLast? = some 10)) (linesL s) 0 []
/-! ### The texts -/
def fldI (e : Ev) (c : Nat) : Int := if c = 97 then e.a else if c = 98 then e.b else if c = 110 then e.n else e.m
def fldT (e : Ev) (c : Nat) : List Nat := if c = 115 then maskT e.s else dec (fldI e c)
def lineT (e : Ev) : List Nat := wordL e.k ++ (formL e.k).flatMap fun c => 32 :: fldT e c
def evText (l : List Ev) : List Nat := l.flatMap fun e => lineT e ++ [10]
/-- May an event be? -/
def mayB (e : Ev) : Bool :=
  (decide (1 ≤ e.k) && decide (e.k ≤ 15) && decide (0 ≤ e.a) && decide (0 ≤ e.b)) &&
  ((decide (98 ∈ formL e.k) || decide (e.b = 0)) && (decide (110 ∈ formL e.k) || decide (e.n = 0)) && (decide (109 ∈ formL e.k) || decide (e.m = 0)) && (decide (115 ∈ formL e.k) || decide (e.s = 0)))
def textRes (l : List Ev) : List Nat × Nat :=
  if l.all mayB = false then ([], 1) else if 1000 < l.length then ([], 3) else (evText l, 0)
end Go.Proofs.YtcboopkalpmglaaDoor
